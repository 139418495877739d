/- Functions of the program, as Lean functions, with their contracts; printed by gen.py. Conditions: none. -/
import Derived.Test.YtdgdeckaoajceaaE38
import Derived.Test.YtdgdeckaoajceaaProg
set_option linter.unusedVariables false
namespace Go.Proofs.YtdgdeckaoajceaaE
open Kd
set_option maxRecDepth 20000
/-! f61 hyphen/table.inOrder -/
def F61_0 (k : Nat) : Nat → Int → (List Int) → Int → Int → Option ((Unit × Unit) ⊕ ((Bool × Unit) × Unit))
  | 0, _, _, _, _ => none
  | n + 1, t3, t6, t7, t8 =>
    bif (decide (t8 < t7)) then
      if 0 ≤ t8 ∧ t8 < ((List.length t6 : Nat) : Int) then
        let x4 := (decide ((List.getD t6 (Int.toNat t8) (0 : Int)) < (0 : Int)))
        bif x4 then
          some (.inr ((false, ()), ()))
        else
          let x5 := (decide ((List.getD t6 (Int.toNat t8) (0 : Int)) > t3))
          bif x5 then
            some (.inr ((false, ()), ()))
          else
            let x6 := (IntKind.wrap .i64 ((List.getD t6 (Int.toNat t8) (0 : Int)) + (1 : Int)))
            (F61_0 k n (maxI t3 x6) t6 t7 (IntKind.wrap .i64 (t8 + (1 : Int)))).bind some
      else none
    else
      some (.inl ((), ()))
def fr61_0 (k : Nat) : Frag := ⟨⟨[], [(3, .val (.int .i64)), (6, .val (.sl false 3 (.int .i64) none)), (7, .val (.int .i64)), (8, .val (.int .i64))], []⟩, [(.exit 0, ⟨[], [], []⟩), (.ret, ⟨[], [(2, .val .bool)], []⟩)], fun v => F61_0 k k v.1.1 v.1.2.1 v.1.2.2.1 v.1.2.2.2.1⟩
def F61 (k : Nat) (a0 : (List Int)) : Option ((Bool × Unit) × Unit) :=
  (F61_0 k k (0 : Int) a0 ((List.length a0 : Nat) : Int) (0 : Int)).bind fun r7 =>
  match r7 with
  | .inl r8 =>
    some ((true, ()), ())
  | .inr r8 =>
    let y9 := r8.1.1
    some ((y9, ()), ())
def sp61 (k : Nat) : Spec := ⟨[.val (.sl false 3 (.int .i64) none)], [.val .bool], fun x => F61 k x.1⟩
def lim61 : Lim := ⟨24, 1, false, false⟩
def cfg61 (k : Nat) : Nat → Option Spec := cfgL []
theorem cfg61_ok (k : Nat) : CfgOK Try.prog (cfg61 k) := cfgL_nil
def pl61_0 (k : Nat) : Plan := .go
theorem pq61_0 (k : Nat) : PlanOK Try.prog lim61 (pl61_0 k) (codeAt (bodyOf Try.f61) [.r, .r, .l, .r, .s, .b]) = PlanOK Try.prog lim61 .go (codeAt (bodyOf Try.f61) [.r, .r, .l, .r, .s, .b]) := by kernel_rfl
theorem ps61_0 (k m : Nat) (v : (fr61_0 k).sh.V) : F61_0 k (m + 1) v.1.1 v.1.2.1 v.1.2.2.1 v.1.2.2.2.1 = (body Try.prog (stepper Try.prog (cfg61 k) lim61) (pl61_0 k) (codeAt (bodyOf Try.f61) [.r, .r, .l, .r, .s, .b]) ((fr61_0 k).sh.st v) (loopK (fr61_0 k) fun v => F61_0 k m v.1.1 v.1.2.1 v.1.2.2.1 v.1.2.2.2.1)).eval := by kernel_rfl
theorem pe61_0 (k m : Nat) (v : (fr61_0 k).sh.V) : (body Try.prog (stepper Try.prog (cfg61 k) lim61) (pl61_0 k) (codeAt (bodyOf Try.f61) [.r, .r, .l, .r, .s, .b]) ((fr61_0 k).sh.st v) (loopK (fr61_0 k) fun v => F61_0 k m v.1.1 v.1.2.1 v.1.2.2.1 v.1.2.2.2.1)).left = (body Try.prog (stepper Try.prog (cfg61 k) lim61) (pl61_0 k) (codeAt (bodyOf Try.f61) [.r, .r, .l, .r, .s, .b]) ((fr61_0 k).sh.st v) (loopK (fr61_0 k) fun v => F61_0 k m v.1.1 v.1.2.1 v.1.2.2.1 v.1.2.2.2.1)).right := by kernel_rfl
theorem fr61_0_ok (k : Nat) : FragOK Try.prog lim61 (fr61_0 k) (codeAt (bodyOf Try.f61) [.r, .r, .l, .r, .s]) :=
  frag_cast (by kernel_rfl) (loop_ok (cfg61_ok k) (Eq.mpr (pq61_0 k) (planOK_go _)) (fun m v => F61_0 k m v.1.1 v.1.2.1 v.1.2.2.1 v.1.2.2.2.1) k (fun _ => rfl) (fun _ => rfl) fun m v => ⟨ps61_0 k m v, pe61_0 k m v⟩)
def pl61 (k : Nat) : Plan := (.seq .go (.seq .go (.seq (.seq .go (.sub (.frag (fr61_0 k)))) .go)))
theorem pq61 (k : Nat) : PlanOK Try.prog lim61 (pl61 k) (codeAt (bodyOf Try.f61) []) = (PlanOK Try.prog lim61 .go (codeAt (bodyOf Try.f61) [.l]) ∧ (PlanOK Try.prog lim61 .go (codeAt (bodyOf Try.f61) [.r, .l]) ∧ ((PlanOK Try.prog lim61 .go (codeAt (bodyOf Try.f61) [.r, .r, .l, .l]) ∧ FragOK Try.prog lim61 (fr61_0 k) (codeAt (bodyOf Try.f61) [.r, .r, .l, .r, .s])) ∧ PlanOK Try.prog lim61 .go (codeAt (bodyOf Try.f61) [.r, .r, .r])))) := by kernel_rfl
theorem ev61 (k : Nat) (x : AT (sp61 k).ps) : (sp61 k).impl x = (fnT Try.prog (cfg61 k) lim61 Try.f61 (bodyOf Try.f61) (pl61 k) (sp61 k) x).eval := by kernel_rfl
theorem eq61 (k : Nat) (x : AT (sp61 k).ps) : (fnT Try.prog (cfg61 k) lim61 Try.f61 (bodyOf Try.f61) (pl61 k) (sp61 k) x).left = (fnT Try.prog (cfg61 k) lim61 Try.f61 (bodyOf Try.f61) (pl61 k) (sp61 k) x).right := by kernel_rfl
theorem v61 (k : Nat) : Callable Try.prog 61 ∧ Valid Try.prog 61 (sp61 k) :=
  fn_ok (cfg61_ok k) (f := 61) (fn := Try.f61) (by kernel_rfl) (c := bodyOf Try.f61) (by kernel_rfl) (by kernel_rfl) rfl rfl (Nat.le_of_ble_eq_true rfl) (Nat.le_of_ble_eq_true rfl) (p := pl61 k) (Eq.mpr (pq61 k) ⟨(planOK_go _), ⟨(planOK_go _), ⟨⟨(planOK_go _), (fr61_0_ok k)⟩, (planOK_go _)⟩⟩⟩) fun x => ⟨ev61 k x, eq61 k x⟩
/-! f62 hyphen/part.Count -/
def F62_0 (k : Nat) : Nat → Int → (List Int) → Int → Int → Option (((Int × Unit) × Unit))
  | 0, _, _, _, _ => none
  | n + 1, t3, t6, t7, t8 =>
    bif (decide (t8 < t7)) then
      if 0 ≤ t8 ∧ t8 < ((List.length t6 : Nat) : Int) then
        let x2 := (maxI t3 (List.getD t6 (Int.toNat t8) (0 : Int)))
        (F62_0 k n x2 t6 t7 (IntKind.wrap .i64 (t8 + (1 : Int)))).bind some
      else none
    else
      some ((t3, ()), ())
def fr62_0 (k : Nat) : Frag := ⟨⟨[], [(3, .val (.int .i64)), (6, .val (.sl false 3 (.int .i64) none)), (7, .val (.int .i64)), (8, .val (.int .i64))], []⟩, [(.exit 0, ⟨[], [(3, .val (.int .i64))], []⟩)], fun v => F62_0 k k v.1.1 v.1.2.1 v.1.2.2.1 v.1.2.2.2.1⟩
def F62 (k : Nat) (a0 : (List Int)) : Option ((Int × Unit) × Unit) :=
  (F62_0 k k (-1 : Int) a0 ((List.length a0 : Nat) : Int) (0 : Int)).bind fun r3 =>
  let y4 := r3.1.1
  some (((IntKind.wrap .i64 (y4 + (1 : Int))), ()), ())
def sp62 (k : Nat) : Spec := ⟨[.val (.sl false 3 (.int .i64) none)], [.val (.int .i64)], fun x => F62 k x.1⟩
def lim62 : Lim := ⟨18, 1, false, false⟩
def cfg62 (k : Nat) : Nat → Option Spec := cfgL []
theorem cfg62_ok (k : Nat) : CfgOK Try.prog (cfg62 k) := cfgL_nil
def pl62_0 (k : Nat) : Plan := .go
theorem pq62_0 (k : Nat) : PlanOK Try.prog lim62 (pl62_0 k) (codeAt (bodyOf Try.f62) [.r, .r, .l, .r, .s, .b]) = PlanOK Try.prog lim62 .go (codeAt (bodyOf Try.f62) [.r, .r, .l, .r, .s, .b]) := by kernel_rfl
theorem ps62_0 (k m : Nat) (v : (fr62_0 k).sh.V) : F62_0 k (m + 1) v.1.1 v.1.2.1 v.1.2.2.1 v.1.2.2.2.1 = (body Try.prog (stepper Try.prog (cfg62 k) lim62) (pl62_0 k) (codeAt (bodyOf Try.f62) [.r, .r, .l, .r, .s, .b]) ((fr62_0 k).sh.st v) (loopK (fr62_0 k) fun v => F62_0 k m v.1.1 v.1.2.1 v.1.2.2.1 v.1.2.2.2.1)).eval := by kernel_rfl
theorem pe62_0 (k m : Nat) (v : (fr62_0 k).sh.V) : (body Try.prog (stepper Try.prog (cfg62 k) lim62) (pl62_0 k) (codeAt (bodyOf Try.f62) [.r, .r, .l, .r, .s, .b]) ((fr62_0 k).sh.st v) (loopK (fr62_0 k) fun v => F62_0 k m v.1.1 v.1.2.1 v.1.2.2.1 v.1.2.2.2.1)).left = (body Try.prog (stepper Try.prog (cfg62 k) lim62) (pl62_0 k) (codeAt (bodyOf Try.f62) [.r, .r, .l, .r, .s, .b]) ((fr62_0 k).sh.st v) (loopK (fr62_0 k) fun v => F62_0 k m v.1.1 v.1.2.1 v.1.2.2.1 v.1.2.2.2.1)).right := by kernel_rfl
theorem fr62_0_ok (k : Nat) : FragOK Try.prog lim62 (fr62_0 k) (codeAt (bodyOf Try.f62) [.r, .r, .l, .r, .s]) :=
  frag_cast (by kernel_rfl) (loop_ok (cfg62_ok k) (Eq.mpr (pq62_0 k) (planOK_go _)) (fun m v => F62_0 k m v.1.1 v.1.2.1 v.1.2.2.1 v.1.2.2.2.1) k (fun _ => rfl) (fun _ => rfl) fun m v => ⟨ps62_0 k m v, pe62_0 k m v⟩)
def pl62 (k : Nat) : Plan := (.seq .go (.seq .go (.seq (.seq .go (.sub (.frag (fr62_0 k)))) .go)))
theorem pq62 (k : Nat) : PlanOK Try.prog lim62 (pl62 k) (codeAt (bodyOf Try.f62) []) = (PlanOK Try.prog lim62 .go (codeAt (bodyOf Try.f62) [.l]) ∧ (PlanOK Try.prog lim62 .go (codeAt (bodyOf Try.f62) [.r, .l]) ∧ ((PlanOK Try.prog lim62 .go (codeAt (bodyOf Try.f62) [.r, .r, .l, .l]) ∧ FragOK Try.prog lim62 (fr62_0 k) (codeAt (bodyOf Try.f62) [.r, .r, .l, .r, .s])) ∧ PlanOK Try.prog lim62 .go (codeAt (bodyOf Try.f62) [.r, .r, .r])))) := by kernel_rfl
theorem ev62 (k : Nat) (x : AT (sp62 k).ps) : (sp62 k).impl x = (fnT Try.prog (cfg62 k) lim62 Try.f62 (bodyOf Try.f62) (pl62 k) (sp62 k) x).eval := by kernel_rfl
theorem eq62 (k : Nat) (x : AT (sp62 k).ps) : (fnT Try.prog (cfg62 k) lim62 Try.f62 (bodyOf Try.f62) (pl62 k) (sp62 k) x).left = (fnT Try.prog (cfg62 k) lim62 Try.f62 (bodyOf Try.f62) (pl62 k) (sp62 k) x).right := by kernel_rfl
theorem v62 (k : Nat) : Callable Try.prog 62 ∧ Valid Try.prog 62 (sp62 k) :=
  fn_ok (cfg62_ok k) (f := 62) (fn := Try.f62) (by kernel_rfl) (c := bodyOf Try.f62) (by kernel_rfl) (by kernel_rfl) rfl rfl (Nat.le_of_ble_eq_true rfl) (Nat.le_of_ble_eq_true rfl) (p := pl62 k) (Eq.mpr (pq62 k) ⟨(planOK_go _), ⟨(planOK_go _), ⟨⟨(planOK_go _), (fr62_0_ok k)⟩, (planOK_go _)⟩⟩⟩) fun x => ⟨ev62 k x, eq62 k x⟩
/-! f75 hyphen/table.leads$1 -/
def F75 (k : Nat) (a0 : Int) (a1 : (List (List Int))) : Option ((Bool × Unit) × ((List (List Int)) × Unit)) :=
  bif (decide (a0 < (0 : Int))) then
    some ((true, ()), (a1, ()))
  else
    let x1 := (decide (a0 ≥ ((List.length a1 : Nat) : Int)))
    some ((x1, ()), (a1, ()))
def sp75 (k : Nat) : Spec := ⟨[.val (.int .i64), .ptr 25 (.sl false 22 (.sl false 3 (.int .i64) none) none) []], [.val .bool], fun x => F75 k x.1 x.2.1⟩
def lim75 : Lim := ⟨12, 2, false, false⟩
def cfg75 (k : Nat) : Nat → Option Spec := cfgL []
theorem cfg75_ok (k : Nat) : CfgOK Try.prog (cfg75 k) := cfgL_nil
def pl75 (k : Nat) : Plan := .go
theorem pq75 (k : Nat) : PlanOK Try.prog lim75 (pl75 k) (codeAt (bodyOf Try.f75) []) = PlanOK Try.prog lim75 .go (codeAt (bodyOf Try.f75) []) := by kernel_rfl
theorem ev75 (k : Nat) (x : AT (sp75 k).ps) : (sp75 k).impl x = (fnT Try.prog (cfg75 k) lim75 Try.f75 (bodyOf Try.f75) (pl75 k) (sp75 k) x).eval := by kernel_rfl
theorem eq75 (k : Nat) (x : AT (sp75 k).ps) : (fnT Try.prog (cfg75 k) lim75 Try.f75 (bodyOf Try.f75) (pl75 k) (sp75 k) x).left = (fnT Try.prog (cfg75 k) lim75 Try.f75 (bodyOf Try.f75) (pl75 k) (sp75 k) x).right := by kernel_rfl
theorem v75 (k : Nat) : Callable Try.prog 75 ∧ Valid Try.prog 75 (sp75 k) :=
  fn_ok (cfg75_ok k) (f := 75) (fn := Try.f75) (by kernel_rfl) (c := bodyOf Try.f75) (by kernel_rfl) (by kernel_rfl) rfl rfl (Nat.le_of_ble_eq_true rfl) (Nat.le_of_ble_eq_true rfl) (p := pl75 k) (Eq.mpr (pq75 k) (planOK_go _)) fun x => ⟨ev75 k x, eq75 k x⟩
/-! f82 slices.IndexFunc[[]int,int] -/
def F82_0 (k : Nat) : Nat → (List Int) → Int → Int → (List (List Int)) → Option ((Unit × ((List (List Int)) × Unit)) ⊕ ((Int × Unit) × ((List (List Int)) × Unit)))
  | 0, _, _, _, _ => none
  | n + 1, t0, t7, t8, c2 =>
    bif (decide (t8 < t7)) then
      if 0 ≤ t8 ∧ t8 < ((List.length t0 : Nat) : Int) then
        (F75 k (List.getD t0 (Int.toNat t8) (0 : Int)) c2).bind fun r2 =>
        bif r2.1.1 then
          some (.inr ((t8, ()), (r2.2.1, ())))
        else
          (F82_0 k n t0 t7 (IntKind.wrap .i64 (t8 + (1 : Int))) r2.2.1).bind some
      else none
    else
      some (.inl ((), (c2, ())))
def fr82_0 (k : Nat) : Frag := ⟨⟨[], [(0, .val (.sl false 3 (.int .i64) none)), (1, .clo 75 [2]), (7, .val (.int .i64)), (8, .val (.int .i64))], [(2, some 25, (.sl false 22 (.sl false 3 (.int .i64) none) none))]⟩, [(.exit 0, ⟨[], [], [(2, some 25, (.sl false 22 (.sl false 3 (.int .i64) none) none))]⟩), (.ret, ⟨[], [(4, .val (.int .i64))], [(2, some 25, (.sl false 22 (.sl false 3 (.int .i64) none) none))]⟩)], fun v => F82_0 k k v.1.1 v.1.2.1 v.1.2.2.1 v.2.1⟩
def F82 (k : Nat) (a0 : (List Int)) (a2 : (List (List Int))) : Option ((Int × Unit) × ((List (List Int)) × Unit)) :=
  (F82_0 k k a0 ((List.length a0 : Nat) : Int) (0 : Int) a2).bind fun r3 =>
  match r3 with
  | .inl r4 =>
    let y5 := r4.2.1
    some (((-1 : Int), ()), (y5, ()))
  | .inr r4 =>
    let y6 := r4.1.1
    let y7 := r4.2.1
    some ((y6, ()), (y7, ()))
def sp82 (k : Nat) : Spec := ⟨[.val (.sl false 3 (.int .i64) none), .clo 75 [2], .cap 25 (.sl false 22 (.sl false 3 (.int .i64) none) none)], [.val (.int .i64)], fun x => F82 k x.1 x.2.1⟩
def lim82 : Lim := ⟨19, 3, false, false⟩
def cfg82 (k : Nat) : Nat → Option Spec := cfgL [(75, sp75 k)]
theorem cfg82_ok (k : Nat) : CfgOK Try.prog (cfg82 k) := cfgL_cons (v75 k) (cfgL_nil)
def pl82_0 (k : Nat) : Plan := .go
theorem pq82_0 (k : Nat) : PlanOK Try.prog lim82 (pl82_0 k) (codeAt (bodyOf Try.f82) [.r, .l, .r, .s, .b]) = PlanOK Try.prog lim82 .go (codeAt (bodyOf Try.f82) [.r, .l, .r, .s, .b]) := by kernel_rfl
theorem ps82_0 (k m : Nat) (v : (fr82_0 k).sh.V) : F82_0 k (m + 1) v.1.1 v.1.2.1 v.1.2.2.1 v.2.1 = (body Try.prog (stepper Try.prog (cfg82 k) lim82) (pl82_0 k) (codeAt (bodyOf Try.f82) [.r, .l, .r, .s, .b]) ((fr82_0 k).sh.st v) (loopK (fr82_0 k) fun v => F82_0 k m v.1.1 v.1.2.1 v.1.2.2.1 v.2.1)).eval := by kernel_rfl
theorem pe82_0 (k m : Nat) (v : (fr82_0 k).sh.V) : (body Try.prog (stepper Try.prog (cfg82 k) lim82) (pl82_0 k) (codeAt (bodyOf Try.f82) [.r, .l, .r, .s, .b]) ((fr82_0 k).sh.st v) (loopK (fr82_0 k) fun v => F82_0 k m v.1.1 v.1.2.1 v.1.2.2.1 v.2.1)).left = (body Try.prog (stepper Try.prog (cfg82 k) lim82) (pl82_0 k) (codeAt (bodyOf Try.f82) [.r, .l, .r, .s, .b]) ((fr82_0 k).sh.st v) (loopK (fr82_0 k) fun v => F82_0 k m v.1.1 v.1.2.1 v.1.2.2.1 v.2.1)).right := by kernel_rfl
theorem fr82_0_ok (k : Nat) : FragOK Try.prog lim82 (fr82_0 k) (codeAt (bodyOf Try.f82) [.r, .l, .r, .s]) :=
  frag_cast (by kernel_rfl) (loop_ok (cfg82_ok k) (Eq.mpr (pq82_0 k) (planOK_go _)) (fun m v => F82_0 k m v.1.1 v.1.2.1 v.1.2.2.1 v.2.1) k (fun _ => rfl) (fun _ => rfl) fun m v => ⟨ps82_0 k m v, pe82_0 k m v⟩)
def pl82 (k : Nat) : Plan := (.seq .go (.seq (.seq .go (.sub (.frag (fr82_0 k)))) .go))
theorem pq82 (k : Nat) : PlanOK Try.prog lim82 (pl82 k) (codeAt (bodyOf Try.f82) []) = (PlanOK Try.prog lim82 .go (codeAt (bodyOf Try.f82) [.l]) ∧ ((PlanOK Try.prog lim82 .go (codeAt (bodyOf Try.f82) [.r, .l, .l]) ∧ FragOK Try.prog lim82 (fr82_0 k) (codeAt (bodyOf Try.f82) [.r, .l, .r, .s])) ∧ PlanOK Try.prog lim82 .go (codeAt (bodyOf Try.f82) [.r, .r]))) := by kernel_rfl
theorem ev82 (k : Nat) (x : AT (sp82 k).ps) : (sp82 k).impl x = (fnT Try.prog (cfg82 k) lim82 Try.f82 (bodyOf Try.f82) (pl82 k) (sp82 k) x).eval := by kernel_rfl
theorem eq82 (k : Nat) (x : AT (sp82 k).ps) : (fnT Try.prog (cfg82 k) lim82 Try.f82 (bodyOf Try.f82) (pl82 k) (sp82 k) x).left = (fnT Try.prog (cfg82 k) lim82 Try.f82 (bodyOf Try.f82) (pl82 k) (sp82 k) x).right := by kernel_rfl
theorem v82 (k : Nat) : Callable Try.prog 82 ∧ Valid Try.prog 82 (sp82 k) :=
  fn_ok (cfg82_ok k) (f := 82) (fn := Try.f82) (by kernel_rfl) (c := bodyOf Try.f82) (by kernel_rfl) (by kernel_rfl) rfl rfl (Nat.le_of_ble_eq_true rfl) (Nat.le_of_ble_eq_true rfl) (p := pl82 k) (Eq.mpr (pq82 k) ⟨(planOK_go _), ⟨⟨(planOK_go _), (fr82_0_ok k)⟩, (planOK_go _)⟩⟩) fun x => ⟨ev82 k x, eq82 k x⟩
/-! f74 slices.ContainsFunc[[]int,int] -/
def F74 (k : Nat) (a0 : (List Int)) (a2 : (List (List Int))) : Option ((Bool × Unit) × ((List (List Int)) × Unit)) :=
  (F82 k a0 a2).bind fun r1 =>
  some (((decide (r1.1.1 ≥ (0 : Int))), ()), (r1.2.1, ()))
def sp74 (k : Nat) : Spec := ⟨[.val (.sl false 3 (.int .i64) none), .clo 75 [2], .cap 25 (.sl false 22 (.sl false 3 (.int .i64) none) none)], [.val .bool], fun x => F74 k x.1 x.2.1⟩
def lim74 : Lim := ⟨9, 3, false, false⟩
def cfg74 (k : Nat) : Nat → Option Spec := cfgL [(82, sp82 k)]
theorem cfg74_ok (k : Nat) : CfgOK Try.prog (cfg74 k) := cfgL_cons (v82 k) (cfgL_nil)
def pl74 (k : Nat) : Plan := .go
theorem pq74 (k : Nat) : PlanOK Try.prog lim74 (pl74 k) (codeAt (bodyOf Try.f74) []) = PlanOK Try.prog lim74 .go (codeAt (bodyOf Try.f74) []) := by kernel_rfl
theorem ev74 (k : Nat) (x : AT (sp74 k).ps) : (sp74 k).impl x = (fnT Try.prog (cfg74 k) lim74 Try.f74 (bodyOf Try.f74) (pl74 k) (sp74 k) x).eval := by kernel_rfl
theorem eq74 (k : Nat) (x : AT (sp74 k).ps) : (fnT Try.prog (cfg74 k) lim74 Try.f74 (bodyOf Try.f74) (pl74 k) (sp74 k) x).left = (fnT Try.prog (cfg74 k) lim74 Try.f74 (bodyOf Try.f74) (pl74 k) (sp74 k) x).right := by kernel_rfl
theorem v74 (k : Nat) : Callable Try.prog 74 ∧ Valid Try.prog 74 (sp74 k) :=
  fn_ok (cfg74_ok k) (f := 74) (fn := Try.f74) (by kernel_rfl) (c := bodyOf Try.f74) (by kernel_rfl) (by kernel_rfl) rfl rfl (Nat.le_of_ble_eq_true rfl) (Nat.le_of_ble_eq_true rfl) (p := pl74 k) (Eq.mpr (pq74 k) (planOK_go _)) fun x => ⟨ev74 k x, eq74 k x⟩
/-! f63 hyphen/table.leads -/
def F63_0 (k : Nat) : Nat → Int → (List (List Int)) → Int → Int → (List (List Int)) → Option ((Unit × Unit) ⊕ ((Bool × Unit) × Unit))
  | 0, _, _, _, _, _ => none
  | n + 1, t1, t15, t16, t17, c2 =>
    bif (decide (t17 < t16)) then
      if 0 ≤ t17 ∧ t17 < ((List.length t15 : Nat) : Int) then
        let x5 := (List.getD t15 (Int.toNat t17) ([] : (List Int)))
        bif (((List.length x5 : Nat) : Int) != t1) then
          some (.inr ((false, ()), ()))
        else
          (F74 k x5 c2).bind fun r6 =>
          bif r6.1.1 then
            some (.inr ((false, ()), ()))
          else
            (F63_0 k n t1 t15 t16 (IntKind.wrap .i64 (t17 + (1 : Int))) r6.2.1).bind some
      else none
    else
      some (.inl ((), ()))
def fr63_0 (k : Nat) : Frag := ⟨⟨[], [(1, .val (.int .i64)), (2, .ptr 2 []), (15, .val (.sl false 22 (.sl false 3 (.int .i64) none) none)), (16, .val (.int .i64)), (17, .val (.int .i64))], [(2, some 25, (.sl false 22 (.sl false 3 (.int .i64) none) none))]⟩, [(.exit 0, ⟨[], [], []⟩), (.ret, ⟨[], [(4, .val .bool)], []⟩)], fun v => F63_0 k k v.1.1 v.1.2.1 v.1.2.2.1 v.1.2.2.2.1 v.2.1⟩
def F63 (k : Nat) (a0 : (List (List Int))) (a1 : Int) : Option ((Bool × Unit) × Unit) :=
  let x1 := (decide (((List.length a0 : Nat) : Int) < (1 : Int)))
  bif x1 then
    some ((false, ()), ())
  else
    let x2 := (decide (((List.length a0 : Nat) : Int) > (100000 : Int)))
    bif x2 then
      some ((false, ()), ())
    else
      (F63_0 k k a1 a0 ((List.length a0 : Nat) : Int) (0 : Int) a0).bind fun r7 =>
      match r7 with
      | .inl r8 =>
        some ((true, ()), ())
      | .inr r8 =>
        let y9 := r8.1.1
        some ((y9, ()), ())
def sp63 (k : Nat) : Spec := ⟨[.val (.sl false 22 (.sl false 3 (.int .i64) none) none), .val (.int .i64)], [.val .bool], fun x => F63 k x.1 x.2.1⟩
def lim63 : Lim := ⟨31, 2, false, false⟩
def cfg63 (k : Nat) : Nat → Option Spec := cfgL [(74, sp74 k)]
theorem cfg63_ok (k : Nat) : CfgOK Try.prog (cfg63 k) := cfgL_cons (v74 k) (cfgL_nil)
def pl63_0 (k : Nat) : Plan := .go
theorem pq63_0 (k : Nat) : PlanOK Try.prog lim63 (pl63_0 k) (codeAt (bodyOf Try.f63) [.r, .r, .l, .r, .s, .b]) = PlanOK Try.prog lim63 .go (codeAt (bodyOf Try.f63) [.r, .r, .l, .r, .s, .b]) := by kernel_rfl
theorem ps63_0 (k m : Nat) (v : (fr63_0 k).sh.V) : F63_0 k (m + 1) v.1.1 v.1.2.1 v.1.2.2.1 v.1.2.2.2.1 v.2.1 = (body Try.prog (stepper Try.prog (cfg63 k) lim63) (pl63_0 k) (codeAt (bodyOf Try.f63) [.r, .r, .l, .r, .s, .b]) ((fr63_0 k).sh.st v) (loopK (fr63_0 k) fun v => F63_0 k m v.1.1 v.1.2.1 v.1.2.2.1 v.1.2.2.2.1 v.2.1)).eval := by kernel_rfl
theorem pe63_0 (k m : Nat) (v : (fr63_0 k).sh.V) : (body Try.prog (stepper Try.prog (cfg63 k) lim63) (pl63_0 k) (codeAt (bodyOf Try.f63) [.r, .r, .l, .r, .s, .b]) ((fr63_0 k).sh.st v) (loopK (fr63_0 k) fun v => F63_0 k m v.1.1 v.1.2.1 v.1.2.2.1 v.1.2.2.2.1 v.2.1)).left = (body Try.prog (stepper Try.prog (cfg63 k) lim63) (pl63_0 k) (codeAt (bodyOf Try.f63) [.r, .r, .l, .r, .s, .b]) ((fr63_0 k).sh.st v) (loopK (fr63_0 k) fun v => F63_0 k m v.1.1 v.1.2.1 v.1.2.2.1 v.1.2.2.2.1 v.2.1)).right := by kernel_rfl
theorem fr63_0_ok (k : Nat) : FragOK Try.prog lim63 (fr63_0 k) (codeAt (bodyOf Try.f63) [.r, .r, .l, .r, .s]) :=
  frag_cast (by kernel_rfl) (loop_ok (cfg63_ok k) (Eq.mpr (pq63_0 k) (planOK_go _)) (fun m v => F63_0 k m v.1.1 v.1.2.1 v.1.2.2.1 v.1.2.2.2.1 v.2.1) k (fun _ => rfl) (fun _ => rfl) fun m v => ⟨ps63_0 k m v, pe63_0 k m v⟩)
def pl63 (k : Nat) : Plan := (.seq .go (.seq .go (.seq (.seq .go (.sub (.frag (fr63_0 k)))) .go)))
theorem pq63 (k : Nat) : PlanOK Try.prog lim63 (pl63 k) (codeAt (bodyOf Try.f63) []) = (PlanOK Try.prog lim63 .go (codeAt (bodyOf Try.f63) [.l]) ∧ (PlanOK Try.prog lim63 .go (codeAt (bodyOf Try.f63) [.r, .l]) ∧ ((PlanOK Try.prog lim63 .go (codeAt (bodyOf Try.f63) [.r, .r, .l, .l]) ∧ FragOK Try.prog lim63 (fr63_0 k) (codeAt (bodyOf Try.f63) [.r, .r, .l, .r, .s])) ∧ PlanOK Try.prog lim63 .go (codeAt (bodyOf Try.f63) [.r, .r, .r])))) := by kernel_rfl
theorem ev63 (k : Nat) (x : AT (sp63 k).ps) : (sp63 k).impl x = (fnT Try.prog (cfg63 k) lim63 Try.f63 (bodyOf Try.f63) (pl63 k) (sp63 k) x).eval := by kernel_rfl
theorem eq63 (k : Nat) (x : AT (sp63 k).ps) : (fnT Try.prog (cfg63 k) lim63 Try.f63 (bodyOf Try.f63) (pl63 k) (sp63 k) x).left = (fnT Try.prog (cfg63 k) lim63 Try.f63 (bodyOf Try.f63) (pl63 k) (sp63 k) x).right := by kernel_rfl
theorem v63 (k : Nat) : Callable Try.prog 63 ∧ Valid Try.prog 63 (sp63 k) :=
  fn_ok (cfg63_ok k) (f := 63) (fn := Try.f63) (by kernel_rfl) (c := bodyOf Try.f63) (by kernel_rfl) (by kernel_rfl) rfl rfl (Nat.le_of_ble_eq_true rfl) (Nat.le_of_ble_eq_true rfl) (p := pl63 k) (Eq.mpr (pq63 k) ⟨(planOK_go _), ⟨(planOK_go _), ⟨⟨(planOK_go _), (fr63_0_ok k)⟩, (planOK_go _)⟩⟩⟩) fun x => ⟨ev63 k x, eq63 k x⟩
/-! f64 slices.Max[[]int,int] -/
def F64_0 (k : Nat) : Nat → (List Int) → Int → Int → Option (((Int × Unit) × Unit))
  | 0, _, _, _ => none
  | n + 1, t0, t3, t4 =>
    let x5 := (decide (t4 < ((List.length t0 : Nat) : Int)))
    bif x5 then
      if 0 ≤ t4 ∧ t4 < ((List.length t0 : Nat) : Int) then
        let x6 := (maxI t3 (List.getD t0 (Int.toNat t4) (0 : Int)))
        (F64_0 k n t0 x6 (IntKind.wrap .i64 (t4 + (1 : Int)))).bind some
      else none
    else
      some ((t3, ()), ())
def fr64_0 (k : Nat) : Frag := ⟨⟨[], [(0, .val (.sl false 3 (.int .i64) none)), (3, .val (.int .i64)), (4, .val (.int .i64))], []⟩, [(.exit 0, ⟨[], [(3, .val (.int .i64))], []⟩)], fun v => F64_0 k k v.1.1 v.1.2.1 v.1.2.2.1⟩
def F64 (k : Nat) (a0 : (List Int)) : Option ((Int × Unit) × Unit) :=
  let x1 := (decide (((List.length a0 : Nat) : Int) < (1 : Int)))
  bif x1 then
    none
  else
    if 0 ≤ (0 : Int) ∧ (0 : Int) < ((List.length a0 : Nat) : Int) then
      let x2 := (List.getD a0 (Int.toNat (0 : Int)) (0 : Int))
      (F64_0 k k a0 x2 (1 : Int)).bind fun r7 =>
      let y8 := r7.1.1
      some ((y8, ()), ())
    else none
def sp64 (k : Nat) : Spec := ⟨[.val (.sl false 3 (.int .i64) none)], [.val (.int .i64)], fun x => F64 k x.1⟩
def lim64 : Lim := ⟨25, 1, false, false⟩
def cfg64 (k : Nat) : Nat → Option Spec := cfgL []
theorem cfg64_ok (k : Nat) : CfgOK Try.prog (cfg64 k) := cfgL_nil
def pl64_0 (k : Nat) : Plan := .go
theorem pq64_0 (k : Nat) : PlanOK Try.prog lim64 (pl64_0 k) (codeAt (bodyOf Try.f64) [.r, .r, .r, .l, .r, .s, .b]) = PlanOK Try.prog lim64 .go (codeAt (bodyOf Try.f64) [.r, .r, .r, .l, .r, .s, .b]) := by kernel_rfl
theorem ps64_0 (k m : Nat) (v : (fr64_0 k).sh.V) : F64_0 k (m + 1) v.1.1 v.1.2.1 v.1.2.2.1 = (body Try.prog (stepper Try.prog (cfg64 k) lim64) (pl64_0 k) (codeAt (bodyOf Try.f64) [.r, .r, .r, .l, .r, .s, .b]) ((fr64_0 k).sh.st v) (loopK (fr64_0 k) fun v => F64_0 k m v.1.1 v.1.2.1 v.1.2.2.1)).eval := by kernel_rfl
theorem pe64_0 (k m : Nat) (v : (fr64_0 k).sh.V) : (body Try.prog (stepper Try.prog (cfg64 k) lim64) (pl64_0 k) (codeAt (bodyOf Try.f64) [.r, .r, .r, .l, .r, .s, .b]) ((fr64_0 k).sh.st v) (loopK (fr64_0 k) fun v => F64_0 k m v.1.1 v.1.2.1 v.1.2.2.1)).left = (body Try.prog (stepper Try.prog (cfg64 k) lim64) (pl64_0 k) (codeAt (bodyOf Try.f64) [.r, .r, .r, .l, .r, .s, .b]) ((fr64_0 k).sh.st v) (loopK (fr64_0 k) fun v => F64_0 k m v.1.1 v.1.2.1 v.1.2.2.1)).right := by kernel_rfl
theorem fr64_0_ok (k : Nat) : FragOK Try.prog lim64 (fr64_0 k) (codeAt (bodyOf Try.f64) [.r, .r, .r, .l, .r, .s]) :=
  frag_cast (by kernel_rfl) (loop_ok (cfg64_ok k) (Eq.mpr (pq64_0 k) (planOK_go _)) (fun m v => F64_0 k m v.1.1 v.1.2.1 v.1.2.2.1) k (fun _ => rfl) (fun _ => rfl) fun m v => ⟨ps64_0 k m v, pe64_0 k m v⟩)
def pl64 (k : Nat) : Plan := (.seq .go (.seq .go (.seq .go (.seq (.seq .go (.sub (.frag (fr64_0 k)))) .go))))
theorem pq64 (k : Nat) : PlanOK Try.prog lim64 (pl64 k) (codeAt (bodyOf Try.f64) []) = (PlanOK Try.prog lim64 .go (codeAt (bodyOf Try.f64) [.l]) ∧ (PlanOK Try.prog lim64 .go (codeAt (bodyOf Try.f64) [.r, .l]) ∧ (PlanOK Try.prog lim64 .go (codeAt (bodyOf Try.f64) [.r, .r, .l]) ∧ ((PlanOK Try.prog lim64 .go (codeAt (bodyOf Try.f64) [.r, .r, .r, .l, .l]) ∧ FragOK Try.prog lim64 (fr64_0 k) (codeAt (bodyOf Try.f64) [.r, .r, .r, .l, .r, .s])) ∧ PlanOK Try.prog lim64 .go (codeAt (bodyOf Try.f64) [.r, .r, .r, .r]))))) := by kernel_rfl
theorem ev64 (k : Nat) (x : AT (sp64 k).ps) : (sp64 k).impl x = (fnT Try.prog (cfg64 k) lim64 Try.f64 (bodyOf Try.f64) (pl64 k) (sp64 k) x).eval := by kernel_rfl
theorem eq64 (k : Nat) (x : AT (sp64 k).ps) : (fnT Try.prog (cfg64 k) lim64 Try.f64 (bodyOf Try.f64) (pl64 k) (sp64 k) x).left = (fnT Try.prog (cfg64 k) lim64 Try.f64 (bodyOf Try.f64) (pl64 k) (sp64 k) x).right := by kernel_rfl
theorem v64 (k : Nat) : Callable Try.prog 64 ∧ Valid Try.prog 64 (sp64 k) :=
  fn_ok (cfg64_ok k) (f := 64) (fn := Try.f64) (by kernel_rfl) (c := bodyOf Try.f64) (by kernel_rfl) (by kernel_rfl) rfl rfl (Nat.le_of_ble_eq_true rfl) (Nat.le_of_ble_eq_true rfl) (p := pl64 k) (Eq.mpr (pq64 k) ⟨(planOK_go _), ⟨(planOK_go _), ⟨(planOK_go _), ⟨⟨(planOK_go _), (fr64_0_ok k)⟩, (planOK_go _)⟩⟩⟩⟩) fun x => ⟨ev64 k x, eq64 k x⟩
/-! f65 slices.Min[[]int,int] -/
def F65_0 (k : Nat) : Nat → (List Int) → Int → Int → Option (((Int × Unit) × Unit))
  | 0, _, _, _ => none
  | n + 1, t0, t3, t4 =>
    let x5 := (decide (t4 < ((List.length t0 : Nat) : Int)))
    bif x5 then
      if 0 ≤ t4 ∧ t4 < ((List.length t0 : Nat) : Int) then
        let x6 := (minI t3 (List.getD t0 (Int.toNat t4) (0 : Int)))
        (F65_0 k n t0 x6 (IntKind.wrap .i64 (t4 + (1 : Int)))).bind some
      else none
    else
      some ((t3, ()), ())
def fr65_0 (k : Nat) : Frag := ⟨⟨[], [(0, .val (.sl false 3 (.int .i64) none)), (3, .val (.int .i64)), (4, .val (.int .i64))], []⟩, [(.exit 0, ⟨[], [(3, .val (.int .i64))], []⟩)], fun v => F65_0 k k v.1.1 v.1.2.1 v.1.2.2.1⟩
def F65 (k : Nat) (a0 : (List Int)) : Option ((Int × Unit) × Unit) :=
  let x1 := (decide (((List.length a0 : Nat) : Int) < (1 : Int)))
  bif x1 then
    none
  else
    if 0 ≤ (0 : Int) ∧ (0 : Int) < ((List.length a0 : Nat) : Int) then
      let x2 := (List.getD a0 (Int.toNat (0 : Int)) (0 : Int))
      (F65_0 k k a0 x2 (1 : Int)).bind fun r7 =>
      let y8 := r7.1.1
      some ((y8, ()), ())
    else none
def sp65 (k : Nat) : Spec := ⟨[.val (.sl false 3 (.int .i64) none)], [.val (.int .i64)], fun x => F65 k x.1⟩
def lim65 : Lim := ⟨25, 1, false, false⟩
def cfg65 (k : Nat) : Nat → Option Spec := cfgL []
theorem cfg65_ok (k : Nat) : CfgOK Try.prog (cfg65 k) := cfgL_nil
def pl65_0 (k : Nat) : Plan := .go
theorem pq65_0 (k : Nat) : PlanOK Try.prog lim65 (pl65_0 k) (codeAt (bodyOf Try.f65) [.r, .r, .r, .l, .r, .s, .b]) = PlanOK Try.prog lim65 .go (codeAt (bodyOf Try.f65) [.r, .r, .r, .l, .r, .s, .b]) := by kernel_rfl
theorem ps65_0 (k m : Nat) (v : (fr65_0 k).sh.V) : F65_0 k (m + 1) v.1.1 v.1.2.1 v.1.2.2.1 = (body Try.prog (stepper Try.prog (cfg65 k) lim65) (pl65_0 k) (codeAt (bodyOf Try.f65) [.r, .r, .r, .l, .r, .s, .b]) ((fr65_0 k).sh.st v) (loopK (fr65_0 k) fun v => F65_0 k m v.1.1 v.1.2.1 v.1.2.2.1)).eval := by kernel_rfl
theorem pe65_0 (k m : Nat) (v : (fr65_0 k).sh.V) : (body Try.prog (stepper Try.prog (cfg65 k) lim65) (pl65_0 k) (codeAt (bodyOf Try.f65) [.r, .r, .r, .l, .r, .s, .b]) ((fr65_0 k).sh.st v) (loopK (fr65_0 k) fun v => F65_0 k m v.1.1 v.1.2.1 v.1.2.2.1)).left = (body Try.prog (stepper Try.prog (cfg65 k) lim65) (pl65_0 k) (codeAt (bodyOf Try.f65) [.r, .r, .r, .l, .r, .s, .b]) ((fr65_0 k).sh.st v) (loopK (fr65_0 k) fun v => F65_0 k m v.1.1 v.1.2.1 v.1.2.2.1)).right := by kernel_rfl
theorem fr65_0_ok (k : Nat) : FragOK Try.prog lim65 (fr65_0 k) (codeAt (bodyOf Try.f65) [.r, .r, .r, .l, .r, .s]) :=
  frag_cast (by kernel_rfl) (loop_ok (cfg65_ok k) (Eq.mpr (pq65_0 k) (planOK_go _)) (fun m v => F65_0 k m v.1.1 v.1.2.1 v.1.2.2.1) k (fun _ => rfl) (fun _ => rfl) fun m v => ⟨ps65_0 k m v, pe65_0 k m v⟩)
def pl65 (k : Nat) : Plan := (.seq .go (.seq .go (.seq .go (.seq (.seq .go (.sub (.frag (fr65_0 k)))) .go))))
theorem pq65 (k : Nat) : PlanOK Try.prog lim65 (pl65 k) (codeAt (bodyOf Try.f65) []) = (PlanOK Try.prog lim65 .go (codeAt (bodyOf Try.f65) [.l]) ∧ (PlanOK Try.prog lim65 .go (codeAt (bodyOf Try.f65) [.r, .l]) ∧ (PlanOK Try.prog lim65 .go (codeAt (bodyOf Try.f65) [.r, .r, .l]) ∧ ((PlanOK Try.prog lim65 .go (codeAt (bodyOf Try.f65) [.r, .r, .r, .l, .l]) ∧ FragOK Try.prog lim65 (fr65_0 k) (codeAt (bodyOf Try.f65) [.r, .r, .r, .l, .r, .s])) ∧ PlanOK Try.prog lim65 .go (codeAt (bodyOf Try.f65) [.r, .r, .r, .r]))))) := by kernel_rfl
theorem ev65 (k : Nat) (x : AT (sp65 k).ps) : (sp65 k).impl x = (fnT Try.prog (cfg65 k) lim65 Try.f65 (bodyOf Try.f65) (pl65 k) (sp65 k) x).eval := by kernel_rfl
theorem eq65 (k : Nat) (x : AT (sp65 k).ps) : (fnT Try.prog (cfg65 k) lim65 Try.f65 (bodyOf Try.f65) (pl65 k) (sp65 k) x).left = (fnT Try.prog (cfg65 k) lim65 Try.f65 (bodyOf Try.f65) (pl65 k) (sp65 k) x).right := by kernel_rfl
theorem v65 (k : Nat) : Callable Try.prog 65 ∧ Valid Try.prog 65 (sp65 k) :=
  fn_ok (cfg65_ok k) (f := 65) (fn := Try.f65) (by kernel_rfl) (c := bodyOf Try.f65) (by kernel_rfl) (by kernel_rfl) rfl rfl (Nat.le_of_ble_eq_true rfl) (Nat.le_of_ble_eq_true rfl) (p := pl65 k) (Eq.mpr (pq65 k) ⟨(planOK_go _), ⟨(planOK_go _), ⟨(planOK_go _), ⟨⟨(planOK_go _), (fr65_0_ok k)⟩, (planOK_go _)⟩⟩⟩⟩) fun x => ⟨ev65 k x, eq65 k x⟩
/-! f77 hyphen/table.costs$1 -/
def F77 (k : Nat) (a0 : Int) : Option ((Bool × Unit) × Unit) :=
  bif (decide (a0 < (0 : Int))) then
    some ((true, ()), ())
  else
    some (((decide (a0 > (1152921504606846976 : Int))), ()), ())
def sp77 (k : Nat) : Spec := ⟨[.val (.int .i64)], [.val .bool], fun x => F77 k x.1⟩
def lim77 : Lim := ⟨9, 1, false, false⟩
def cfg77 (k : Nat) : Nat → Option Spec := cfgL []
theorem cfg77_ok (k : Nat) : CfgOK Try.prog (cfg77 k) := cfgL_nil
def pl77 (k : Nat) : Plan := .go
theorem pq77 (k : Nat) : PlanOK Try.prog lim77 (pl77 k) (codeAt (bodyOf Try.f77) []) = PlanOK Try.prog lim77 .go (codeAt (bodyOf Try.f77) []) := by kernel_rfl
theorem ev77 (k : Nat) (x : AT (sp77 k).ps) : (sp77 k).impl x = (fnT Try.prog (cfg77 k) lim77 Try.f77 (bodyOf Try.f77) (pl77 k) (sp77 k) x).eval := by kernel_rfl
theorem eq77 (k : Nat) (x : AT (sp77 k).ps) : (fnT Try.prog (cfg77 k) lim77 Try.f77 (bodyOf Try.f77) (pl77 k) (sp77 k) x).left = (fnT Try.prog (cfg77 k) lim77 Try.f77 (bodyOf Try.f77) (pl77 k) (sp77 k) x).right := by kernel_rfl
theorem v77 (k : Nat) : Callable Try.prog 77 ∧ Valid Try.prog 77 (sp77 k) :=
  fn_ok (cfg77_ok k) (f := 77) (fn := Try.f77) (by kernel_rfl) (c := bodyOf Try.f77) (by kernel_rfl) (by kernel_rfl) rfl rfl (Nat.le_of_ble_eq_true rfl) (Nat.le_of_ble_eq_true rfl) (p := pl77 k) (Eq.mpr (pq77 k) (planOK_go _)) fun x => ⟨ev77 k x, eq77 k x⟩
/-! f1082 slices.IndexFunc[[]int,int] -/
def F1082_0 (k : Nat) : Nat → (List Int) → Int → Int → Option ((Unit × Unit) ⊕ ((Int × Unit) × Unit))
  | 0, _, _, _ => none
  | n + 1, t0, t7, t8 =>
    bif (decide (t8 < t7)) then
      if 0 ≤ t8 ∧ t8 < ((List.length t0 : Nat) : Int) then
        (F77 k (List.getD t0 (Int.toNat t8) (0 : Int))).bind fun r2 =>
        bif r2.1.1 then
          some (.inr ((t8, ()), ()))
        else
          (F1082_0 k n t0 t7 (IntKind.wrap .i64 (t8 + (1 : Int)))).bind some
      else none
    else
      some (.inl ((), ()))
def fr1082_0 (k : Nat) : Frag := ⟨⟨[], [(0, .val (.sl false 3 (.int .i64) none)), (1, .clo 77 []), (7, .val (.int .i64)), (8, .val (.int .i64))], []⟩, [(.exit 0, ⟨[], [], []⟩), (.ret, ⟨[], [(4, .val (.int .i64))], []⟩)], fun v => F1082_0 k k v.1.1 v.1.2.1 v.1.2.2.1⟩
def F1082 (k : Nat) (a0 : (List Int)) : Option ((Int × Unit) × Unit) :=
  (F1082_0 k k a0 ((List.length a0 : Nat) : Int) (0 : Int)).bind fun r3 =>
  match r3 with
  | .inl r4 =>
    some (((-1 : Int), ()), ())
  | .inr r4 =>
    let y5 := r4.1.1
    some ((y5, ()), ())
def sp1082 (k : Nat) : Spec := ⟨[.val (.sl false 3 (.int .i64) none), .clo 77 []], [.val (.int .i64)], fun x => F1082 k x.1⟩
def lim1082 : Lim := ⟨19, 2, false, false⟩
def cfg1082 (k : Nat) : Nat → Option Spec := cfgL [(77, sp77 k)]
theorem cfg1082_ok (k : Nat) : CfgOK Try.prog (cfg1082 k) := cfgL_cons (v77 k) (cfgL_nil)
def pl1082_0 (k : Nat) : Plan := .go
theorem pq1082_0 (k : Nat) : PlanOK Try.prog lim1082 (pl1082_0 k) (codeAt (bodyOf Try.f82) [.r, .l, .r, .s, .b]) = PlanOK Try.prog lim1082 .go (codeAt (bodyOf Try.f82) [.r, .l, .r, .s, .b]) := by kernel_rfl
theorem ps1082_0 (k m : Nat) (v : (fr1082_0 k).sh.V) : F1082_0 k (m + 1) v.1.1 v.1.2.1 v.1.2.2.1 = (body Try.prog (stepper Try.prog (cfg1082 k) lim1082) (pl1082_0 k) (codeAt (bodyOf Try.f82) [.r, .l, .r, .s, .b]) ((fr1082_0 k).sh.st v) (loopK (fr1082_0 k) fun v => F1082_0 k m v.1.1 v.1.2.1 v.1.2.2.1)).eval := by kernel_rfl
theorem pe1082_0 (k m : Nat) (v : (fr1082_0 k).sh.V) : (body Try.prog (stepper Try.prog (cfg1082 k) lim1082) (pl1082_0 k) (codeAt (bodyOf Try.f82) [.r, .l, .r, .s, .b]) ((fr1082_0 k).sh.st v) (loopK (fr1082_0 k) fun v => F1082_0 k m v.1.1 v.1.2.1 v.1.2.2.1)).left = (body Try.prog (stepper Try.prog (cfg1082 k) lim1082) (pl1082_0 k) (codeAt (bodyOf Try.f82) [.r, .l, .r, .s, .b]) ((fr1082_0 k).sh.st v) (loopK (fr1082_0 k) fun v => F1082_0 k m v.1.1 v.1.2.1 v.1.2.2.1)).right := by kernel_rfl
theorem fr1082_0_ok (k : Nat) : FragOK Try.prog lim1082 (fr1082_0 k) (codeAt (bodyOf Try.f82) [.r, .l, .r, .s]) :=
  frag_cast (by kernel_rfl) (loop_ok (cfg1082_ok k) (Eq.mpr (pq1082_0 k) (planOK_go _)) (fun m v => F1082_0 k m v.1.1 v.1.2.1 v.1.2.2.1) k (fun _ => rfl) (fun _ => rfl) fun m v => ⟨ps1082_0 k m v, pe1082_0 k m v⟩)
def pl1082 (k : Nat) : Plan := (.seq .go (.seq (.seq .go (.sub (.frag (fr1082_0 k)))) .go))
theorem pq1082 (k : Nat) : PlanOK Try.prog lim1082 (pl1082 k) (codeAt (bodyOf Try.f82) []) = (PlanOK Try.prog lim1082 .go (codeAt (bodyOf Try.f82) [.l]) ∧ ((PlanOK Try.prog lim1082 .go (codeAt (bodyOf Try.f82) [.r, .l, .l]) ∧ FragOK Try.prog lim1082 (fr1082_0 k) (codeAt (bodyOf Try.f82) [.r, .l, .r, .s])) ∧ PlanOK Try.prog lim1082 .go (codeAt (bodyOf Try.f82) [.r, .r]))) := by kernel_rfl
theorem ev1082 (k : Nat) (x : AT (sp1082 k).ps) : (sp1082 k).impl x = (fnT Try.prog (cfg1082 k) lim1082 Try.f82 (bodyOf Try.f82) (pl1082 k) (sp1082 k) x).eval := by kernel_rfl
theorem eq1082 (k : Nat) (x : AT (sp1082 k).ps) : (fnT Try.prog (cfg1082 k) lim1082 Try.f82 (bodyOf Try.f82) (pl1082 k) (sp1082 k) x).left = (fnT Try.prog (cfg1082 k) lim1082 Try.f82 (bodyOf Try.f82) (pl1082 k) (sp1082 k) x).right := by kernel_rfl
theorem v1082 (k : Nat) : Callable Try.prog 82 ∧ Valid Try.prog 82 (sp1082 k) :=
  fn_ok (cfg1082_ok k) (f := 82) (fn := Try.f82) (by kernel_rfl) (c := bodyOf Try.f82) (by kernel_rfl) (by kernel_rfl) rfl rfl (Nat.le_of_ble_eq_true rfl) (Nat.le_of_ble_eq_true rfl) (p := pl1082 k) (Eq.mpr (pq1082 k) ⟨(planOK_go _), ⟨⟨(planOK_go _), (fr1082_0_ok k)⟩, (planOK_go _)⟩⟩) fun x => ⟨ev1082 k x, eq1082 k x⟩
/-! f1074 slices.ContainsFunc[[]int,int] -/
def F1074 (k : Nat) (a0 : (List Int)) : Option ((Bool × Unit) × Unit) :=
  (F1082 k a0).bind fun r1 =>
  some (((decide (r1.1.1 ≥ (0 : Int))), ()), ())
def sp1074 (k : Nat) : Spec := ⟨[.val (.sl false 3 (.int .i64) none), .clo 77 []], [.val .bool], fun x => F1074 k x.1⟩
def lim1074 : Lim := ⟨9, 2, false, false⟩
def cfg1074 (k : Nat) : Nat → Option Spec := cfgL [(82, sp1082 k)]
theorem cfg1074_ok (k : Nat) : CfgOK Try.prog (cfg1074 k) := cfgL_cons (v1082 k) (cfgL_nil)
def pl1074 (k : Nat) : Plan := .go
theorem pq1074 (k : Nat) : PlanOK Try.prog lim1074 (pl1074 k) (codeAt (bodyOf Try.f74) []) = PlanOK Try.prog lim1074 .go (codeAt (bodyOf Try.f74) []) := by kernel_rfl
theorem ev1074 (k : Nat) (x : AT (sp1074 k).ps) : (sp1074 k).impl x = (fnT Try.prog (cfg1074 k) lim1074 Try.f74 (bodyOf Try.f74) (pl1074 k) (sp1074 k) x).eval := by kernel_rfl
theorem eq1074 (k : Nat) (x : AT (sp1074 k).ps) : (fnT Try.prog (cfg1074 k) lim1074 Try.f74 (bodyOf Try.f74) (pl1074 k) (sp1074 k) x).left = (fnT Try.prog (cfg1074 k) lim1074 Try.f74 (bodyOf Try.f74) (pl1074 k) (sp1074 k) x).right := by kernel_rfl
theorem v1074 (k : Nat) : Callable Try.prog 74 ∧ Valid Try.prog 74 (sp1074 k) :=
  fn_ok (cfg1074_ok k) (f := 74) (fn := Try.f74) (by kernel_rfl) (c := bodyOf Try.f74) (by kernel_rfl) (by kernel_rfl) rfl rfl (Nat.le_of_ble_eq_true rfl) (Nat.le_of_ble_eq_true rfl) (p := pl1074 k) (Eq.mpr (pq1074 k) (planOK_go _)) fun x => ⟨ev1074 k x, eq1074 k x⟩
/-! f68 hyphen/table.costs -/
def F68 (k : Nat) (a0 : (List Int)) : Option ((Bool × Unit) × Unit) :=
  (F1074 k a0).bind fun r1 =>
  some (((!r1.1.1), ()), ())
def sp68 (k : Nat) : Spec := ⟨[.val (.arr 3 (.int .i64))], [.val .bool], fun x => F68 k x.1⟩
def lim68 : Lim := ⟨6, 1, false, false⟩
def cfg68 (k : Nat) : Nat → Option Spec := cfgL [(74, sp1074 k)]
theorem cfg68_ok (k : Nat) : CfgOK Try.prog (cfg68 k) := cfgL_cons (v1074 k) (cfgL_nil)
def pl68 (k : Nat) : Plan := .go
theorem pq68 (k : Nat) : PlanOK Try.prog lim68 (pl68 k) (codeAt (bodyOf Try.f68) []) = PlanOK Try.prog lim68 .go (codeAt (bodyOf Try.f68) []) := by kernel_rfl
theorem ev68 (k : Nat) (x : AT (sp68 k).ps) : (sp68 k).impl x = (fnT Try.prog (cfg68 k) lim68 Try.f68 (bodyOf Try.f68) (pl68 k) (sp68 k) x).eval := by kernel_rfl
theorem eq68 (k : Nat) (x : AT (sp68 k).ps) : (fnT Try.prog (cfg68 k) lim68 Try.f68 (bodyOf Try.f68) (pl68 k) (sp68 k) x).left = (fnT Try.prog (cfg68 k) lim68 Try.f68 (bodyOf Try.f68) (pl68 k) (sp68 k) x).right := by kernel_rfl
theorem v68 (k : Nat) : Callable Try.prog 68 ∧ Valid Try.prog 68 (sp68 k) :=
  fn_ok (cfg68_ok k) (f := 68) (fn := Try.f68) (by kernel_rfl) (c := bodyOf Try.f68) (by kernel_rfl) (by kernel_rfl) rfl rfl (Nat.le_of_ble_eq_true rfl) (Nat.le_of_ble_eq_true rfl) (p := pl68 k) (Eq.mpr (pq68 k) (planOK_go _)) fun x => ⟨ev68 k x, eq68 k x⟩
/-! f67 hyphen/table.Right$1 -/
def F67 (k : Nat) (a0 : (List Int)) : Option ((Bool × Unit) × Unit) :=
  (F68 k a0).bind fun r1 =>
  some (((!r1.1.1), ()), ())
def sp67 (k : Nat) : Spec := ⟨[.val (.arr 3 (.int .i64))], [.val .bool], fun x => F67 k x.1⟩
def lim67 : Lim := ⟨6, 1, false, false⟩
def cfg67 (k : Nat) : Nat → Option Spec := cfgL [(68, sp68 k)]
theorem cfg67_ok (k : Nat) : CfgOK Try.prog (cfg67 k) := cfgL_cons (v68 k) (cfgL_nil)
def pl67 (k : Nat) : Plan := .go
theorem pq67 (k : Nat) : PlanOK Try.prog lim67 (pl67 k) (codeAt (bodyOf Try.f67) []) = PlanOK Try.prog lim67 .go (codeAt (bodyOf Try.f67) []) := by kernel_rfl
theorem ev67 (k : Nat) (x : AT (sp67 k).ps) : (sp67 k).impl x = (fnT Try.prog (cfg67 k) lim67 Try.f67 (bodyOf Try.f67) (pl67 k) (sp67 k) x).eval := by kernel_rfl
theorem eq67 (k : Nat) (x : AT (sp67 k).ps) : (fnT Try.prog (cfg67 k) lim67 Try.f67 (bodyOf Try.f67) (pl67 k) (sp67 k) x).left = (fnT Try.prog (cfg67 k) lim67 Try.f67 (bodyOf Try.f67) (pl67 k) (sp67 k) x).right := by kernel_rfl
theorem v67 (k : Nat) : Callable Try.prog 67 ∧ Valid Try.prog 67 (sp67 k) :=
  fn_ok (cfg67_ok k) (f := 67) (fn := Try.f67) (by kernel_rfl) (c := bodyOf Try.f67) (by kernel_rfl) (by kernel_rfl) rfl rfl (Nat.le_of_ble_eq_true rfl) (Nat.le_of_ble_eq_true rfl) (p := pl67 k) (Eq.mpr (pq67 k) (planOK_go _)) fun x => ⟨ev67 k x, eq67 k x⟩
/-! f76 slices.IndexFunc[[]hyphen/api.Vec,hyphen/api.Vec] -/
def F76_0 (k : Nat) : Nat → (List (List Int)) → Int → Int → Option ((Unit × Unit) ⊕ ((Int × Unit) × Unit))
  | 0, _, _, _ => none
  | n + 1, t0, t7, t8 =>
    bif (decide (t8 < t7)) then
      if 0 ≤ t8 ∧ t8 < ((List.length t0 : Nat) : Int) then
        let x3 := (List.getD t0 (Int.toNat t8) ([] : (List Int)))
        (F67 k x3).bind fun r4 =>
        bif r4.1.1 then
          some (.inr ((t8, ()), ()))
        else
          (F76_0 k n t0 t7 (IntKind.wrap .i64 (t8 + (1 : Int)))).bind some
      else none
    else
      some (.inl ((), ()))
def fr76_0 (k : Nat) : Frag := ⟨⟨[], [(0, .val (.sl false 57 (.arr 3 (.int .i64)) none)), (1, .clo 67 []), (7, .val (.int .i64)), (8, .val (.int .i64))], []⟩, [(.exit 0, ⟨[], [], []⟩), (.ret, ⟨[], [(4, .val (.int .i64))], []⟩)], fun v => F76_0 k k v.1.1 v.1.2.1 v.1.2.2.1⟩
def F76 (k : Nat) (a0 : (List (List Int))) : Option ((Int × Unit) × Unit) :=
  (F76_0 k k a0 ((List.length a0 : Nat) : Int) (0 : Int)).bind fun r5 =>
  match r5 with
  | .inl r6 =>
    some (((-1 : Int), ()), ())
  | .inr r6 =>
    let y7 := r6.1.1
    some ((y7, ()), ())
def sp76 (k : Nat) : Spec := ⟨[.val (.sl false 57 (.arr 3 (.int .i64)) none), .clo 67 []], [.val (.int .i64)], fun x => F76 k x.1⟩
def lim76 : Lim := ⟨19, 2, false, false⟩
def cfg76 (k : Nat) : Nat → Option Spec := cfgL [(67, sp67 k)]
theorem cfg76_ok (k : Nat) : CfgOK Try.prog (cfg76 k) := cfgL_cons (v67 k) (cfgL_nil)
def pl76_0 (k : Nat) : Plan := .go
theorem pq76_0 (k : Nat) : PlanOK Try.prog lim76 (pl76_0 k) (codeAt (bodyOf Try.f76) [.r, .l, .r, .s, .b]) = PlanOK Try.prog lim76 .go (codeAt (bodyOf Try.f76) [.r, .l, .r, .s, .b]) := by kernel_rfl
theorem ps76_0 (k m : Nat) (v : (fr76_0 k).sh.V) : F76_0 k (m + 1) v.1.1 v.1.2.1 v.1.2.2.1 = (body Try.prog (stepper Try.prog (cfg76 k) lim76) (pl76_0 k) (codeAt (bodyOf Try.f76) [.r, .l, .r, .s, .b]) ((fr76_0 k).sh.st v) (loopK (fr76_0 k) fun v => F76_0 k m v.1.1 v.1.2.1 v.1.2.2.1)).eval := by kernel_rfl
theorem pe76_0 (k m : Nat) (v : (fr76_0 k).sh.V) : (body Try.prog (stepper Try.prog (cfg76 k) lim76) (pl76_0 k) (codeAt (bodyOf Try.f76) [.r, .l, .r, .s, .b]) ((fr76_0 k).sh.st v) (loopK (fr76_0 k) fun v => F76_0 k m v.1.1 v.1.2.1 v.1.2.2.1)).left = (body Try.prog (stepper Try.prog (cfg76 k) lim76) (pl76_0 k) (codeAt (bodyOf Try.f76) [.r, .l, .r, .s, .b]) ((fr76_0 k).sh.st v) (loopK (fr76_0 k) fun v => F76_0 k m v.1.1 v.1.2.1 v.1.2.2.1)).right := by kernel_rfl
theorem fr76_0_ok (k : Nat) : FragOK Try.prog lim76 (fr76_0 k) (codeAt (bodyOf Try.f76) [.r, .l, .r, .s]) :=
  frag_cast (by kernel_rfl) (loop_ok (cfg76_ok k) (Eq.mpr (pq76_0 k) (planOK_go _)) (fun m v => F76_0 k m v.1.1 v.1.2.1 v.1.2.2.1) k (fun _ => rfl) (fun _ => rfl) fun m v => ⟨ps76_0 k m v, pe76_0 k m v⟩)
def pl76 (k : Nat) : Plan := (.seq .go (.seq (.seq .go (.sub (.frag (fr76_0 k)))) .go))
theorem pq76 (k : Nat) : PlanOK Try.prog lim76 (pl76 k) (codeAt (bodyOf Try.f76) []) = (PlanOK Try.prog lim76 .go (codeAt (bodyOf Try.f76) [.l]) ∧ ((PlanOK Try.prog lim76 .go (codeAt (bodyOf Try.f76) [.r, .l, .l]) ∧ FragOK Try.prog lim76 (fr76_0 k) (codeAt (bodyOf Try.f76) [.r, .l, .r, .s])) ∧ PlanOK Try.prog lim76 .go (codeAt (bodyOf Try.f76) [.r, .r]))) := by kernel_rfl
theorem ev76 (k : Nat) (x : AT (sp76 k).ps) : (sp76 k).impl x = (fnT Try.prog (cfg76 k) lim76 Try.f76 (bodyOf Try.f76) (pl76 k) (sp76 k) x).eval := by kernel_rfl
theorem eq76 (k : Nat) (x : AT (sp76 k).ps) : (fnT Try.prog (cfg76 k) lim76 Try.f76 (bodyOf Try.f76) (pl76 k) (sp76 k) x).left = (fnT Try.prog (cfg76 k) lim76 Try.f76 (bodyOf Try.f76) (pl76 k) (sp76 k) x).right := by kernel_rfl
theorem v76 (k : Nat) : Callable Try.prog 76 ∧ Valid Try.prog 76 (sp76 k) :=
  fn_ok (cfg76_ok k) (f := 76) (fn := Try.f76) (by kernel_rfl) (c := bodyOf Try.f76) (by kernel_rfl) (by kernel_rfl) rfl rfl (Nat.le_of_ble_eq_true rfl) (Nat.le_of_ble_eq_true rfl) (p := pl76 k) (Eq.mpr (pq76 k) ⟨(planOK_go _), ⟨⟨(planOK_go _), (fr76_0_ok k)⟩, (planOK_go _)⟩⟩) fun x => ⟨ev76 k x, eq76 k x⟩
/-! f66 slices.ContainsFunc[[]hyphen/api.Vec,hyphen/api.Vec] -/
def F66 (k : Nat) (a0 : (List (List Int))) : Option ((Bool × Unit) × Unit) :=
  (F76 k a0).bind fun r1 =>
  some (((decide (r1.1.1 ≥ (0 : Int))), ()), ())
def sp66 (k : Nat) : Spec := ⟨[.val (.sl false 57 (.arr 3 (.int .i64)) none), .clo 67 []], [.val .bool], fun x => F66 k x.1⟩
def lim66 : Lim := ⟨9, 2, false, false⟩
def cfg66 (k : Nat) : Nat → Option Spec := cfgL [(76, sp76 k)]
theorem cfg66_ok (k : Nat) : CfgOK Try.prog (cfg66 k) := cfgL_cons (v76 k) (cfgL_nil)
def pl66 (k : Nat) : Plan := .go
theorem pq66 (k : Nat) : PlanOK Try.prog lim66 (pl66 k) (codeAt (bodyOf Try.f66) []) = PlanOK Try.prog lim66 .go (codeAt (bodyOf Try.f66) []) := by kernel_rfl
theorem ev66 (k : Nat) (x : AT (sp66 k).ps) : (sp66 k).impl x = (fnT Try.prog (cfg66 k) lim66 Try.f66 (bodyOf Try.f66) (pl66 k) (sp66 k) x).eval := by kernel_rfl
theorem eq66 (k : Nat) (x : AT (sp66 k).ps) : (fnT Try.prog (cfg66 k) lim66 Try.f66 (bodyOf Try.f66) (pl66 k) (sp66 k) x).left = (fnT Try.prog (cfg66 k) lim66 Try.f66 (bodyOf Try.f66) (pl66 k) (sp66 k) x).right := by kernel_rfl
theorem v66 (k : Nat) : Callable Try.prog 66 ∧ Valid Try.prog 66 (sp66 k) :=
  fn_ok (cfg66_ok k) (f := 66) (fn := Try.f66) (by kernel_rfl) (c := bodyOf Try.f66) (by kernel_rfl) (by kernel_rfl) rfl rfl (Nat.le_of_ble_eq_true rfl) (Nat.le_of_ble_eq_true rfl) (p := pl66 k) (Eq.mpr (pq66 k) (planOK_go _)) fun x => ⟨ev66 k x, eq66 k x⟩
/-! f46 hyphen/table.Right -/
def F46_0 (k : Nat) : Nat → (List Int) → Int → Int → ((List Int) × ((List Int) × (((List (List Int)) × ((List Int) × Unit)) × (((List (List Int)) × ((List (List (List Int))) × Unit)) × Unit)))) → Option ((Unit × (((List Int) × ((List Int) × (((List (List Int)) × ((List Int) × Unit)) × (((List (List Int)) × ((List (List (List Int))) × Unit)) × Unit)))) × Unit)) ⊕ ((Bool × Unit) × Unit))
  | 0, _, _, _, _ => none
  | n + 1, t42, t43, t44, c1 =>
    bif (decide (t44 < t43)) then
      if 0 ≤ t44 ∧ t44 < ((List.length t42 : Nat) : Int) then
        let x9 := (decide ((List.getD t42 (Int.toNat t44) (0 : Int)) > (1114111 : Int)))
        bif x9 then
          some (.inr ((false, ()), ()))
        else
          bif (decide (t44 > (0 : Int))) then
            if 0 ≤ (IntKind.wrap .i64 (t44 - (1 : Int))) ∧ (IntKind.wrap .i64 (t44 - (1 : Int))) < ((List.length c1.1 : Nat) : Int) then
              let x10 := (List.getD c1.1 (Int.toNat (IntKind.wrap .i64 (t44 - (1 : Int)))) (0 : Int))
              let x11 := (decide ((List.getD t42 (Int.toNat t44) (0 : Int)) ≤ x10))
              bif x11 then
                some (.inr ((false, ()), ()))
              else
                (F46_0 k n t42 t43 (IntKind.wrap .i64 (t44 + (1 : Int))) c1).bind some
            else none
          else
            (F46_0 k n t42 t43 (IntKind.wrap .i64 (t44 + (1 : Int))) c1).bind some
      else none
    else
      some (.inl ((), (c1, ())))
def fr46_0 (k : Nat) : Frag := ⟨⟨[], [(1, .ptr 1 []), (42, .val (.sl false 3 (.int .i64) none)), (43, .val (.int .i64)), (44, .val (.int .i64))], [(1, some 32, (.pair (.sl false 3 (.int .i64) none) (.pair (.sl false 3 (.int .i64) none) (.pair (.pair (.sl false 22 (.sl false 3 (.int .i64) none) none) (.pair (.sl false 3 (.int .i64) none) .unit)) (.pair (.pair (.sl false 22 (.sl false 3 (.int .i64) none) none) (.pair (.sl false 36 (.sl false 57 (.arr 3 (.int .i64)) none) none) .unit)) .unit)))))]⟩, [(.exit 0, ⟨[], [(1, .ptr 1 [])], [(1, some 32, (.pair (.sl false 3 (.int .i64) none) (.pair (.sl false 3 (.int .i64) none) (.pair (.pair (.sl false 22 (.sl false 3 (.int .i64) none) none) (.pair (.sl false 3 (.int .i64) none) .unit)) (.pair (.pair (.sl false 22 (.sl false 3 (.int .i64) none) none) (.pair (.sl false 36 (.sl false 57 (.arr 3 (.int .i64)) none) none) .unit)) .unit)))))]⟩), (.ret, ⟨[], [(2, .val .bool)], []⟩)], fun v => F46_0 k k v.1.1 v.1.2.1 v.1.2.2.1 v.2.1⟩
def F46_1 (k : Nat) : Nat → Int → (List (List (List Int))) → Int → Int → Option ((Unit × Unit) ⊕ ((Bool × Unit) × Unit))
  | 0, _, _, _, _ => none
  | n + 1, t6, t120, t121, t122 =>
    bif (decide (t122 < t121)) then
      if 0 ≤ t122 ∧ t122 < ((List.length t120 : Nat) : Int) then
        let x25 := (List.getD t120 (Int.toNat t122) ([] : (List (List Int))))
        let x26 := (((List.length x25 : Nat) : Int) != (IntKind.wrap .i64 (t6 + (1 : Int))))
        bif x26 then
          some (.inr ((false, ()), ()))
        else
          (F66 k x25).bind fun r27 =>
          bif r27.1.1 then
            some (.inr ((false, ()), ()))
          else
            (F46_1 k n t6 t120 t121 (IntKind.wrap .i64 (t122 + (1 : Int)))).bind some
      else none
    else
      some (.inl ((), ()))
def fr46_1 (k : Nat) : Frag := ⟨⟨[], [(6, .val (.int .i64)), (120, .val (.sl false 36 (.sl false 57 (.arr 3 (.int .i64)) none) none)), (121, .val (.int .i64)), (122, .val (.int .i64))], []⟩, [(.exit 2, ⟨[], [], []⟩), (.ret, ⟨[], [(2, .val .bool)], []⟩)], fun v => F46_1 k k v.1.1 v.1.2.1 v.1.2.2.1 v.1.2.2.2.1⟩
def F46 (k : Nat) (a0 : ((List Int) × ((List Int) × (((List (List Int)) × ((List Int) × Unit)) × (((List (List Int)) × ((List (List (List Int))) × Unit)) × Unit))))) : Option ((Bool × Unit) × Unit) :=
  let x1 := (decide (((List.length a0.1 : Nat) : Int) < (1 : Int)))
  bif x1 then
    some ((false, ()), ())
  else
    let x2 := (decide (((List.length a0.1 : Nat) : Int) > (100000 : Int)))
    bif x2 then
      some ((false, ()), ())
    else
      if 0 ≤ (0 : Int) ∧ (0 : Int) < ((List.length a0.1 : Nat) : Int) then
        let x3 := (List.getD a0.1 (Int.toNat (0 : Int)) (0 : Int))
        bif (x3 != (0 : Int)) then
          some ((false, ()), ())
        else
          let x4 := (((List.length a0.2.1 : Nat) : Int) != ((List.length a0.1 : Nat) : Int))
          bif x4 then
            some ((false, ()), ())
          else
            (F61 k a0.2.1).bind fun r5 =>
            bif (!r5.1.1) then
              some ((false, ()), ())
            else
              (F46_0 k k a0.1 ((List.length a0.1 : Nat) : Int) (0 : Int) a0).bind fun r12 =>
              match r12 with
              | .inl r13 =>
                let y14 := r13.2.1
                (F62 k y14.2.1).bind fun r15 =>
                (F63 k y14.2.2.1.1 r15.1.1).bind fun r16 =>
                bif (!r16.1.1) then
                  some ((false, ()), ())
                else
                  let x17 := (((List.length y14.2.2.1.2.1 : Nat) : Int) != ((List.length y14.2.2.1.1 : Nat) : Int))
                  bif x17 then
                    some ((false, ()), ())
                  else
                    (F63 k y14.2.2.2.1.1 r15.1.1).bind fun r18 =>
                    bif (!r18.1.1) then
                      some ((false, ()), ())
                    else
                      let x19 := (((List.length y14.2.2.2.1.2.1 : Nat) : Int) != ((List.length y14.2.2.2.1.1 : Nat) : Int))
                      bif x19 then
                        some ((false, ()), ())
                      else
                        (F64 k y14.2.2.1.2.1).bind fun r20 =>
                        (F65 k y14.2.2.1.2.1).bind fun r21 =>
                        bif (decide (r21.1.1 < (0 : Int))) then
                          some ((false, ()), ())
                        else
                          bif (decide (r20.1.1 ≥ (100000 : Int))) then
                            some ((false, ()), ())
                          else
                            (F46_1 k k r20.1.1 y14.2.2.2.1.2.1 ((List.length y14.2.2.2.1.2.1 : Nat) : Int) (0 : Int)).bind fun r28 =>
                            match r28 with
                            | .inl r29 =>
                              some ((true, ()), ())
                            | .inr r29 =>
                              let y30 := r29.1.1
                              some ((y30, ()), ())
              | .inr r13 =>
                let y31 := r13.1.1
                some ((y31, ()), ())
      else none
def sp46 (k : Nat) : Spec := ⟨[.val (.pair (.sl false 3 (.int .i64) none) (.pair (.sl false 3 (.int .i64) none) (.pair (.pair (.sl false 22 (.sl false 3 (.int .i64) none) none) (.pair (.sl false 3 (.int .i64) none) .unit)) (.pair (.pair (.sl false 22 (.sl false 3 (.int .i64) none) none) (.pair (.sl false 36 (.sl false 57 (.arr 3 (.int .i64)) none) none) .unit)) .unit))))], [.val .bool], fun x => F46 k x.1⟩
def lim46 : Lim := ⟨136, 1, false, false⟩
def cfg46 (k : Nat) : Nat → Option Spec := cfgL [(61, sp61 k), (62, sp62 k), (63, sp63 k), (64, sp64 k), (65, sp65 k), (66, sp66 k)]
theorem cfg46_ok (k : Nat) : CfgOK Try.prog (cfg46 k) := cfgL_cons (v61 k) (cfgL_cons (v62 k) (cfgL_cons (v63 k) (cfgL_cons (v64 k) (cfgL_cons (v65 k) (cfgL_cons (v66 k) (cfgL_nil))))))
def pl46_0 (k : Nat) : Plan := .go
theorem pq46_0 (k : Nat) : PlanOK Try.prog lim46 (pl46_0 k) (codeAt (bodyOf Try.f46) [.r, .r, .l, .r, .s, .b]) = PlanOK Try.prog lim46 .go (codeAt (bodyOf Try.f46) [.r, .r, .l, .r, .s, .b]) := by kernel_rfl
theorem ps46_0 (k m : Nat) (v : (fr46_0 k).sh.V) : F46_0 k (m + 1) v.1.1 v.1.2.1 v.1.2.2.1 v.2.1 = (body Try.prog (stepper Try.prog (cfg46 k) lim46) (pl46_0 k) (codeAt (bodyOf Try.f46) [.r, .r, .l, .r, .s, .b]) ((fr46_0 k).sh.st v) (loopK (fr46_0 k) fun v => F46_0 k m v.1.1 v.1.2.1 v.1.2.2.1 v.2.1)).eval := by kernel_rfl
theorem pe46_0 (k m : Nat) (v : (fr46_0 k).sh.V) : (body Try.prog (stepper Try.prog (cfg46 k) lim46) (pl46_0 k) (codeAt (bodyOf Try.f46) [.r, .r, .l, .r, .s, .b]) ((fr46_0 k).sh.st v) (loopK (fr46_0 k) fun v => F46_0 k m v.1.1 v.1.2.1 v.1.2.2.1 v.2.1)).left = (body Try.prog (stepper Try.prog (cfg46 k) lim46) (pl46_0 k) (codeAt (bodyOf Try.f46) [.r, .r, .l, .r, .s, .b]) ((fr46_0 k).sh.st v) (loopK (fr46_0 k) fun v => F46_0 k m v.1.1 v.1.2.1 v.1.2.2.1 v.2.1)).right := by kernel_rfl
theorem fr46_0_ok (k : Nat) : FragOK Try.prog lim46 (fr46_0 k) (codeAt (bodyOf Try.f46) [.r, .r, .l, .r, .s]) :=
  frag_cast (by kernel_rfl) (loop_ok (cfg46_ok k) (Eq.mpr (pq46_0 k) (planOK_go _)) (fun m v => F46_0 k m v.1.1 v.1.2.1 v.1.2.2.1 v.2.1) k (fun _ => rfl) (fun _ => rfl) fun m v => ⟨ps46_0 k m v, pe46_0 k m v⟩)
def pl46_1 (k : Nat) : Plan := .go
theorem pq46_1 (k : Nat) : PlanOK Try.prog lim46 (pl46_1 k) (codeAt (bodyOf Try.f46) [.r, .r, .r, .r, .r, .r, .r, .l, .r, .s, .b]) = PlanOK Try.prog lim46 .go (codeAt (bodyOf Try.f46) [.r, .r, .r, .r, .r, .r, .r, .l, .r, .s, .b]) := by kernel_rfl
theorem ps46_1 (k m : Nat) (v : (fr46_1 k).sh.V) : F46_1 k (m + 1) v.1.1 v.1.2.1 v.1.2.2.1 v.1.2.2.2.1 = (body Try.prog (stepper Try.prog (cfg46 k) lim46) (pl46_1 k) (codeAt (bodyOf Try.f46) [.r, .r, .r, .r, .r, .r, .r, .l, .r, .s, .b]) ((fr46_1 k).sh.st v) (loopK (fr46_1 k) fun v => F46_1 k m v.1.1 v.1.2.1 v.1.2.2.1 v.1.2.2.2.1)).eval := by kernel_rfl
theorem pe46_1 (k m : Nat) (v : (fr46_1 k).sh.V) : (body Try.prog (stepper Try.prog (cfg46 k) lim46) (pl46_1 k) (codeAt (bodyOf Try.f46) [.r, .r, .r, .r, .r, .r, .r, .l, .r, .s, .b]) ((fr46_1 k).sh.st v) (loopK (fr46_1 k) fun v => F46_1 k m v.1.1 v.1.2.1 v.1.2.2.1 v.1.2.2.2.1)).left = (body Try.prog (stepper Try.prog (cfg46 k) lim46) (pl46_1 k) (codeAt (bodyOf Try.f46) [.r, .r, .r, .r, .r, .r, .r, .l, .r, .s, .b]) ((fr46_1 k).sh.st v) (loopK (fr46_1 k) fun v => F46_1 k m v.1.1 v.1.2.1 v.1.2.2.1 v.1.2.2.2.1)).right := by kernel_rfl
theorem fr46_1_ok (k : Nat) : FragOK Try.prog lim46 (fr46_1 k) (codeAt (bodyOf Try.f46) [.r, .r, .r, .r, .r, .r, .r, .l, .r, .s]) :=
  frag_cast (by kernel_rfl) (loop_ok (cfg46_ok k) (Eq.mpr (pq46_1 k) (planOK_go _)) (fun m v => F46_1 k m v.1.1 v.1.2.1 v.1.2.2.1 v.1.2.2.2.1) k (fun _ => rfl) (fun _ => rfl) fun m v => ⟨ps46_1 k m v, pe46_1 k m v⟩)
def pl46 (k : Nat) : Plan := (.seq .go (.seq .go (.seq (.seq .go (.sub (.frag (fr46_0 k)))) (.seq .go (.seq .go (.seq .go (.seq .go (.seq (.seq .go (.sub (.frag (fr46_1 k)))) .go))))))))
theorem pq46 (k : Nat) : PlanOK Try.prog lim46 (pl46 k) (codeAt (bodyOf Try.f46) []) = (PlanOK Try.prog lim46 .go (codeAt (bodyOf Try.f46) [.l]) ∧ (PlanOK Try.prog lim46 .go (codeAt (bodyOf Try.f46) [.r, .l]) ∧ ((PlanOK Try.prog lim46 .go (codeAt (bodyOf Try.f46) [.r, .r, .l, .l]) ∧ FragOK Try.prog lim46 (fr46_0 k) (codeAt (bodyOf Try.f46) [.r, .r, .l, .r, .s])) ∧ (PlanOK Try.prog lim46 .go (codeAt (bodyOf Try.f46) [.r, .r, .r, .l]) ∧ (PlanOK Try.prog lim46 .go (codeAt (bodyOf Try.f46) [.r, .r, .r, .r, .l]) ∧ (PlanOK Try.prog lim46 .go (codeAt (bodyOf Try.f46) [.r, .r, .r, .r, .r, .l]) ∧ (PlanOK Try.prog lim46 .go (codeAt (bodyOf Try.f46) [.r, .r, .r, .r, .r, .r, .l]) ∧ ((PlanOK Try.prog lim46 .go (codeAt (bodyOf Try.f46) [.r, .r, .r, .r, .r, .r, .r, .l, .l]) ∧ FragOK Try.prog lim46 (fr46_1 k) (codeAt (bodyOf Try.f46) [.r, .r, .r, .r, .r, .r, .r, .l, .r, .s])) ∧ PlanOK Try.prog lim46 .go (codeAt (bodyOf Try.f46) [.r, .r, .r, .r, .r, .r, .r, .r]))))))))) := by kernel_rfl
theorem ev46 (k : Nat) (x : AT (sp46 k).ps) : (sp46 k).impl x = (fnT Try.prog (cfg46 k) lim46 Try.f46 (bodyOf Try.f46) (pl46 k) (sp46 k) x).eval := by kernel_rfl
theorem eq46 (k : Nat) (x : AT (sp46 k).ps) : (fnT Try.prog (cfg46 k) lim46 Try.f46 (bodyOf Try.f46) (pl46 k) (sp46 k) x).left = (fnT Try.prog (cfg46 k) lim46 Try.f46 (bodyOf Try.f46) (pl46 k) (sp46 k) x).right := by kernel_rfl
theorem v46 (k : Nat) : Callable Try.prog 46 ∧ Valid Try.prog 46 (sp46 k) :=
  fn_ok (cfg46_ok k) (f := 46) (fn := Try.f46) (by kernel_rfl) (c := bodyOf Try.f46) (by kernel_rfl) (by kernel_rfl) rfl rfl (Nat.le_of_ble_eq_true rfl) (Nat.le_of_ble_eq_true rfl) (p := pl46 k) (Eq.mpr (pq46 k) ⟨(planOK_go _), ⟨(planOK_go _), ⟨⟨(planOK_go _), (fr46_0_ok k)⟩, ⟨(planOK_go _), ⟨(planOK_go _), ⟨(planOK_go _), ⟨(planOK_go _), ⟨⟨(planOK_go _), (fr46_1_ok k)⟩, (planOK_go _)⟩⟩⟩⟩⟩⟩⟩⟩) fun x => ⟨ev46 k x, eq46 k x⟩
/-! f78 hyphen/utf.behind -/
def F78 (k : Nat) (a0 : Int) : Option (((Int × (Int × (Int × Unit))) × Unit) × Unit) :=
  bif (decide (a0 ≥ (194 : Int))) then
    bif (decide (a0 ≤ (223 : Int))) then
      bif (a0 == (224 : Int)) then
        some ((((1 : Int), ((160 : Int), ((191 : Int), ()))), ()), ())
      else
        bif (a0 == (237 : Int)) then
          some ((((1 : Int), ((128 : Int), ((159 : Int), ()))), ()), ())
        else
          bif (a0 == (240 : Int)) then
            some ((((1 : Int), ((144 : Int), ((191 : Int), ()))), ()), ())
          else
            bif (a0 == (244 : Int)) then
              some ((((1 : Int), ((128 : Int), ((143 : Int), ()))), ()), ())
            else
              some ((((1 : Int), ((128 : Int), ((191 : Int), ()))), ()), ())
    else
      bif (decide (a0 ≥ (224 : Int))) then
        bif (decide (a0 ≤ (239 : Int))) then
          bif (a0 == (224 : Int)) then
            some ((((2 : Int), ((160 : Int), ((191 : Int), ()))), ()), ())
          else
            bif (a0 == (237 : Int)) then
              some ((((2 : Int), ((128 : Int), ((159 : Int), ()))), ()), ())
            else
              bif (a0 == (240 : Int)) then
                some ((((2 : Int), ((144 : Int), ((191 : Int), ()))), ()), ())
              else
                bif (a0 == (244 : Int)) then
                  some ((((2 : Int), ((128 : Int), ((143 : Int), ()))), ()), ())
                else
                  some ((((2 : Int), ((128 : Int), ((191 : Int), ()))), ()), ())
        else
          bif (decide (a0 ≥ (240 : Int))) then
            bif (decide (a0 ≤ (244 : Int))) then
              bif (a0 == (224 : Int)) then
                some ((((3 : Int), ((160 : Int), ((191 : Int), ()))), ()), ())
              else
                bif (a0 == (237 : Int)) then
                  some ((((3 : Int), ((128 : Int), ((159 : Int), ()))), ()), ())
                else
                  bif (a0 == (240 : Int)) then
                    some ((((3 : Int), ((144 : Int), ((191 : Int), ()))), ()), ())
                  else
                    bif (a0 == (244 : Int)) then
                      some ((((3 : Int), ((128 : Int), ((143 : Int), ()))), ()), ())
                    else
                      some ((((3 : Int), ((128 : Int), ((191 : Int), ()))), ()), ())
            else
              bif (a0 == (224 : Int)) then
                some ((((0 : Int), ((160 : Int), ((191 : Int), ()))), ()), ())
              else
                bif (a0 == (237 : Int)) then
                  some ((((0 : Int), ((128 : Int), ((159 : Int), ()))), ()), ())
                else
                  bif (a0 == (240 : Int)) then
                    some ((((0 : Int), ((144 : Int), ((191 : Int), ()))), ()), ())
                  else
                    bif (a0 == (244 : Int)) then
                      some ((((0 : Int), ((128 : Int), ((143 : Int), ()))), ()), ())
                    else
                      some ((((0 : Int), ((128 : Int), ((191 : Int), ()))), ()), ())
          else
            bif (a0 == (224 : Int)) then
              some ((((0 : Int), ((160 : Int), ((191 : Int), ()))), ()), ())
            else
              bif (a0 == (237 : Int)) then
                some ((((0 : Int), ((128 : Int), ((159 : Int), ()))), ()), ())
              else
                bif (a0 == (240 : Int)) then
                  some ((((0 : Int), ((144 : Int), ((191 : Int), ()))), ()), ())
                else
                  bif (a0 == (244 : Int)) then
                    some ((((0 : Int), ((128 : Int), ((143 : Int), ()))), ()), ())
                  else
                    some ((((0 : Int), ((128 : Int), ((191 : Int), ()))), ()), ())
      else
        bif (decide (a0 ≥ (240 : Int))) then
          bif (decide (a0 ≤ (244 : Int))) then
            bif (a0 == (224 : Int)) then
              some ((((3 : Int), ((160 : Int), ((191 : Int), ()))), ()), ())
            else
              bif (a0 == (237 : Int)) then
                some ((((3 : Int), ((128 : Int), ((159 : Int), ()))), ()), ())
              else
                bif (a0 == (240 : Int)) then
                  some ((((3 : Int), ((144 : Int), ((191 : Int), ()))), ()), ())
                else
                  bif (a0 == (244 : Int)) then
                    some ((((3 : Int), ((128 : Int), ((143 : Int), ()))), ()), ())
                  else
                    some ((((3 : Int), ((128 : Int), ((191 : Int), ()))), ()), ())
          else
            bif (a0 == (224 : Int)) then
              some ((((0 : Int), ((160 : Int), ((191 : Int), ()))), ()), ())
            else
              bif (a0 == (237 : Int)) then
                some ((((0 : Int), ((128 : Int), ((159 : Int), ()))), ()), ())
              else
                bif (a0 == (240 : Int)) then
                  some ((((0 : Int), ((144 : Int), ((191 : Int), ()))), ()), ())
                else
                  bif (a0 == (244 : Int)) then
                    some ((((0 : Int), ((128 : Int), ((143 : Int), ()))), ()), ())
                  else
                    some ((((0 : Int), ((128 : Int), ((191 : Int), ()))), ()), ())
        else
          bif (a0 == (224 : Int)) then
            some ((((0 : Int), ((160 : Int), ((191 : Int), ()))), ()), ())
          else
            bif (a0 == (237 : Int)) then
              some ((((0 : Int), ((128 : Int), ((159 : Int), ()))), ()), ())
            else
              bif (a0 == (240 : Int)) then
                some ((((0 : Int), ((144 : Int), ((191 : Int), ()))), ()), ())
              else
                bif (a0 == (244 : Int)) then
                  some ((((0 : Int), ((128 : Int), ((143 : Int), ()))), ()), ())
                else
                  some ((((0 : Int), ((128 : Int), ((191 : Int), ()))), ()), ())
  else
    bif (decide (a0 ≥ (224 : Int))) then
      bif (decide (a0 ≤ (239 : Int))) then
        bif (a0 == (224 : Int)) then
          some ((((2 : Int), ((160 : Int), ((191 : Int), ()))), ()), ())
        else
          bif (a0 == (237 : Int)) then
            some ((((2 : Int), ((128 : Int), ((159 : Int), ()))), ()), ())
          else
            bif (a0 == (240 : Int)) then
              some ((((2 : Int), ((144 : Int), ((191 : Int), ()))), ()), ())
            else
              bif (a0 == (244 : Int)) then
                some ((((2 : Int), ((128 : Int), ((143 : Int), ()))), ()), ())
              else
                some ((((2 : Int), ((128 : Int), ((191 : Int), ()))), ()), ())
      else
        bif (decide (a0 ≥ (240 : Int))) then
          bif (decide (a0 ≤ (244 : Int))) then
            bif (a0 == (224 : Int)) then
              some ((((3 : Int), ((160 : Int), ((191 : Int), ()))), ()), ())
            else
              bif (a0 == (237 : Int)) then
                some ((((3 : Int), ((128 : Int), ((159 : Int), ()))), ()), ())
              else
                bif (a0 == (240 : Int)) then
                  some ((((3 : Int), ((144 : Int), ((191 : Int), ()))), ()), ())
                else
                  bif (a0 == (244 : Int)) then
                    some ((((3 : Int), ((128 : Int), ((143 : Int), ()))), ()), ())
                  else
                    some ((((3 : Int), ((128 : Int), ((191 : Int), ()))), ()), ())
          else
            bif (a0 == (224 : Int)) then
              some ((((0 : Int), ((160 : Int), ((191 : Int), ()))), ()), ())
            else
              bif (a0 == (237 : Int)) then
                some ((((0 : Int), ((128 : Int), ((159 : Int), ()))), ()), ())
              else
                bif (a0 == (240 : Int)) then
                  some ((((0 : Int), ((144 : Int), ((191 : Int), ()))), ()), ())
                else
                  bif (a0 == (244 : Int)) then
                    some ((((0 : Int), ((128 : Int), ((143 : Int), ()))), ()), ())
                  else
                    some ((((0 : Int), ((128 : Int), ((191 : Int), ()))), ()), ())
        else
          bif (a0 == (224 : Int)) then
            some ((((0 : Int), ((160 : Int), ((191 : Int), ()))), ()), ())
          else
            bif (a0 == (237 : Int)) then
              some ((((0 : Int), ((128 : Int), ((159 : Int), ()))), ()), ())
            else
              bif (a0 == (240 : Int)) then
                some ((((0 : Int), ((144 : Int), ((191 : Int), ()))), ()), ())
              else
                bif (a0 == (244 : Int)) then
                  some ((((0 : Int), ((128 : Int), ((143 : Int), ()))), ()), ())
                else
                  some ((((0 : Int), ((128 : Int), ((191 : Int), ()))), ()), ())
    else
      bif (decide (a0 ≥ (240 : Int))) then
        bif (decide (a0 ≤ (244 : Int))) then
          bif (a0 == (224 : Int)) then
            some ((((3 : Int), ((160 : Int), ((191 : Int), ()))), ()), ())
          else
            bif (a0 == (237 : Int)) then
              some ((((3 : Int), ((128 : Int), ((159 : Int), ()))), ()), ())
            else
              bif (a0 == (240 : Int)) then
                some ((((3 : Int), ((144 : Int), ((191 : Int), ()))), ()), ())
              else
                bif (a0 == (244 : Int)) then
                  some ((((3 : Int), ((128 : Int), ((143 : Int), ()))), ()), ())
                else
                  some ((((3 : Int), ((128 : Int), ((191 : Int), ()))), ()), ())
        else
          bif (a0 == (224 : Int)) then
            some ((((0 : Int), ((160 : Int), ((191 : Int), ()))), ()), ())
          else
            bif (a0 == (237 : Int)) then
              some ((((0 : Int), ((128 : Int), ((159 : Int), ()))), ()), ())
            else
              bif (a0 == (240 : Int)) then
                some ((((0 : Int), ((144 : Int), ((191 : Int), ()))), ()), ())
              else
                bif (a0 == (244 : Int)) then
                  some ((((0 : Int), ((128 : Int), ((143 : Int), ()))), ()), ())
                else
                  some ((((0 : Int), ((128 : Int), ((191 : Int), ()))), ()), ())
      else
        bif (a0 == (224 : Int)) then
          some ((((0 : Int), ((160 : Int), ((191 : Int), ()))), ()), ())
        else
          bif (a0 == (237 : Int)) then
            some ((((0 : Int), ((128 : Int), ((159 : Int), ()))), ()), ())
          else
            bif (a0 == (240 : Int)) then
              some ((((0 : Int), ((144 : Int), ((191 : Int), ()))), ()), ())
            else
              bif (a0 == (244 : Int)) then
                some ((((0 : Int), ((128 : Int), ((143 : Int), ()))), ()), ())
              else
                some ((((0 : Int), ((128 : Int), ((191 : Int), ()))), ()), ())
def sp78 (k : Nat) : Spec := ⟨[.val (.int .u8)], [.val (.pair (.int .i64) (.pair (.int .u8) (.pair (.int .u8) .unit)))], fun x => F78 k x.1⟩
def lim78 : Lim := ⟨43, 1, false, false⟩
def cfg78 (k : Nat) : Nat → Option Spec := cfgL []
theorem cfg78_ok (k : Nat) : CfgOK Try.prog (cfg78 k) := cfgL_nil
def pl78 (k : Nat) : Plan := .go
theorem pq78 (k : Nat) : PlanOK Try.prog lim78 (pl78 k) (codeAt (bodyOf Try.f78) []) = PlanOK Try.prog lim78 .go (codeAt (bodyOf Try.f78) []) := by kernel_rfl
theorem ev78 (k : Nat) (x : AT (sp78 k).ps) : (sp78 k).impl x = (fnT Try.prog (cfg78 k) lim78 Try.f78 (bodyOf Try.f78) (pl78 k) (sp78 k) x).eval := by kernel_rfl
theorem eq78 (k : Nat) (x : AT (sp78 k).ps) : (fnT Try.prog (cfg78 k) lim78 Try.f78 (bodyOf Try.f78) (pl78 k) (sp78 k) x).left = (fnT Try.prog (cfg78 k) lim78 Try.f78 (bodyOf Try.f78) (pl78 k) (sp78 k) x).right := by kernel_rfl
theorem v78 (k : Nat) : Callable Try.prog 78 ∧ Valid Try.prog 78 (sp78 k) :=
  fn_ok (cfg78_ok k) (f := 78) (fn := Try.f78) (by kernel_rfl) (c := bodyOf Try.f78) (by kernel_rfl) (by kernel_rfl) rfl rfl (Nat.le_of_ble_eq_true rfl) (Nat.le_of_ble_eq_true rfl) (p := pl78 k) (Eq.mpr (pq78 k) (planOK_go _)) fun x => ⟨ev78 k x, eq78 k x⟩
/-! f79 (hyphen/utf.front).may -/
def F79 (k : Nat) (a0 : (Int × (Int × (Int × Unit)))) (a1 : Int) (a2 : Int) : Option ((Bool × Unit) × Unit) :=
  bif (a1 == (0 : Int)) then
    bif (decide (a2 ≥ a0.2.1)) then
      some (((decide (a2 ≤ a0.2.2.1)), ()), ())
    else
      some ((false, ()), ())
  else
    bif (decide (a2 ≥ (128 : Int))) then
      some (((decide (a2 ≤ (191 : Int))), ()), ())
    else
      some ((false, ()), ())
def sp79 (k : Nat) : Spec := ⟨[.val (.pair (.int .i64) (.pair (.int .u8) (.pair (.int .u8) .unit))), .val (.int .i64), .val (.int .u8)], [.val .bool], fun x => F79 k x.1 x.2.1 x.2.2.1⟩
def lim79 : Lim := ⟨25, 3, false, false⟩
def cfg79 (k : Nat) : Nat → Option Spec := cfgL []
theorem cfg79_ok (k : Nat) : CfgOK Try.prog (cfg79 k) := cfgL_nil
def pl79 (k : Nat) : Plan := .go
theorem pq79 (k : Nat) : PlanOK Try.prog lim79 (pl79 k) (codeAt (bodyOf Try.f79) []) = PlanOK Try.prog lim79 .go (codeAt (bodyOf Try.f79) []) := by kernel_rfl
theorem ev79 (k : Nat) (x : AT (sp79 k).ps) : (sp79 k).impl x = (fnT Try.prog (cfg79 k) lim79 Try.f79 (bodyOf Try.f79) (pl79 k) (sp79 k) x).eval := by kernel_rfl
theorem eq79 (k : Nat) (x : AT (sp79 k).ps) : (fnT Try.prog (cfg79 k) lim79 Try.f79 (bodyOf Try.f79) (pl79 k) (sp79 k) x).left = (fnT Try.prog (cfg79 k) lim79 Try.f79 (bodyOf Try.f79) (pl79 k) (sp79 k) x).right := by kernel_rfl
theorem v79 (k : Nat) : Callable Try.prog 79 ∧ Valid Try.prog 79 (sp79 k) :=
  fn_ok (cfg79_ok k) (f := 79) (fn := Try.f79) (by kernel_rfl) (c := bodyOf Try.f79) (by kernel_rfl) (by kernel_rfl) rfl rfl (Nat.le_of_ble_eq_true rfl) (Nat.le_of_ble_eq_true rfl) (p := pl79 k) (Eq.mpr (pq79 k) (planOK_go _)) fun x => ⟨ev79 k x, eq79 k x⟩
/-! f69 hyphen/utf.long -/
def F69_0 (k : Nat) : Nat → ByteArray → (Int × (Int × (Int × Unit))) → Int → (Int × (Int × (Int × Unit))) → Option (((Int × Unit) × Unit))
  | 0, _, _, _, _ => none
  | n + 1, t0, t4, t5, c3 =>
    bif (decide (t5 < c3.1)) then
      let x5 := (decide ((IntKind.wrap .i64 (t5 + (1 : Int))) < ((ByteArray.size t0 : Nat) : Int)))
      bif x5 then
        if 0 ≤ (IntKind.wrap .i64 (t5 + (1 : Int))) ∧ (IntKind.wrap .i64 (t5 + (1 : Int))) < ((ByteArray.size t0 : Nat) : Int) then
          let x6 := (byteAt t0 (IntKind.wrap .i64 (t5 + (1 : Int))))
          (F79 k t4 t5 x6).bind fun r7 =>
          bif r7.1.1 then
            (F69_0 k n t0 t4 (IntKind.wrap .i64 (t5 + (1 : Int))) c3).bind some
          else
            some ((t5, ()), ())
        else none
      else
        some ((t5, ()), ())
    else
      some ((t5, ()), ())
def fr69_0 (k : Nat) : Frag := ⟨⟨[], [(0, .val .str), (3, .ptr 3 []), (4, .bnd 79 (.pair (.int .i64) (.pair (.int .u8) (.pair (.int .u8) .unit)))), (5, .val (.int .i64))], [(3, some 102, (.pair (.int .i64) (.pair (.int .u8) (.pair (.int .u8) .unit))))]⟩, [(.exit 0, ⟨[], [(5, .val (.int .i64))], []⟩)], fun v => F69_0 k k v.1.1 v.1.2.1 v.1.2.2.1 v.2.1⟩
def F69 (k : Nat) (a0 : ByteArray) : Option ((Int × Unit) × Unit) :=
  if 0 ≤ (0 : Int) ∧ (0 : Int) < ((ByteArray.size a0 : Nat) : Int) then
    (F78 k (byteAt a0 (0 : Int))).bind fun r1 =>
    (F69_0 k k a0 r1.1.1 (0 : Int) r1.1.1).bind fun r8 =>
    let y9 := r8.1.1
    some (((IntKind.wrap .i64 (y9 + (1 : Int))), ()), ())
  else none
def sp69 (k : Nat) : Spec := ⟨[.val .str], [.val (.int .i64)], fun x => F69 k x.1⟩
def lim69 : Lim := ⟨35, 1, false, false⟩
def cfg69 (k : Nat) : Nat → Option Spec := cfgL [(78, sp78 k), (79, sp79 k)]
theorem cfg69_ok (k : Nat) : CfgOK Try.prog (cfg69 k) := cfgL_cons (v78 k) (cfgL_cons (v79 k) (cfgL_nil))
def pl69_0 (k : Nat) : Plan := .go
theorem pq69_0 (k : Nat) : PlanOK Try.prog lim69 (pl69_0 k) (codeAt (bodyOf Try.f69) [.r, .r, .r, .r, .l, .s, .b]) = PlanOK Try.prog lim69 .go (codeAt (bodyOf Try.f69) [.r, .r, .r, .r, .l, .s, .b]) := by kernel_rfl
theorem ps69_0 (k m : Nat) (v : (fr69_0 k).sh.V) : F69_0 k (m + 1) v.1.1 v.1.2.1 v.1.2.2.1 v.2.1 = (body Try.prog (stepper Try.prog (cfg69 k) lim69) (pl69_0 k) (codeAt (bodyOf Try.f69) [.r, .r, .r, .r, .l, .s, .b]) ((fr69_0 k).sh.st v) (loopK (fr69_0 k) fun v => F69_0 k m v.1.1 v.1.2.1 v.1.2.2.1 v.2.1)).eval := by kernel_rfl
theorem pe69_0 (k m : Nat) (v : (fr69_0 k).sh.V) : (body Try.prog (stepper Try.prog (cfg69 k) lim69) (pl69_0 k) (codeAt (bodyOf Try.f69) [.r, .r, .r, .r, .l, .s, .b]) ((fr69_0 k).sh.st v) (loopK (fr69_0 k) fun v => F69_0 k m v.1.1 v.1.2.1 v.1.2.2.1 v.2.1)).left = (body Try.prog (stepper Try.prog (cfg69 k) lim69) (pl69_0 k) (codeAt (bodyOf Try.f69) [.r, .r, .r, .r, .l, .s, .b]) ((fr69_0 k).sh.st v) (loopK (fr69_0 k) fun v => F69_0 k m v.1.1 v.1.2.1 v.1.2.2.1 v.2.1)).right := by kernel_rfl
theorem fr69_0_ok (k : Nat) : FragOK Try.prog lim69 (fr69_0 k) (codeAt (bodyOf Try.f69) [.r, .r, .r, .r, .l, .s]) :=
  frag_cast (by kernel_rfl) (loop_ok (cfg69_ok k) (Eq.mpr (pq69_0 k) (planOK_go _)) (fun m v => F69_0 k m v.1.1 v.1.2.1 v.1.2.2.1 v.2.1) k (fun _ => rfl) (fun _ => rfl) fun m v => ⟨ps69_0 k m v, pe69_0 k m v⟩)
def pl69 (k : Nat) : Plan := (.seq .go (.seq .go (.seq .go (.seq .go (.seq (.sub (.frag (fr69_0 k))) .go)))))
theorem pq69 (k : Nat) : PlanOK Try.prog lim69 (pl69 k) (codeAt (bodyOf Try.f69) []) = (PlanOK Try.prog lim69 .go (codeAt (bodyOf Try.f69) [.l]) ∧ (PlanOK Try.prog lim69 .go (codeAt (bodyOf Try.f69) [.r, .l]) ∧ (PlanOK Try.prog lim69 .go (codeAt (bodyOf Try.f69) [.r, .r, .l]) ∧ (PlanOK Try.prog lim69 .go (codeAt (bodyOf Try.f69) [.r, .r, .r, .l]) ∧ (FragOK Try.prog lim69 (fr69_0 k) (codeAt (bodyOf Try.f69) [.r, .r, .r, .r, .l, .s]) ∧ PlanOK Try.prog lim69 .go (codeAt (bodyOf Try.f69) [.r, .r, .r, .r, .r])))))) := by kernel_rfl
theorem ev69 (k : Nat) (x : AT (sp69 k).ps) : (sp69 k).impl x = (fnT Try.prog (cfg69 k) lim69 Try.f69 (bodyOf Try.f69) (pl69 k) (sp69 k) x).eval := by kernel_rfl
theorem eq69 (k : Nat) (x : AT (sp69 k).ps) : (fnT Try.prog (cfg69 k) lim69 Try.f69 (bodyOf Try.f69) (pl69 k) (sp69 k) x).left = (fnT Try.prog (cfg69 k) lim69 Try.f69 (bodyOf Try.f69) (pl69 k) (sp69 k) x).right := by kernel_rfl
theorem v69 (k : Nat) : Callable Try.prog 69 ∧ Valid Try.prog 69 (sp69 k) :=
  fn_ok (cfg69_ok k) (f := 69) (fn := Try.f69) (by kernel_rfl) (c := bodyOf Try.f69) (by kernel_rfl) (by kernel_rfl) rfl rfl (Nat.le_of_ble_eq_true rfl) (Nat.le_of_ble_eq_true rfl) (p := pl69 k) (Eq.mpr (pq69 k) ⟨(planOK_go _), ⟨(planOK_go _), ⟨(planOK_go _), ⟨(planOK_go _), ⟨(fr69_0_ok k), (planOK_go _)⟩⟩⟩⟩⟩) fun x => ⟨ev69 k x, eq69 k x⟩
/-! f70 slices.Clone[[]int,int] -/
def F70 (k : Nat) (a0 : (List Int)) : Option (((List Int) × Unit) × Unit) :=
  bif (((List.length a0 : Nat) : Int) == 0) then
    some (([], ()), ())
  else
    if (List.length (List.replicate 0 (0 : Int)) + List.length a0) * (8 * 2) ≤ 281474976710656 ∧ List.length (List.replicate 0 (0 : Int)) + List.length a0 ≤ 9223372036854775807 then
      some ((((List.replicate 0 (0 : Int)) ++ a0), ()), ())
    else none
def sp70 (k : Nat) : Spec := ⟨[.val (.sl false 3 (.int .i64) none)], [.own (.sl true 3 (.int .i64) none)], fun x => F70 k x.1⟩
def lim70 : Lim := ⟨8, 1, true, false⟩
def cfg70 (k : Nat) : Nat → Option Spec := cfgL []
theorem cfg70_ok (k : Nat) : CfgOK Try.prog (cfg70 k) := cfgL_nil
def pl70 (k : Nat) : Plan := .go
theorem pq70 (k : Nat) : PlanOK Try.prog lim70 (pl70 k) (codeAt (bodyOf Try.f70) []) = PlanOK Try.prog lim70 .go (codeAt (bodyOf Try.f70) []) := by kernel_rfl
theorem ev70 (k : Nat) (x : AT (sp70 k).ps) : (sp70 k).impl x = (fnT Try.prog (cfg70 k) lim70 Try.f70 (bodyOf Try.f70) (pl70 k) (sp70 k) x).eval := by kernel_rfl
theorem tr70 (k : Nat) (x : AT (sp70 k).ps) : (fnT Try.prog (cfg70 k) lim70 Try.f70 (bodyOf Try.f70) (pl70 k) (sp70 k) x) = (Tr.split (((List.length x.1 : Nat) : Int) == 0) (.both (.split true (.leaf (([], ()), ())) (.need ((List.length (List.replicate 0 (0 : Int)) + List.length x.1) * (8 * 2) ≤ 281474976710656 ∧ List.length (List.replicate 0 (0 : Int)) + List.length x.1 ≤ 9223372036854775807) (.leaf (([] ++ x.1, ()), ())))) (.split false (.leaf (([], ()), ())) (.need ((List.length (List.replicate 0 (0 : Int)) + List.length x.1) * (8 * 2) ≤ 281474976710656 ∧ List.length (List.replicate 0 (0 : Int)) + List.length x.1 ≤ 9223372036854775807) (.leaf (([] ++ x.1, ()), ()))))) (.split false (.leaf (([], ()), ())) (.need ((List.length (List.replicate 0 (0 : Int)) + List.length x.1) * (8 * 2) ≤ 281474976710656 ∧ List.length (List.replicate 0 (0 : Int)) + List.length x.1 ≤ 9223372036854775807) (.leaf (([] ++ x.1, ()), ()))))) := by kernel_rfl
theorem sa70 (k : Nat) (x : AT (sp70 k).ps) (r) (h : (sp70 k).impl x = some r) : (fnT Try.prog (cfg70 k) lim70 Try.f70 (bodyOf Try.f70) (pl70 k) (sp70 k) x).sat (· = r) := sat_of_eq (tr70 k x) (clone_sat (a := x.1) (p := (List.length (List.replicate 0 (0 : Int)) + List.length x.1) * (8 * 2) ≤ 281474976710656 ∧ List.length (List.replicate 0 (0 : Int)) + List.length x.1 ≤ 9223372036854775807) (fun e => by rw [e]; simp) h)
theorem v70 (k : Nat) : Callable Try.prog 70 ∧ Valid Try.prog 70 (sp70 k) :=
  fn_sat (cfg70_ok k) (f := 70) (fn := Try.f70) (by kernel_rfl) (c := bodyOf Try.f70) (by kernel_rfl) (by kernel_rfl) rfl rfl (Nat.le_of_ble_eq_true rfl) (Nat.le_of_ble_eq_true rfl) (p := pl70 k) (Eq.mpr (pq70 k) (planOK_go _)) fun x r h => sa70 k x r h
/-! f47 hyphen/utf.Decode -/
def F47_0 (k : Nat) : ByteArray → Nat → Nat → ByteArray → Int → Unit → (List Int) → (List Int) → Option (((ByteArray × Unit) × ((List Int) × (List Int) × Unit)))
  | _, 0, _, _, _, _, _, _ => none
  | s, n + 1, pos, t0, t4, c39, c2000002, c2000003 =>
    bif (decide (pos < s.size)) then
      bif (decide (((pos : Nat) : Int) < t4)) then
        (F47_0 k s n (pos + width s pos) t0 t4 c39 c2000002 c2000003).bind some
      else
        let x1 := (IntKind.wrap .i64 ((rune s pos : Nat) : Int))
        if (List.length c2000002 + List.length (List.set (List.replicate 1 (0 : Int)) 0 x1)) * (8 * 2) ≤ 281474976710656 ∧ List.length c2000002 + List.length (List.set (List.replicate 1 (0 : Int)) 0 x1) ≤ 9223372036854775807 then
          let x2 := (c2000002 ++ (List.set (List.replicate 1 (0 : Int)) 0 x1))
          let x3 := (List.set (List.replicate 1 (0 : Int)) 0 ((pos : Nat) : Int))
          if (List.length c2000003 + List.length x3) * (8 * 2) ≤ 281474976710656 ∧ List.length c2000003 + List.length x3 ≤ 9223372036854775807 then
            if 0 ≤ ((pos : Nat) : Int) ∧ ((pos : Nat) : Int) ≤ ((ByteArray.size t0 : Nat) : Int) ∧ ((ByteArray.size t0 : Nat) : Int) ≤ ((ByteArray.size t0 : Nat) : Int) then
              let x4 := (ByteArray.extract t0 (Int.toNat ((pos : Nat) : Int)) (Int.toNat ((ByteArray.size t0 : Nat) : Int)))
              (F69 k x4).bind fun r5 =>
              let x6 := (IntKind.wrap .i64 (((pos : Nat) : Int) + r5.1.1))
              (F47_0 k s n (pos + width s pos) t0 x6 c39 x2 (c2000003 ++ x3)).bind some
            else none
          else none
        else none
    else
      some ((t0, ()), (c2000002, c2000003, ()))
def sh47_0 : Shape := ⟨[(2, (.sl true 3 (.int .i64) none)), (3, (.sl true 3 (.int .i64) none))], [(0, .val .str), (2, .at 2000002 []), (3, .at 2000003 []), (4, .val (.int .i64)), (8, .at 39 [])], [(39, none, .un), (2000002, none, (.sl true 3 (.int .i64) none)), (2000003, none, (.sl true 3 (.int .i64) none))]⟩
def fr47_0 (k : Nat) : Frag := ⟨⟨[], [(0, .val .str), (2, .nilS), (3, .nilS), (4, .val (.int .i64))], []⟩, [(.normal, ⟨[(2, (.sl true 3 (.int .i64) none)), (3, (.sl true 3 (.int .i64) none))], [(0, .val .str), (2, .at 2000002 []), (3, .at 2000003 [])], [(2000002, none, (.sl true 3 (.int .i64) none)), (2000003, none, (.sl true 3 (.int .i64) none))]⟩)], fun v => F47_0 k v.1.1 k 0 v.1.1 v.1.2.1 () [] []⟩
def F47 (k : Nat) (a0 : ByteArray) : Option (((List Int) × (List Int) × Unit) × Unit) :=
  (F47_0 k a0 k 0 a0 (0 : Int) () [] []).bind fun r7 =>
  let y8 := r7.1.1
  let y9 := r7.2.1
  let y10 := r7.2.2.1
  (F70 k y9).bind fun r11 =>
  let x12 := (List.set (List.replicate 1 (0 : Int)) 0 ((ByteArray.size y8 : Nat) : Int))
  if (List.length y10 + List.length x12) * (8 * 2) ≤ 281474976710656 ∧ List.length y10 + List.length x12 ≤ 9223372036854775807 then
    (F70 k (y10 ++ x12)).bind fun r13 =>
    some ((r11.1.1, r13.1.1, ()), ())
  else none
def sp47 (k : Nat) : Spec := ⟨[.val .str], [.own (.sl true 3 (.int .i64) none), .own (.sl true 3 (.int .i64) none)], fun x => F47 k x.1⟩
def lim47 : Lim := ⟨39, 1, false, false⟩
def cfg47 (k : Nat) : Nat → Option Spec := cfgL [(69, sp69 k), (70, sp70 k)]
theorem cfg47_ok (k : Nat) : CfgOK Try.prog (cfg47 k) := cfgL_cons (v69 k) (cfgL_cons (v70 k) (cfgL_nil))
def pl47_0 (k : Nat) : Plan := .go
theorem pq47_0 (k : Nat) : PlanOK Try.prog lim47 (pl47_0 k) (codeAt (bodyOf Try.f47) [.r, .r, .l, .r, .s, .b, .r, .r]) = PlanOK Try.prog lim47 .go (codeAt (bodyOf Try.f47) [.r, .r, .l, .r, .s, .b, .r, .r]) := by kernel_rfl
noncomputable def si47_0 : SRI := ⟨(.tmp 0), 7, 8, 9, 10, 0, codeAt (bodyOf Try.f47) [.r, .r, .l, .r, .s, .b, .r, .r]⟩
theorem ps47_0 (k : Nat) (s : ByteArray) (m pos : Nat) (v : sh47_0.V) : F47_0 k s (m + 1) pos v.1.1 v.1.2.1 v.2.1 v.2.2.1 v.2.2.2.1 = (rngT Try.prog (stepper Try.prog (cfg47 k) lim47) (pl47_0 k) si47_0 (fr47_0 k) sh47_0 (fun q v => F47_0 k s m q v.1.1 v.1.2.1 v.2.1 v.2.2.1 v.2.2.2.1) s pos v).eval := by kernel_rfl
theorem pe47_0 (k : Nat) (s : ByteArray) (m pos : Nat) (v : sh47_0.V) : (rngT Try.prog (stepper Try.prog (cfg47 k) lim47) (pl47_0 k) si47_0 (fr47_0 k) sh47_0 (fun q v => F47_0 k s m q v.1.1 v.1.2.1 v.2.1 v.2.2.1 v.2.2.2.1) s pos v).left = (rngT Try.prog (stepper Try.prog (cfg47 k) lim47) (pl47_0 k) si47_0 (fr47_0 k) sh47_0 (fun q v => F47_0 k s m q v.1.1 v.1.2.1 v.2.1 v.2.2.1 v.2.2.2.1) s pos v).right := by kernel_rfl
theorem fr47_0_ok (k : Nat) : FragOK Try.prog lim47 (fr47_0 k) (codeAt (bodyOf Try.f47) [.r, .r, .l]) :=
  range_ok (cfg47_ok k) (I := si47_0) (by kernel_rfl) (p := pl47_0 k) (Eq.mpr (pq47_0 k) (planOK_go _)) (sh' := sh47_0) (fun v => v.1.1) (fun v => ((v.1.1, v.1.2.1, ()), ((), [], [], ()))) (fun s m q v => F47_0 k s m q v.1.1 v.1.2.1 v.2.1 v.2.2.1 v.2.2.2.1) k (by kernel_rfl) (fun _ => rfl) (fun _ _ _ => rfl) (fun v => by kernel_rfl) (fun v => by kernel_rfl) (fun v => by kernel_rfl) (fun v => ⟨by kernel_rfl, by kernel_rfl⟩) (by kernel_rfl) fun s m pos v => ⟨ps47_0 k s m pos v, pe47_0 k s m pos v⟩
def pl47 (k : Nat) : Plan := (.seq .go (.seq .go (.seq (.frag (fr47_0 k)) .go)))
theorem pq47 (k : Nat) : PlanOK Try.prog lim47 (pl47 k) (codeAt (bodyOf Try.f47) []) = (PlanOK Try.prog lim47 .go (codeAt (bodyOf Try.f47) [.l]) ∧ (PlanOK Try.prog lim47 .go (codeAt (bodyOf Try.f47) [.r, .l]) ∧ (FragOK Try.prog lim47 (fr47_0 k) (codeAt (bodyOf Try.f47) [.r, .r, .l]) ∧ PlanOK Try.prog lim47 .go (codeAt (bodyOf Try.f47) [.r, .r, .r])))) := by kernel_rfl
theorem ev47 (k : Nat) (x : AT (sp47 k).ps) : (sp47 k).impl x = (fnT Try.prog (cfg47 k) lim47 Try.f47 (bodyOf Try.f47) (pl47 k) (sp47 k) x).eval := by kernel_rfl
theorem eq47 (k : Nat) (x : AT (sp47 k).ps) : (fnT Try.prog (cfg47 k) lim47 Try.f47 (bodyOf Try.f47) (pl47 k) (sp47 k) x).left = (fnT Try.prog (cfg47 k) lim47 Try.f47 (bodyOf Try.f47) (pl47 k) (sp47 k) x).right := by kernel_rfl
theorem v47 (k : Nat) : Callable Try.prog 47 ∧ Valid Try.prog 47 (sp47 k) :=
  fn_ok (cfg47_ok k) (f := 47) (fn := Try.f47) (by kernel_rfl) (c := bodyOf Try.f47) (by kernel_rfl) (by kernel_rfl) rfl rfl (Nat.le_of_ble_eq_true rfl) (Nat.le_of_ble_eq_true rfl) (p := pl47 k) (Eq.mpr (pq47 k) ⟨(planOK_go _), ⟨(planOK_go _), ⟨(fr47_0_ok k), (planOK_go _)⟩⟩⟩) fun x => ⟨ev47 k x, eq47 k x⟩
/-! f83 cmp.isNaN[int] -/
def F83 (k : Nat) (a0 : Int) : Option ((Bool × Unit) × Unit) :=
  some (((a0 != a0), ()), ())
def sp83 (k : Nat) : Spec := ⟨[.val (.int .i64)], [.val .bool], fun x => F83 k x.1⟩
def lim83 : Lim := ⟨6, 1, false, false⟩
def cfg83 (k : Nat) : Nat → Option Spec := cfgL []
theorem cfg83_ok (k : Nat) : CfgOK Try.prog (cfg83 k) := cfgL_nil
def pl83 (k : Nat) : Plan := .go
theorem pq83 (k : Nat) : PlanOK Try.prog lim83 (pl83 k) (codeAt (bodyOf Try.f83) []) = PlanOK Try.prog lim83 .go (codeAt (bodyOf Try.f83) []) := by kernel_rfl
theorem ev83 (k : Nat) (x : AT (sp83 k).ps) : (sp83 k).impl x = (fnT Try.prog (cfg83 k) lim83 Try.f83 (bodyOf Try.f83) (pl83 k) (sp83 k) x).eval := by kernel_rfl
theorem eq83 (k : Nat) (x : AT (sp83 k).ps) : (fnT Try.prog (cfg83 k) lim83 Try.f83 (bodyOf Try.f83) (pl83 k) (sp83 k) x).left = (fnT Try.prog (cfg83 k) lim83 Try.f83 (bodyOf Try.f83) (pl83 k) (sp83 k) x).right := by kernel_rfl
theorem v83 (k : Nat) : Callable Try.prog 83 ∧ Valid Try.prog 83 (sp83 k) :=
  fn_ok (cfg83_ok k) (f := 83) (fn := Try.f83) (by kernel_rfl) (c := bodyOf Try.f83) (by kernel_rfl) (by kernel_rfl) rfl rfl (Nat.le_of_ble_eq_true rfl) (Nat.le_of_ble_eq_true rfl) (p := pl83 k) (Eq.mpr (pq83 k) (planOK_go _)) fun x => ⟨ev83 k x, eq83 k x⟩
/-! f80 cmp.Less[int] -/
def F80 (k : Nat) (a0 : Int) (a1 : Int) : Option ((Bool × Unit) × Unit) :=
  (F83 k a0).bind fun r1 =>
  bif r1.1.1 then
    (F83 k a1).bind fun r2 =>
    bif (!r2.1.1) then
      some ((true, ()), ())
    else
      some (((decide (a0 < a1)), ()), ())
  else
    some (((decide (a0 < a1)), ()), ())
def sp80 (k : Nat) : Spec := ⟨[.val (.int .i64), .val (.int .i64)], [.val .bool], fun x => F80 k x.1 x.2.1⟩
def lim80 : Lim := ⟨17, 2, false, false⟩
def cfg80 (k : Nat) : Nat → Option Spec := cfgL [(83, sp83 k)]
theorem cfg80_ok (k : Nat) : CfgOK Try.prog (cfg80 k) := cfgL_cons (v83 k) (cfgL_nil)
def pl80 (k : Nat) : Plan := .go
theorem pq80 (k : Nat) : PlanOK Try.prog lim80 (pl80 k) (codeAt (bodyOf Try.f80) []) = PlanOK Try.prog lim80 .go (codeAt (bodyOf Try.f80) []) := by kernel_rfl
theorem ev80 (k : Nat) (x : AT (sp80 k).ps) : (sp80 k).impl x = (fnT Try.prog (cfg80 k) lim80 Try.f80 (bodyOf Try.f80) (pl80 k) (sp80 k) x).eval := by kernel_rfl
theorem eq80 (k : Nat) (x : AT (sp80 k).ps) : (fnT Try.prog (cfg80 k) lim80 Try.f80 (bodyOf Try.f80) (pl80 k) (sp80 k) x).left = (fnT Try.prog (cfg80 k) lim80 Try.f80 (bodyOf Try.f80) (pl80 k) (sp80 k) x).right := by kernel_rfl
theorem v80 (k : Nat) : Callable Try.prog 80 ∧ Valid Try.prog 80 (sp80 k) :=
  fn_ok (cfg80_ok k) (f := 80) (fn := Try.f80) (by kernel_rfl) (c := bodyOf Try.f80) (by kernel_rfl) (by kernel_rfl) rfl rfl (Nat.le_of_ble_eq_true rfl) (Nat.le_of_ble_eq_true rfl) (p := pl80 k) (Eq.mpr (pq80 k) (planOK_go _)) fun x => ⟨ev80 k x, eq80 k x⟩
/-! f81 slices.isNaN[int] -/
def F81 (k : Nat) (a0 : Int) : Option ((Bool × Unit) × Unit) :=
  some (((a0 != a0), ()), ())
def sp81 (k : Nat) : Spec := ⟨[.val (.int .i64)], [.val .bool], fun x => F81 k x.1⟩
def lim81 : Lim := ⟨6, 1, false, false⟩
def cfg81 (k : Nat) : Nat → Option Spec := cfgL []
theorem cfg81_ok (k : Nat) : CfgOK Try.prog (cfg81 k) := cfgL_nil
def pl81 (k : Nat) : Plan := .go
theorem pq81 (k : Nat) : PlanOK Try.prog lim81 (pl81 k) (codeAt (bodyOf Try.f81) []) = PlanOK Try.prog lim81 .go (codeAt (bodyOf Try.f81) []) := by kernel_rfl
theorem ev81 (k : Nat) (x : AT (sp81 k).ps) : (sp81 k).impl x = (fnT Try.prog (cfg81 k) lim81 Try.f81 (bodyOf Try.f81) (pl81 k) (sp81 k) x).eval := by kernel_rfl
theorem eq81 (k : Nat) (x : AT (sp81 k).ps) : (fnT Try.prog (cfg81 k) lim81 Try.f81 (bodyOf Try.f81) (pl81 k) (sp81 k) x).left = (fnT Try.prog (cfg81 k) lim81 Try.f81 (bodyOf Try.f81) (pl81 k) (sp81 k) x).right := by kernel_rfl
theorem v81 (k : Nat) : Callable Try.prog 81 ∧ Valid Try.prog 81 (sp81 k) :=
  fn_ok (cfg81_ok k) (f := 81) (fn := Try.f81) (by kernel_rfl) (c := bodyOf Try.f81) (by kernel_rfl) (by kernel_rfl) rfl rfl (Nat.le_of_ble_eq_true rfl) (Nat.le_of_ble_eq_true rfl) (p := pl81 k) (Eq.mpr (pq81 k) (planOK_go _)) fun x => ⟨ev81 k x, eq81 k x⟩
/-! f71 slices.BinarySearch[[]int,int] -/
def F71_0 (k : Nat) : Nat → (List Int) → Int → Int → Int → Int → Option ((((List Int) × Int × Int × Int × Unit) × Unit))
  | 0, _, _, _, _, _ => none
  | n + 1, t0, t1, t6, t7, t8 =>
    bif (decide (t7 < t8)) then
      let x6 := (IntKind.wrap .u64 (IntKind.wrap .i64 (t7 + t8)))
      let x7 := (Int.fdiv x6 (2 ^ (min (Int.toNat (1 : Int)) (IntKind.bits .u64))))
      if 0 ≤ (IntKind.wrap .i64 x7) ∧ (IntKind.wrap .i64 x7) < ((List.length t0 : Nat) : Int) then
        let x8 := (List.getD t0 (Int.toNat (IntKind.wrap .i64 x7)) (0 : Int))
        (F80 k x8 t1).bind fun r9 =>
        bif r9.1.1 then
          let x10 := (IntKind.wrap .i64 ((IntKind.wrap .i64 x7) + (1 : Int)))
          (F71_0 k n t0 t1 t6 x10 t8).bind some
        else
          (F71_0 k n t0 t1 t6 t7 (IntKind.wrap .i64 x7)).bind some
      else none
    else
      some ((t0, t1, t6, t7, ()), ())
def fr71_0 (k : Nat) : Frag := ⟨⟨[], [(0, .val (.sl false 3 (.int .i64) none)), (1, .val (.int .i64)), (6, .val (.int .i64)), (7, .val (.int .i64)), (8, .val (.int .i64))], []⟩, [(.exit 0, ⟨[], [(0, .val (.sl false 3 (.int .i64) none)), (1, .val (.int .i64)), (6, .val (.int .i64)), (7, .val (.int .i64))], []⟩)], fun v => F71_0 k k v.1.1 v.1.2.1 v.1.2.2.1 v.1.2.2.2.1 v.1.2.2.2.2.1⟩
def F71 (k : Nat) (a0 : (List Int)) (a1 : Int) : Option ((Int × Bool × Unit) × Unit) :=
  (F71_0 k k a0 a1 ((List.length a0 : Nat) : Int) (0 : Int) ((List.length a0 : Nat) : Int)).bind fun r11 =>
  let y12 := r11.1.1
  let y13 := r11.1.2.1
  let y14 := r11.1.2.2.1
  let y15 := r11.1.2.2.2.1
  bif (decide (y15 < y14)) then
    if 0 ≤ y15 ∧ y15 < ((List.length y12 : Nat) : Int) then
      let x16 := ((List.getD y12 (Int.toNat y15) (0 : Int)) == y13)
      bif x16 then
        some ((y15, true, ()), ())
      else
        if 0 ≤ y15 ∧ y15 < ((List.length y12 : Nat) : Int) then
          (F81 k (List.getD y12 (Int.toNat y15) (0 : Int))).bind fun r17 =>
          bif r17.1.1 then
            (F81 k y13).bind fun r18 =>
            some ((y15, r18.1.1, ()), ())
          else
            some ((y15, false, ()), ())
        else none
    else none
  else
    some ((y15, false, ()), ())
def sp71 (k : Nat) : Spec := ⟨[.val (.sl false 3 (.int .i64) none), .val (.int .i64)], [.val (.int .i64), .val .bool], fun x => F71 k x.1 x.2.1⟩
def lim71 : Lim := ⟨54, 2, false, false⟩
def cfg71 (k : Nat) : Nat → Option Spec := cfgL [(80, sp80 k), (81, sp81 k)]
theorem cfg71_ok (k : Nat) : CfgOK Try.prog (cfg71 k) := cfgL_cons (v80 k) (cfgL_cons (v81 k) (cfgL_nil))
def pl71_0 (k : Nat) : Plan := .go
theorem pq71_0 (k : Nat) : PlanOK Try.prog lim71 (pl71_0 k) (codeAt (bodyOf Try.f71) [.r, .r, .r, .l, .s, .b]) = PlanOK Try.prog lim71 .go (codeAt (bodyOf Try.f71) [.r, .r, .r, .l, .s, .b]) := by kernel_rfl
theorem ps71_0 (k m : Nat) (v : (fr71_0 k).sh.V) : F71_0 k (m + 1) v.1.1 v.1.2.1 v.1.2.2.1 v.1.2.2.2.1 v.1.2.2.2.2.1 = (body Try.prog (stepper Try.prog (cfg71 k) lim71) (pl71_0 k) (codeAt (bodyOf Try.f71) [.r, .r, .r, .l, .s, .b]) ((fr71_0 k).sh.st v) (loopK (fr71_0 k) fun v => F71_0 k m v.1.1 v.1.2.1 v.1.2.2.1 v.1.2.2.2.1 v.1.2.2.2.2.1)).eval := by kernel_rfl
theorem pe71_0 (k m : Nat) (v : (fr71_0 k).sh.V) : (body Try.prog (stepper Try.prog (cfg71 k) lim71) (pl71_0 k) (codeAt (bodyOf Try.f71) [.r, .r, .r, .l, .s, .b]) ((fr71_0 k).sh.st v) (loopK (fr71_0 k) fun v => F71_0 k m v.1.1 v.1.2.1 v.1.2.2.1 v.1.2.2.2.1 v.1.2.2.2.2.1)).left = (body Try.prog (stepper Try.prog (cfg71 k) lim71) (pl71_0 k) (codeAt (bodyOf Try.f71) [.r, .r, .r, .l, .s, .b]) ((fr71_0 k).sh.st v) (loopK (fr71_0 k) fun v => F71_0 k m v.1.1 v.1.2.1 v.1.2.2.1 v.1.2.2.2.1 v.1.2.2.2.2.1)).right := by kernel_rfl
theorem fr71_0_ok (k : Nat) : FragOK Try.prog lim71 (fr71_0 k) (codeAt (bodyOf Try.f71) [.r, .r, .r, .l, .s]) :=
  frag_cast (by kernel_rfl) (loop_ok (cfg71_ok k) (Eq.mpr (pq71_0 k) (planOK_go _)) (fun m v => F71_0 k m v.1.1 v.1.2.1 v.1.2.2.1 v.1.2.2.2.1 v.1.2.2.2.2.1) k (fun _ => rfl) (fun _ => rfl) fun m v => ⟨ps71_0 k m v, pe71_0 k m v⟩)
def pl71 (k : Nat) : Plan := (.seq .go (.seq .go (.seq .go (.seq (.sub (.frag (fr71_0 k))) .go))))
theorem pq71 (k : Nat) : PlanOK Try.prog lim71 (pl71 k) (codeAt (bodyOf Try.f71) []) = (PlanOK Try.prog lim71 .go (codeAt (bodyOf Try.f71) [.l]) ∧ (PlanOK Try.prog lim71 .go (codeAt (bodyOf Try.f71) [.r, .l]) ∧ (PlanOK Try.prog lim71 .go (codeAt (bodyOf Try.f71) [.r, .r, .l]) ∧ (FragOK Try.prog lim71 (fr71_0 k) (codeAt (bodyOf Try.f71) [.r, .r, .r, .l, .s]) ∧ PlanOK Try.prog lim71 .go (codeAt (bodyOf Try.f71) [.r, .r, .r, .r]))))) := by kernel_rfl
theorem ev71 (k : Nat) (x : AT (sp71 k).ps) : (sp71 k).impl x = (fnT Try.prog (cfg71 k) lim71 Try.f71 (bodyOf Try.f71) (pl71 k) (sp71 k) x).eval := by kernel_rfl
theorem eq71 (k : Nat) (x : AT (sp71 k).ps) : (fnT Try.prog (cfg71 k) lim71 Try.f71 (bodyOf Try.f71) (pl71 k) (sp71 k) x).left = (fnT Try.prog (cfg71 k) lim71 Try.f71 (bodyOf Try.f71) (pl71 k) (sp71 k) x).right := by kernel_rfl
theorem v71 (k : Nat) : Callable Try.prog 71 ∧ Valid Try.prog 71 (sp71 k) :=
  fn_ok (cfg71_ok k) (f := 71) (fn := Try.f71) (by kernel_rfl) (c := bodyOf Try.f71) (by kernel_rfl) (by kernel_rfl) rfl rfl (Nat.le_of_ble_eq_true rfl) (Nat.le_of_ble_eq_true rfl) (p := pl71 k) (Eq.mpr (pq71 k) ⟨(planOK_go _), ⟨(planOK_go _), ⟨(planOK_go _), ⟨(fr71_0_ok k), (planOK_go _)⟩⟩⟩⟩) fun x => ⟨ev71 k x, eq71 k x⟩
/-! f48 hyphen/part.Letter -/
def F48 (k : Nat) (a0 : (List Int)) (a1 : (List Int)) (a2 : Int) : Option ((Int × Unit) × Unit) :=
  (F71 k a0 a2).bind fun r1 =>
  bif (!r1.1.2.1) then
    let x2 := (decide ((IntKind.wrap .i64 (r1.1.1 - (1 : Int))) < (0 : Int)))
    bif x2 then
      some (((0 : Int), ()), ())
    else
      let x3 := (decide ((IntKind.wrap .i64 (r1.1.1 - (1 : Int))) ≥ ((List.length a1 : Nat) : Int)))
      bif x3 then
        some (((0 : Int), ()), ())
      else
        if 0 ≤ (IntKind.wrap .i64 (r1.1.1 - (1 : Int))) ∧ (IntKind.wrap .i64 (r1.1.1 - (1 : Int))) < ((List.length a1 : Nat) : Int) then
          let x4 := (List.getD a1 (Int.toNat (IntKind.wrap .i64 (r1.1.1 - (1 : Int)))) (0 : Int))
          some ((x4, ()), ())
        else none
  else
    bif (decide (r1.1.1 < (0 : Int))) then
      some (((0 : Int), ()), ())
    else
      let x5 := (decide (r1.1.1 ≥ ((List.length a1 : Nat) : Int)))
      bif x5 then
        some (((0 : Int), ()), ())
      else
        if 0 ≤ r1.1.1 ∧ r1.1.1 < ((List.length a1 : Nat) : Int) then
          some (((List.getD a1 (Int.toNat r1.1.1) (0 : Int)), ()), ())
        else none
def sp48 (k : Nat) : Spec := ⟨[.val (.sl false 3 (.int .i64) none), .val (.sl false 3 (.int .i64) none), .val (.int .i64)], [.val (.int .i64)], fun x => F48 k x.1 x.2.1 x.2.2.1⟩
def lim48 : Lim := ⟨31, 3, false, false⟩
def cfg48 (k : Nat) : Nat → Option Spec := cfgL [(71, sp71 k)]
theorem cfg48_ok (k : Nat) : CfgOK Try.prog (cfg48 k) := cfgL_cons (v71 k) (cfgL_nil)
def pl48 (k : Nat) : Plan := .go
theorem pq48 (k : Nat) : PlanOK Try.prog lim48 (pl48 k) (codeAt (bodyOf Try.f48) []) = PlanOK Try.prog lim48 .go (codeAt (bodyOf Try.f48) []) := by kernel_rfl
theorem ev48 (k : Nat) (x : AT (sp48 k).ps) : (sp48 k).impl x = (fnT Try.prog (cfg48 k) lim48 Try.f48 (bodyOf Try.f48) (pl48 k) (sp48 k) x).eval := by kernel_rfl
theorem eq48 (k : Nat) (x : AT (sp48 k).ps) : (fnT Try.prog (cfg48 k) lim48 Try.f48 (bodyOf Try.f48) (pl48 k) (sp48 k) x).left = (fnT Try.prog (cfg48 k) lim48 Try.f48 (bodyOf Try.f48) (pl48 k) (sp48 k) x).right := by kernel_rfl
theorem v48 (k : Nat) : Callable Try.prog 48 ∧ Valid Try.prog 48 (sp48 k) :=
  fn_ok (cfg48_ok k) (f := 48) (fn := Try.f48) (by kernel_rfl) (c := bodyOf Try.f48) (by kernel_rfl) (by kernel_rfl) rfl rfl (Nat.le_of_ble_eq_true rfl) (Nat.le_of_ble_eq_true rfl) (p := pl48 k) (Eq.mpr (pq48 k) (planOK_go _)) fun x => ⟨ev48 k x, eq48 k x⟩
/-! f50 hyphen/back.Run -/
def F50_0 (k : Nat) : Nat → (List Int) → Int → Int → ((List (List Int)) × ((List Int) × Unit)) → (List Int) → Option ((Unit × ((List Int) × Unit)))
  | 0, _, _, _, _, _ => none
  | n + 1, t1, t6, t7, c2, c11 =>
    bif (decide (t6 ≥ (0 : Int))) then
      let x25 := (decide (t6 < ((List.length c2.2.1 : Nat) : Int)))
      bif x25 then
        if 0 ≤ t6 ∧ t6 < ((List.length c2.2.1 : Nat) : Int) then
          if 0 ≤ t7 ∧ t7 < ((List.length c11 : Nat) : Int) then
            let x26 := (List.set c11 (Int.toNat t7) (List.getD c2.2.1 (Int.toNat t6) (0 : Int)))
            bif (t7 == (0 : Int)) then
              some ((), (x26, ()))
            else
              bif (decide (t6 ≥ (0 : Int))) then
                let x27 := (decide (t6 < ((List.length c2.1 : Nat) : Int)))
                bif x27 then
                  if 0 ≤ (IntKind.wrap .i64 (t7 - (1 : Int))) ∧ (IntKind.wrap .i64 (t7 - (1 : Int))) < ((List.length t1 : Nat) : Int) then
                    let x28 := (List.getD t1 (Int.toNat (IntKind.wrap .i64 (t7 - (1 : Int)))) (0 : Int))
                    bif (decide (x28 ≥ (0 : Int))) then
                      if 0 ≤ (IntKind.wrap .i64 (t7 - (1 : Int))) ∧ (IntKind.wrap .i64 (t7 - (1 : Int))) < ((List.length t1 : Nat) : Int) then
                        let x29 := (List.getD t1 (Int.toNat (IntKind.wrap .i64 (t7 - (1 : Int)))) (0 : Int))
                        if 0 ≤ t6 ∧ t6 < ((List.length c2.1 : Nat) : Int) then
                          let x30 := (List.getD c2.1 (Int.toNat t6) ([] : (List Int)))
                          let x31 := (decide (x29 < ((List.length x30 : Nat) : Int)))
                          bif x31 then
                            if 0 ≤ t6 ∧ t6 < ((List.length c2.1 : Nat) : Int) then
                              let x32 := (List.getD c2.1 (Int.toNat t6) ([] : (List Int)))
                              if 0 ≤ (IntKind.wrap .i64 (t7 - (1 : Int))) ∧ (IntKind.wrap .i64 (t7 - (1 : Int))) < ((List.length t1 : Nat) : Int) then
                                let x33 := (List.getD t1 (Int.toNat (IntKind.wrap .i64 (t7 - (1 : Int)))) (0 : Int))
                                if 0 ≤ x33 ∧ x33 < ((List.length x32 : Nat) : Int) then
                                  (F50_0 k n t1 (List.getD x32 (Int.toNat x33) (0 : Int)) (IntKind.wrap .i64 (t7 - (1 : Int))) c2 x26).bind some
                                else none
                              else none
                            else none
                          else
                            (F50_0 k n t1 t6 (IntKind.wrap .i64 (t7 - (1 : Int))) c2 x26).bind some
                        else none
                      else none
                    else
                      (F50_0 k n t1 t6 (IntKind.wrap .i64 (t7 - (1 : Int))) c2 x26).bind some
                  else none
                else
                  (F50_0 k n t1 t6 (IntKind.wrap .i64 (t7 - (1 : Int))) c2 x26).bind some
              else
                (F50_0 k n t1 t6 (IntKind.wrap .i64 (t7 - (1 : Int))) c2 x26).bind some
          else none
        else none
      else
        bif (t7 == (0 : Int)) then
          some ((), (c11, ()))
        else
          bif (decide (t6 ≥ (0 : Int))) then
            let x34 := (decide (t6 < ((List.length c2.1 : Nat) : Int)))
            bif x34 then
              if 0 ≤ (IntKind.wrap .i64 (t7 - (1 : Int))) ∧ (IntKind.wrap .i64 (t7 - (1 : Int))) < ((List.length t1 : Nat) : Int) then
                let x35 := (List.getD t1 (Int.toNat (IntKind.wrap .i64 (t7 - (1 : Int)))) (0 : Int))
                bif (decide (x35 ≥ (0 : Int))) then
                  if 0 ≤ (IntKind.wrap .i64 (t7 - (1 : Int))) ∧ (IntKind.wrap .i64 (t7 - (1 : Int))) < ((List.length t1 : Nat) : Int) then
                    let x36 := (List.getD t1 (Int.toNat (IntKind.wrap .i64 (t7 - (1 : Int)))) (0 : Int))
                    if 0 ≤ t6 ∧ t6 < ((List.length c2.1 : Nat) : Int) then
                      let x37 := (List.getD c2.1 (Int.toNat t6) ([] : (List Int)))
                      let x38 := (decide (x36 < ((List.length x37 : Nat) : Int)))
                      bif x38 then
                        if 0 ≤ t6 ∧ t6 < ((List.length c2.1 : Nat) : Int) then
                          let x39 := (List.getD c2.1 (Int.toNat t6) ([] : (List Int)))
                          if 0 ≤ (IntKind.wrap .i64 (t7 - (1 : Int))) ∧ (IntKind.wrap .i64 (t7 - (1 : Int))) < ((List.length t1 : Nat) : Int) then
                            let x40 := (List.getD t1 (Int.toNat (IntKind.wrap .i64 (t7 - (1 : Int)))) (0 : Int))
                            if 0 ≤ x40 ∧ x40 < ((List.length x39 : Nat) : Int) then
                              (F50_0 k n t1 (List.getD x39 (Int.toNat x40) (0 : Int)) (IntKind.wrap .i64 (t7 - (1 : Int))) c2 c11).bind some
                            else none
                          else none
                        else none
                      else
                        (F50_0 k n t1 t6 (IntKind.wrap .i64 (t7 - (1 : Int))) c2 c11).bind some
                    else none
                  else none
                else
                  (F50_0 k n t1 t6 (IntKind.wrap .i64 (t7 - (1 : Int))) c2 c11).bind some
              else none
            else
              (F50_0 k n t1 t6 (IntKind.wrap .i64 (t7 - (1 : Int))) c2 c11).bind some
          else
            (F50_0 k n t1 t6 (IntKind.wrap .i64 (t7 - (1 : Int))) c2 c11).bind some
    else
      bif (t7 == (0 : Int)) then
        some ((), (c11, ()))
      else
        bif (decide (t6 ≥ (0 : Int))) then
          let x41 := (decide (t6 < ((List.length c2.1 : Nat) : Int)))
          bif x41 then
            if 0 ≤ (IntKind.wrap .i64 (t7 - (1 : Int))) ∧ (IntKind.wrap .i64 (t7 - (1 : Int))) < ((List.length t1 : Nat) : Int) then
              let x42 := (List.getD t1 (Int.toNat (IntKind.wrap .i64 (t7 - (1 : Int)))) (0 : Int))
              bif (decide (x42 ≥ (0 : Int))) then
                if 0 ≤ (IntKind.wrap .i64 (t7 - (1 : Int))) ∧ (IntKind.wrap .i64 (t7 - (1 : Int))) < ((List.length t1 : Nat) : Int) then
                  let x43 := (List.getD t1 (Int.toNat (IntKind.wrap .i64 (t7 - (1 : Int)))) (0 : Int))
                  if 0 ≤ t6 ∧ t6 < ((List.length c2.1 : Nat) : Int) then
                    let x44 := (List.getD c2.1 (Int.toNat t6) ([] : (List Int)))
                    let x45 := (decide (x43 < ((List.length x44 : Nat) : Int)))
                    bif x45 then
                      if 0 ≤ t6 ∧ t6 < ((List.length c2.1 : Nat) : Int) then
                        let x46 := (List.getD c2.1 (Int.toNat t6) ([] : (List Int)))
                        if 0 ≤ (IntKind.wrap .i64 (t7 - (1 : Int))) ∧ (IntKind.wrap .i64 (t7 - (1 : Int))) < ((List.length t1 : Nat) : Int) then
                          let x47 := (List.getD t1 (Int.toNat (IntKind.wrap .i64 (t7 - (1 : Int)))) (0 : Int))
                          if 0 ≤ x47 ∧ x47 < ((List.length x46 : Nat) : Int) then
                            (F50_0 k n t1 (List.getD x46 (Int.toNat x47) (0 : Int)) (IntKind.wrap .i64 (t7 - (1 : Int))) c2 c11).bind some
                          else none
                        else none
                      else none
                    else
                      (F50_0 k n t1 t6 (IntKind.wrap .i64 (t7 - (1 : Int))) c2 c11).bind some
                  else none
                else none
              else
                (F50_0 k n t1 t6 (IntKind.wrap .i64 (t7 - (1 : Int))) c2 c11).bind some
            else none
          else
            (F50_0 k n t1 t6 (IntKind.wrap .i64 (t7 - (1 : Int))) c2 c11).bind some
        else
          (F50_0 k n t1 t6 (IntKind.wrap .i64 (t7 - (1 : Int))) c2 c11).bind some
def fr50_0 (k : Nat) : Frag := ⟨⟨[], [(1, .val (.sl false 3 (.int .i64) none)), (2, .ptr 2 []), (5, .at 11 []), (6, .val (.int .i64)), (7, .val (.int .i64))], [(2, some 27, (.pair (.sl false 22 (.sl false 3 (.int .i64) none) none) (.pair (.sl false 3 (.int .i64) none) .unit))), (11, none, (.sl true 3 (.int .i64) none))]⟩, [(.ret, ⟨[], [(4, .at 11 [])], [(11, none, (.sl true 3 (.int .i64) none))]⟩)], fun v => F50_0 k k v.1.1 v.1.2.1 v.1.2.2.1 v.2.1 v.2.2.1⟩
def F50 (k : Nat) (a0 : ((List (List Int)) × ((List Int) × Unit))) (a1 : (List Int)) : Option (((List Int) × Unit) × Unit) :=
  let x1 := (IntKind.wrap .i64 (((List.length a1 : Nat) : Int) + (1 : Int)))
  if (0 ≤ x1 ∧ x1 < x1 + 1) ∧ x1 ≤ 9223372036854775807 ∧ ((8 : Nat) : Int) * x1 ≤ 281474976710656 then
    (F50_0 k k a1 (0 : Int) ((List.length a1 : Nat) : Int) a0 (List.replicate (Int.toNat x1) (0 : Int))).bind fun r48 =>
    let y49 := r48.2.1
    some ((y49, ()), ())
  else none
def sp50 (k : Nat) : Spec := ⟨[.val (.pair (.sl false 22 (.sl false 3 (.int .i64) none) none) (.pair (.sl false 3 (.int .i64) none) .unit)), .val (.sl false 3 (.int .i64) none)], [.own (.sl true 3 (.int .i64) none)], fun x => F50 k x.1 x.2.1⟩
def lim50 : Lim := ⟨79, 2, false, false⟩
def cfg50 (k : Nat) : Nat → Option Spec := cfgL []
theorem cfg50_ok (k : Nat) : CfgOK Try.prog (cfg50 k) := cfgL_nil
def pl50_0 (k : Nat) : Plan := .go
theorem pq50_0 (k : Nat) : PlanOK Try.prog lim50 (pl50_0 k) (codeAt (bodyOf Try.f50) [.r, .r, .r, .r, .s, .b]) = PlanOK Try.prog lim50 .go (codeAt (bodyOf Try.f50) [.r, .r, .r, .r, .s, .b]) := by kernel_rfl
theorem ps50_0 (k m : Nat) (v : (fr50_0 k).sh.V) : F50_0 k (m + 1) v.1.1 v.1.2.1 v.1.2.2.1 v.2.1 v.2.2.1 = (body Try.prog (stepper Try.prog (cfg50 k) lim50) (pl50_0 k) (codeAt (bodyOf Try.f50) [.r, .r, .r, .r, .s, .b]) ((fr50_0 k).sh.st v) (loopK (fr50_0 k) fun v => F50_0 k m v.1.1 v.1.2.1 v.1.2.2.1 v.2.1 v.2.2.1)).eval := by kernel_rfl
theorem pe50_0 (k m : Nat) (v : (fr50_0 k).sh.V) : (body Try.prog (stepper Try.prog (cfg50 k) lim50) (pl50_0 k) (codeAt (bodyOf Try.f50) [.r, .r, .r, .r, .s, .b]) ((fr50_0 k).sh.st v) (loopK (fr50_0 k) fun v => F50_0 k m v.1.1 v.1.2.1 v.1.2.2.1 v.2.1 v.2.2.1)).left = (body Try.prog (stepper Try.prog (cfg50 k) lim50) (pl50_0 k) (codeAt (bodyOf Try.f50) [.r, .r, .r, .r, .s, .b]) ((fr50_0 k).sh.st v) (loopK (fr50_0 k) fun v => F50_0 k m v.1.1 v.1.2.1 v.1.2.2.1 v.2.1 v.2.2.1)).right := by kernel_rfl
theorem fr50_0_ok (k : Nat) : FragOK Try.prog lim50 (fr50_0 k) (codeAt (bodyOf Try.f50) [.r, .r, .r, .r, .s]) :=
  frag_cast (by kernel_rfl) (loop_ok (cfg50_ok k) (Eq.mpr (pq50_0 k) (planOK_go _)) (fun m v => F50_0 k m v.1.1 v.1.2.1 v.1.2.2.1 v.2.1 v.2.2.1) k (fun _ => rfl) (fun _ => rfl) fun m v => ⟨ps50_0 k m v, pe50_0 k m v⟩)
def pl50 (k : Nat) : Plan := (.seq .go (.seq .go (.seq .go (.seq .go (.sub (.frag (fr50_0 k)))))))
theorem pq50 (k : Nat) : PlanOK Try.prog lim50 (pl50 k) (codeAt (bodyOf Try.f50) []) = (PlanOK Try.prog lim50 .go (codeAt (bodyOf Try.f50) [.l]) ∧ (PlanOK Try.prog lim50 .go (codeAt (bodyOf Try.f50) [.r, .l]) ∧ (PlanOK Try.prog lim50 .go (codeAt (bodyOf Try.f50) [.r, .r, .l]) ∧ (PlanOK Try.prog lim50 .go (codeAt (bodyOf Try.f50) [.r, .r, .r, .l]) ∧ FragOK Try.prog lim50 (fr50_0 k) (codeAt (bodyOf Try.f50) [.r, .r, .r, .r, .s]))))) := by kernel_rfl
theorem ev50 (k : Nat) (x : AT (sp50 k).ps) : (sp50 k).impl x = (fnT Try.prog (cfg50 k) lim50 Try.f50 (bodyOf Try.f50) (pl50 k) (sp50 k) x).eval := by kernel_rfl
theorem eq50 (k : Nat) (x : AT (sp50 k).ps) : (fnT Try.prog (cfg50 k) lim50 Try.f50 (bodyOf Try.f50) (pl50 k) (sp50 k) x).left = (fnT Try.prog (cfg50 k) lim50 Try.f50 (bodyOf Try.f50) (pl50 k) (sp50 k) x).right := by kernel_rfl
theorem v50 (k : Nat) : Callable Try.prog 50 ∧ Valid Try.prog 50 (sp50 k) :=
  fn_ok (cfg50_ok k) (f := 50) (fn := Try.f50) (by kernel_rfl) (c := bodyOf Try.f50) (by kernel_rfl) (by kernel_rfl) rfl rfl (Nat.le_of_ble_eq_true rfl) (Nat.le_of_ble_eq_true rfl) (p := pl50 k) (Eq.mpr (pq50 k) ⟨(planOK_go _), ⟨(planOK_go _), ⟨(planOK_go _), ⟨(planOK_go _), (fr50_0_ok k)⟩⟩⟩⟩) fun x => ⟨ev50 k x, eq50 k x⟩
/-! f57 hyphen/trop.None -/
def F57 (k : Nat) : Option (((List Int) × Unit) × Unit) :=
  let x1 := (List.set (List.set (List.set (List.replicate 3 (0 : Int)) 0 (1152921504606846976 : Int)) 1 (1152921504606846976 : Int)) 2 (1152921504606846976 : Int))
  some ((x1, ()), ())
def sp57 (k : Nat) : Spec := ⟨[], [.val (.arr 3 (.int .i64))], fun x => F57 k⟩
def lim57 : Lim := ⟨2, 0, false, false⟩
def cfg57 (k : Nat) : Nat → Option Spec := cfgL []
theorem cfg57_ok (k : Nat) : CfgOK Try.prog (cfg57 k) := cfgL_nil
def pl57 (k : Nat) : Plan := .go
theorem pq57 (k : Nat) : PlanOK Try.prog lim57 (pl57 k) (codeAt (bodyOf Try.f57) []) = PlanOK Try.prog lim57 .go (codeAt (bodyOf Try.f57) []) := by kernel_rfl
theorem ev57 (k : Nat) (x : AT (sp57 k).ps) : (sp57 k).impl x = (fnT Try.prog (cfg57 k) lim57 Try.f57 (bodyOf Try.f57) (pl57 k) (sp57 k) x).eval := by kernel_rfl
theorem eq57 (k : Nat) (x : AT (sp57 k).ps) : (fnT Try.prog (cfg57 k) lim57 Try.f57 (bodyOf Try.f57) (pl57 k) (sp57 k) x).left = (fnT Try.prog (cfg57 k) lim57 Try.f57 (bodyOf Try.f57) (pl57 k) (sp57 k) x).right := by kernel_rfl
theorem v57 (k : Nat) : Callable Try.prog 57 ∧ Valid Try.prog 57 (sp57 k) :=
  fn_ok (cfg57_ok k) (f := 57) (fn := Try.f57) (by kernel_rfl) (c := bodyOf Try.f57) (by kernel_rfl) (by kernel_rfl) rfl rfl (Nat.le_of_ble_eq_true rfl) (Nat.le_of_ble_eq_true rfl) (p := pl57 k) (Eq.mpr (pq57 k) (planOK_go _)) fun x => ⟨ev57 k x, eq57 k x⟩
/-! f54 slices.Clone[[]hyphen/api.Vec,hyphen/api.Vec] -/
def F54 (k : Nat) (a0 : (List (List Int))) : Option (((List (List Int)) × Unit) × Unit) :=
  bif (((List.length a0 : Nat) : Int) == 0) then
    some (([], ()), ())
  else
    if (List.length (List.replicate 0 (List.replicate 3 (0 : Int))) + List.length a0) * (24 * 2) ≤ 281474976710656 ∧ List.length (List.replicate 0 (List.replicate 3 (0 : Int))) + List.length a0 ≤ 9223372036854775807 then
      some ((((List.replicate 0 (List.replicate 3 (0 : Int))) ++ a0), ()), ())
    else none
def sp54 (k : Nat) : Spec := ⟨[.val (.sl false 57 (.arr 3 (.int .i64)) none)], [.own (.sl true 57 (.arr 3 (.int .i64)) none)], fun x => F54 k x.1⟩
def lim54 : Lim := ⟨8, 1, true, false⟩
def cfg54 (k : Nat) : Nat → Option Spec := cfgL []
theorem cfg54_ok (k : Nat) : CfgOK Try.prog (cfg54 k) := cfgL_nil
def pl54 (k : Nat) : Plan := .go
theorem pq54 (k : Nat) : PlanOK Try.prog lim54 (pl54 k) (codeAt (bodyOf Try.f54) []) = PlanOK Try.prog lim54 .go (codeAt (bodyOf Try.f54) []) := by kernel_rfl
theorem ev54 (k : Nat) (x : AT (sp54 k).ps) : (sp54 k).impl x = (fnT Try.prog (cfg54 k) lim54 Try.f54 (bodyOf Try.f54) (pl54 k) (sp54 k) x).eval := by kernel_rfl
theorem tr54 (k : Nat) (x : AT (sp54 k).ps) : (fnT Try.prog (cfg54 k) lim54 Try.f54 (bodyOf Try.f54) (pl54 k) (sp54 k) x) = (Tr.split (((List.length x.1 : Nat) : Int) == 0) (.both (.split true (.leaf (([], ()), ())) (.need ((List.length (List.replicate 0 (List.replicate 3 (0 : Int))) + List.length x.1) * (24 * 2) ≤ 281474976710656 ∧ List.length (List.replicate 0 (List.replicate 3 (0 : Int))) + List.length x.1 ≤ 9223372036854775807) (.leaf (([] ++ x.1, ()), ())))) (.split false (.leaf (([], ()), ())) (.need ((List.length (List.replicate 0 (List.replicate 3 (0 : Int))) + List.length x.1) * (24 * 2) ≤ 281474976710656 ∧ List.length (List.replicate 0 (List.replicate 3 (0 : Int))) + List.length x.1 ≤ 9223372036854775807) (.leaf (([] ++ x.1, ()), ()))))) (.split false (.leaf (([], ()), ())) (.need ((List.length (List.replicate 0 (List.replicate 3 (0 : Int))) + List.length x.1) * (24 * 2) ≤ 281474976710656 ∧ List.length (List.replicate 0 (List.replicate 3 (0 : Int))) + List.length x.1 ≤ 9223372036854775807) (.leaf (([] ++ x.1, ()), ()))))) := by kernel_rfl
theorem sa54 (k : Nat) (x : AT (sp54 k).ps) (r) (h : (sp54 k).impl x = some r) : (fnT Try.prog (cfg54 k) lim54 Try.f54 (bodyOf Try.f54) (pl54 k) (sp54 k) x).sat (· = r) := sat_of_eq (tr54 k x) (clone_sat (a := x.1) (p := (List.length (List.replicate 0 (List.replicate 3 (0 : Int))) + List.length x.1) * (24 * 2) ≤ 281474976710656 ∧ List.length (List.replicate 0 (List.replicate 3 (0 : Int))) + List.length x.1 ≤ 9223372036854775807) (fun e => by rw [e]; simp) h)
theorem v54 (k : Nat) : Callable Try.prog 54 ∧ Valid Try.prog 54 (sp54 k) :=
  fn_sat (cfg54_ok k) (f := 54) (fn := Try.f54) (by kernel_rfl) (c := bodyOf Try.f54) (by kernel_rfl) (by kernel_rfl) rfl rfl (Nat.le_of_ble_eq_true rfl) (Nat.le_of_ble_eq_true rfl) (p := pl54 k) (Eq.mpr (pq54 k) (planOK_go _)) fun x r h => sa54 k x r h
/-! f49 hyphen/det.Run -/
def F49_0 (k : Nat) : Nat → (List Int) → (List Int) → Int → Int → Int → ((List (List Int)) × ((List (List (List Int))) × Unit)) → (List (List Int)) → Option ((Unit × ((List (List Int)) × Unit)))
  | 0, _, _, _, _, _, _, _ => none
  | n + 1, t1, t2, t8, t13, t14, c3, c2000007 =>
    bif (decide (t14 < t13)) then
      (F57 k).bind fun r2 =>
      bif (decide (t8 ≥ (0 : Int))) then
        let x3 := (decide (t8 < ((List.length c3.2.1 : Nat) : Int)))
        bif x3 then
          let x4 := (decide (t14 < ((List.length t2 : Nat) : Int)))
          bif x4 then
            if 0 ≤ t14 ∧ t14 < ((List.length t2 : Nat) : Int) then
              let x5 := (decide ((List.getD t2 (Int.toNat t14) (0 : Int)) ≥ (0 : Int)))
              bif x5 then
                if 0 ≤ t14 ∧ t14 < ((List.length t2 : Nat) : Int) then
                  if 0 ≤ t8 ∧ t8 < ((List.length c3.2.1 : Nat) : Int) then
                    let x6 := (List.getD c3.2.1 (Int.toNat t8) ([] : (List (List Int))))
                    let x7 := (decide ((List.getD t2 (Int.toNat t14) (0 : Int)) < ((List.length x6 : Nat) : Int)))
                    bif x7 then
                      if 0 ≤ t8 ∧ t8 < ((List.length c3.2.1 : Nat) : Int) then
                        let x8 := (List.getD c3.2.1 (Int.toNat t8) ([] : (List (List Int))))
                        if 0 ≤ t14 ∧ t14 < ((List.length t2 : Nat) : Int) then
                          if 0 ≤ (List.getD t2 (Int.toNat t14) (0 : Int)) ∧ (List.getD t2 (Int.toNat t14) (0 : Int)) < ((List.length x8 : Nat) : Int) then
                            let x9 := (List.getD x8 (Int.toNat (List.getD t2 (Int.toNat t14) (0 : Int))) ([] : (List Int)))
                            let x10 := (List.set (List.replicate 1 (List.replicate 3 (0 : Int))) 0 x9)
                            if (List.length c2000007 + List.length x10) * (24 * 2) ≤ 281474976710656 ∧ List.length c2000007 + List.length x10 ≤ 9223372036854775807 then
                              let x11 := (decide (t14 < ((List.length t1 : Nat) : Int)))
                              bif x11 then
                                bif (decide (t8 ≥ (0 : Int))) then
                                  let x12 := (decide (t8 < ((List.length c3.1 : Nat) : Int)))
                                  bif x12 then
                                    if 0 ≤ t14 ∧ t14 < ((List.length t1 : Nat) : Int) then
                                      let x13 := (decide ((List.getD t1 (Int.toNat t14) (0 : Int)) ≥ (0 : Int)))
                                      bif x13 then
                                        if 0 ≤ t14 ∧ t14 < ((List.length t1 : Nat) : Int) then
                                          if 0 ≤ t8 ∧ t8 < ((List.length c3.1 : Nat) : Int) then
                                            let x14 := (List.getD c3.1 (Int.toNat t8) ([] : (List Int)))
                                            let x15 := (decide ((List.getD t1 (Int.toNat t14) (0 : Int)) < ((List.length x14 : Nat) : Int)))
                                            bif x15 then
                                              if 0 ≤ t8 ∧ t8 < ((List.length c3.1 : Nat) : Int) then
                                                let x16 := (List.getD c3.1 (Int.toNat t8) ([] : (List Int)))
                                                if 0 ≤ t14 ∧ t14 < ((List.length t1 : Nat) : Int) then
                                                  if 0 ≤ (List.getD t1 (Int.toNat t14) (0 : Int)) ∧ (List.getD t1 (Int.toNat t14) (0 : Int)) < ((List.length x16 : Nat) : Int) then
                                                    let x17 := (List.getD x16 (Int.toNat (List.getD t1 (Int.toNat t14) (0 : Int))) (0 : Int))
                                                    (F49_0 k n t1 t2 x17 t13 (IntKind.wrap .i64 (t14 + (1 : Int))) c3 (c2000007 ++ x10)).bind some
                                                  else none
                                                else none
                                              else none
                                            else
                                              (F49_0 k n t1 t2 t8 t13 (IntKind.wrap .i64 (t14 + (1 : Int))) c3 (c2000007 ++ x10)).bind some
                                          else none
                                        else none
                                      else
                                        (F49_0 k n t1 t2 t8 t13 (IntKind.wrap .i64 (t14 + (1 : Int))) c3 (c2000007 ++ x10)).bind some
                                    else none
                                  else
                                    (F49_0 k n t1 t2 t8 t13 (IntKind.wrap .i64 (t14 + (1 : Int))) c3 (c2000007 ++ x10)).bind some
                                else
                                  (F49_0 k n t1 t2 t8 t13 (IntKind.wrap .i64 (t14 + (1 : Int))) c3 (c2000007 ++ x10)).bind some
                              else
                                (F49_0 k n t1 t2 t8 t13 (IntKind.wrap .i64 (t14 + (1 : Int))) c3 (c2000007 ++ x10)).bind some
                            else none
                          else none
                        else none
                      else none
                    else
                      let x18 := (List.set (List.replicate 1 (List.replicate 3 (0 : Int))) 0 r2.1.1)
                      if (List.length c2000007 + List.length x18) * (24 * 2) ≤ 281474976710656 ∧ List.length c2000007 + List.length x18 ≤ 9223372036854775807 then
                        let x19 := (decide (t14 < ((List.length t1 : Nat) : Int)))
                        bif x19 then
                          bif (decide (t8 ≥ (0 : Int))) then
                            let x20 := (decide (t8 < ((List.length c3.1 : Nat) : Int)))
                            bif x20 then
                              if 0 ≤ t14 ∧ t14 < ((List.length t1 : Nat) : Int) then
                                let x21 := (decide ((List.getD t1 (Int.toNat t14) (0 : Int)) ≥ (0 : Int)))
                                bif x21 then
                                  if 0 ≤ t14 ∧ t14 < ((List.length t1 : Nat) : Int) then
                                    if 0 ≤ t8 ∧ t8 < ((List.length c3.1 : Nat) : Int) then
                                      let x22 := (List.getD c3.1 (Int.toNat t8) ([] : (List Int)))
                                      let x23 := (decide ((List.getD t1 (Int.toNat t14) (0 : Int)) < ((List.length x22 : Nat) : Int)))
                                      bif x23 then
                                        if 0 ≤ t8 ∧ t8 < ((List.length c3.1 : Nat) : Int) then
                                          let x24 := (List.getD c3.1 (Int.toNat t8) ([] : (List Int)))
                                          if 0 ≤ t14 ∧ t14 < ((List.length t1 : Nat) : Int) then
                                            if 0 ≤ (List.getD t1 (Int.toNat t14) (0 : Int)) ∧ (List.getD t1 (Int.toNat t14) (0 : Int)) < ((List.length x24 : Nat) : Int) then
                                              let x25 := (List.getD x24 (Int.toNat (List.getD t1 (Int.toNat t14) (0 : Int))) (0 : Int))
                                              (F49_0 k n t1 t2 x25 t13 (IntKind.wrap .i64 (t14 + (1 : Int))) c3 (c2000007 ++ x18)).bind some
                                            else none
                                          else none
                                        else none
                                      else
                                        (F49_0 k n t1 t2 t8 t13 (IntKind.wrap .i64 (t14 + (1 : Int))) c3 (c2000007 ++ x18)).bind some
                                    else none
                                  else none
                                else
                                  (F49_0 k n t1 t2 t8 t13 (IntKind.wrap .i64 (t14 + (1 : Int))) c3 (c2000007 ++ x18)).bind some
                              else none
                            else
                              (F49_0 k n t1 t2 t8 t13 (IntKind.wrap .i64 (t14 + (1 : Int))) c3 (c2000007 ++ x18)).bind some
                          else
                            (F49_0 k n t1 t2 t8 t13 (IntKind.wrap .i64 (t14 + (1 : Int))) c3 (c2000007 ++ x18)).bind some
                        else
                          (F49_0 k n t1 t2 t8 t13 (IntKind.wrap .i64 (t14 + (1 : Int))) c3 (c2000007 ++ x18)).bind some
                      else none
                  else none
                else none
              else
                let x26 := (List.set (List.replicate 1 (List.replicate 3 (0 : Int))) 0 r2.1.1)
                if (List.length c2000007 + List.length x26) * (24 * 2) ≤ 281474976710656 ∧ List.length c2000007 + List.length x26 ≤ 9223372036854775807 then
                  let x27 := (decide (t14 < ((List.length t1 : Nat) : Int)))
                  bif x27 then
                    bif (decide (t8 ≥ (0 : Int))) then
                      let x28 := (decide (t8 < ((List.length c3.1 : Nat) : Int)))
                      bif x28 then
                        if 0 ≤ t14 ∧ t14 < ((List.length t1 : Nat) : Int) then
                          let x29 := (decide ((List.getD t1 (Int.toNat t14) (0 : Int)) ≥ (0 : Int)))
                          bif x29 then
                            if 0 ≤ t14 ∧ t14 < ((List.length t1 : Nat) : Int) then
                              if 0 ≤ t8 ∧ t8 < ((List.length c3.1 : Nat) : Int) then
                                let x30 := (List.getD c3.1 (Int.toNat t8) ([] : (List Int)))
                                let x31 := (decide ((List.getD t1 (Int.toNat t14) (0 : Int)) < ((List.length x30 : Nat) : Int)))
                                bif x31 then
                                  if 0 ≤ t8 ∧ t8 < ((List.length c3.1 : Nat) : Int) then
                                    let x32 := (List.getD c3.1 (Int.toNat t8) ([] : (List Int)))
                                    if 0 ≤ t14 ∧ t14 < ((List.length t1 : Nat) : Int) then
                                      if 0 ≤ (List.getD t1 (Int.toNat t14) (0 : Int)) ∧ (List.getD t1 (Int.toNat t14) (0 : Int)) < ((List.length x32 : Nat) : Int) then
                                        let x33 := (List.getD x32 (Int.toNat (List.getD t1 (Int.toNat t14) (0 : Int))) (0 : Int))
                                        (F49_0 k n t1 t2 x33 t13 (IntKind.wrap .i64 (t14 + (1 : Int))) c3 (c2000007 ++ x26)).bind some
                                      else none
                                    else none
                                  else none
                                else
                                  (F49_0 k n t1 t2 t8 t13 (IntKind.wrap .i64 (t14 + (1 : Int))) c3 (c2000007 ++ x26)).bind some
                              else none
                            else none
                          else
                            (F49_0 k n t1 t2 t8 t13 (IntKind.wrap .i64 (t14 + (1 : Int))) c3 (c2000007 ++ x26)).bind some
                        else none
                      else
                        (F49_0 k n t1 t2 t8 t13 (IntKind.wrap .i64 (t14 + (1 : Int))) c3 (c2000007 ++ x26)).bind some
                    else
                      (F49_0 k n t1 t2 t8 t13 (IntKind.wrap .i64 (t14 + (1 : Int))) c3 (c2000007 ++ x26)).bind some
                  else
                    (F49_0 k n t1 t2 t8 t13 (IntKind.wrap .i64 (t14 + (1 : Int))) c3 (c2000007 ++ x26)).bind some
                else none
            else none
          else
            let x34 := (List.set (List.replicate 1 (List.replicate 3 (0 : Int))) 0 r2.1.1)
            if (List.length c2000007 + List.length x34) * (24 * 2) ≤ 281474976710656 ∧ List.length c2000007 + List.length x34 ≤ 9223372036854775807 then
              let x35 := (decide (t14 < ((List.length t1 : Nat) : Int)))
              bif x35 then
                bif (decide (t8 ≥ (0 : Int))) then
                  let x36 := (decide (t8 < ((List.length c3.1 : Nat) : Int)))
                  bif x36 then
                    if 0 ≤ t14 ∧ t14 < ((List.length t1 : Nat) : Int) then
                      let x37 := (decide ((List.getD t1 (Int.toNat t14) (0 : Int)) ≥ (0 : Int)))
                      bif x37 then
                        if 0 ≤ t14 ∧ t14 < ((List.length t1 : Nat) : Int) then
                          if 0 ≤ t8 ∧ t8 < ((List.length c3.1 : Nat) : Int) then
                            let x38 := (List.getD c3.1 (Int.toNat t8) ([] : (List Int)))
                            let x39 := (decide ((List.getD t1 (Int.toNat t14) (0 : Int)) < ((List.length x38 : Nat) : Int)))
                            bif x39 then
                              if 0 ≤ t8 ∧ t8 < ((List.length c3.1 : Nat) : Int) then
                                let x40 := (List.getD c3.1 (Int.toNat t8) ([] : (List Int)))
                                if 0 ≤ t14 ∧ t14 < ((List.length t1 : Nat) : Int) then
                                  if 0 ≤ (List.getD t1 (Int.toNat t14) (0 : Int)) ∧ (List.getD t1 (Int.toNat t14) (0 : Int)) < ((List.length x40 : Nat) : Int) then
                                    let x41 := (List.getD x40 (Int.toNat (List.getD t1 (Int.toNat t14) (0 : Int))) (0 : Int))
                                    (F49_0 k n t1 t2 x41 t13 (IntKind.wrap .i64 (t14 + (1 : Int))) c3 (c2000007 ++ x34)).bind some
                                  else none
                                else none
                              else none
                            else
                              (F49_0 k n t1 t2 t8 t13 (IntKind.wrap .i64 (t14 + (1 : Int))) c3 (c2000007 ++ x34)).bind some
                          else none
                        else none
                      else
                        (F49_0 k n t1 t2 t8 t13 (IntKind.wrap .i64 (t14 + (1 : Int))) c3 (c2000007 ++ x34)).bind some
                    else none
                  else
                    (F49_0 k n t1 t2 t8 t13 (IntKind.wrap .i64 (t14 + (1 : Int))) c3 (c2000007 ++ x34)).bind some
                else
                  (F49_0 k n t1 t2 t8 t13 (IntKind.wrap .i64 (t14 + (1 : Int))) c3 (c2000007 ++ x34)).bind some
              else
                (F49_0 k n t1 t2 t8 t13 (IntKind.wrap .i64 (t14 + (1 : Int))) c3 (c2000007 ++ x34)).bind some
            else none
        else
          let x42 := (List.set (List.replicate 1 (List.replicate 3 (0 : Int))) 0 r2.1.1)
          if (List.length c2000007 + List.length x42) * (24 * 2) ≤ 281474976710656 ∧ List.length c2000007 + List.length x42 ≤ 9223372036854775807 then
            let x43 := (decide (t14 < ((List.length t1 : Nat) : Int)))
            bif x43 then
              bif (decide (t8 ≥ (0 : Int))) then
                let x44 := (decide (t8 < ((List.length c3.1 : Nat) : Int)))
                bif x44 then
                  if 0 ≤ t14 ∧ t14 < ((List.length t1 : Nat) : Int) then
                    let x45 := (decide ((List.getD t1 (Int.toNat t14) (0 : Int)) ≥ (0 : Int)))
                    bif x45 then
                      if 0 ≤ t14 ∧ t14 < ((List.length t1 : Nat) : Int) then
                        if 0 ≤ t8 ∧ t8 < ((List.length c3.1 : Nat) : Int) then
                          let x46 := (List.getD c3.1 (Int.toNat t8) ([] : (List Int)))
                          let x47 := (decide ((List.getD t1 (Int.toNat t14) (0 : Int)) < ((List.length x46 : Nat) : Int)))
                          bif x47 then
                            if 0 ≤ t8 ∧ t8 < ((List.length c3.1 : Nat) : Int) then
                              let x48 := (List.getD c3.1 (Int.toNat t8) ([] : (List Int)))
                              if 0 ≤ t14 ∧ t14 < ((List.length t1 : Nat) : Int) then
                                if 0 ≤ (List.getD t1 (Int.toNat t14) (0 : Int)) ∧ (List.getD t1 (Int.toNat t14) (0 : Int)) < ((List.length x48 : Nat) : Int) then
                                  let x49 := (List.getD x48 (Int.toNat (List.getD t1 (Int.toNat t14) (0 : Int))) (0 : Int))
                                  (F49_0 k n t1 t2 x49 t13 (IntKind.wrap .i64 (t14 + (1 : Int))) c3 (c2000007 ++ x42)).bind some
                                else none
                              else none
                            else none
                          else
                            (F49_0 k n t1 t2 t8 t13 (IntKind.wrap .i64 (t14 + (1 : Int))) c3 (c2000007 ++ x42)).bind some
                        else none
                      else none
                    else
                      (F49_0 k n t1 t2 t8 t13 (IntKind.wrap .i64 (t14 + (1 : Int))) c3 (c2000007 ++ x42)).bind some
                  else none
                else
                  (F49_0 k n t1 t2 t8 t13 (IntKind.wrap .i64 (t14 + (1 : Int))) c3 (c2000007 ++ x42)).bind some
              else
                (F49_0 k n t1 t2 t8 t13 (IntKind.wrap .i64 (t14 + (1 : Int))) c3 (c2000007 ++ x42)).bind some
            else
              (F49_0 k n t1 t2 t8 t13 (IntKind.wrap .i64 (t14 + (1 : Int))) c3 (c2000007 ++ x42)).bind some
          else none
      else
        let x50 := (List.set (List.replicate 1 (List.replicate 3 (0 : Int))) 0 r2.1.1)
        if (List.length c2000007 + List.length x50) * (24 * 2) ≤ 281474976710656 ∧ List.length c2000007 + List.length x50 ≤ 9223372036854775807 then
          let x51 := (decide (t14 < ((List.length t1 : Nat) : Int)))
          bif x51 then
            bif (decide (t8 ≥ (0 : Int))) then
              let x52 := (decide (t8 < ((List.length c3.1 : Nat) : Int)))
              bif x52 then
                if 0 ≤ t14 ∧ t14 < ((List.length t1 : Nat) : Int) then
                  let x53 := (decide ((List.getD t1 (Int.toNat t14) (0 : Int)) ≥ (0 : Int)))
                  bif x53 then
                    if 0 ≤ t14 ∧ t14 < ((List.length t1 : Nat) : Int) then
                      if 0 ≤ t8 ∧ t8 < ((List.length c3.1 : Nat) : Int) then
                        let x54 := (List.getD c3.1 (Int.toNat t8) ([] : (List Int)))
                        let x55 := (decide ((List.getD t1 (Int.toNat t14) (0 : Int)) < ((List.length x54 : Nat) : Int)))
                        bif x55 then
                          if 0 ≤ t8 ∧ t8 < ((List.length c3.1 : Nat) : Int) then
                            let x56 := (List.getD c3.1 (Int.toNat t8) ([] : (List Int)))
                            if 0 ≤ t14 ∧ t14 < ((List.length t1 : Nat) : Int) then
                              if 0 ≤ (List.getD t1 (Int.toNat t14) (0 : Int)) ∧ (List.getD t1 (Int.toNat t14) (0 : Int)) < ((List.length x56 : Nat) : Int) then
                                let x57 := (List.getD x56 (Int.toNat (List.getD t1 (Int.toNat t14) (0 : Int))) (0 : Int))
                                (F49_0 k n t1 t2 x57 t13 (IntKind.wrap .i64 (t14 + (1 : Int))) c3 (c2000007 ++ x50)).bind some
                              else none
                            else none
                          else none
                        else
                          (F49_0 k n t1 t2 t8 t13 (IntKind.wrap .i64 (t14 + (1 : Int))) c3 (c2000007 ++ x50)).bind some
                      else none
                    else none
                  else
                    (F49_0 k n t1 t2 t8 t13 (IntKind.wrap .i64 (t14 + (1 : Int))) c3 (c2000007 ++ x50)).bind some
                else none
              else
                (F49_0 k n t1 t2 t8 t13 (IntKind.wrap .i64 (t14 + (1 : Int))) c3 (c2000007 ++ x50)).bind some
            else
              (F49_0 k n t1 t2 t8 t13 (IntKind.wrap .i64 (t14 + (1 : Int))) c3 (c2000007 ++ x50)).bind some
          else
            (F49_0 k n t1 t2 t8 t13 (IntKind.wrap .i64 (t14 + (1 : Int))) c3 (c2000007 ++ x50)).bind some
        else none
    else
      some ((), (c2000007, ()))
def fr49_0 (k : Nat) : Frag := ⟨⟨[(7, (.sl true 57 (.arr 3 (.int .i64)) none))], [(1, .val (.sl false 3 (.int .i64) none)), (2, .val (.sl false 3 (.int .i64) none)), (3, .ptr 3 []), (7, .at 2000007 []), (8, .val (.int .i64)), (13, .val (.int .i64)), (14, .val (.int .i64))], [(3, some 30, (.pair (.sl false 22 (.sl false 3 (.int .i64) none) none) (.pair (.sl false 36 (.sl false 57 (.arr 3 (.int .i64)) none) none) .unit))), (2000007, none, (.sl true 57 (.arr 3 (.int .i64)) none))]⟩, [(.exit 0, ⟨[(7, (.sl true 57 (.arr 3 (.int .i64)) none))], [(7, .at 2000007 [])], [(2000007, none, (.sl true 57 (.arr 3 (.int .i64)) none))]⟩)], fun v => F49_0 k k v.1.1 v.1.2.1 v.1.2.2.1 v.1.2.2.2.1 v.1.2.2.2.2.1 v.2.1 v.2.2.1⟩
def F49 (k : Nat) (a0 : ((List (List Int)) × ((List (List (List Int))) × Unit))) (a1 : (List Int)) (a2 : (List Int)) : Option (((List (List Int)) × Unit) × Unit) :=
  let x1 := (IntKind.wrap .i64 (((List.length a1 : Nat) : Int) + (1 : Int)))
  (F49_0 k k a1 a2 (0 : Int) x1 (0 : Int) a0 []).bind fun r58 =>
  let y59 := r58.2.1
  (F54 k y59).bind fun r60 =>
  some ((r60.1.1, ()), ())
def sp49 (k : Nat) : Spec := ⟨[.val (.pair (.sl false 22 (.sl false 3 (.int .i64) none) none) (.pair (.sl false 36 (.sl false 57 (.arr 3 (.int .i64)) none) none) .unit)), .val (.sl false 3 (.int .i64) none), .val (.sl false 3 (.int .i64) none)], [.own (.sl true 57 (.arr 3 (.int .i64)) none)], fun x => F49 k x.1 x.2.1 x.2.2.1⟩
def lim49 : Lim := ⟨117, 3, false, false⟩
def cfg49 (k : Nat) : Nat → Option Spec := cfgL [(54, sp54 k), (57, sp57 k)]
theorem cfg49_ok (k : Nat) : CfgOK Try.prog (cfg49 k) := cfgL_cons (v54 k) (cfgL_cons (v57 k) (cfgL_nil))
def pl49_0 (k : Nat) : Plan := .go
theorem pq49_0 (k : Nat) : PlanOK Try.prog lim49 (pl49_0 k) (codeAt (bodyOf Try.f49) [.r, .r, .r, .l, .r, .s, .b]) = PlanOK Try.prog lim49 .go (codeAt (bodyOf Try.f49) [.r, .r, .r, .l, .r, .s, .b]) := by kernel_rfl
theorem ps49_0 (k m : Nat) (v : (fr49_0 k).sh.V) : F49_0 k (m + 1) v.1.1 v.1.2.1 v.1.2.2.1 v.1.2.2.2.1 v.1.2.2.2.2.1 v.2.1 v.2.2.1 = (body Try.prog (stepper Try.prog (cfg49 k) lim49) (pl49_0 k) (codeAt (bodyOf Try.f49) [.r, .r, .r, .l, .r, .s, .b]) ((fr49_0 k).sh.st v) (loopK (fr49_0 k) fun v => F49_0 k m v.1.1 v.1.2.1 v.1.2.2.1 v.1.2.2.2.1 v.1.2.2.2.2.1 v.2.1 v.2.2.1)).eval := by kernel_rfl
theorem pe49_0 (k m : Nat) (v : (fr49_0 k).sh.V) : (body Try.prog (stepper Try.prog (cfg49 k) lim49) (pl49_0 k) (codeAt (bodyOf Try.f49) [.r, .r, .r, .l, .r, .s, .b]) ((fr49_0 k).sh.st v) (loopK (fr49_0 k) fun v => F49_0 k m v.1.1 v.1.2.1 v.1.2.2.1 v.1.2.2.2.1 v.1.2.2.2.2.1 v.2.1 v.2.2.1)).left = (body Try.prog (stepper Try.prog (cfg49 k) lim49) (pl49_0 k) (codeAt (bodyOf Try.f49) [.r, .r, .r, .l, .r, .s, .b]) ((fr49_0 k).sh.st v) (loopK (fr49_0 k) fun v => F49_0 k m v.1.1 v.1.2.1 v.1.2.2.1 v.1.2.2.2.1 v.1.2.2.2.2.1 v.2.1 v.2.2.1)).right := by kernel_rfl
theorem fr49_0_ok (k : Nat) : FragOK Try.prog lim49 (fr49_0 k) (codeAt (bodyOf Try.f49) [.r, .r, .r, .l, .r, .s]) :=
  frag_cast (by kernel_rfl) (loop_ok (cfg49_ok k) (Eq.mpr (pq49_0 k) (planOK_go _)) (fun m v => F49_0 k m v.1.1 v.1.2.1 v.1.2.2.1 v.1.2.2.2.1 v.1.2.2.2.2.1 v.2.1 v.2.2.1) k (fun _ => rfl) (fun _ => rfl) fun m v => ⟨ps49_0 k m v, pe49_0 k m v⟩)
def pl49 (k : Nat) : Plan := (.seq .go (.seq .go (.seq .go (.seq (.seq .go (.sub (.frag (fr49_0 k)))) .go))))
theorem pq49 (k : Nat) : PlanOK Try.prog lim49 (pl49 k) (codeAt (bodyOf Try.f49) []) = (PlanOK Try.prog lim49 .go (codeAt (bodyOf Try.f49) [.l]) ∧ (PlanOK Try.prog lim49 .go (codeAt (bodyOf Try.f49) [.r, .l]) ∧ (PlanOK Try.prog lim49 .go (codeAt (bodyOf Try.f49) [.r, .r, .l]) ∧ ((PlanOK Try.prog lim49 .go (codeAt (bodyOf Try.f49) [.r, .r, .r, .l, .l]) ∧ FragOK Try.prog lim49 (fr49_0 k) (codeAt (bodyOf Try.f49) [.r, .r, .r, .l, .r, .s])) ∧ PlanOK Try.prog lim49 .go (codeAt (bodyOf Try.f49) [.r, .r, .r, .r]))))) := by kernel_rfl
theorem ev49 (k : Nat) (x : AT (sp49 k).ps) : (sp49 k).impl x = (fnT Try.prog (cfg49 k) lim49 Try.f49 (bodyOf Try.f49) (pl49 k) (sp49 k) x).eval := by kernel_rfl
theorem eq49 (k : Nat) (x : AT (sp49 k).ps) : (fnT Try.prog (cfg49 k) lim49 Try.f49 (bodyOf Try.f49) (pl49 k) (sp49 k) x).left = (fnT Try.prog (cfg49 k) lim49 Try.f49 (bodyOf Try.f49) (pl49 k) (sp49 k) x).right := by kernel_rfl
theorem v49 (k : Nat) : Callable Try.prog 49 ∧ Valid Try.prog 49 (sp49 k) :=
  fn_ok (cfg49_ok k) (f := 49) (fn := Try.f49) (by kernel_rfl) (c := bodyOf Try.f49) (by kernel_rfl) (by kernel_rfl) rfl rfl (Nat.le_of_ble_eq_true rfl) (Nat.le_of_ble_eq_true rfl) (p := pl49 k) (Eq.mpr (pq49 k) ⟨(planOK_go _), ⟨(planOK_go _), ⟨(planOK_go _), ⟨⟨(planOK_go _), (fr49_0_ok k)⟩, (planOK_go _)⟩⟩⟩⟩) fun x => ⟨ev49 k x, eq49 k x⟩
/-! f18 hyphen/seg.Segment -/
def F18_0 (k : Nat) : Nat → Int → Int → ((List Int) × ((List Int) × (((List (List Int)) × ((List Int) × Unit)) × (((List (List Int)) × ((List (List (List Int))) × Unit)) × Unit)))) → (List Int) → (List Int) → Option ((Unit × (((List Int) × ((List Int) × (((List (List Int)) × ((List Int) × Unit)) × (((List (List Int)) × ((List (List (List Int))) × Unit)) × Unit)))) × (List Int) × Unit)))
  | 0, _, _, _, _, _ => none
  | n + 1, t25, t26, c2, c1000336, c2000008 =>
    bif (decide (t26 < t25)) then
      if 0 ≤ t26 ∧ t26 < ((List.length c1000336 : Nat) : Int) then
        let x4 := (List.getD c1000336 (Int.toNat t26) (0 : Int))
        (F48 k c2.1 c2.2.1 x4).bind fun r5 =>
        let x6 := (List.set (List.replicate 1 (0 : Int)) 0 r5.1.1)
        if (List.length c2000008 + List.length x6) * (8 * 2) ≤ 281474976710656 ∧ List.length c2000008 + List.length x6 ≤ 9223372036854775807 then
          (F18_0 k n t25 (IntKind.wrap .i64 (t26 + (1 : Int))) c2 c1000336 (c2000008 ++ x6)).bind some
        else none
      else none
    else
      some ((), (c2, c2000008, ()))
def fr18_0 (k : Nat) : Frag := ⟨⟨[(8, (.sl true 3 (.int .i64) none))], [(2, .ptr 2 []), (8, .at 2000008 []), (24, .at 1000336 []), (25, .val (.int .i64)), (26, .val (.int .i64))], [(2, some 32, (.pair (.sl false 3 (.int .i64) none) (.pair (.sl false 3 (.int .i64) none) (.pair (.pair (.sl false 22 (.sl false 3 (.int .i64) none) none) (.pair (.sl false 3 (.int .i64) none) .unit)) (.pair (.pair (.sl false 22 (.sl false 3 (.int .i64) none) none) (.pair (.sl false 36 (.sl false 57 (.arr 3 (.int .i64)) none) none) .unit)) .unit))))), (1000336, none, (.sl true 3 (.int .i64) none)), (2000008, none, (.sl true 3 (.int .i64) none))]⟩, [(.exit 1, ⟨[(8, (.sl true 3 (.int .i64) none))], [(2, .ptr 2 []), (8, .at 2000008 [])], [(2, some 32, (.pair (.sl false 3 (.int .i64) none) (.pair (.sl false 3 (.int .i64) none) (.pair (.pair (.sl false 22 (.sl false 3 (.int .i64) none) none) (.pair (.sl false 3 (.int .i64) none) .unit)) (.pair (.pair (.sl false 22 (.sl false 3 (.int .i64) none) none) (.pair (.sl false 36 (.sl false 57 (.arr 3 (.int .i64)) none) none) .unit)) .unit))))), (2000008, none, (.sl true 3 (.int .i64) none))]⟩)], fun v => F18_0 k k v.1.1 v.1.2.1 v.2.1 v.2.2.1 v.2.2.2.1⟩
def F18 (k : Nat) (a0 : ((List Int) × ((List Int) × (((List (List Int)) × ((List Int) × Unit)) × (((List (List Int)) × ((List (List (List Int))) × Unit)) × Unit))))) (a1 : ByteArray) : Option (((List (List Int)) × Int × Unit) × Unit) :=
  (F46 k a0).bind fun r1 =>
  bif (!r1.1.1) then
    some (([], (5 : Int), ()), ())
  else
    let x2 := (decide (((ByteArray.size a1 : Nat) : Int) > (4000 : Int)))
    bif x2 then
      some (([], (6 : Int), ()), ())
    else
      (F47 k a1).bind fun r3 =>
      (F18_0 k k ((List.length r3.1.1 : Nat) : Int) (0 : Int) a0 r3.1.1 []).bind fun r7 =>
      let y8 := r7.2.1
      let y9 := r7.2.2.1
      (F50 k y8.2.2.1 y9).bind fun r10 =>
      (F49 k y8.2.2.2.1 y9 r10.1.1).bind fun r11 =>
      some ((r11.1.1, (0 : Int), ()), ())
def sp18 (k : Nat) : Spec := ⟨[.val (.pair (.sl false 3 (.int .i64) none) (.pair (.sl false 3 (.int .i64) none) (.pair (.pair (.sl false 22 (.sl false 3 (.int .i64) none) none) (.pair (.sl false 3 (.int .i64) none) .unit)) (.pair (.pair (.sl false 22 (.sl false 3 (.int .i64) none) none) (.pair (.sl false 36 (.sl false 57 (.arr 3 (.int .i64)) none) none) .unit)) .unit)))), .val .str], [.own (.sl true 57 (.arr 3 (.int .i64)) none), .val (.int .i64)], fun x => F18 k x.1 x.2.1⟩
def lim18 : Lim := ⟨48, 2, false, false⟩
def cfg18 (k : Nat) : Nat → Option Spec := cfgL [(46, sp46 k), (47, sp47 k), (48, sp48 k), (49, sp49 k), (50, sp50 k)]
theorem cfg18_ok (k : Nat) : CfgOK Try.prog (cfg18 k) := cfgL_cons (v46 k) (cfgL_cons (v47 k) (cfgL_cons (v48 k) (cfgL_cons (v49 k) (cfgL_cons (v50 k) (cfgL_nil)))))
def pl18_0 (k : Nat) : Plan := .go
theorem pq18_0 (k : Nat) : PlanOK Try.prog lim18 (pl18_0 k) (codeAt (bodyOf Try.f18) [.r, .r, .r, .r, .l, .r, .s, .b]) = PlanOK Try.prog lim18 .go (codeAt (bodyOf Try.f18) [.r, .r, .r, .r, .l, .r, .s, .b]) := by kernel_rfl
theorem ps18_0 (k m : Nat) (v : (fr18_0 k).sh.V) : F18_0 k (m + 1) v.1.1 v.1.2.1 v.2.1 v.2.2.1 v.2.2.2.1 = (body Try.prog (stepper Try.prog (cfg18 k) lim18) (pl18_0 k) (codeAt (bodyOf Try.f18) [.r, .r, .r, .r, .l, .r, .s, .b]) ((fr18_0 k).sh.st v) (loopK (fr18_0 k) fun v => F18_0 k m v.1.1 v.1.2.1 v.2.1 v.2.2.1 v.2.2.2.1)).eval := by kernel_rfl
theorem pe18_0 (k m : Nat) (v : (fr18_0 k).sh.V) : (body Try.prog (stepper Try.prog (cfg18 k) lim18) (pl18_0 k) (codeAt (bodyOf Try.f18) [.r, .r, .r, .r, .l, .r, .s, .b]) ((fr18_0 k).sh.st v) (loopK (fr18_0 k) fun v => F18_0 k m v.1.1 v.1.2.1 v.2.1 v.2.2.1 v.2.2.2.1)).left = (body Try.prog (stepper Try.prog (cfg18 k) lim18) (pl18_0 k) (codeAt (bodyOf Try.f18) [.r, .r, .r, .r, .l, .r, .s, .b]) ((fr18_0 k).sh.st v) (loopK (fr18_0 k) fun v => F18_0 k m v.1.1 v.1.2.1 v.2.1 v.2.2.1 v.2.2.2.1)).right := by kernel_rfl
theorem fr18_0_ok (k : Nat) : FragOK Try.prog lim18 (fr18_0 k) (codeAt (bodyOf Try.f18) [.r, .r, .r, .r, .l, .r, .s]) :=
  frag_cast (by kernel_rfl) (loop_ok (cfg18_ok k) (Eq.mpr (pq18_0 k) (planOK_go _)) (fun m v => F18_0 k m v.1.1 v.1.2.1 v.2.1 v.2.2.1 v.2.2.2.1) k (fun _ => rfl) (fun _ => rfl) fun m v => ⟨ps18_0 k m v, pe18_0 k m v⟩)
def pl18 (k : Nat) : Plan := (.seq .go (.seq .go (.seq .go (.seq .go (.seq (.seq .go (.sub (.frag (fr18_0 k)))) .go)))))
theorem pq18 (k : Nat) : PlanOK Try.prog lim18 (pl18 k) (codeAt (bodyOf Try.f18) []) = (PlanOK Try.prog lim18 .go (codeAt (bodyOf Try.f18) [.l]) ∧ (PlanOK Try.prog lim18 .go (codeAt (bodyOf Try.f18) [.r, .l]) ∧ (PlanOK Try.prog lim18 .go (codeAt (bodyOf Try.f18) [.r, .r, .l]) ∧ (PlanOK Try.prog lim18 .go (codeAt (bodyOf Try.f18) [.r, .r, .r, .l]) ∧ ((PlanOK Try.prog lim18 .go (codeAt (bodyOf Try.f18) [.r, .r, .r, .r, .l, .l]) ∧ FragOK Try.prog lim18 (fr18_0 k) (codeAt (bodyOf Try.f18) [.r, .r, .r, .r, .l, .r, .s])) ∧ PlanOK Try.prog lim18 .go (codeAt (bodyOf Try.f18) [.r, .r, .r, .r, .r])))))) := by kernel_rfl
theorem ev18 (k : Nat) (x : AT (sp18 k).ps) : (sp18 k).impl x = (fnT Try.prog (cfg18 k) lim18 Try.f18 (bodyOf Try.f18) (pl18 k) (sp18 k) x).eval := by kernel_rfl
theorem eq18 (k : Nat) (x : AT (sp18 k).ps) : (fnT Try.prog (cfg18 k) lim18 Try.f18 (bodyOf Try.f18) (pl18 k) (sp18 k) x).left = (fnT Try.prog (cfg18 k) lim18 Try.f18 (bodyOf Try.f18) (pl18 k) (sp18 k) x).right := by kernel_rfl
theorem v18 (k : Nat) : Callable Try.prog 18 ∧ Valid Try.prog 18 (sp18 k) :=
  fn_ok (cfg18_ok k) (f := 18) (fn := Try.f18) (by kernel_rfl) (c := bodyOf Try.f18) (by kernel_rfl) (by kernel_rfl) rfl rfl (Nat.le_of_ble_eq_true rfl) (Nat.le_of_ble_eq_true rfl) (p := pl18 k) (Eq.mpr (pq18 k) ⟨(planOK_go _), ⟨(planOK_go _), ⟨(planOK_go _), ⟨(planOK_go _), ⟨⟨(planOK_go _), (fr18_0_ok k)⟩, (planOK_go _)⟩⟩⟩⟩⟩) fun x => ⟨ev18 k x, eq18 k x⟩
/-! f22 hyphen/seg.New -/
def F22 (k : Nat) (a0 : ((List Int) × ((List Int) × (((List (List Int)) × ((List Int) × Unit)) × (((List (List Int)) × ((List (List (List Int))) × Unit)) × Unit))))) (a1 : ByteArray) : Option (((((List (List Int)) × Unit) × (Int × Unit)) × Unit) × Unit) :=
  (F18 k a0 a1).bind fun r1 =>
  (F54 k r1.1.1).bind fun r2 =>
  some ((((r2.1.1, ()), ((0 : Int), ())), ()), ())
def sp22 (k : Nat) : Spec := ⟨[.val (.pair (.sl false 3 (.int .i64) none) (.pair (.sl false 3 (.int .i64) none) (.pair (.pair (.sl false 22 (.sl false 3 (.int .i64) none) none) (.pair (.sl false 3 (.int .i64) none) .unit)) (.pair (.pair (.sl false 22 (.sl false 3 (.int .i64) none) none) (.pair (.sl false 36 (.sl false 57 (.arr 3 (.int .i64)) none) none) .unit)) .unit)))), .val .str], [.box 52 (.pair (.pair (.sl true 57 (.arr 3 (.int .i64)) none) .unit) (.pair (.int .i64) .unit))], fun x => F22 k x.1 x.2.1⟩
def lim22 : Lim := ⟨18, 2, false, false⟩
def cfg22 (k : Nat) : Nat → Option Spec := cfgL [(18, sp18 k), (54, sp54 k)]
theorem cfg22_ok (k : Nat) : CfgOK Try.prog (cfg22 k) := cfgL_cons (v18 k) (cfgL_cons (v54 k) (cfgL_nil))
def pl22 (k : Nat) : Plan := .go
theorem pq22 (k : Nat) : PlanOK Try.prog lim22 (pl22 k) (codeAt (bodyOf Try.f22) []) = PlanOK Try.prog lim22 .go (codeAt (bodyOf Try.f22) []) := by kernel_rfl
theorem ev22 (k : Nat) (x : AT (sp22 k).ps) : (sp22 k).impl x = (fnT Try.prog (cfg22 k) lim22 Try.f22 (bodyOf Try.f22) (pl22 k) (sp22 k) x).eval := by kernel_rfl
theorem eq22 (k : Nat) (x : AT (sp22 k).ps) : (fnT Try.prog (cfg22 k) lim22 Try.f22 (bodyOf Try.f22) (pl22 k) (sp22 k) x).left = (fnT Try.prog (cfg22 k) lim22 Try.f22 (bodyOf Try.f22) (pl22 k) (sp22 k) x).right := by kernel_rfl
theorem v22 (k : Nat) : Callable Try.prog 22 ∧ Valid Try.prog 22 (sp22 k) :=
  fn_ok (cfg22_ok k) (f := 22) (fn := Try.f22) (by kernel_rfl) (c := bodyOf Try.f22) (by kernel_rfl) (by kernel_rfl) rfl rfl (Nat.le_of_ble_eq_true rfl) (Nat.le_of_ble_eq_true rfl) (p := pl22 k) (Eq.mpr (pq22 k) (planOK_go _)) fun x => ⟨ev22 k x, eq22 k x⟩
/-! f23 (*hyphen/seg.places).Len -/
def F23 (k : Nat) (a0 : (((List (List Int)) × Unit) × (Int × Unit))) : Option ((Int × Unit) × ((((List (List Int)) × Unit) × (Int × Unit)) × Unit)) :=
  some ((((List.length a0.1.1 : Nat) : Int), ()), (a0, ()))
def sp23 (k : Nat) : Spec := ⟨[.ptr 52 (.pair (.pair (.sl true 57 (.arr 3 (.int .i64)) none) .unit) (.pair (.int .i64) .unit)) [.fst]], [.val (.int .i64)], fun x => F23 k x.1⟩
def lim23 : Lim := ⟨8, 1, false, false⟩
def cfg23 (k : Nat) : Nat → Option Spec := cfgL []
theorem cfg23_ok (k : Nat) : CfgOK Try.prog (cfg23 k) := cfgL_nil
def pl23 (k : Nat) : Plan := .go
theorem pq23 (k : Nat) : PlanOK Try.prog lim23 (pl23 k) (codeAt (bodyOf Try.f23) []) = PlanOK Try.prog lim23 .go (codeAt (bodyOf Try.f23) []) := by kernel_rfl
theorem ev23 (k : Nat) (x : AT (sp23 k).ps) : (sp23 k).impl x = (fnT Try.prog (cfg23 k) lim23 Try.f23 (bodyOf Try.f23) (pl23 k) (sp23 k) x).eval := by kernel_rfl
theorem eq23 (k : Nat) (x : AT (sp23 k).ps) : (fnT Try.prog (cfg23 k) lim23 Try.f23 (bodyOf Try.f23) (pl23 k) (sp23 k) x).left = (fnT Try.prog (cfg23 k) lim23 Try.f23 (bodyOf Try.f23) (pl23 k) (sp23 k) x).right := by kernel_rfl
theorem v23 (k : Nat) : Callable Try.prog 23 ∧ Valid Try.prog 23 (sp23 k) :=
  fn_ok (cfg23_ok k) (f := 23) (fn := Try.f23) (by kernel_rfl) (c := bodyOf Try.f23) (by kernel_rfl) (by kernel_rfl) rfl rfl (Nat.le_of_ble_eq_true rfl) (Nat.le_of_ble_eq_true rfl) (p := pl23 k) (Eq.mpr (pq23 k) (planOK_go _)) fun x => ⟨ev23 k x, eq23 k x⟩
/-! f55 (*hyphen/seg.places).cheapest -/
def F55_0 (k : Nat) : Nat → Int → Int → Int → Int → Int → (((List (List Int)) × Unit) × (Int × Unit)) → Option (((Int × Int × Unit) × ((((List (List Int)) × Unit) × (Int × Unit)) × Unit)))
  | 0, _, _, _, _, _, _ => none
  | n + 1, t2, t3, t10, t11, t12, c0 =>
    bif (decide (t12 ≤ t2)) then
      if 0 ≤ t12 ∧ t12 < ((List.length c0.1.1 : Nat) : Int) then
        if 0 ≤ t3 ∧ t3 < ((3 : Nat) : Int) then
          let x2 := (List.getD (List.getD c0.1.1 (Int.toNat t12) ([] : (List Int))) (Int.toNat t3) (0 : Int))
          bif (decide (x2 < (1152921504606846976 : Int))) then
            bif (decide (x2 ≤ t11)) then
              (F55_0 k n t2 t3 t12 x2 (IntKind.wrap .i64 (t12 + (1 : Int))) c0).bind some
            else
              (F55_0 k n t2 t3 t10 t11 (IntKind.wrap .i64 (t12 + (1 : Int))) c0).bind some
          else
            (F55_0 k n t2 t3 t10 t11 (IntKind.wrap .i64 (t12 + (1 : Int))) c0).bind some
        else none
      else none
    else
      some ((t10, t11, ()), (c0, ()))
def fr55_0 (k : Nat) : Frag := ⟨⟨[], [(0, .ptr 0 [.fst]), (2, .val (.int .i64)), (3, .val (.int .i64)), (10, .val (.int .i64)), (11, .val (.int .i64)), (12, .val (.int .i64))], [(0, some 52, (.pair (.pair (.sl true 57 (.arr 3 (.int .i64)) none) .unit) (.pair (.int .i64) .unit)))]⟩, [(.exit 0, ⟨[], [(10, .val (.int .i64)), (11, .val (.int .i64))], [(0, some 52, (.pair (.pair (.sl true 57 (.arr 3 (.int .i64)) none) .unit) (.pair (.int .i64) .unit)))]⟩)], fun v => F55_0 k k v.1.1 v.1.2.1 v.1.2.2.1 v.1.2.2.2.1 v.1.2.2.2.2.1 v.2.1⟩
def F55 (k : Nat) (a0 : (((List (List Int)) × Unit) × (Int × Unit))) (a1 : Int) (a2 : Int) (a3 : Int) : Option ((Int × Bool × Unit) × ((((List (List Int)) × Unit) × (Int × Unit)) × Unit)) :=
  (F55_0 k k a2 a3 (0 : Int) (1152921504606846976 : Int) a1 a0).bind fun r3 =>
  let y4 := r3.1.1
  let y5 := r3.1.2.1
  let y6 := r3.2.1
  some ((y4, (decide (y5 < (1152921504606846976 : Int))), ()), (y6, ()))
def sp55 (k : Nat) : Spec := ⟨[.ptr 52 (.pair (.pair (.sl true 57 (.arr 3 (.int .i64)) none) .unit) (.pair (.int .i64) .unit)) [.fst], .val (.int .i64), .val (.int .i64), .val (.int .i64)], [.val (.int .i64), .val .bool], fun x => F55 k x.1 x.2.1 x.2.2.1 x.2.2.2.1⟩
def lim55 : Lim := ⟨41, 4, false, false⟩
def cfg55 (k : Nat) : Nat → Option Spec := cfgL []
theorem cfg55_ok (k : Nat) : CfgOK Try.prog (cfg55 k) := cfgL_nil
def pl55_0 (k : Nat) : Plan := .go
theorem pq55_0 (k : Nat) : PlanOK Try.prog lim55 (pl55_0 k) (codeAt (bodyOf Try.f55) [.r, .r, .l, .r, .s, .b]) = PlanOK Try.prog lim55 .go (codeAt (bodyOf Try.f55) [.r, .r, .l, .r, .s, .b]) := by kernel_rfl
theorem ps55_0 (k m : Nat) (v : (fr55_0 k).sh.V) : F55_0 k (m + 1) v.1.1 v.1.2.1 v.1.2.2.1 v.1.2.2.2.1 v.1.2.2.2.2.1 v.2.1 = (body Try.prog (stepper Try.prog (cfg55 k) lim55) (pl55_0 k) (codeAt (bodyOf Try.f55) [.r, .r, .l, .r, .s, .b]) ((fr55_0 k).sh.st v) (loopK (fr55_0 k) fun v => F55_0 k m v.1.1 v.1.2.1 v.1.2.2.1 v.1.2.2.2.1 v.1.2.2.2.2.1 v.2.1)).eval := by kernel_rfl
theorem pe55_0 (k m : Nat) (v : (fr55_0 k).sh.V) : (body Try.prog (stepper Try.prog (cfg55 k) lim55) (pl55_0 k) (codeAt (bodyOf Try.f55) [.r, .r, .l, .r, .s, .b]) ((fr55_0 k).sh.st v) (loopK (fr55_0 k) fun v => F55_0 k m v.1.1 v.1.2.1 v.1.2.2.1 v.1.2.2.2.1 v.1.2.2.2.2.1 v.2.1)).left = (body Try.prog (stepper Try.prog (cfg55 k) lim55) (pl55_0 k) (codeAt (bodyOf Try.f55) [.r, .r, .l, .r, .s, .b]) ((fr55_0 k).sh.st v) (loopK (fr55_0 k) fun v => F55_0 k m v.1.1 v.1.2.1 v.1.2.2.1 v.1.2.2.2.1 v.1.2.2.2.2.1 v.2.1)).right := by kernel_rfl
theorem fr55_0_ok (k : Nat) : FragOK Try.prog lim55 (fr55_0 k) (codeAt (bodyOf Try.f55) [.r, .r, .l, .r, .s]) :=
  frag_cast (by kernel_rfl) (loop_ok (cfg55_ok k) (Eq.mpr (pq55_0 k) (planOK_go _)) (fun m v => F55_0 k m v.1.1 v.1.2.1 v.1.2.2.1 v.1.2.2.2.1 v.1.2.2.2.2.1 v.2.1) k (fun _ => rfl) (fun _ => rfl) fun m v => ⟨ps55_0 k m v, pe55_0 k m v⟩)
def pl55 (k : Nat) : Plan := (.seq .go (.seq .go (.seq (.seq .go (.sub (.frag (fr55_0 k)))) .go)))
theorem pq55 (k : Nat) : PlanOK Try.prog lim55 (pl55 k) (codeAt (bodyOf Try.f55) []) = (PlanOK Try.prog lim55 .go (codeAt (bodyOf Try.f55) [.l]) ∧ (PlanOK Try.prog lim55 .go (codeAt (bodyOf Try.f55) [.r, .l]) ∧ ((PlanOK Try.prog lim55 .go (codeAt (bodyOf Try.f55) [.r, .r, .l, .l]) ∧ FragOK Try.prog lim55 (fr55_0 k) (codeAt (bodyOf Try.f55) [.r, .r, .l, .r, .s])) ∧ PlanOK Try.prog lim55 .go (codeAt (bodyOf Try.f55) [.r, .r, .r])))) := by kernel_rfl
theorem ev55 (k : Nat) (x : AT (sp55 k).ps) : (sp55 k).impl x = (fnT Try.prog (cfg55 k) lim55 Try.f55 (bodyOf Try.f55) (pl55 k) (sp55 k) x).eval := by kernel_rfl
theorem eq55 (k : Nat) (x : AT (sp55 k).ps) : (fnT Try.prog (cfg55 k) lim55 Try.f55 (bodyOf Try.f55) (pl55 k) (sp55 k) x).left = (fnT Try.prog (cfg55 k) lim55 Try.f55 (bodyOf Try.f55) (pl55 k) (sp55 k) x).right := by kernel_rfl
theorem v55 (k : Nat) : Callable Try.prog 55 ∧ Valid Try.prog 55 (sp55 k) :=
  fn_ok (cfg55_ok k) (f := 55) (fn := Try.f55) (by kernel_rfl) (c := bodyOf Try.f55) (by kernel_rfl) (by kernel_rfl) rfl rfl (Nat.le_of_ble_eq_true rfl) (Nat.le_of_ble_eq_true rfl) (p := pl55 k) (Eq.mpr (pq55 k) ⟨(planOK_go _), ⟨(planOK_go _), ⟨⟨(planOK_go _), (fr55_0_ok k)⟩, (planOK_go _)⟩⟩⟩) fun x => ⟨ev55 k x, eq55 k x⟩
/-! f25 (*hyphen/seg.Cursor).Best -/
def F25 (k : Nat) (a0 : (((List (List Int)) × Unit) × (Int × Unit))) (a1 : Int) (a2 : Int) (a3 : Int) : Option ((Int × Bool × Unit) × ((((List (List Int)) × Unit) × (Int × Unit)) × Unit)) :=
  bif (decide (a1 < (0 : Int))) then
    some (((0 : Int), false, ()), (a0, ()))
  else
    bif (decide (a2 < a1)) then
      some (((0 : Int), false, ()), (a0, ()))
    else
      (F23 k a0).bind fun r1 =>
      bif (decide (a2 ≥ r1.1.1)) then
        some (((0 : Int), false, ()), (r1.2.1, ()))
      else
        bif (decide (a3 < (0 : Int))) then
          some (((0 : Int), false, ()), (r1.2.1, ()))
        else
          bif (decide (a3 > (2 : Int))) then
            some (((0 : Int), false, ()), (r1.2.1, ()))
          else
            (F55 k r1.2.1 a1 a2 a3).bind fun r2 =>
            some ((r2.1.1, r2.1.2.1, ()), (r2.2.1, ()))
def sp25 (k : Nat) : Spec := ⟨[.ptr 52 (.pair (.pair (.sl true 57 (.arr 3 (.int .i64)) none) .unit) (.pair (.int .i64) .unit)) [], .val (.int .i64), .val (.int .i64), .val (.int .i64)], [.val (.int .i64), .val .bool], fun x => F25 k x.1 x.2.1 x.2.2.1 x.2.2.2.1⟩
def lim25 : Lim := ⟨42, 4, false, false⟩
def cfg25 (k : Nat) : Nat → Option Spec := cfgL [(23, sp23 k), (55, sp55 k)]
theorem cfg25_ok (k : Nat) : CfgOK Try.prog (cfg25 k) := cfgL_cons (v23 k) (cfgL_cons (v55 k) (cfgL_nil))
def pl25 (k : Nat) : Plan := .go
theorem pq25 (k : Nat) : PlanOK Try.prog lim25 (pl25 k) (codeAt (bodyOf Try.f25) []) = PlanOK Try.prog lim25 .go (codeAt (bodyOf Try.f25) []) := by kernel_rfl
theorem ev25 (k : Nat) (x : AT (sp25 k).ps) : (sp25 k).impl x = (fnT Try.prog (cfg25 k) lim25 Try.f25 (bodyOf Try.f25) (pl25 k) (sp25 k) x).eval := by kernel_rfl
theorem eq25 (k : Nat) (x : AT (sp25 k).ps) : (fnT Try.prog (cfg25 k) lim25 Try.f25 (bodyOf Try.f25) (pl25 k) (sp25 k) x).left = (fnT Try.prog (cfg25 k) lim25 Try.f25 (bodyOf Try.f25) (pl25 k) (sp25 k) x).right := by kernel_rfl
theorem v25 (k : Nat) : Callable Try.prog 25 ∧ Valid Try.prog 25 (sp25 k) :=
  fn_ok (cfg25_ok k) (f := 25) (fn := Try.f25) (by kernel_rfl) (c := bodyOf Try.f25) (by kernel_rfl) (by kernel_rfl) rfl rfl (Nat.le_of_ble_eq_true rfl) (Nat.le_of_ble_eq_true rfl) (p := pl25 k) (Eq.mpr (pq25 k) (planOK_go _)) fun x => ⟨ev25 k x, eq25 k x⟩
/-! f32 (*hyphen/seg.Cursor).At -/
def F32 (k : Nat) (a0 : (((List (List Int)) × Unit) × (Int × Unit))) : Option ((Int × (List Int) × Unit) × ((((List (List Int)) × Unit) × (Int × Unit)) × Unit)) :=
  (F23 k a0).bind fun r1 =>
  bif (r1.1.1 == (0 : Int)) then
    (F57 k).bind fun r2 =>
    some (((0 : Int), r2.1.1, ()), (r1.2.1, ()))
  else
    if 0 ≤ r1.2.1.2.1 ∧ r1.2.1.2.1 < ((List.length r1.2.1.1.1 : Nat) : Int) then
      let x3 := (List.getD r1.2.1.1.1 (Int.toNat r1.2.1.2.1) ([] : (List Int)))
      some ((r1.2.1.2.1, x3, ()), (r1.2.1, ()))
    else none
def sp32 (k : Nat) : Spec := ⟨[.ptr 52 (.pair (.pair (.sl true 57 (.arr 3 (.int .i64)) none) .unit) (.pair (.int .i64) .unit)) []], [.val (.int .i64), .val (.arr 3 (.int .i64))], fun x => F32 k x.1⟩
def lim32 : Lim := ⟨25, 1, false, false⟩
def cfg32 (k : Nat) : Nat → Option Spec := cfgL [(23, sp23 k), (57, sp57 k)]
theorem cfg32_ok (k : Nat) : CfgOK Try.prog (cfg32 k) := cfgL_cons (v23 k) (cfgL_cons (v57 k) (cfgL_nil))
def pl32 (k : Nat) : Plan := .go
theorem pq32 (k : Nat) : PlanOK Try.prog lim32 (pl32 k) (codeAt (bodyOf Try.f32) []) = PlanOK Try.prog lim32 .go (codeAt (bodyOf Try.f32) []) := by kernel_rfl
theorem ev32 (k : Nat) (x : AT (sp32 k).ps) : (sp32 k).impl x = (fnT Try.prog (cfg32 k) lim32 Try.f32 (bodyOf Try.f32) (pl32 k) (sp32 k) x).eval := by kernel_rfl
theorem eq32 (k : Nat) (x : AT (sp32 k).ps) : (fnT Try.prog (cfg32 k) lim32 Try.f32 (bodyOf Try.f32) (pl32 k) (sp32 k) x).left = (fnT Try.prog (cfg32 k) lim32 Try.f32 (bodyOf Try.f32) (pl32 k) (sp32 k) x).right := by kernel_rfl
theorem v32 (k : Nat) : Callable Try.prog 32 ∧ Valid Try.prog 32 (sp32 k) :=
  fn_ok (cfg32_ok k) (f := 32) (fn := Try.f32) (by kernel_rfl) (c := bodyOf Try.f32) (by kernel_rfl) (by kernel_rfl) rfl rfl (Nat.le_of_ble_eq_true rfl) (Nat.le_of_ble_eq_true rfl) (p := pl32 k) (Eq.mpr (pq32 k) (planOK_go _)) fun x => ⟨ev32 k x, eq32 k x⟩
/-! f15 hyphen/hyphenlaw13.known -/
def F15 (k : Nat) : Option ((Bool × Unit) × Unit) :=
  (F18 k (([] : (List Int)), (([] : (List Int)), ((([] : (List (List Int))), (([] : (List Int)), ())), ((([] : (List (List Int))), (([] : (List (List (List Int)))), ())), ())))) (⟨#[97]⟩ : ByteArray)).bind fun r1 =>
  let x2 := (List.set (List.replicate 1 (0 : Int)) 0 (0 : Int))
  let x3 := (List.set (List.replicate 1 (0 : Int)) 0 (0 : Int))
  let x4 := (List.set (List.replicate 1 (0 : Int)) 0 (0 : Int))
  let x5 := (List.set (List.replicate 1 ([] : (List Int))) 0 x4)
  let x6 := (List.set (List.replicate 1 (0 : Int)) 0 (0 : Int))
  let x7 := (List.set (List.replicate 1 (0 : Int)) 0 (1 : Int))
  let x8 := (List.set (List.replicate 1 (0 : Int)) 0 (1 : Int))
  let x9 := (List.set (List.set (List.replicate 2 ([] : (List Int))) 0 x7) 1 x8)
  let x10 := (List.set (List.set (List.set (List.replicate 3 (0 : Int)) 0 (1 : Int)) 1 (2 : Int)) 2 (3 : Int))
  let x11 := (List.set (List.replicate 1 (List.replicate 3 (0 : Int))) 0 x10)
  let x12 := (List.set (List.set (List.set (List.replicate 3 (0 : Int)) 0 (4 : Int)) 1 (5 : Int)) 2 (1152921504606846976 : Int))
  let x13 := (List.set (List.replicate 1 (List.replicate 3 (0 : Int))) 0 x12)
  let x14 := (List.set (List.set (List.replicate 2 ([] : (List (List Int)))) 0 x11) 1 x13)
  (F18 k (x2, (x3, ((x5, (x6, ())), ((x9, (x14, ())), ())))) (⟨#[97, 98]⟩ : ByteArray)).bind fun r15 =>
  (F22 k (x2, (x3, ((x5, (x6, ())), ((x9, (x14, ())), ())))) (⟨#[97, 98]⟩ : ByteArray)).bind fun r16 =>
  (F25 k r16.1.1 (0 : Int) (2 : Int) (0 : Int)).bind fun r17 =>
  (F32 k r17.2.1).bind fun r18 =>
  bif (r1.1.2.1 == (5 : Int)) then
    bif (r15.1.2.1 == (0 : Int)) then
      let x19 := (((List.length r15.1.1 : Nat) : Int) == (3 : Int))
      bif x19 then
        if 0 ≤ (1 : Int) ∧ (1 : Int) < ((List.length r15.1.1 : Nat) : Int) then
          let x20 := (List.getD r15.1.1 (Int.toNat (1 : Int)) ([] : (List Int)))
          let x21 := (List.set (List.set (List.set (List.replicate 3 (0 : Int)) 0 (4 : Int)) 1 (5 : Int)) 2 (1152921504606846976 : Int))
          bif (x20 == x21) then
            (F23 k r18.2.1).bind fun r22 =>
            bif (r22.1.1 == (3 : Int)) then
              bif r17.1.2.1 then
                bif (r17.1.1 == (0 : Int)) then
                  bif (r18.1.1 == (0 : Int)) then
                    let x23 := (List.set (List.set (List.set (List.replicate 3 (0 : Int)) 0 (1 : Int)) 1 (2 : Int)) 2 (3 : Int))
                    some (((r18.1.2.1 == x23), ()), ())
                  else
                    some ((false, ()), ())
                else
                  some ((false, ()), ())
              else
                some ((false, ()), ())
            else
              some ((false, ()), ())
          else
            some ((false, ()), ())
        else none
      else
        some ((false, ()), ())
    else
      some ((false, ()), ())
  else
    some ((false, ()), ())
def sp15 (k : Nat) : Spec := ⟨[], [.val .bool], fun x => F15 k⟩
def lim15 : Lim := ⟨92, 0, false, false⟩
def cfg15 (k : Nat) : Nat → Option Spec := cfgL [(18, sp18 k), (22, sp22 k), (23, sp23 k), (25, sp25 k), (32, sp32 k)]
theorem cfg15_ok (k : Nat) : CfgOK Try.prog (cfg15 k) := cfgL_cons (v18 k) (cfgL_cons (v22 k) (cfgL_cons (v23 k) (cfgL_cons (v25 k) (cfgL_cons (v32 k) (cfgL_nil)))))
def pl15 (k : Nat) : Plan := .go
theorem pq15 (k : Nat) : PlanOK Try.prog lim15 (pl15 k) (codeAt (bodyOf Try.f15) []) = PlanOK Try.prog lim15 .go (codeAt (bodyOf Try.f15) []) := by kernel_rfl
theorem ev15 (k : Nat) (x : AT (sp15 k).ps) : (sp15 k).impl x = (fnT Try.prog (cfg15 k) lim15 Try.f15 (bodyOf Try.f15) (pl15 k) (sp15 k) x).eval := by kernel_rfl
theorem eq15 (k : Nat) (x : AT (sp15 k).ps) : (fnT Try.prog (cfg15 k) lim15 Try.f15 (bodyOf Try.f15) (pl15 k) (sp15 k) x).left = (fnT Try.prog (cfg15 k) lim15 Try.f15 (bodyOf Try.f15) (pl15 k) (sp15 k) x).right := by kernel_rfl
theorem v15 (k : Nat) : Callable Try.prog 15 ∧ Valid Try.prog 15 (sp15 k) :=
  fn_ok (cfg15_ok k) (f := 15) (fn := Try.f15) (by kernel_rfl) (c := bodyOf Try.f15) (by kernel_rfl) (by kernel_rfl) rfl rfl (Nat.le_of_ble_eq_true rfl) (Nat.le_of_ble_eq_true rfl) (p := pl15 k) (Eq.mpr (pq15 k) (planOK_go _)) fun x => ⟨ev15 k x, eq15 k x⟩
/-! f60 hyphen/hyphenlaw11.within -/
def F60 (k : Nat) (a0 : Int) (a1 : Int) : Option ((Int × Unit) × Unit) :=
  if a1 ≠ 0 then
    bif (decide ((Int.tmod a0 a1) < (0 : Int))) then
      some (((IntKind.wrap .i64 ((Int.tmod a0 a1) + a1)), ()), ())
    else
      some (((Int.tmod a0 a1), ()), ())
  else none
def sp60 (k : Nat) : Spec := ⟨[.val (.int .i64), .val (.int .i64)], [.val (.int .i64)], fun x => F60 k x.1 x.2.1⟩
def lim60 : Lim := ⟨15, 2, false, false⟩
def cfg60 (k : Nat) : Nat → Option Spec := cfgL []
theorem cfg60_ok (k : Nat) : CfgOK Try.prog (cfg60 k) := cfgL_nil
def pl60 (k : Nat) : Plan := .go
theorem pq60 (k : Nat) : PlanOK Try.prog lim60 (pl60 k) (codeAt (bodyOf Try.f60) []) = PlanOK Try.prog lim60 .go (codeAt (bodyOf Try.f60) []) := by kernel_rfl
theorem ev60 (k : Nat) (x : AT (sp60 k).ps) : (sp60 k).impl x = (fnT Try.prog (cfg60 k) lim60 Try.f60 (bodyOf Try.f60) (pl60 k) (sp60 k) x).eval := by kernel_rfl
theorem eq60 (k : Nat) (x : AT (sp60 k).ps) : (fnT Try.prog (cfg60 k) lim60 Try.f60 (bodyOf Try.f60) (pl60 k) (sp60 k) x).left = (fnT Try.prog (cfg60 k) lim60 Try.f60 (bodyOf Try.f60) (pl60 k) (sp60 k) x).right := by kernel_rfl
theorem v60 (k : Nat) : Callable Try.prog 60 ∧ Valid Try.prog 60 (sp60 k) :=
  fn_ok (cfg60_ok k) (f := 60) (fn := Try.f60) (by kernel_rfl) (c := bodyOf Try.f60) (by kernel_rfl) (by kernel_rfl) rfl rfl (Nat.le_of_ble_eq_true rfl) (Nat.le_of_ble_eq_true rfl) (p := pl60 k) (Eq.mpr (pq60 k) (planOK_go _)) fun x => ⟨ev60 k x, eq60 k x⟩
/-! f42 hyphen/hyphenlaw11.Back -/
def F42_0 (k : Nat) : Nat → (List Int) → Int → Int → Int → Int → Int → ((List (List Int)) × ((List Int) × Unit)) → ((List (List Int)) × ((List Int) × Unit)) → (List Int) → Option ((((List Int) × Int × Int × Int × Int × Unit) × (((List (List Int)) × ((List Int) × Unit)) × ((List (List Int)) × ((List Int) × Unit)) × (List Int) × Unit)))
  | 0, _, _, _, _, _, _, _, _, _ => none
  | n + 1, t2, t8, t9, t10, t11, t13, c6, c7, c2000012 =>
    bif (decide (t13 < t9)) then
      if t8 ≠ 0 then
        let x5 := (List.set (List.replicate 1 (0 : Int)) 0 (Int.tmod t11 t8))
        if (List.length c2000012 + List.length x5) * (8 * 2) ≤ 281474976710656 ∧ List.length c2000012 + List.length x5 ≤ 9223372036854775807 then
          if t8 ≠ 0 then
            (F42_0 k n t2 t8 t9 t10 (IntKind.wrap .i64 (Int.tdiv t11 t8)) (IntKind.wrap .i64 (t13 + (1 : Int))) c6 c7 (c2000012 ++ x5)).bind some
          else none
        else none
      else none
    else
      some ((t2, t8, t9, t10, t11, ()), (c6, c7, c2000012, ()))
def fr42_0 (k : Nat) : Frag := ⟨⟨[(12, (.sl true 3 (.int .i64) none))], [(2, .val (.sl false 3 (.int .i64) none)), (6, .ptr 6 []), (7, .ptr 7 []), (8, .val (.int .i64)), (9, .val (.int .i64)), (10, .val (.int .i64)), (11, .val (.int .i64)), (12, .at 2000012 []), (13, .val (.int .i64))], [(6, some 27, (.pair (.sl true 22 (.sl true 3 (.int .i64) none) none) (.pair (.sl true 3 (.int .i64) none) .unit))), (7, some 27, (.pair (.sl true 22 (.sl true 3 (.int .i64) none) none) (.pair (.sl true 3 (.int .i64) none) .unit))), (2000012, none, (.sl true 3 (.int .i64) none))]⟩, [(.exit 2, ⟨[(12, (.sl true 3 (.int .i64) none))], [(2, .val (.sl false 3 (.int .i64) none)), (6, .ptr 6 []), (7, .ptr 7 []), (8, .val (.int .i64)), (9, .val (.int .i64)), (10, .val (.int .i64)), (11, .val (.int .i64)), (12, .at 2000012 [])], [(6, some 27, (.pair (.sl true 22 (.sl true 3 (.int .i64) none) none) (.pair (.sl true 3 (.int .i64) none) .unit))), (7, some 27, (.pair (.sl true 22 (.sl true 3 (.int .i64) none) none) (.pair (.sl true 3 (.int .i64) none) .unit))), (2000012, none, (.sl true 3 (.int .i64) none))]⟩)], fun v => F42_0 k k v.1.1 v.1.2.1 v.1.2.2.1 v.1.2.2.2.1 v.1.2.2.2.2.1 v.1.2.2.2.2.2.1 v.2.1 v.2.2.1 v.2.2.2.1⟩
def F42_1 (k : Nat) : Nat → (List Int) → Int → Int → Int → ((List (List Int)) × ((List Int) × Unit)) → ((List (List Int)) × ((List Int) × Unit)) → Option ((Unit × (((List (List Int)) × ((List Int) × Unit)) × ((List (List Int)) × ((List Int) × Unit)) × Unit)))
  | 0, _, _, _, _, _, _ => none
  | n + 1, t2, t8, t9, t10, c6, c7 =>
    bif (decide (t10 < t8)) then
      let x3 := (decide (t10 < ((List.length t2 : Nat) : Int)))
      bif x3 then
        if 0 ≤ t10 ∧ t10 < ((List.length t2 : Nat) : Int) then
          (F60 k (List.getD t2 (Int.toNat t10) (0 : Int)) (1099511627776 : Int)).bind fun r4 =>
          (F42_0 k k t2 t8 t9 t10 r4.1.1 (0 : Int) c6 c7 []).bind fun r6 =>
          let y7 := r6.1.1
          let y8 := r6.1.2.1
          let y9 := r6.1.2.2.1
          let y10 := r6.1.2.2.2.1
          let y11 := r6.1.2.2.2.2.1
          let y12 := r6.2.1
          let y13 := r6.2.2.1
          let y14 := r6.2.2.2.1
          let x15 := (List.set (List.replicate 1 ([] : (List Int))) 0 y14)
          if (List.length y13.1 + List.length x15) * (24 * 2) ≤ 281474976710656 ∧ List.length y13.1 + List.length x15 ≤ 9223372036854775807 then
            let x16 := (List.set (List.replicate 1 (0 : Int)) 0 (Int.tmod y11 (3 : Int)))
            if (List.length y13.2.1 + List.length x16) * (8 * 2) ≤ 281474976710656 ∧ List.length y13.2.1 + List.length x16 ≤ 9223372036854775807 then
              (F42_1 k n y7 y8 y9 (IntKind.wrap .i64 (y10 + (1 : Int))) y12 ((y13.1 ++ x15), ((y13.2.1 ++ x16), y13.2.2))).bind some
            else none
          else none
        else none
      else
        (F42_0 k k t2 t8 t9 t10 (IntKind.wrap .i64 (t10 * (7 : Int))) (0 : Int) c6 c7 []).bind fun r17 =>
        let y18 := r17.1.1
        let y19 := r17.1.2.1
        let y20 := r17.1.2.2.1
        let y21 := r17.1.2.2.2.1
        let y22 := r17.1.2.2.2.2.1
        let y23 := r17.2.1
        let y24 := r17.2.2.1
        let y25 := r17.2.2.2.1
        let x26 := (List.set (List.replicate 1 ([] : (List Int))) 0 y25)
        if (List.length y24.1 + List.length x26) * (24 * 2) ≤ 281474976710656 ∧ List.length y24.1 + List.length x26 ≤ 9223372036854775807 then
          let x27 := (List.set (List.replicate 1 (0 : Int)) 0 (Int.tmod y22 (3 : Int)))
          if (List.length y24.2.1 + List.length x27) * (8 * 2) ≤ 281474976710656 ∧ List.length y24.2.1 + List.length x27 ≤ 9223372036854775807 then
            (F42_1 k n y18 y19 y20 (IntKind.wrap .i64 (y21 + (1 : Int))) y23 ((y24.1 ++ x26), ((y24.2.1 ++ x27), y24.2.2))).bind some
          else none
        else none
    else
      some ((), (c6, c7, ()))
def fr42_1 (k : Nat) : Frag := ⟨⟨[], [(2, .val (.sl false 3 (.int .i64) none)), (6, .ptr 6 []), (7, .ptr 7 []), (8, .val (.int .i64)), (9, .val (.int .i64)), (10, .val (.int .i64))], [(6, some 27, (.pair (.sl true 22 (.sl true 3 (.int .i64) none) none) (.pair (.sl true 3 (.int .i64) none) .unit))), (7, some 27, (.pair (.sl true 22 (.sl true 3 (.int .i64) none) none) (.pair (.sl true 3 (.int .i64) none) .unit)))]⟩, [(.exit 0, ⟨[], [(6, .ptr 6 []), (7, .ptr 7 [])], [(6, some 27, (.pair (.sl true 22 (.sl true 3 (.int .i64) none) none) (.pair (.sl true 3 (.int .i64) none) .unit))), (7, some 27, (.pair (.sl true 22 (.sl true 3 (.int .i64) none) none) (.pair (.sl true 3 (.int .i64) none) .unit)))]⟩)], fun v => F42_1 k k v.1.1 v.1.2.1 v.1.2.2.1 v.1.2.2.2.1 v.2.1 v.2.2.1⟩
def F42 (k : Nat) (a0 : Int) (a1 : Int) (a2 : (List Int)) : Option ((((List (List Int)) × ((List Int) × Unit)) × Unit) × Unit) :=
  (F60 k a0 (9 : Int)).bind fun r1 =>
  (F60 k a1 (3 : Int)).bind fun r2 =>
  (F42_1 k k a2 (IntKind.wrap .i64 ((1 : Int) + r1.1.1)) (IntKind.wrap .i64 ((1 : Int) + r2.1.1)) (0 : Int) (([] : (List (List Int))), (([] : (List Int)), ())) (([] : (List (List Int))), (([] : (List Int)), ()))).bind fun r28 =>
  let y30 := r28.2.2.1
  some ((y30, ()), ())
def sp42 (k : Nat) : Spec := ⟨[.val (.int .i64), .val (.int .i64), .val (.sl false 3 (.int .i64) none)], [.own (.pair (.sl true 22 (.sl true 3 (.int .i64) none) none) (.pair (.sl true 3 (.int .i64) none) .unit))], fun x => F42 k x.1 x.2.1 x.2.2.1⟩
def lim42 : Lim := ⟨64, 3, false, false⟩
def cfg42 (k : Nat) : Nat → Option Spec := cfgL [(60, sp60 k)]
theorem cfg42_ok (k : Nat) : CfgOK Try.prog (cfg42 k) := cfgL_cons (v60 k) (cfgL_nil)
def pl42_0 (k : Nat) : Plan := .go
theorem pq42_0 (k : Nat) : PlanOK Try.prog lim42 (pl42_0 k) (codeAt (bodyOf Try.f42) [.r, .r, .r, .l, .r, .s, .b, .r, .l, .s, .r, .r, .r, .l, .r, .s, .b]) = PlanOK Try.prog lim42 .go (codeAt (bodyOf Try.f42) [.r, .r, .r, .l, .r, .s, .b, .r, .l, .s, .r, .r, .r, .l, .r, .s, .b]) := by kernel_rfl
theorem ps42_0 (k m : Nat) (v : (fr42_0 k).sh.V) : F42_0 k (m + 1) v.1.1 v.1.2.1 v.1.2.2.1 v.1.2.2.2.1 v.1.2.2.2.2.1 v.1.2.2.2.2.2.1 v.2.1 v.2.2.1 v.2.2.2.1 = (body Try.prog (stepper Try.prog (cfg42 k) lim42) (pl42_0 k) (codeAt (bodyOf Try.f42) [.r, .r, .r, .l, .r, .s, .b, .r, .l, .s, .r, .r, .r, .l, .r, .s, .b]) ((fr42_0 k).sh.st v) (loopK (fr42_0 k) fun v => F42_0 k m v.1.1 v.1.2.1 v.1.2.2.1 v.1.2.2.2.1 v.1.2.2.2.2.1 v.1.2.2.2.2.2.1 v.2.1 v.2.2.1 v.2.2.2.1)).eval := by kernel_rfl
theorem pe42_0 (k m : Nat) (v : (fr42_0 k).sh.V) : (body Try.prog (stepper Try.prog (cfg42 k) lim42) (pl42_0 k) (codeAt (bodyOf Try.f42) [.r, .r, .r, .l, .r, .s, .b, .r, .l, .s, .r, .r, .r, .l, .r, .s, .b]) ((fr42_0 k).sh.st v) (loopK (fr42_0 k) fun v => F42_0 k m v.1.1 v.1.2.1 v.1.2.2.1 v.1.2.2.2.1 v.1.2.2.2.2.1 v.1.2.2.2.2.2.1 v.2.1 v.2.2.1 v.2.2.2.1)).left = (body Try.prog (stepper Try.prog (cfg42 k) lim42) (pl42_0 k) (codeAt (bodyOf Try.f42) [.r, .r, .r, .l, .r, .s, .b, .r, .l, .s, .r, .r, .r, .l, .r, .s, .b]) ((fr42_0 k).sh.st v) (loopK (fr42_0 k) fun v => F42_0 k m v.1.1 v.1.2.1 v.1.2.2.1 v.1.2.2.2.1 v.1.2.2.2.2.1 v.1.2.2.2.2.2.1 v.2.1 v.2.2.1 v.2.2.2.1)).right := by kernel_rfl
theorem fr42_0_ok (k : Nat) : FragOK Try.prog lim42 (fr42_0 k) (codeAt (bodyOf Try.f42) [.r, .r, .r, .l, .r, .s, .b, .r, .l, .s, .r, .r, .r, .l, .r, .s]) :=
  frag_cast (by kernel_rfl) (loop_ok (cfg42_ok k) (Eq.mpr (pq42_0 k) (planOK_go _)) (fun m v => F42_0 k m v.1.1 v.1.2.1 v.1.2.2.1 v.1.2.2.2.1 v.1.2.2.2.2.1 v.1.2.2.2.2.2.1 v.2.1 v.2.2.1 v.2.2.2.1) k (fun _ => rfl) (fun _ => rfl) fun m v => ⟨ps42_0 k m v, pe42_0 k m v⟩)
def pl42_1 (k : Nat) : Plan := (.seq .go (.seq (.sub (.seq .go (.seq .go (.seq .go (.seq (.seq .go (.sub (.frag (fr42_0 k)))) .go))))) .go))
theorem pq42_1 (k : Nat) : PlanOK Try.prog lim42 (pl42_1 k) (codeAt (bodyOf Try.f42) [.r, .r, .r, .l, .r, .s, .b]) = (PlanOK Try.prog lim42 .go (codeAt (bodyOf Try.f42) [.r, .r, .r, .l, .r, .s, .b, .l]) ∧ ((PlanOK Try.prog lim42 .go (codeAt (bodyOf Try.f42) [.r, .r, .r, .l, .r, .s, .b, .r, .l, .s, .l]) ∧ (PlanOK Try.prog lim42 .go (codeAt (bodyOf Try.f42) [.r, .r, .r, .l, .r, .s, .b, .r, .l, .s, .r, .l]) ∧ (PlanOK Try.prog lim42 .go (codeAt (bodyOf Try.f42) [.r, .r, .r, .l, .r, .s, .b, .r, .l, .s, .r, .r, .l]) ∧ ((PlanOK Try.prog lim42 .go (codeAt (bodyOf Try.f42) [.r, .r, .r, .l, .r, .s, .b, .r, .l, .s, .r, .r, .r, .l, .l]) ∧ FragOK Try.prog lim42 (fr42_0 k) (codeAt (bodyOf Try.f42) [.r, .r, .r, .l, .r, .s, .b, .r, .l, .s, .r, .r, .r, .l, .r, .s])) ∧ PlanOK Try.prog lim42 .go (codeAt (bodyOf Try.f42) [.r, .r, .r, .l, .r, .s, .b, .r, .l, .s, .r, .r, .r, .r]))))) ∧ PlanOK Try.prog lim42 .go (codeAt (bodyOf Try.f42) [.r, .r, .r, .l, .r, .s, .b, .r, .r]))) := by kernel_rfl
theorem ps42_1 (k m : Nat) (v : (fr42_1 k).sh.V) : F42_1 k (m + 1) v.1.1 v.1.2.1 v.1.2.2.1 v.1.2.2.2.1 v.2.1 v.2.2.1 = (body Try.prog (stepper Try.prog (cfg42 k) lim42) (pl42_1 k) (codeAt (bodyOf Try.f42) [.r, .r, .r, .l, .r, .s, .b]) ((fr42_1 k).sh.st v) (loopK (fr42_1 k) fun v => F42_1 k m v.1.1 v.1.2.1 v.1.2.2.1 v.1.2.2.2.1 v.2.1 v.2.2.1)).eval := by kernel_rfl
theorem pe42_1 (k m : Nat) (v : (fr42_1 k).sh.V) : (body Try.prog (stepper Try.prog (cfg42 k) lim42) (pl42_1 k) (codeAt (bodyOf Try.f42) [.r, .r, .r, .l, .r, .s, .b]) ((fr42_1 k).sh.st v) (loopK (fr42_1 k) fun v => F42_1 k m v.1.1 v.1.2.1 v.1.2.2.1 v.1.2.2.2.1 v.2.1 v.2.2.1)).left = (body Try.prog (stepper Try.prog (cfg42 k) lim42) (pl42_1 k) (codeAt (bodyOf Try.f42) [.r, .r, .r, .l, .r, .s, .b]) ((fr42_1 k).sh.st v) (loopK (fr42_1 k) fun v => F42_1 k m v.1.1 v.1.2.1 v.1.2.2.1 v.1.2.2.2.1 v.2.1 v.2.2.1)).right := by kernel_rfl
theorem fr42_1_ok (k : Nat) : FragOK Try.prog lim42 (fr42_1 k) (codeAt (bodyOf Try.f42) [.r, .r, .r, .l, .r, .s]) :=
  frag_cast (by kernel_rfl) (loop_ok (cfg42_ok k) (Eq.mpr (pq42_1 k) ⟨(planOK_go _), ⟨⟨(planOK_go _), ⟨(planOK_go _), ⟨(planOK_go _), ⟨⟨(planOK_go _), (fr42_0_ok k)⟩, (planOK_go _)⟩⟩⟩⟩, (planOK_go _)⟩⟩) (fun m v => F42_1 k m v.1.1 v.1.2.1 v.1.2.2.1 v.1.2.2.2.1 v.2.1 v.2.2.1) k (fun _ => rfl) (fun _ => rfl) fun m v => ⟨ps42_1 k m v, pe42_1 k m v⟩)
def pl42 (k : Nat) : Plan := (.seq .go (.seq .go (.seq .go (.seq (.seq .go (.sub (.frag (fr42_1 k)))) .go))))
theorem pq42 (k : Nat) : PlanOK Try.prog lim42 (pl42 k) (codeAt (bodyOf Try.f42) []) = (PlanOK Try.prog lim42 .go (codeAt (bodyOf Try.f42) [.l]) ∧ (PlanOK Try.prog lim42 .go (codeAt (bodyOf Try.f42) [.r, .l]) ∧ (PlanOK Try.prog lim42 .go (codeAt (bodyOf Try.f42) [.r, .r, .l]) ∧ ((PlanOK Try.prog lim42 .go (codeAt (bodyOf Try.f42) [.r, .r, .r, .l, .l]) ∧ FragOK Try.prog lim42 (fr42_1 k) (codeAt (bodyOf Try.f42) [.r, .r, .r, .l, .r, .s])) ∧ PlanOK Try.prog lim42 .go (codeAt (bodyOf Try.f42) [.r, .r, .r, .r]))))) := by kernel_rfl
theorem ev42 (k : Nat) (x : AT (sp42 k).ps) : (sp42 k).impl x = (fnT Try.prog (cfg42 k) lim42 Try.f42 (bodyOf Try.f42) (pl42 k) (sp42 k) x).eval := by kernel_rfl
theorem eq42 (k : Nat) (x : AT (sp42 k).ps) : (fnT Try.prog (cfg42 k) lim42 Try.f42 (bodyOf Try.f42) (pl42 k) (sp42 k) x).left = (fnT Try.prog (cfg42 k) lim42 Try.f42 (bodyOf Try.f42) (pl42 k) (sp42 k) x).right := by kernel_rfl
theorem v42 (k : Nat) : Callable Try.prog 42 ∧ Valid Try.prog 42 (sp42 k) :=
  fn_ok (cfg42_ok k) (f := 42) (fn := Try.f42) (by kernel_rfl) (c := bodyOf Try.f42) (by kernel_rfl) (by kernel_rfl) rfl rfl (Nat.le_of_ble_eq_true rfl) (Nat.le_of_ble_eq_true rfl) (p := pl42 k) (Eq.mpr (pq42 k) ⟨(planOK_go _), ⟨(planOK_go _), ⟨(planOK_go _), ⟨⟨(planOK_go _), (fr42_1_ok k)⟩, (planOK_go _)⟩⟩⟩⟩) fun x => ⟨ev42 k x, eq42 k x⟩
/-! f43 hyphen/hyphenlaw11.Fwd -/
def F43_0 (k : Nat) : Nat → Int → ((List (List Int)) × ((List (List (List Int))) × Unit)) → (Unit × ((List Int) × Unit)) → ((List (List Int)) × ((List (List (List Int))) × Unit)) → Option ((Unit × (((List (List Int)) × ((List (List (List Int))) × Unit)) × ((List (List Int)) × ((List (List (List Int))) × Unit)) × Unit)))
  | 0, _, _, _, _ => none
  | n + 1, t9, c6, c7, c8 =>
    let x9 := (decide (t9 < ((List.length c7.2.1 : Nat) : Int)))
    bif x9 then
      if 0 ≤ t9 ∧ t9 < ((List.length c7.2.1 : Nat) : Int) then
        let x10 := (Int.tmod (List.getD c7.2.1 (Int.toNat t9) (0 : Int)) (2 : Int))
        if 0 ≤ t9 ∧ t9 < ((List.length c7.2.1 : Nat) : Int) then
          let x11 := (IntKind.wrap .i64 (Int.tdiv (List.getD c7.2.1 (Int.toNat t9) (0 : Int)) (2 : Int)))
          if 0 ≤ t9 ∧ t9 < ((List.length c7.2.1 : Nat) : Int) then
            let x12 := (List.set (List.set (List.set (List.replicate 3 (0 : Int)) 0 x10) 1 (5 : Int)) 2 (1152921504606846976 : Int))
            let x13 := (List.set (List.set (List.set (List.replicate 3 (0 : Int)) 0 x11) 1 (0 : Int)) 2 (List.getD c7.2.1 (Int.toNat t9) (0 : Int)))
            let x14 := (List.set (List.set (List.replicate 2 (List.replicate 3 (0 : Int))) 0 x12) 1 x13)
            let x15 := (List.set (List.replicate 1 ([] : (List (List Int)))) 0 x14)
            if (List.length c8.2.1 + List.length x15) * (24 * 2) ≤ 281474976710656 ∧ List.length c8.2.1 + List.length x15 ≤ 9223372036854775807 then
              (F43_0 k n (IntKind.wrap .i64 (t9 + (1 : Int))) c6 c7 (c8.1, ((c8.2.1 ++ x15), c8.2.2))).bind some
            else none
          else none
        else none
      else none
    else
      some ((), (c6, c8, ()))
def fr43_0 (k : Nat) : Frag := ⟨⟨[], [(6, .ptr 6 []), (7, .ptr 7 []), (8, .ptr 8 []), (9, .val (.int .i64))], [(6, some 30, (.pair (.sl true 22 (.sl true 3 (.int .i64) none) none) (.pair (.sl true 36 (.sl true 57 (.arr 3 (.int .i64)) none) none) .unit))), (7, some 27, (.pair .un (.pair (.sl true 3 (.int .i64) none) .unit))), (8, some 30, (.pair (.sl true 22 (.sl true 3 (.int .i64) none) none) (.pair (.sl true 36 (.sl true 57 (.arr 3 (.int .i64)) none) none) .unit)))]⟩, [(.exit 0, ⟨[], [(6, .ptr 6 []), (8, .ptr 8 [])], [(6, some 30, (.pair (.sl true 22 (.sl true 3 (.int .i64) none) none) (.pair (.sl true 36 (.sl true 57 (.arr 3 (.int .i64)) none) none) .unit))), (8, some 30, (.pair (.sl true 22 (.sl true 3 (.int .i64) none) none) (.pair (.sl true 36 (.sl true 57 (.arr 3 (.int .i64)) none) none) .unit)))]⟩)], fun v => F43_0 k k v.1.1 v.2.1 v.2.2.1 v.2.2.2.1⟩
def F43 (k : Nat) (a0 : Int) (a1 : Int) (a2 : (List Int)) : Option ((((List (List Int)) × ((List (List (List Int))) × Unit)) × Unit) × Unit) :=
  (F42 k a0 a1 a2).bind fun r1 =>
  (F43_0 k k (0 : Int) (([] : (List (List Int))), (([] : (List (List (List Int)))), ())) ((), r1.1.1.2) (r1.1.1.1, (([] : (List (List (List Int)))), ()))).bind fun r16 =>
  let y18 := r16.2.2.1
  some ((y18, ()), ())
def sp43 (k : Nat) : Spec := ⟨[.val (.int .i64), .val (.int .i64), .val (.sl false 3 (.int .i64) none)], [.own (.pair (.sl true 22 (.sl true 3 (.int .i64) none) none) (.pair (.sl true 36 (.sl true 57 (.arr 3 (.int .i64)) none) none) .unit))], fun x => F43 k x.1 x.2.1 x.2.2.1⟩
def lim43 : Lim := ⟨50, 3, false, false⟩
def cfg43 (k : Nat) : Nat → Option Spec := cfgL [(42, sp42 k)]
theorem cfg43_ok (k : Nat) : CfgOK Try.prog (cfg43 k) := cfgL_cons (v42 k) (cfgL_nil)
def pl43_0 (k : Nat) : Plan := .go
theorem pq43_0 (k : Nat) : PlanOK Try.prog lim43 (pl43_0 k) (codeAt (bodyOf Try.f43) [.r, .r, .r, .l, .r, .s, .b]) = PlanOK Try.prog lim43 .go (codeAt (bodyOf Try.f43) [.r, .r, .r, .l, .r, .s, .b]) := by kernel_rfl
theorem ps43_0 (k m : Nat) (v : (fr43_0 k).sh.V) : F43_0 k (m + 1) v.1.1 v.2.1 v.2.2.1 v.2.2.2.1 = (body Try.prog (stepper Try.prog (cfg43 k) lim43) (pl43_0 k) (codeAt (bodyOf Try.f43) [.r, .r, .r, .l, .r, .s, .b]) ((fr43_0 k).sh.st v) (loopK (fr43_0 k) fun v => F43_0 k m v.1.1 v.2.1 v.2.2.1 v.2.2.2.1)).eval := by kernel_rfl
theorem pe43_0 (k m : Nat) (v : (fr43_0 k).sh.V) : (body Try.prog (stepper Try.prog (cfg43 k) lim43) (pl43_0 k) (codeAt (bodyOf Try.f43) [.r, .r, .r, .l, .r, .s, .b]) ((fr43_0 k).sh.st v) (loopK (fr43_0 k) fun v => F43_0 k m v.1.1 v.2.1 v.2.2.1 v.2.2.2.1)).left = (body Try.prog (stepper Try.prog (cfg43 k) lim43) (pl43_0 k) (codeAt (bodyOf Try.f43) [.r, .r, .r, .l, .r, .s, .b]) ((fr43_0 k).sh.st v) (loopK (fr43_0 k) fun v => F43_0 k m v.1.1 v.2.1 v.2.2.1 v.2.2.2.1)).right := by kernel_rfl
theorem fr43_0_ok (k : Nat) : FragOK Try.prog lim43 (fr43_0 k) (codeAt (bodyOf Try.f43) [.r, .r, .r, .l, .r, .s]) :=
  frag_cast (by kernel_rfl) (loop_ok (cfg43_ok k) (Eq.mpr (pq43_0 k) (planOK_go _)) (fun m v => F43_0 k m v.1.1 v.2.1 v.2.2.1 v.2.2.2.1) k (fun _ => rfl) (fun _ => rfl) fun m v => ⟨ps43_0 k m v, pe43_0 k m v⟩)
def pl43 (k : Nat) : Plan := (.seq .go (.seq .go (.seq .go (.seq (.seq .go (.sub (.frag (fr43_0 k)))) .go))))
theorem pq43 (k : Nat) : PlanOK Try.prog lim43 (pl43 k) (codeAt (bodyOf Try.f43) []) = (PlanOK Try.prog lim43 .go (codeAt (bodyOf Try.f43) [.l]) ∧ (PlanOK Try.prog lim43 .go (codeAt (bodyOf Try.f43) [.r, .l]) ∧ (PlanOK Try.prog lim43 .go (codeAt (bodyOf Try.f43) [.r, .r, .l]) ∧ ((PlanOK Try.prog lim43 .go (codeAt (bodyOf Try.f43) [.r, .r, .r, .l, .l]) ∧ FragOK Try.prog lim43 (fr43_0 k) (codeAt (bodyOf Try.f43) [.r, .r, .r, .l, .r, .s])) ∧ PlanOK Try.prog lim43 .go (codeAt (bodyOf Try.f43) [.r, .r, .r, .r]))))) := by kernel_rfl
theorem ev43 (k : Nat) (x : AT (sp43 k).ps) : (sp43 k).impl x = (fnT Try.prog (cfg43 k) lim43 Try.f43 (bodyOf Try.f43) (pl43 k) (sp43 k) x).eval := by kernel_rfl
theorem eq43 (k : Nat) (x : AT (sp43 k).ps) : (fnT Try.prog (cfg43 k) lim43 Try.f43 (bodyOf Try.f43) (pl43 k) (sp43 k) x).left = (fnT Try.prog (cfg43 k) lim43 Try.f43 (bodyOf Try.f43) (pl43 k) (sp43 k) x).right := by kernel_rfl
theorem v43 (k : Nat) : Callable Try.prog 43 ∧ Valid Try.prog 43 (sp43 k) :=
  fn_ok (cfg43_ok k) (f := 43) (fn := Try.f43) (by kernel_rfl) (c := bodyOf Try.f43) (by kernel_rfl) (by kernel_rfl) rfl rfl (Nat.le_of_ble_eq_true rfl) (Nat.le_of_ble_eq_true rfl) (p := pl43 k) (Eq.mpr (pq43 k) ⟨(planOK_go _), ⟨(planOK_go _), ⟨(planOK_go _), ⟨⟨(planOK_go _), (fr43_0_ok k)⟩, (planOK_go _)⟩⟩⟩⟩) fun x => ⟨ev43 k x, eq43 k x⟩
/-! f44 hyphen/hyphenlaw12.within -/
def F44 (k : Nat) (a0 : Int) (a1 : Int) : Option ((Int × Unit) × Unit) :=
  if a1 ≠ 0 then
    bif (decide ((Int.tmod a0 a1) < (0 : Int))) then
      some (((IntKind.wrap .i64 ((Int.tmod a0 a1) + a1)), ()), ())
    else
      some (((Int.tmod a0 a1), ()), ())
  else none
def sp44 (k : Nat) : Spec := ⟨[.val (.int .i64), .val (.int .i64)], [.val (.int .i64)], fun x => F44 k x.1 x.2.1⟩
def lim44 : Lim := ⟨15, 2, false, false⟩
def cfg44 (k : Nat) : Nat → Option Spec := cfgL []
theorem cfg44_ok (k : Nat) : CfgOK Try.prog (cfg44 k) := cfgL_nil
def pl44 (k : Nat) : Plan := .go
theorem pq44 (k : Nat) : PlanOK Try.prog lim44 (pl44 k) (codeAt (bodyOf Try.f44) []) = PlanOK Try.prog lim44 .go (codeAt (bodyOf Try.f44) []) := by kernel_rfl
theorem ev44 (k : Nat) (x : AT (sp44 k).ps) : (sp44 k).impl x = (fnT Try.prog (cfg44 k) lim44 Try.f44 (bodyOf Try.f44) (pl44 k) (sp44 k) x).eval := by kernel_rfl
theorem eq44 (k : Nat) (x : AT (sp44 k).ps) : (fnT Try.prog (cfg44 k) lim44 Try.f44 (bodyOf Try.f44) (pl44 k) (sp44 k) x).left = (fnT Try.prog (cfg44 k) lim44 Try.f44 (bodyOf Try.f44) (pl44 k) (sp44 k) x).right := by kernel_rfl
theorem v44 (k : Nat) : Callable Try.prog 44 ∧ Valid Try.prog 44 (sp44 k) :=
  fn_ok (cfg44_ok k) (f := 44) (fn := Try.f44) (by kernel_rfl) (c := bodyOf Try.f44) (by kernel_rfl) (by kernel_rfl) rfl rfl (Nat.le_of_ble_eq_true rfl) (Nat.le_of_ble_eq_true rfl) (p := pl44 k) (Eq.mpr (pq44 k) (planOK_go _)) fun x => ⟨ev44 k x, eq44 k x⟩
/-! f16 hyphen/hyphenlaw12.Make -/
def F16_0 (k : Nat) : Nat → (List Int) → Int → Int → Int → ((List Int) × ((List Int) × (((List (List Int)) × ((List Int) × Unit)) × (((List (List Int)) × ((List (List (List Int))) × Unit)) × Unit)))) → ((List Int) × ((List Int) × (((List (List Int)) × ((List Int) × Unit)) × (((List (List Int)) × ((List (List (List Int))) × Unit)) × Unit)))) → Option (((Int × Int × Unit) × (((List Int) × ((List Int) × (((List (List Int)) × ((List Int) × Unit)) × (((List (List Int)) × ((List (List (List Int))) × Unit)) × Unit)))) × ((List Int) × ((List Int) × (((List (List Int)) × ((List Int) × Unit)) × (((List (List Int)) × ((List (List (List Int))) × Unit)) × Unit)))) × Unit)))
  | 0, _, _, _, _, _, _ => none
  | n + 1, t4, t12, t13, t14, c10, c11 =>
    let x28 := (decide (t14 < ((List.length t4 : Nat) : Int)))
    bif x28 then
      bif (decide (t14 < (6 : Int))) then
        if 0 ≤ t14 ∧ t14 < ((List.length t4 : Nat) : Int) then
          (F44 k (List.getD t4 (Int.toNat t14) (0 : Int)) (1073741824 : Int)).bind fun r29 =>
          if t12 ≠ 0 then
            bif (decide ((Int.tmod r29.1.1 t12) > t13)) then
              bif (t13 == t13) then
                if 0 ≤ t14 ∧ t14 < ((List.length c11.1 : Nat) : Int) then
                  let x30 := (IntKind.wrap .i64 ((List.getD c11.1 (Int.toNat t14) (0 : Int)) + (1 : Int)))
                  let x31 := (IntKind.wrap .i64 (Int.tdiv r29.1.1 (8 : Int)))
                  let x32 := (IntKind.wrap .i64 (x30 + (Int.tmod x31 (1000 : Int))))
                  let x33 := (List.set (List.replicate 1 (0 : Int)) 0 x32)
                  if (List.length c11.1 + List.length x33) * (8 * 2) ≤ 281474976710656 ∧ List.length c11.1 + List.length x33 ≤ 9223372036854775807 then
                    let x34 := (List.set (List.replicate 1 (0 : Int)) 0 t13)
                    if (List.length c11.2.1 + List.length x34) * (8 * 2) ≤ 281474976710656 ∧ List.length c11.2.1 + List.length x34 ≤ 9223372036854775807 then
                      (F16_0 k n t4 t12 (IntKind.wrap .i64 (t13 + (1 : Int))) (IntKind.wrap .i64 (t14 + (1 : Int))) c10 ((c11.1 ++ x33), ((c11.2.1 ++ x34), c11.2.2))).bind some
                    else none
                  else none
                else none
              else
                if 0 ≤ t14 ∧ t14 < ((List.length c11.1 : Nat) : Int) then
                  let x35 := (IntKind.wrap .i64 ((List.getD c11.1 (Int.toNat t14) (0 : Int)) + (1 : Int)))
                  let x36 := (IntKind.wrap .i64 (Int.tdiv r29.1.1 (8 : Int)))
                  let x37 := (IntKind.wrap .i64 (x35 + (Int.tmod x36 (1000 : Int))))
                  let x38 := (List.set (List.replicate 1 (0 : Int)) 0 x37)
                  if (List.length c11.1 + List.length x38) * (8 * 2) ≤ 281474976710656 ∧ List.length c11.1 + List.length x38 ≤ 9223372036854775807 then
                    let x39 := (List.set (List.replicate 1 (0 : Int)) 0 t13)
                    if (List.length c11.2.1 + List.length x39) * (8 * 2) ≤ 281474976710656 ∧ List.length c11.2.1 + List.length x39 ≤ 9223372036854775807 then
                      (F16_0 k n t4 t12 t13 (IntKind.wrap .i64 (t14 + (1 : Int))) c10 ((c11.1 ++ x38), ((c11.2.1 ++ x39), c11.2.2))).bind some
                    else none
                  else none
                else none
            else
              bif ((Int.tmod r29.1.1 t12) == t13) then
                if 0 ≤ t14 ∧ t14 < ((List.length c11.1 : Nat) : Int) then
                  let x40 := (IntKind.wrap .i64 ((List.getD c11.1 (Int.toNat t14) (0 : Int)) + (1 : Int)))
                  let x41 := (IntKind.wrap .i64 (Int.tdiv r29.1.1 (8 : Int)))
                  let x42 := (IntKind.wrap .i64 (x40 + (Int.tmod x41 (1000 : Int))))
                  let x43 := (List.set (List.replicate 1 (0 : Int)) 0 x42)
                  if (List.length c11.1 + List.length x43) * (8 * 2) ≤ 281474976710656 ∧ List.length c11.1 + List.length x43 ≤ 9223372036854775807 then
                    let x44 := (List.set (List.replicate 1 (0 : Int)) 0 (Int.tmod r29.1.1 t12))
                    if (List.length c11.2.1 + List.length x44) * (8 * 2) ≤ 281474976710656 ∧ List.length c11.2.1 + List.length x44 ≤ 9223372036854775807 then
                      (F16_0 k n t4 t12 (IntKind.wrap .i64 (t13 + (1 : Int))) (IntKind.wrap .i64 (t14 + (1 : Int))) c10 ((c11.1 ++ x43), ((c11.2.1 ++ x44), c11.2.2))).bind some
                    else none
                  else none
                else none
              else
                if 0 ≤ t14 ∧ t14 < ((List.length c11.1 : Nat) : Int) then
                  let x45 := (IntKind.wrap .i64 ((List.getD c11.1 (Int.toNat t14) (0 : Int)) + (1 : Int)))
                  let x46 := (IntKind.wrap .i64 (Int.tdiv r29.1.1 (8 : Int)))
                  let x47 := (IntKind.wrap .i64 (x45 + (Int.tmod x46 (1000 : Int))))
                  let x48 := (List.set (List.replicate 1 (0 : Int)) 0 x47)
                  if (List.length c11.1 + List.length x48) * (8 * 2) ≤ 281474976710656 ∧ List.length c11.1 + List.length x48 ≤ 9223372036854775807 then
                    let x49 := (List.set (List.replicate 1 (0 : Int)) 0 (Int.tmod r29.1.1 t12))
                    if (List.length c11.2.1 + List.length x49) * (8 * 2) ≤ 281474976710656 ∧ List.length c11.2.1 + List.length x49 ≤ 9223372036854775807 then
                      (F16_0 k n t4 t12 t13 (IntKind.wrap .i64 (t14 + (1 : Int))) c10 ((c11.1 ++ x48), ((c11.2.1 ++ x49), c11.2.2))).bind some
                    else none
                  else none
                else none
          else none
        else none
      else
        some ((t12, t13, ()), (c10, c11, ()))
    else
      some ((t12, t13, ()), (c10, c11, ()))
def fr16_0 (k : Nat) : Frag := ⟨⟨[], [(4, .val (.sl false 3 (.int .i64) none)), (10, .ptr 10 []), (11, .ptr 11 []), (12, .val (.int .i64)), (13, .val (.int .i64)), (14, .val (.int .i64))], [(10, some 32, (.pair (.sl true 3 (.int .i64) none) (.pair (.sl true 3 (.int .i64) none) (.pair (.pair (.sl true 22 (.sl true 3 (.int .i64) none) none) (.pair (.sl true 3 (.int .i64) none) .unit)) (.pair (.pair (.sl true 22 (.sl true 3 (.int .i64) none) none) (.pair (.sl true 36 (.sl true 57 (.arr 3 (.int .i64)) none) none) .unit)) .unit))))), (11, some 32, (.pair (.sl true 3 (.int .i64) none) (.pair (.sl true 3 (.int .i64) none) (.pair (.pair (.sl true 22 (.sl true 3 (.int .i64) none) none) (.pair (.sl true 3 (.int .i64) none) .unit)) (.pair (.pair (.sl true 22 (.sl true 3 (.int .i64) none) none) (.pair (.sl true 36 (.sl true 57 (.arr 3 (.int .i64)) none) none) .unit)) .unit)))))]⟩, [(.exit 0, ⟨[], [(10, .ptr 10 []), (11, .ptr 11 []), (12, .val (.int .i64)), (13, .val (.int .i64))], [(10, some 32, (.pair (.sl true 3 (.int .i64) none) (.pair (.sl true 3 (.int .i64) none) (.pair (.pair (.sl true 22 (.sl true 3 (.int .i64) none) none) (.pair (.sl true 3 (.int .i64) none) .unit)) (.pair (.pair (.sl true 22 (.sl true 3 (.int .i64) none) none) (.pair (.sl true 36 (.sl true 57 (.arr 3 (.int .i64)) none) none) .unit)) .unit))))), (11, some 32, (.pair (.sl true 3 (.int .i64) none) (.pair (.sl true 3 (.int .i64) none) (.pair (.pair (.sl true 22 (.sl true 3 (.int .i64) none) none) (.pair (.sl true 3 (.int .i64) none) .unit)) (.pair (.pair (.sl true 22 (.sl true 3 (.int .i64) none) none) (.pair (.sl true 36 (.sl true 57 (.arr 3 (.int .i64)) none) none) .unit)) .unit)))))]⟩)], fun v => F16_0 k k v.1.1 v.1.2.1 v.1.2.2.1 v.1.2.2.2.1 v.2.1 v.2.2.1⟩
def F16_1 (k : Nat) : Nat → Int → Int → ((List Int) × ((List Int) × (((List (List Int)) × ((List Int) × Unit)) × (((List (List Int)) × ((List (List (List Int))) × Unit)) × Unit)))) → ((List Int) × ((List Int) × (((List (List Int)) × ((List Int) × Unit)) × (((List (List Int)) × ((List (List (List Int))) × Unit)) × Unit)))) → Option ((Unit × (((List Int) × ((List Int) × (((List (List Int)) × ((List Int) × Unit)) × (((List (List Int)) × ((List (List (List Int))) × Unit)) × Unit)))) × ((List Int) × ((List Int) × (((List (List Int)) × ((List Int) × Unit)) × (((List (List Int)) × ((List (List (List Int))) × Unit)) × Unit)))) × Unit)))
  | 0, _, _, _, _ => none
  | n + 1, t12, t13, c10, c11 =>
    bif (decide (t13 < t12)) then
      let x59 := (IntKind.wrap .i64 (((List.length c11.1 : Nat) : Int) - (1 : Int)))
      if 0 ≤ x59 ∧ x59 < ((List.length c11.1 : Nat) : Int) then
        let x60 := (IntKind.wrap .i64 ((List.getD c11.1 (Int.toNat x59) (0 : Int)) + (3 : Int)))
        let x61 := (List.set (List.replicate 1 (0 : Int)) 0 x60)
        if (List.length c11.1 + List.length x61) * (8 * 2) ≤ 281474976710656 ∧ List.length c11.1 + List.length x61 ≤ 9223372036854775807 then
          let x62 := (List.set (List.replicate 1 (0 : Int)) 0 t13)
          if (List.length c11.2.1 + List.length x62) * (8 * 2) ≤ 281474976710656 ∧ List.length c11.2.1 + List.length x62 ≤ 9223372036854775807 then
            (F16_1 k n t12 (IntKind.wrap .i64 (t13 + (1 : Int))) c10 ((c11.1 ++ x61), ((c11.2.1 ++ x62), c11.2.2))).bind some
          else none
        else none
      else none
    else
      some ((), (c10, c11, ()))
def fr16_1 (k : Nat) : Frag := ⟨⟨[], [(10, .ptr 10 []), (11, .ptr 11 []), (12, .val (.int .i64)), (13, .val (.int .i64))], [(10, some 32, (.pair (.sl true 3 (.int .i64) none) (.pair (.sl true 3 (.int .i64) none) (.pair (.pair (.sl true 22 (.sl true 3 (.int .i64) none) none) (.pair (.sl true 3 (.int .i64) none) .unit)) (.pair (.pair (.sl true 22 (.sl true 3 (.int .i64) none) none) (.pair (.sl true 36 (.sl true 57 (.arr 3 (.int .i64)) none) none) .unit)) .unit))))), (11, some 32, (.pair (.sl true 3 (.int .i64) none) (.pair (.sl true 3 (.int .i64) none) (.pair (.pair (.sl true 22 (.sl true 3 (.int .i64) none) none) (.pair (.sl true 3 (.int .i64) none) .unit)) (.pair (.pair (.sl true 22 (.sl true 3 (.int .i64) none) none) (.pair (.sl true 36 (.sl true 57 (.arr 3 (.int .i64)) none) none) .unit)) .unit)))))]⟩, [(.exit 2, ⟨[], [(10, .ptr 10 []), (11, .ptr 11 [])], [(10, some 32, (.pair (.sl true 3 (.int .i64) none) (.pair (.sl true 3 (.int .i64) none) (.pair (.pair (.sl true 22 (.sl true 3 (.int .i64) none) none) (.pair (.sl true 3 (.int .i64) none) .unit)) (.pair (.pair (.sl true 22 (.sl true 3 (.int .i64) none) none) (.pair (.sl true 36 (.sl true 57 (.arr 3 (.int .i64)) none) none) .unit)) .unit))))), (11, some 32, (.pair (.sl true 3 (.int .i64) none) (.pair (.sl true 3 (.int .i64) none) (.pair (.pair (.sl true 22 (.sl true 3 (.int .i64) none) none) (.pair (.sl true 3 (.int .i64) none) .unit)) (.pair (.pair (.sl true 22 (.sl true 3 (.int .i64) none) none) (.pair (.sl true 36 (.sl true 57 (.arr 3 (.int .i64)) none) none) .unit)) .unit)))))]⟩)], fun v => F16_1 k k v.1.1 v.1.2.1 v.2.1 v.2.2.1⟩
def F16_2 (k : Nat) : Nat → Int → ((List Int) × ((List Int) × (((List (List Int)) × ((List Int) × Unit)) × (((List (List Int)) × ((List (List (List Int))) × Unit)) × Unit)))) → ((List Int) × ((List Int) × (((List (List Int)) × ((List Int) × Unit)) × (((List (List Int)) × ((List (List (List Int))) × Unit)) × Unit)))) → Option ((Unit × (((List Int) × ((List Int) × (((List (List Int)) × ((List Int) × Unit)) × (((List (List Int)) × ((List (List (List Int))) × Unit)) × Unit)))) × ((List Int) × ((List Int) × (((List (List Int)) × ((List Int) × Unit)) × (((List (List Int)) × ((List (List (List Int))) × Unit)) × Unit)))) × Unit)))
  | 0, _, _, _ => none
  | n + 1, t17, c10, c11 =>
    let x69 := (decide (t17 < ((List.length c11.2.2.1.2.1 : Nat) : Int)))
    bif x69 then
      if 0 ≤ t17 ∧ t17 < ((List.length c11.2.2.1.2.1 : Nat) : Int) then
        let x70 := (List.getD c11.2.2.1.2.1 (Int.toNat t17) (0 : Int))
        if 0 ≤ t17 ∧ t17 < ((List.length c11.2.2.1.2.1 : Nat) : Int) then
          let x71 := (List.set c11.2.2.1.2.1 (Int.toNat t17) (Int.tmod x70 (2 : Int)))
          (F16_2 k n (IntKind.wrap .i64 (t17 + (1 : Int))) c10 (c11.1, (c11.2.1, ((c11.2.2.1.1, (x71, c11.2.2.1.2.2)), c11.2.2.2)))).bind some
        else none
      else none
    else
      some ((), (c10, c11, ()))
def fr16_2 (k : Nat) : Frag := ⟨⟨[], [(10, .ptr 10 []), (11, .ptr 11 []), (17, .val (.int .i64))], [(10, some 32, (.pair (.sl true 3 (.int .i64) none) (.pair (.sl true 3 (.int .i64) none) (.pair (.pair (.sl true 22 (.sl true 3 (.int .i64) none) none) (.pair (.sl true 3 (.int .i64) none) .unit)) (.pair (.pair (.sl true 22 (.sl true 3 (.int .i64) none) none) (.pair (.sl true 36 (.sl true 57 (.arr 3 (.int .i64)) none) none) .unit)) .unit))))), (11, some 32, (.pair (.sl true 3 (.int .i64) none) (.pair (.sl true 3 (.int .i64) none) (.pair (.pair (.sl true 22 (.sl true 3 (.int .i64) none) none) (.pair (.sl true 3 (.int .i64) none) .unit)) (.pair (.pair (.sl true 22 (.sl true 3 (.int .i64) none) none) (.pair (.sl true 36 (.sl true 57 (.arr 3 (.int .i64)) none) none) .unit)) .unit)))))]⟩, [(.exit 4, ⟨[], [(10, .ptr 10 []), (11, .ptr 11 [])], [(10, some 32, (.pair (.sl true 3 (.int .i64) none) (.pair (.sl true 3 (.int .i64) none) (.pair (.pair (.sl true 22 (.sl true 3 (.int .i64) none) none) (.pair (.sl true 3 (.int .i64) none) .unit)) (.pair (.pair (.sl true 22 (.sl true 3 (.int .i64) none) none) (.pair (.sl true 36 (.sl true 57 (.arr 3 (.int .i64)) none) none) .unit)) .unit))))), (11, some 32, (.pair (.sl true 3 (.int .i64) none) (.pair (.sl true 3 (.int .i64) none) (.pair (.pair (.sl true 22 (.sl true 3 (.int .i64) none) none) (.pair (.sl true 3 (.int .i64) none) .unit)) (.pair (.pair (.sl true 22 (.sl true 3 (.int .i64) none) none) (.pair (.sl true 36 (.sl true 57 (.arr 3 (.int .i64)) none) none) .unit)) .unit)))))]⟩)], fun v => F16_2 k k v.1.1 v.2.1 v.2.2.1⟩
def F16 (k : Nat) (a0 : Int) (a1 : Int) (a2 : (List Int)) (a3 : (List Int)) (a4 : (List Int)) : Option ((((List Int) × ((List Int) × (((List (List Int)) × ((List Int) × Unit)) × (((List (List Int)) × ((List (List (List Int))) × Unit)) × Unit)))) × Unit) × Unit) :=
  (F42 k a0 a1 a2).bind fun r1 =>
  (F43 k a0 a1 a3).bind fun r2 =>
  if 0 ≤ (0 : Int) ∧ (0 : Int) < ((List.length r1.1.1.1 : Nat) : Int) then
    let x3 := ((List.length (List.getD r1.1.1.1 (Int.toNat (0 : Int)) ([] : (List Int))) : Nat) : Int)
    let x4 := (List.set (List.replicate 1 (0 : Int)) 0 (0 : Int))
    let x5 := (List.set (List.replicate 1 (0 : Int)) 0 (0 : Int))
    (F16_0 k k a4 x3 (1 : Int) (0 : Int) (([] : (List Int)), (([] : (List Int)), ((([] : (List (List Int))), (([] : (List Int)), ())), ((([] : (List (List Int))), (([] : (List (List (List Int)))), ())), ())))) (x4, (x5, (r1.1.1, (r2.1.1, ()))))).bind fun r50 =>
    let y51 := r50.1.1
    let y52 := r50.1.2.1
    let y53 := r50.2.1
    let y54 := r50.2.2.1
    (F16_1 k k y51 y52 y53 y54).bind fun r63 =>
    let y64 := r63.2.1
    let y65 := r63.2.2.1
    (F16_2 k k (0 : Int) y64 y65).bind fun r72 =>
    let y74 := r72.2.2.1
    if 0 ≤ (0 : Int) ∧ (0 : Int) < ((List.length y74.2.2.1.2.1 : Nat) : Int) then
      let x75 := (List.set y74.2.2.1.2.1 (Int.toNat (0 : Int)) (1 : Int))
      some (((y74.1, (y74.2.1, ((y74.2.2.1.1, (x75, y74.2.2.1.2.2)), y74.2.2.2))), ()), ())
    else none
  else none
def sp16 (k : Nat) : Spec := ⟨[.val (.int .i64), .val (.int .i64), .val (.sl false 3 (.int .i64) none), .val (.sl false 3 (.int .i64) none), .val (.sl false 3 (.int .i64) none)], [.own (.pair (.sl true 3 (.int .i64) none) (.pair (.sl true 3 (.int .i64) none) (.pair (.pair (.sl true 22 (.sl true 3 (.int .i64) none) none) (.pair (.sl true 3 (.int .i64) none) .unit)) (.pair (.pair (.sl true 22 (.sl true 3 (.int .i64) none) none) (.pair (.sl true 36 (.sl true 57 (.arr 3 (.int .i64)) none) none) .unit)) .unit))))], fun x => F16 k x.1 x.2.1 x.2.2.1 x.2.2.2.1 x.2.2.2.2.1⟩
def lim16 : Lim := ⟨135, 5, false, false⟩
def cfg16 (k : Nat) : Nat → Option Spec := cfgL [(42, sp42 k), (43, sp43 k), (44, sp44 k)]
theorem cfg16_ok (k : Nat) : CfgOK Try.prog (cfg16 k) := cfgL_cons (v42 k) (cfgL_cons (v43 k) (cfgL_cons (v44 k) (cfgL_nil)))
def pl16_0 (k : Nat) : Plan := .go
theorem pq16_0 (k : Nat) : PlanOK Try.prog lim16 (pl16_0 k) (codeAt (bodyOf Try.f16) [.r, .r, .r, .r, .r, .l, .r, .s, .b]) = PlanOK Try.prog lim16 .go (codeAt (bodyOf Try.f16) [.r, .r, .r, .r, .r, .l, .r, .s, .b]) := by kernel_rfl
theorem ps16_0 (k m : Nat) (v : (fr16_0 k).sh.V) : F16_0 k (m + 1) v.1.1 v.1.2.1 v.1.2.2.1 v.1.2.2.2.1 v.2.1 v.2.2.1 = (body Try.prog (stepper Try.prog (cfg16 k) lim16) (pl16_0 k) (codeAt (bodyOf Try.f16) [.r, .r, .r, .r, .r, .l, .r, .s, .b]) ((fr16_0 k).sh.st v) (loopK (fr16_0 k) fun v => F16_0 k m v.1.1 v.1.2.1 v.1.2.2.1 v.1.2.2.2.1 v.2.1 v.2.2.1)).eval := by kernel_rfl
theorem pe16_0 (k m : Nat) (v : (fr16_0 k).sh.V) : (body Try.prog (stepper Try.prog (cfg16 k) lim16) (pl16_0 k) (codeAt (bodyOf Try.f16) [.r, .r, .r, .r, .r, .l, .r, .s, .b]) ((fr16_0 k).sh.st v) (loopK (fr16_0 k) fun v => F16_0 k m v.1.1 v.1.2.1 v.1.2.2.1 v.1.2.2.2.1 v.2.1 v.2.2.1)).left = (body Try.prog (stepper Try.prog (cfg16 k) lim16) (pl16_0 k) (codeAt (bodyOf Try.f16) [.r, .r, .r, .r, .r, .l, .r, .s, .b]) ((fr16_0 k).sh.st v) (loopK (fr16_0 k) fun v => F16_0 k m v.1.1 v.1.2.1 v.1.2.2.1 v.1.2.2.2.1 v.2.1 v.2.2.1)).right := by kernel_rfl
theorem fr16_0_ok (k : Nat) : FragOK Try.prog lim16 (fr16_0 k) (codeAt (bodyOf Try.f16) [.r, .r, .r, .r, .r, .l, .r, .s]) :=
  frag_cast (by kernel_rfl) (loop_ok (cfg16_ok k) (Eq.mpr (pq16_0 k) (planOK_go _)) (fun m v => F16_0 k m v.1.1 v.1.2.1 v.1.2.2.1 v.1.2.2.2.1 v.2.1 v.2.2.1) k (fun _ => rfl) (fun _ => rfl) fun m v => ⟨ps16_0 k m v, pe16_0 k m v⟩)
def pl16_1 (k : Nat) : Plan := .go
theorem pq16_1 (k : Nat) : PlanOK Try.prog lim16 (pl16_1 k) (codeAt (bodyOf Try.f16) [.r, .r, .r, .r, .r, .r, .l, .s, .b]) = PlanOK Try.prog lim16 .go (codeAt (bodyOf Try.f16) [.r, .r, .r, .r, .r, .r, .l, .s, .b]) := by kernel_rfl
theorem ps16_1 (k m : Nat) (v : (fr16_1 k).sh.V) : F16_1 k (m + 1) v.1.1 v.1.2.1 v.2.1 v.2.2.1 = (body Try.prog (stepper Try.prog (cfg16 k) lim16) (pl16_1 k) (codeAt (bodyOf Try.f16) [.r, .r, .r, .r, .r, .r, .l, .s, .b]) ((fr16_1 k).sh.st v) (loopK (fr16_1 k) fun v => F16_1 k m v.1.1 v.1.2.1 v.2.1 v.2.2.1)).eval := by kernel_rfl
theorem pe16_1 (k m : Nat) (v : (fr16_1 k).sh.V) : (body Try.prog (stepper Try.prog (cfg16 k) lim16) (pl16_1 k) (codeAt (bodyOf Try.f16) [.r, .r, .r, .r, .r, .r, .l, .s, .b]) ((fr16_1 k).sh.st v) (loopK (fr16_1 k) fun v => F16_1 k m v.1.1 v.1.2.1 v.2.1 v.2.2.1)).left = (body Try.prog (stepper Try.prog (cfg16 k) lim16) (pl16_1 k) (codeAt (bodyOf Try.f16) [.r, .r, .r, .r, .r, .r, .l, .s, .b]) ((fr16_1 k).sh.st v) (loopK (fr16_1 k) fun v => F16_1 k m v.1.1 v.1.2.1 v.2.1 v.2.2.1)).right := by kernel_rfl
theorem fr16_1_ok (k : Nat) : FragOK Try.prog lim16 (fr16_1 k) (codeAt (bodyOf Try.f16) [.r, .r, .r, .r, .r, .r, .l, .s]) :=
  frag_cast (by kernel_rfl) (loop_ok (cfg16_ok k) (Eq.mpr (pq16_1 k) (planOK_go _)) (fun m v => F16_1 k m v.1.1 v.1.2.1 v.2.1 v.2.2.1) k (fun _ => rfl) (fun _ => rfl) fun m v => ⟨ps16_1 k m v, pe16_1 k m v⟩)
def pl16_2 (k : Nat) : Plan := .go
theorem pq16_2 (k : Nat) : PlanOK Try.prog lim16 (pl16_2 k) (codeAt (bodyOf Try.f16) [.r, .r, .r, .r, .r, .r, .r, .l, .r, .s, .b]) = PlanOK Try.prog lim16 .go (codeAt (bodyOf Try.f16) [.r, .r, .r, .r, .r, .r, .r, .l, .r, .s, .b]) := by kernel_rfl
theorem ps16_2 (k m : Nat) (v : (fr16_2 k).sh.V) : F16_2 k (m + 1) v.1.1 v.2.1 v.2.2.1 = (body Try.prog (stepper Try.prog (cfg16 k) lim16) (pl16_2 k) (codeAt (bodyOf Try.f16) [.r, .r, .r, .r, .r, .r, .r, .l, .r, .s, .b]) ((fr16_2 k).sh.st v) (loopK (fr16_2 k) fun v => F16_2 k m v.1.1 v.2.1 v.2.2.1)).eval := by kernel_rfl
theorem pe16_2 (k m : Nat) (v : (fr16_2 k).sh.V) : (body Try.prog (stepper Try.prog (cfg16 k) lim16) (pl16_2 k) (codeAt (bodyOf Try.f16) [.r, .r, .r, .r, .r, .r, .r, .l, .r, .s, .b]) ((fr16_2 k).sh.st v) (loopK (fr16_2 k) fun v => F16_2 k m v.1.1 v.2.1 v.2.2.1)).left = (body Try.prog (stepper Try.prog (cfg16 k) lim16) (pl16_2 k) (codeAt (bodyOf Try.f16) [.r, .r, .r, .r, .r, .r, .r, .l, .r, .s, .b]) ((fr16_2 k).sh.st v) (loopK (fr16_2 k) fun v => F16_2 k m v.1.1 v.2.1 v.2.2.1)).right := by kernel_rfl
theorem fr16_2_ok (k : Nat) : FragOK Try.prog lim16 (fr16_2 k) (codeAt (bodyOf Try.f16) [.r, .r, .r, .r, .r, .r, .r, .l, .r, .s]) :=
  frag_cast (by kernel_rfl) (loop_ok (cfg16_ok k) (Eq.mpr (pq16_2 k) (planOK_go _)) (fun m v => F16_2 k m v.1.1 v.2.1 v.2.2.1) k (fun _ => rfl) (fun _ => rfl) fun m v => ⟨ps16_2 k m v, pe16_2 k m v⟩)
def pl16 (k : Nat) : Plan := (.seq .go (.seq .go (.seq .go (.seq .go (.seq .go (.seq (.seq .go (.sub (.frag (fr16_0 k)))) (.seq (.sub (.frag (fr16_1 k))) (.seq (.seq .go (.sub (.frag (fr16_2 k)))) .go))))))))
theorem pq16 (k : Nat) : PlanOK Try.prog lim16 (pl16 k) (codeAt (bodyOf Try.f16) []) = (PlanOK Try.prog lim16 .go (codeAt (bodyOf Try.f16) [.l]) ∧ (PlanOK Try.prog lim16 .go (codeAt (bodyOf Try.f16) [.r, .l]) ∧ (PlanOK Try.prog lim16 .go (codeAt (bodyOf Try.f16) [.r, .r, .l]) ∧ (PlanOK Try.prog lim16 .go (codeAt (bodyOf Try.f16) [.r, .r, .r, .l]) ∧ (PlanOK Try.prog lim16 .go (codeAt (bodyOf Try.f16) [.r, .r, .r, .r, .l]) ∧ ((PlanOK Try.prog lim16 .go (codeAt (bodyOf Try.f16) [.r, .r, .r, .r, .r, .l, .l]) ∧ FragOK Try.prog lim16 (fr16_0 k) (codeAt (bodyOf Try.f16) [.r, .r, .r, .r, .r, .l, .r, .s])) ∧ (FragOK Try.prog lim16 (fr16_1 k) (codeAt (bodyOf Try.f16) [.r, .r, .r, .r, .r, .r, .l, .s]) ∧ ((PlanOK Try.prog lim16 .go (codeAt (bodyOf Try.f16) [.r, .r, .r, .r, .r, .r, .r, .l, .l]) ∧ FragOK Try.prog lim16 (fr16_2 k) (codeAt (bodyOf Try.f16) [.r, .r, .r, .r, .r, .r, .r, .l, .r, .s])) ∧ PlanOK Try.prog lim16 .go (codeAt (bodyOf Try.f16) [.r, .r, .r, .r, .r, .r, .r, .r]))))))))) := by kernel_rfl
theorem ev16 (k : Nat) (x : AT (sp16 k).ps) : (sp16 k).impl x = (fnT Try.prog (cfg16 k) lim16 Try.f16 (bodyOf Try.f16) (pl16 k) (sp16 k) x).eval := by kernel_rfl
theorem eq16 (k : Nat) (x : AT (sp16 k).ps) : (fnT Try.prog (cfg16 k) lim16 Try.f16 (bodyOf Try.f16) (pl16 k) (sp16 k) x).left = (fnT Try.prog (cfg16 k) lim16 Try.f16 (bodyOf Try.f16) (pl16 k) (sp16 k) x).right := by kernel_rfl
theorem v16 (k : Nat) : Callable Try.prog 16 ∧ Valid Try.prog 16 (sp16 k) :=
  fn_ok (cfg16_ok k) (f := 16) (fn := Try.f16) (by kernel_rfl) (c := bodyOf Try.f16) (by kernel_rfl) (by kernel_rfl) rfl rfl (Nat.le_of_ble_eq_true rfl) (Nat.le_of_ble_eq_true rfl) (p := pl16 k) (Eq.mpr (pq16 k) ⟨(planOK_go _), ⟨(planOK_go _), ⟨(planOK_go _), ⟨(planOK_go _), ⟨(planOK_go _), ⟨⟨(planOK_go _), (fr16_0_ok k)⟩, ⟨(fr16_1_ok k), ⟨⟨(planOK_go _), (fr16_2_ok k)⟩, (planOK_go _)⟩⟩⟩⟩⟩⟩⟩⟩) fun x => ⟨ev16 k x, eq16 k x⟩
/-! f45 hyphen/hyphenlaw2.within -/
def F45 (k : Nat) (a0 : Int) (a1 : Int) : Option ((Int × Unit) × Unit) :=
  if a1 ≠ 0 then
    bif (decide ((Int.tmod a0 a1) < (0 : Int))) then
      some (((IntKind.wrap .i64 ((Int.tmod a0 a1) + a1)), ()), ())
    else
      some (((Int.tmod a0 a1), ()), ())
  else none
def sp45 (k : Nat) : Spec := ⟨[.val (.int .i64), .val (.int .i64)], [.val (.int .i64)], fun x => F45 k x.1 x.2.1⟩
def lim45 : Lim := ⟨15, 2, false, false⟩
def cfg45 (k : Nat) : Nat → Option Spec := cfgL []
theorem cfg45_ok (k : Nat) : CfgOK Try.prog (cfg45 k) := cfgL_nil
def pl45 (k : Nat) : Plan := .go
theorem pq45 (k : Nat) : PlanOK Try.prog lim45 (pl45 k) (codeAt (bodyOf Try.f45) []) = PlanOK Try.prog lim45 .go (codeAt (bodyOf Try.f45) []) := by kernel_rfl
theorem ev45 (k : Nat) (x : AT (sp45 k).ps) : (sp45 k).impl x = (fnT Try.prog (cfg45 k) lim45 Try.f45 (bodyOf Try.f45) (pl45 k) (sp45 k) x).eval := by kernel_rfl
theorem eq45 (k : Nat) (x : AT (sp45 k).ps) : (fnT Try.prog (cfg45 k) lim45 Try.f45 (bodyOf Try.f45) (pl45 k) (sp45 k) x).left = (fnT Try.prog (cfg45 k) lim45 Try.f45 (bodyOf Try.f45) (pl45 k) (sp45 k) x).right := by kernel_rfl
theorem v45 (k : Nat) : Callable Try.prog 45 ∧ Valid Try.prog 45 (sp45 k) :=
  fn_ok (cfg45_ok k) (f := 45) (fn := Try.f45) (by kernel_rfl) (c := bodyOf Try.f45) (by kernel_rfl) (by kernel_rfl) rfl rfl (Nat.le_of_ble_eq_true rfl) (Nat.le_of_ble_eq_true rfl) (p := pl45 k) (Eq.mpr (pq45 k) (planOK_go _)) fun x => ⟨ev45 k x, eq45 k x⟩
/-! f17 hyphen/hyphenlaw2.Bytes -/
def F17_0 (k : Nat) : Nat → (List Int) → (List Int) → ByteArray → Int → (List ByteArray) → Option (((ByteArray × Unit) × Unit))
  | 0, _, _, _, _, _ => none
  | n + 1, t0, t1, t6, t7, c8 =>
    let x12 := (decide (t7 < ((List.length t0 : Nat) : Int)))
    bif x12 then
      bif (decide (t7 < (40 : Int))) then
        let x13 := (decide (((ByteArray.size t6 : Nat) : Int) < (1000 : Int)))
        bif x13 then
          if 0 ≤ t7 ∧ t7 < ((List.length t0 : Nat) : Int) then
            (F45 k (List.getD t0 (Int.toNat t7) (0 : Int)) ((List.length c8 : Nat) : Int)).bind fun r14 =>
            if 0 ≤ r14.1.1 ∧ r14.1.1 < ((List.length c8 : Nat) : Int) then
              let x15 := (List.getD c8 (Int.toNat r14.1.1) ByteArray.empty)
              if ByteArray.size t6 + ByteArray.size x15 ≤ 9223372036854775807 then
                if 0 ≤ t7 ∧ t7 < ((List.length t0 : Nat) : Int) then
                  let x16 := (IntKind.wrap .i64 (Int.tdiv (List.getD t0 (Int.toNat t7) (0 : Int)) (32 : Int)))
                  (F45 k x16 (8 : Int)).bind fun r17 =>
                  bif (r17.1.1 == (0 : Int)) then
                    if 0 ≤ t7 ∧ t7 < ((List.length t0 : Nat) : Int) then
                      let x18 := (IntKind.wrap .i64 (Int.tdiv (List.getD t0 (Int.toNat t7) (0 : Int)) (256 : Int)))
                      let x19 := (IntKind.wrap .i64 (((List.length t1 : Nat) : Int) + (1 : Int)))
                      (F45 k x18 x19).bind fun r20 =>
                      if 0 ≤ (0 : Int) ∧ (0 : Int) ≤ r20.1.1 ∧ r20.1.1 ≤ ((List.length t1 : Nat) : Int) then
                        let x21 := (List.take (Int.toNat r20.1.1 - Int.toNat (0 : Int)) (List.drop (Int.toNat (0 : Int)) t1))
                        if List.length x21 ≤ 9223372036854775807 then
                          if ByteArray.size (t6 ++ x15) + ByteArray.size (bstr x21) ≤ 9223372036854775807 then
                            (F17_0 k n t0 t1 ((t6 ++ x15) ++ (bstr x21)) (IntKind.wrap .i64 (t7 + (1 : Int))) c8).bind some
                          else none
                        else none
                      else none
                    else none
                  else
                    (F17_0 k n t0 t1 (t6 ++ x15) (IntKind.wrap .i64 (t7 + (1 : Int))) c8).bind some
                else none
              else none
            else none
          else none
        else
          some ((t6, ()), ())
      else
        some ((t6, ()), ())
    else
      some ((t6, ()), ())
def fr17_0 (k : Nat) : Frag := ⟨⟨[], [(0, .val (.sl false 3 (.int .i64) none)), (1, .val (.sl false 5 (.int .u8) none)), (5, .at 8 []), (6, .val .str), (7, .val (.int .i64))], [(8, none, (.sl true 9 .str none))]⟩, [(.exit 0, ⟨[], [(6, .val .str)], []⟩)], fun v => F17_0 k k v.1.1 v.1.2.1 v.1.2.2.1 v.1.2.2.2.1 v.2.1⟩
def F17 (k : Nat) (a0 : (List Int)) (a1 : (List Int)) : Option ((ByteArray × Unit) × Unit) :=
  let x1 := (List.set (List.set (List.set (List.set (List.set (List.set (List.set (List.set (List.set (List.set (List.set (List.set (List.set (List.set (List.set (List.set (List.set (List.set (List.set (List.set (List.replicate 20 ByteArray.empty) 0 (⟨#[97]⟩ : ByteArray)) 1 (⟨#[90]⟩ : ByteArray)) 2 (⟨#[32]⟩ : ByteArray)) 3 (⟨#[195, 164]⟩ : ByteArray)) 4 (⟨#[226, 130, 172]⟩ : ByteArray)) 5 (⟨#[228, 184, 128]⟩ : ByteArray)) 6 (⟨#[240, 159, 152, 128]⟩ : ByteArray)) 7 (⟨#[239, 191, 189]⟩ : ByteArray)) 8 (⟨#[128]⟩ : ByteArray)) 9 (⟨#[255]⟩ : ByteArray)) 10 (⟨#[195]⟩ : ByteArray)) 11 (⟨#[192, 128]⟩ : ByteArray)) 12 (⟨#[226, 130]⟩ : ByteArray)) 13 (⟨#[224, 128]⟩ : ByteArray)) 14 (⟨#[237, 160, 128]⟩ : ByteArray)) 15 (⟨#[240, 159]⟩ : ByteArray)) 16 (⟨#[240, 159, 152]⟩ : ByteArray)) 17 (⟨#[244, 144]⟩ : ByteArray)) 18 (⟨#[245]⟩ : ByteArray)) 19 (⟨#[224, 160]⟩ : ByteArray))
  (F17_0 k k a0 a1 (⟨#[]⟩ : ByteArray) (0 : Int) x1).bind fun r22 =>
  let y23 := r22.1.1
  some ((y23, ()), ())
def sp17 (k : Nat) : Spec := ⟨[.val (.sl false 3 (.int .i64) none), .val (.sl false 5 (.int .u8) none)], [.val .str], fun x => F17 k x.1 x.2.1⟩
def lim17 : Lim := ⟨58, 2, false, false⟩
def cfg17 (k : Nat) : Nat → Option Spec := cfgL [(45, sp45 k)]
theorem cfg17_ok (k : Nat) : CfgOK Try.prog (cfg17 k) := cfgL_cons (v45 k) (cfgL_nil)
def pl17_0 (k : Nat) : Plan := .go
theorem pq17_0 (k : Nat) : PlanOK Try.prog lim17 (pl17_0 k) (codeAt (bodyOf Try.f17) [.r, .r, .r, .l, .r, .s, .b]) = PlanOK Try.prog lim17 .go (codeAt (bodyOf Try.f17) [.r, .r, .r, .l, .r, .s, .b]) := by kernel_rfl
theorem ps17_0 (k m : Nat) (v : (fr17_0 k).sh.V) : F17_0 k (m + 1) v.1.1 v.1.2.1 v.1.2.2.1 v.1.2.2.2.1 v.2.1 = (body Try.prog (stepper Try.prog (cfg17 k) lim17) (pl17_0 k) (codeAt (bodyOf Try.f17) [.r, .r, .r, .l, .r, .s, .b]) ((fr17_0 k).sh.st v) (loopK (fr17_0 k) fun v => F17_0 k m v.1.1 v.1.2.1 v.1.2.2.1 v.1.2.2.2.1 v.2.1)).eval := by kernel_rfl
theorem pe17_0 (k m : Nat) (v : (fr17_0 k).sh.V) : (body Try.prog (stepper Try.prog (cfg17 k) lim17) (pl17_0 k) (codeAt (bodyOf Try.f17) [.r, .r, .r, .l, .r, .s, .b]) ((fr17_0 k).sh.st v) (loopK (fr17_0 k) fun v => F17_0 k m v.1.1 v.1.2.1 v.1.2.2.1 v.1.2.2.2.1 v.2.1)).left = (body Try.prog (stepper Try.prog (cfg17 k) lim17) (pl17_0 k) (codeAt (bodyOf Try.f17) [.r, .r, .r, .l, .r, .s, .b]) ((fr17_0 k).sh.st v) (loopK (fr17_0 k) fun v => F17_0 k m v.1.1 v.1.2.1 v.1.2.2.1 v.1.2.2.2.1 v.2.1)).right := by kernel_rfl
theorem fr17_0_ok (k : Nat) : FragOK Try.prog lim17 (fr17_0 k) (codeAt (bodyOf Try.f17) [.r, .r, .r, .l, .r, .s]) :=
  frag_cast (by kernel_rfl) (loop_ok (cfg17_ok k) (Eq.mpr (pq17_0 k) (planOK_go _)) (fun m v => F17_0 k m v.1.1 v.1.2.1 v.1.2.2.1 v.1.2.2.2.1 v.2.1) k (fun _ => rfl) (fun _ => rfl) fun m v => ⟨ps17_0 k m v, pe17_0 k m v⟩)
def pl17 (k : Nat) : Plan := (.seq .go (.seq .go (.seq .go (.seq (.seq .go (.sub (.frag (fr17_0 k)))) .go))))
theorem pq17 (k : Nat) : PlanOK Try.prog lim17 (pl17 k) (codeAt (bodyOf Try.f17) []) = (PlanOK Try.prog lim17 .go (codeAt (bodyOf Try.f17) [.l]) ∧ (PlanOK Try.prog lim17 .go (codeAt (bodyOf Try.f17) [.r, .l]) ∧ (PlanOK Try.prog lim17 .go (codeAt (bodyOf Try.f17) [.r, .r, .l]) ∧ ((PlanOK Try.prog lim17 .go (codeAt (bodyOf Try.f17) [.r, .r, .r, .l, .l]) ∧ FragOK Try.prog lim17 (fr17_0 k) (codeAt (bodyOf Try.f17) [.r, .r, .r, .l, .r, .s])) ∧ PlanOK Try.prog lim17 .go (codeAt (bodyOf Try.f17) [.r, .r, .r, .r]))))) := by kernel_rfl
theorem ev17 (k : Nat) (x : AT (sp17 k).ps) : (sp17 k).impl x = (fnT Try.prog (cfg17 k) lim17 Try.f17 (bodyOf Try.f17) (pl17 k) (sp17 k) x).eval := by kernel_rfl
theorem eq17 (k : Nat) (x : AT (sp17 k).ps) : (fnT Try.prog (cfg17 k) lim17 Try.f17 (bodyOf Try.f17) (pl17 k) (sp17 k) x).left = (fnT Try.prog (cfg17 k) lim17 Try.f17 (bodyOf Try.f17) (pl17 k) (sp17 k) x).right := by kernel_rfl
theorem v17 (k : Nat) : Callable Try.prog 17 ∧ Valid Try.prog 17 (sp17 k) :=
  fn_ok (cfg17_ok k) (f := 17) (fn := Try.f17) (by kernel_rfl) (c := bodyOf Try.f17) (by kernel_rfl) (by kernel_rfl) rfl rfl (Nat.le_of_ble_eq_true rfl) (Nat.le_of_ble_eq_true rfl) (p := pl17 k) (Eq.mpr (pq17 k) ⟨(planOK_go _), ⟨(planOK_go _), ⟨(planOK_go _), ⟨⟨(planOK_go _), (fr17_0_ok k)⟩, (planOK_go _)⟩⟩⟩⟩) fun x => ⟨ev17 k x, eq17 k x⟩
/-! f58 hyphen/hyphenref12.lettered -/
def F58_0 (k : Nat) : Nat → (List Int) → Int → Int → Option (((Int × Unit) × Unit) ⊕ ((Int × Bool × Unit) × Unit))
  | 0, _, _, _ => none
  | n + 1, t0, t4, t5 =>
    let x5 := (decide (t5 < ((List.length t0 : Nat) : Int)))
    bif x5 then
      if 0 ≤ t5 ∧ t5 < ((List.length t0 : Nat) : Int) then
        let x6 := (decide ((List.getD t0 (Int.toNat t5) (0 : Int)) < (0 : Int)))
        bif x6 then
          some (.inr (((0 : Int), false, ()), ()))
        else
          if 0 ≤ t5 ∧ t5 < ((List.length t0 : Nat) : Int) then
            let x7 := (decide ((List.getD t0 (Int.toNat t5) (0 : Int)) > t4))
            bif x7 then
              some (.inr (((0 : Int), false, ()), ()))
            else
              if 0 ≤ t5 ∧ t5 < ((List.length t0 : Nat) : Int) then
                let x8 := ((List.getD t0 (Int.toNat t5) (0 : Int)) == t4)
                bif x8 then
                  (F58_0 k n t0 (IntKind.wrap .i64 (t4 + (1 : Int))) (IntKind.wrap .i64 (t5 + (1 : Int)))).bind some
                else
                  (F58_0 k n t0 t4 (IntKind.wrap .i64 (t5 + (1 : Int)))).bind some
              else none
          else none
      else none
    else
      some (.inl ((t4, ()), ()))
def fr58_0 (k : Nat) : Frag := ⟨⟨[], [(0, .val (.sl false 3 (.int .i64) none)), (4, .val (.int .i64)), (5, .val (.int .i64))], []⟩, [(.exit 0, ⟨[], [(4, .val (.int .i64))], []⟩), (.ret, ⟨[], [(2, .val (.int .i64)), (3, .val .bool)], []⟩)], fun v => F58_0 k k v.1.1 v.1.2.1 v.1.2.2.1⟩
def F58 (k : Nat) (a0 : (List Int)) : Option ((Int × Bool × Unit) × Unit) :=
  (F58_0 k k a0 (0 : Int) (0 : Int)).bind fun r9 =>
  match r9 with
  | .inl r10 =>
    let y11 := r10.1.1
    some ((y11, (decide (y11 > (0 : Int))), ()), ())
  | .inr r10 =>
    let y12 := r10.1.1
    let y13 := r10.1.2.1
    some ((y12, y13, ()), ())
def sp58 (k : Nat) : Spec := ⟨[.val (.sl false 3 (.int .i64) none)], [.val (.int .i64), .val .bool], fun x => F58 k x.1⟩
def lim58 : Lim := ⟨36, 1, false, false⟩
def cfg58 (k : Nat) : Nat → Option Spec := cfgL []
theorem cfg58_ok (k : Nat) : CfgOK Try.prog (cfg58 k) := cfgL_nil
def pl58_0 (k : Nat) : Plan := .go
theorem pq58_0 (k : Nat) : PlanOK Try.prog lim58 (pl58_0 k) (codeAt (bodyOf Try.f58) [.r, .r, .l, .r, .s, .b]) = PlanOK Try.prog lim58 .go (codeAt (bodyOf Try.f58) [.r, .r, .l, .r, .s, .b]) := by kernel_rfl
theorem ps58_0 (k m : Nat) (v : (fr58_0 k).sh.V) : F58_0 k (m + 1) v.1.1 v.1.2.1 v.1.2.2.1 = (body Try.prog (stepper Try.prog (cfg58 k) lim58) (pl58_0 k) (codeAt (bodyOf Try.f58) [.r, .r, .l, .r, .s, .b]) ((fr58_0 k).sh.st v) (loopK (fr58_0 k) fun v => F58_0 k m v.1.1 v.1.2.1 v.1.2.2.1)).eval := by kernel_rfl
theorem pe58_0 (k m : Nat) (v : (fr58_0 k).sh.V) : (body Try.prog (stepper Try.prog (cfg58 k) lim58) (pl58_0 k) (codeAt (bodyOf Try.f58) [.r, .r, .l, .r, .s, .b]) ((fr58_0 k).sh.st v) (loopK (fr58_0 k) fun v => F58_0 k m v.1.1 v.1.2.1 v.1.2.2.1)).left = (body Try.prog (stepper Try.prog (cfg58 k) lim58) (pl58_0 k) (codeAt (bodyOf Try.f58) [.r, .r, .l, .r, .s, .b]) ((fr58_0 k).sh.st v) (loopK (fr58_0 k) fun v => F58_0 k m v.1.1 v.1.2.1 v.1.2.2.1)).right := by kernel_rfl
theorem fr58_0_ok (k : Nat) : FragOK Try.prog lim58 (fr58_0 k) (codeAt (bodyOf Try.f58) [.r, .r, .l, .r, .s]) :=
  frag_cast (by kernel_rfl) (loop_ok (cfg58_ok k) (Eq.mpr (pq58_0 k) (planOK_go _)) (fun m v => F58_0 k m v.1.1 v.1.2.1 v.1.2.2.1) k (fun _ => rfl) (fun _ => rfl) fun m v => ⟨ps58_0 k m v, pe58_0 k m v⟩)
def pl58 (k : Nat) : Plan := (.seq .go (.seq .go (.seq (.seq .go (.sub (.frag (fr58_0 k)))) .go)))
theorem pq58 (k : Nat) : PlanOK Try.prog lim58 (pl58 k) (codeAt (bodyOf Try.f58) []) = (PlanOK Try.prog lim58 .go (codeAt (bodyOf Try.f58) [.l]) ∧ (PlanOK Try.prog lim58 .go (codeAt (bodyOf Try.f58) [.r, .l]) ∧ ((PlanOK Try.prog lim58 .go (codeAt (bodyOf Try.f58) [.r, .r, .l, .l]) ∧ FragOK Try.prog lim58 (fr58_0 k) (codeAt (bodyOf Try.f58) [.r, .r, .l, .r, .s])) ∧ PlanOK Try.prog lim58 .go (codeAt (bodyOf Try.f58) [.r, .r, .r])))) := by kernel_rfl
theorem ev58 (k : Nat) (x : AT (sp58 k).ps) : (sp58 k).impl x = (fnT Try.prog (cfg58 k) lim58 Try.f58 (bodyOf Try.f58) (pl58 k) (sp58 k) x).eval := by kernel_rfl
theorem eq58 (k : Nat) (x : AT (sp58 k).ps) : (fnT Try.prog (cfg58 k) lim58 Try.f58 (bodyOf Try.f58) (pl58 k) (sp58 k) x).left = (fnT Try.prog (cfg58 k) lim58 Try.f58 (bodyOf Try.f58) (pl58 k) (sp58 k) x).right := by kernel_rfl
theorem v58 (k : Nat) : Callable Try.prog 58 ∧ Valid Try.prog 58 (sp58 k) :=
  fn_ok (cfg58_ok k) (f := 58) (fn := Try.f58) (by kernel_rfl) (c := bodyOf Try.f58) (by kernel_rfl) (by kernel_rfl) rfl rfl (Nat.le_of_ble_eq_true rfl) (Nat.le_of_ble_eq_true rfl) (p := pl58 k) (Eq.mpr (pq58 k) ⟨(planOK_go _), ⟨(planOK_go _), ⟨⟨(planOK_go _), (fr58_0_ok k)⟩, (planOK_go _)⟩⟩⟩) fun x => ⟨ev58 k x, eq58 k x⟩
/-! f59 hyphen/hyphenref12.steps -/
def F59_0 (k : Nat) : Nat → (List (List Int)) → Int → Int → Int → Option ((((List (List Int)) × Int × Int × Unit) × Unit) ⊕ ((Bool × Unit) × Unit))
  | 0, _, _, _, _ => none
  | n + 1, t0, t1, t5, t6 =>
    bif (decide (t6 < t1)) then
      if 0 ≤ t5 ∧ t5 < ((List.length t0 : Nat) : Int) then
        let x9 := (List.getD t0 (Int.toNat t5) ([] : (List Int)))
        if 0 ≤ t6 ∧ t6 < ((List.length x9 : Nat) : Int) then
          let x10 := (decide ((List.getD x9 (Int.toNat t6) (0 : Int)) < (0 : Int)))
          bif x10 then
            some (.inr ((false, ()), ()))
          else
            if 0 ≤ t5 ∧ t5 < ((List.length t0 : Nat) : Int) then
              let x11 := (List.getD t0 (Int.toNat t5) ([] : (List Int)))
              if 0 ≤ t6 ∧ t6 < ((List.length x11 : Nat) : Int) then
                let x12 := (decide ((List.getD x11 (Int.toNat t6) (0 : Int)) ≥ ((List.length t0 : Nat) : Int)))
                bif x12 then
                  some (.inr ((false, ()), ()))
                else
                  (F59_0 k n t0 t1 t5 (IntKind.wrap .i64 (t6 + (1 : Int)))).bind some
              else none
            else none
        else none
      else none
    else
      some (.inl ((t0, t1, t5, ()), ()))
def fr59_0 (k : Nat) : Frag := ⟨⟨[], [(0, .val (.sl false 22 (.sl false 3 (.int .i64) none) none)), (1, .val (.int .i64)), (5, .val (.int .i64)), (6, .val (.int .i64))], []⟩, [(.exit 2, ⟨[], [(0, .val (.sl false 22 (.sl false 3 (.int .i64) none) none)), (1, .val (.int .i64)), (5, .val (.int .i64))], []⟩), (.ret, ⟨[], [(4, .val .bool)], []⟩)], fun v => F59_0 k k v.1.1 v.1.2.1 v.1.2.2.1 v.1.2.2.2.1⟩
def F59_1 (k : Nat) : Nat → (List (List Int)) → Int → Int → Option ((Unit × Unit) ⊕ ((Bool × Unit) × Unit))
  | 0, _, _, _ => none
  | n + 1, t0, t1, t5 =>
    let x19 := (decide (t5 < ((List.length t0 : Nat) : Int)))
    bif x19 then
      if 0 ≤ t5 ∧ t5 < ((List.length t0 : Nat) : Int) then
        let x20 := (List.getD t0 (Int.toNat t5) ([] : (List Int)))
        bif (((List.length x20 : Nat) : Int) != t1) then
          some (.inr ((false, ()), ()))
        else
          (F59_0 k k t0 t1 t5 (0 : Int)).bind fun r21 =>
          match r21 with
          | .inl r22 =>
            let y23 := r22.1.1
            let y24 := r22.1.2.1
            let y25 := r22.1.2.2.1
            (F59_1 k n y23 y24 (IntKind.wrap .i64 (y25 + (1 : Int)))).bind some
          | .inr r22 =>
            let y26 := r22.1.1
            some (.inr ((y26, ()), ()))
      else none
    else
      some (.inl ((), ()))
def fr59_1 (k : Nat) : Frag := ⟨⟨[], [(0, .val (.sl false 22 (.sl false 3 (.int .i64) none) none)), (1, .val (.int .i64)), (5, .val (.int .i64))], []⟩, [(.exit 0, ⟨[], [], []⟩), (.ret, ⟨[], [(4, .val .bool)], []⟩)], fun v => F59_1 k k v.1.1 v.1.2.1 v.1.2.2.1⟩
def F59 (k : Nat) (a0 : (List (List Int))) (a1 : Int) : Option ((Bool × Unit) × Unit) :=
  let x1 := (decide (((List.length a0 : Nat) : Int) < (1 : Int)))
  bif x1 then
    some ((false, ()), ())
  else
    let x2 := (decide (((List.length a0 : Nat) : Int) > (100000 : Int)))
    bif x2 then
      some ((false, ()), ())
    else
      (F59_1 k k a0 a1 (0 : Int)).bind fun r27 =>
      match r27 with
      | .inl r28 =>
        some ((true, ()), ())
      | .inr r28 =>
        let y29 := r28.1.1
        some ((y29, ()), ())
def sp59 (k : Nat) : Spec := ⟨[.val (.sl false 22 (.sl false 3 (.int .i64) none) none), .val (.int .i64)], [.val .bool], fun x => F59 k x.1 x.2.1⟩
def lim59 : Lim := ⟨53, 2, false, false⟩
def cfg59 (k : Nat) : Nat → Option Spec := cfgL []
theorem cfg59_ok (k : Nat) : CfgOK Try.prog (cfg59 k) := cfgL_nil
def pl59_0 (k : Nat) : Plan := .go
theorem pq59_0 (k : Nat) : PlanOK Try.prog lim59 (pl59_0 k) (codeAt (bodyOf Try.f59) [.r, .r, .l, .r, .s, .b, .r, .l, .s, .r, .r, .s, .b]) = PlanOK Try.prog lim59 .go (codeAt (bodyOf Try.f59) [.r, .r, .l, .r, .s, .b, .r, .l, .s, .r, .r, .s, .b]) := by kernel_rfl
theorem ps59_0 (k m : Nat) (v : (fr59_0 k).sh.V) : F59_0 k (m + 1) v.1.1 v.1.2.1 v.1.2.2.1 v.1.2.2.2.1 = (body Try.prog (stepper Try.prog (cfg59 k) lim59) (pl59_0 k) (codeAt (bodyOf Try.f59) [.r, .r, .l, .r, .s, .b, .r, .l, .s, .r, .r, .s, .b]) ((fr59_0 k).sh.st v) (loopK (fr59_0 k) fun v => F59_0 k m v.1.1 v.1.2.1 v.1.2.2.1 v.1.2.2.2.1)).eval := by kernel_rfl
theorem pe59_0 (k m : Nat) (v : (fr59_0 k).sh.V) : (body Try.prog (stepper Try.prog (cfg59 k) lim59) (pl59_0 k) (codeAt (bodyOf Try.f59) [.r, .r, .l, .r, .s, .b, .r, .l, .s, .r, .r, .s, .b]) ((fr59_0 k).sh.st v) (loopK (fr59_0 k) fun v => F59_0 k m v.1.1 v.1.2.1 v.1.2.2.1 v.1.2.2.2.1)).left = (body Try.prog (stepper Try.prog (cfg59 k) lim59) (pl59_0 k) (codeAt (bodyOf Try.f59) [.r, .r, .l, .r, .s, .b, .r, .l, .s, .r, .r, .s, .b]) ((fr59_0 k).sh.st v) (loopK (fr59_0 k) fun v => F59_0 k m v.1.1 v.1.2.1 v.1.2.2.1 v.1.2.2.2.1)).right := by kernel_rfl
theorem fr59_0_ok (k : Nat) : FragOK Try.prog lim59 (fr59_0 k) (codeAt (bodyOf Try.f59) [.r, .r, .l, .r, .s, .b, .r, .l, .s, .r, .r, .s]) :=
  frag_cast (by kernel_rfl) (loop_ok (cfg59_ok k) (Eq.mpr (pq59_0 k) (planOK_go _)) (fun m v => F59_0 k m v.1.1 v.1.2.1 v.1.2.2.1 v.1.2.2.2.1) k (fun _ => rfl) (fun _ => rfl) fun m v => ⟨ps59_0 k m v, pe59_0 k m v⟩)
def pl59_1 (k : Nat) : Plan := (.seq .go (.seq (.sub (.seq .go (.seq .go (.sub (.frag (fr59_0 k)))))) .go))
theorem pq59_1 (k : Nat) : PlanOK Try.prog lim59 (pl59_1 k) (codeAt (bodyOf Try.f59) [.r, .r, .l, .r, .s, .b]) = (PlanOK Try.prog lim59 .go (codeAt (bodyOf Try.f59) [.r, .r, .l, .r, .s, .b, .l]) ∧ ((PlanOK Try.prog lim59 .go (codeAt (bodyOf Try.f59) [.r, .r, .l, .r, .s, .b, .r, .l, .s, .l]) ∧ (PlanOK Try.prog lim59 .go (codeAt (bodyOf Try.f59) [.r, .r, .l, .r, .s, .b, .r, .l, .s, .r, .l]) ∧ FragOK Try.prog lim59 (fr59_0 k) (codeAt (bodyOf Try.f59) [.r, .r, .l, .r, .s, .b, .r, .l, .s, .r, .r, .s]))) ∧ PlanOK Try.prog lim59 .go (codeAt (bodyOf Try.f59) [.r, .r, .l, .r, .s, .b, .r, .r]))) := by kernel_rfl
theorem ps59_1 (k m : Nat) (v : (fr59_1 k).sh.V) : F59_1 k (m + 1) v.1.1 v.1.2.1 v.1.2.2.1 = (body Try.prog (stepper Try.prog (cfg59 k) lim59) (pl59_1 k) (codeAt (bodyOf Try.f59) [.r, .r, .l, .r, .s, .b]) ((fr59_1 k).sh.st v) (loopK (fr59_1 k) fun v => F59_1 k m v.1.1 v.1.2.1 v.1.2.2.1)).eval := by kernel_rfl
theorem pe59_1 (k m : Nat) (v : (fr59_1 k).sh.V) : (body Try.prog (stepper Try.prog (cfg59 k) lim59) (pl59_1 k) (codeAt (bodyOf Try.f59) [.r, .r, .l, .r, .s, .b]) ((fr59_1 k).sh.st v) (loopK (fr59_1 k) fun v => F59_1 k m v.1.1 v.1.2.1 v.1.2.2.1)).left = (body Try.prog (stepper Try.prog (cfg59 k) lim59) (pl59_1 k) (codeAt (bodyOf Try.f59) [.r, .r, .l, .r, .s, .b]) ((fr59_1 k).sh.st v) (loopK (fr59_1 k) fun v => F59_1 k m v.1.1 v.1.2.1 v.1.2.2.1)).right := by kernel_rfl
theorem fr59_1_ok (k : Nat) : FragOK Try.prog lim59 (fr59_1 k) (codeAt (bodyOf Try.f59) [.r, .r, .l, .r, .s]) :=
  frag_cast (by kernel_rfl) (loop_ok (cfg59_ok k) (Eq.mpr (pq59_1 k) ⟨(planOK_go _), ⟨⟨(planOK_go _), ⟨(planOK_go _), (fr59_0_ok k)⟩⟩, (planOK_go _)⟩⟩) (fun m v => F59_1 k m v.1.1 v.1.2.1 v.1.2.2.1) k (fun _ => rfl) (fun _ => rfl) fun m v => ⟨ps59_1 k m v, pe59_1 k m v⟩)
def pl59 (k : Nat) : Plan := (.seq .go (.seq .go (.seq (.seq .go (.sub (.frag (fr59_1 k)))) .go)))
theorem pq59 (k : Nat) : PlanOK Try.prog lim59 (pl59 k) (codeAt (bodyOf Try.f59) []) = (PlanOK Try.prog lim59 .go (codeAt (bodyOf Try.f59) [.l]) ∧ (PlanOK Try.prog lim59 .go (codeAt (bodyOf Try.f59) [.r, .l]) ∧ ((PlanOK Try.prog lim59 .go (codeAt (bodyOf Try.f59) [.r, .r, .l, .l]) ∧ FragOK Try.prog lim59 (fr59_1 k) (codeAt (bodyOf Try.f59) [.r, .r, .l, .r, .s])) ∧ PlanOK Try.prog lim59 .go (codeAt (bodyOf Try.f59) [.r, .r, .r])))) := by kernel_rfl
theorem ev59 (k : Nat) (x : AT (sp59 k).ps) : (sp59 k).impl x = (fnT Try.prog (cfg59 k) lim59 Try.f59 (bodyOf Try.f59) (pl59 k) (sp59 k) x).eval := by kernel_rfl
theorem eq59 (k : Nat) (x : AT (sp59 k).ps) : (fnT Try.prog (cfg59 k) lim59 Try.f59 (bodyOf Try.f59) (pl59 k) (sp59 k) x).left = (fnT Try.prog (cfg59 k) lim59 Try.f59 (bodyOf Try.f59) (pl59 k) (sp59 k) x).right := by kernel_rfl
theorem v59 (k : Nat) : Callable Try.prog 59 ∧ Valid Try.prog 59 (sp59 k) :=
  fn_ok (cfg59_ok k) (f := 59) (fn := Try.f59) (by kernel_rfl) (c := bodyOf Try.f59) (by kernel_rfl) (by kernel_rfl) rfl rfl (Nat.le_of_ble_eq_true rfl) (Nat.le_of_ble_eq_true rfl) (p := pl59 k) (Eq.mpr (pq59 k) ⟨(planOK_go _), ⟨(planOK_go _), ⟨⟨(planOK_go _), (fr59_1_ok k)⟩, (planOK_go _)⟩⟩⟩) fun x => ⟨ev59 k x, eq59 k x⟩
end Go.Proofs.YtdgdeckaoajceaaE
