/- Functions of the program, as Lean functions, with their contracts; printed by gen.py. Conditions: none. -/
import Derived.Test.YtmjlilmajdknkaaG0
set_option linter.unusedVariables false
namespace Go.Proofs.YtmjlilmajdknkaaE
open Kd
set_option maxRecDepth 20000
/-! f53 (*hyphen/hyphenref12.reader).vecs -/
def F53_0 (k : Nat) : Nat → Int → Int → Int → Bool → Bool → ((List Int) × (Bool × Unit)) → (List Int) → (List (List Int)) → Option (((Int × Int × Bool × Bool × Unit) × (((List Int) × (Bool × Unit)) × (List Int) × (List (List Int)) × Unit)))
  | 0, _, _, _, _, _, _, _, _ => none
  | n + 1, t4, t5, t7, t17, t18, c0, c6, c2000003 =>
    bif (decide (t7 < (3 : Int))) then
      (F49 k c0).bind fun r2 =>
      if 0 ≤ t7 ∧ t7 < ((3 : Nat) : Int) then
        (F53_0 k n t4 t5 (IntKind.wrap .i64 (t7 + (1 : Int))) t17 t18 r2.2.1 (List.set c6 (Int.toNat t7) r2.1.1) c2000003).bind some
      else none
    else
      some ((t4, t5, t17, t18, ()), (c0, c6, c2000003, ()))
def fr53_0 (k : Nat) : Frag := ⟨⟨[(3, (.sl true 45 (.arr 3 (.int .i64)) none))], [(0, .ptr 0 []), (3, .at 2000003 []), (4, .val (.int .i64)), (5, .val (.int .i64)), (6, .ptr 6 []), (7, .val (.int .i64)), (14, .ptr 0 []), (15, .ptr 0 []), (16, .ptr 0 [.snd, .fst]), (17, .val .bool), (18, .val .bool)], [(0, some 85, (.pair (.sl false 5 (.int .u8) none) (.pair .bool .unit))), (6, some 45, (.arr 3 (.int .i64))), (2000003, none, (.sl true 45 (.arr 3 (.int .i64)) none))]⟩, [(.exit 2, ⟨[], [(0, .ptr 0 []), (3, .at 2000003 []), (4, .val (.int .i64)), (5, .val (.int .i64)), (6, .ptr 6 []), (14, .ptr 0 []), (15, .ptr 0 []), (16, .ptr 0 [.snd, .fst]), (17, .val .bool), (18, .val .bool)], [(0, some 85, (.pair (.sl false 5 (.int .u8) none) (.pair .bool .unit))), (6, some 45, (.arr 3 (.int .i64))), (2000003, none, (.sl true 45 (.arr 3 (.int .i64)) none))]⟩)], fun v => F53_0 k k v.1.1 v.1.2.1 v.1.2.2.1 v.1.2.2.2.1 v.1.2.2.2.2.1 v.2.1 v.2.2.1 v.2.2.2.1⟩
def F53_1 (k : Nat) : Nat → Int → Int → ((List Int) × (Bool × Unit)) → (List (List Int)) → Option ((Unit × (((List Int) × (Bool × Unit)) × (List (List Int)) × Unit)))
  | 0, _, _, _, _ => none
  | n + 1, t4, t5, c0, c2000003 =>
    bif (decide (t5 < t4)) then
      bif (!c0.2.1) then
        (F53_0 k k t4 t5 (0 : Int) c0.2.1 (!c0.2.1) c0 (List.replicate 3 (0 : Int)) c2000003).bind fun r3 =>
        let y4 := r3.1.1
        let y5 := r3.1.2.1
        let y8 := r3.2.1
        let y9 := r3.2.2.1
        let y10 := r3.2.2.2.1
        let x11 := (List.set (List.replicate 1 (List.replicate 3 (0 : Int))) 0 y9)
        if (List.length y10 + List.length x11) * (24 * 2) ≤ 281474976710656 ∧ List.length y10 + List.length x11 ≤ 9223372036854775807 then
          (F53_1 k n y4 (IntKind.wrap .i64 (y5 + (1 : Int))) y8 (y10 ++ x11)).bind some
        else none
      else
        some ((), (c0, c2000003, ()))
    else
      some ((), (c0, c2000003, ()))
def fr53_1 (k : Nat) : Frag := ⟨⟨[(3, (.sl true 45 (.arr 3 (.int .i64)) none))], [(0, .ptr 0 []), (3, .at 2000003 []), (4, .val (.int .i64)), (5, .val (.int .i64))], [(0, some 85, (.pair (.sl false 5 (.int .u8) none) (.pair .bool .unit))), (2000003, none, (.sl true 45 (.arr 3 (.int .i64)) none))]⟩, [(.exit 0, ⟨[(3, (.sl true 45 (.arr 3 (.int .i64)) none))], [(3, .at 2000003 [])], [(0, some 85, (.pair (.sl false 5 (.int .u8) none) (.pair .bool .unit))), (2000003, none, (.sl true 45 (.arr 3 (.int .i64)) none))]⟩)], fun v => F53_1 k k v.1.1 v.1.2.1 v.2.1 v.2.2.1⟩
def F53 (k : Nat) (a0 : ((List Int) × (Bool × Unit))) : Option (((List (List Int)) × Unit) × (((List Int) × (Bool × Unit)) × Unit)) :=
  (F52 k a0).bind fun r1 =>
  (F53_1 k k r1.1.1 (0 : Int) r1.2.1 []).bind fun r12 =>
  let y13 := r12.2.1
  let y14 := r12.2.2.1
  some ((y14, ()), (y13, ()))
def sp53 (k : Nat) : Spec := ⟨[.ptr 85 (.pair (.sl false 5 (.int .u8) none) (.pair .bool .unit)) []], [.own (.sl true 45 (.arr 3 (.int .i64)) none)], fun x => F53 k x.1⟩
def lim53 : Lim := ⟨35, 1, false, false⟩
def cfg53 (k : Nat) : Nat → Option Spec := cfgL [(49, sp49 k), (52, sp52 k)]
theorem cfg53_ok (k : Nat) : CfgOK Try.prog (cfg53 k) := cfgL_cons (v49 k) (cfgL_cons (v52 k) (cfgL_nil))
def pl53_0 (k : Nat) : Plan := .go
theorem pq53_0 (k : Nat) : PlanOK Try.prog lim53 (pl53_0 k) (codeAt (bodyOf Try.f53) [.r, .r, .r, .l, .r, .s, .b, .r, .l, .s, .r, .l, .r, .s, .b]) = PlanOK Try.prog lim53 .go (codeAt (bodyOf Try.f53) [.r, .r, .r, .l, .r, .s, .b, .r, .l, .s, .r, .l, .r, .s, .b]) := by kernel_rfl
theorem ps53_0 (k m : Nat) (v : (fr53_0 k).sh.V) : F53_0 k (m + 1) v.1.1 v.1.2.1 v.1.2.2.1 v.1.2.2.2.1 v.1.2.2.2.2.1 v.2.1 v.2.2.1 v.2.2.2.1 = (body Try.prog (stepper Try.prog (cfg53 k) lim53) (pl53_0 k) (codeAt (bodyOf Try.f53) [.r, .r, .r, .l, .r, .s, .b, .r, .l, .s, .r, .l, .r, .s, .b]) ((fr53_0 k).sh.st v) (loopK (fr53_0 k) fun v => F53_0 k m v.1.1 v.1.2.1 v.1.2.2.1 v.1.2.2.2.1 v.1.2.2.2.2.1 v.2.1 v.2.2.1 v.2.2.2.1)).eval := by kernel_rfl
theorem pe53_0 (k m : Nat) (v : (fr53_0 k).sh.V) : (body Try.prog (stepper Try.prog (cfg53 k) lim53) (pl53_0 k) (codeAt (bodyOf Try.f53) [.r, .r, .r, .l, .r, .s, .b, .r, .l, .s, .r, .l, .r, .s, .b]) ((fr53_0 k).sh.st v) (loopK (fr53_0 k) fun v => F53_0 k m v.1.1 v.1.2.1 v.1.2.2.1 v.1.2.2.2.1 v.1.2.2.2.2.1 v.2.1 v.2.2.1 v.2.2.2.1)).left = (body Try.prog (stepper Try.prog (cfg53 k) lim53) (pl53_0 k) (codeAt (bodyOf Try.f53) [.r, .r, .r, .l, .r, .s, .b, .r, .l, .s, .r, .l, .r, .s, .b]) ((fr53_0 k).sh.st v) (loopK (fr53_0 k) fun v => F53_0 k m v.1.1 v.1.2.1 v.1.2.2.1 v.1.2.2.2.1 v.1.2.2.2.2.1 v.2.1 v.2.2.1 v.2.2.2.1)).right := by kernel_rfl
theorem fr53_0_ok (k : Nat) : FragOK Try.prog lim53 (fr53_0 k) (codeAt (bodyOf Try.f53) [.r, .r, .r, .l, .r, .s, .b, .r, .l, .s, .r, .l, .r, .s]) :=
  frag_cast (by kernel_rfl) (loop_ok (cfg53_ok k) (Eq.mpr (pq53_0 k) (planOK_go _)) (fun m v => F53_0 k m v.1.1 v.1.2.1 v.1.2.2.1 v.1.2.2.2.1 v.1.2.2.2.2.1 v.2.1 v.2.2.1 v.2.2.2.1) k (fun _ => rfl) (fun _ => rfl) fun m v => ⟨ps53_0 k m v, pe53_0 k m v⟩)
def pl53_1 (k : Nat) : Plan := (.seq .go (.seq (.sub (.seq .go (.seq (.seq .go (.sub (.frag (fr53_0 k)))) .go))) .go))
theorem pq53_1 (k : Nat) : PlanOK Try.prog lim53 (pl53_1 k) (codeAt (bodyOf Try.f53) [.r, .r, .r, .l, .r, .s, .b]) = (PlanOK Try.prog lim53 .go (codeAt (bodyOf Try.f53) [.r, .r, .r, .l, .r, .s, .b, .l]) ∧ ((PlanOK Try.prog lim53 .go (codeAt (bodyOf Try.f53) [.r, .r, .r, .l, .r, .s, .b, .r, .l, .s, .l]) ∧ ((PlanOK Try.prog lim53 .go (codeAt (bodyOf Try.f53) [.r, .r, .r, .l, .r, .s, .b, .r, .l, .s, .r, .l, .l]) ∧ FragOK Try.prog lim53 (fr53_0 k) (codeAt (bodyOf Try.f53) [.r, .r, .r, .l, .r, .s, .b, .r, .l, .s, .r, .l, .r, .s])) ∧ PlanOK Try.prog lim53 .go (codeAt (bodyOf Try.f53) [.r, .r, .r, .l, .r, .s, .b, .r, .l, .s, .r, .r]))) ∧ PlanOK Try.prog lim53 .go (codeAt (bodyOf Try.f53) [.r, .r, .r, .l, .r, .s, .b, .r, .r]))) := by kernel_rfl
theorem ps53_1 (k m : Nat) (v : (fr53_1 k).sh.V) : F53_1 k (m + 1) v.1.1 v.1.2.1 v.2.1 v.2.2.1 = (body Try.prog (stepper Try.prog (cfg53 k) lim53) (pl53_1 k) (codeAt (bodyOf Try.f53) [.r, .r, .r, .l, .r, .s, .b]) ((fr53_1 k).sh.st v) (loopK (fr53_1 k) fun v => F53_1 k m v.1.1 v.1.2.1 v.2.1 v.2.2.1)).eval := by kernel_rfl
theorem pe53_1 (k m : Nat) (v : (fr53_1 k).sh.V) : (body Try.prog (stepper Try.prog (cfg53 k) lim53) (pl53_1 k) (codeAt (bodyOf Try.f53) [.r, .r, .r, .l, .r, .s, .b]) ((fr53_1 k).sh.st v) (loopK (fr53_1 k) fun v => F53_1 k m v.1.1 v.1.2.1 v.2.1 v.2.2.1)).left = (body Try.prog (stepper Try.prog (cfg53 k) lim53) (pl53_1 k) (codeAt (bodyOf Try.f53) [.r, .r, .r, .l, .r, .s, .b]) ((fr53_1 k).sh.st v) (loopK (fr53_1 k) fun v => F53_1 k m v.1.1 v.1.2.1 v.2.1 v.2.2.1)).right := by kernel_rfl
theorem fr53_1_ok (k : Nat) : FragOK Try.prog lim53 (fr53_1 k) (codeAt (bodyOf Try.f53) [.r, .r, .r, .l, .r, .s]) :=
  frag_cast (by kernel_rfl) (loop_ok (cfg53_ok k) (Eq.mpr (pq53_1 k) ⟨(planOK_go _), ⟨⟨(planOK_go _), ⟨⟨(planOK_go _), (fr53_0_ok k)⟩, (planOK_go _)⟩⟩, (planOK_go _)⟩⟩) (fun m v => F53_1 k m v.1.1 v.1.2.1 v.2.1 v.2.2.1) k (fun _ => rfl) (fun _ => rfl) fun m v => ⟨ps53_1 k m v, pe53_1 k m v⟩)
def pl53 (k : Nat) : Plan := (.seq .go (.seq .go (.seq .go (.seq (.seq .go (.sub (.frag (fr53_1 k)))) .go))))
theorem pq53 (k : Nat) : PlanOK Try.prog lim53 (pl53 k) (codeAt (bodyOf Try.f53) []) = (PlanOK Try.prog lim53 .go (codeAt (bodyOf Try.f53) [.l]) ∧ (PlanOK Try.prog lim53 .go (codeAt (bodyOf Try.f53) [.r, .l]) ∧ (PlanOK Try.prog lim53 .go (codeAt (bodyOf Try.f53) [.r, .r, .l]) ∧ ((PlanOK Try.prog lim53 .go (codeAt (bodyOf Try.f53) [.r, .r, .r, .l, .l]) ∧ FragOK Try.prog lim53 (fr53_1 k) (codeAt (bodyOf Try.f53) [.r, .r, .r, .l, .r, .s])) ∧ PlanOK Try.prog lim53 .go (codeAt (bodyOf Try.f53) [.r, .r, .r, .r]))))) := by kernel_rfl
theorem ev53 (k : Nat) (x : AT (sp53 k).ps) : (sp53 k).impl x = (fnT Try.prog (cfg53 k) lim53 Try.f53 (bodyOf Try.f53) (pl53 k) (sp53 k) x).eval := by kernel_rfl
theorem eq53 (k : Nat) (x : AT (sp53 k).ps) : (fnT Try.prog (cfg53 k) lim53 Try.f53 (bodyOf Try.f53) (pl53 k) (sp53 k) x).left = (fnT Try.prog (cfg53 k) lim53 Try.f53 (bodyOf Try.f53) (pl53 k) (sp53 k) x).right := by kernel_rfl
theorem v53 (k : Nat) : Callable Try.prog 53 ∧ Valid Try.prog 53 (sp53 k) :=
  fn_ok (cfg53_ok k) (f := 53) (fn := Try.f53) (by kernel_rfl) (c := bodyOf Try.f53) (by kernel_rfl) (by kernel_rfl) rfl rfl (Nat.le_of_ble_eq_true rfl) (Nat.le_of_ble_eq_true rfl) (p := pl53 k) (Eq.mpr (pq53 k) ⟨(planOK_go _), ⟨(planOK_go _), ⟨(planOK_go _), ⟨⟨(planOK_go _), (fr53_1_ok k)⟩, (planOK_go _)⟩⟩⟩⟩) fun x => ⟨ev53 k x, eq53 k x⟩
/-! f54 hyphen/hyphenref12.lettered -/
def F54_0 (k : Nat) : Nat → (List Int) → Int → Int → Option (((Int × Unit) × Unit) ⊕ ((Int × Bool × Unit) × Unit))
  | 0, _, _, _ => none
  | n + 1, t0, t4, t5 =>
    let x5 := (decide (t5 < ((List.length t0 : Nat) : Int)))
    bif x5 then
      if 0 ≤ t5 ∧ t5 < ((List.length t0 : Nat) : Int) then
        let x6 := (decide ((List.getD t0 (Int.toNat t5) (0 : Int)) < (0 : Int)))
        bif x6 then
          some (.inr (((0 : Int), false, ()), ()))
        else
          if 0 ≤ t5 ∧ t5 < ((List.length t0 : Nat) : Int) then
            let x7 := (decide ((List.getD t0 (Int.toNat t5) (0 : Int)) > t4))
            bif x7 then
              some (.inr (((0 : Int), false, ()), ()))
            else
              if 0 ≤ t5 ∧ t5 < ((List.length t0 : Nat) : Int) then
                let x8 := ((List.getD t0 (Int.toNat t5) (0 : Int)) == t4)
                bif x8 then
                  (F54_0 k n t0 (IntKind.wrap .i64 (t4 + (1 : Int))) (IntKind.wrap .i64 (t5 + (1 : Int)))).bind some
                else
                  (F54_0 k n t0 t4 (IntKind.wrap .i64 (t5 + (1 : Int)))).bind some
              else none
          else none
      else none
    else
      some (.inl ((t4, ()), ()))
def fr54_0 (k : Nat) : Frag := ⟨⟨[], [(0, .val (.sl false 3 (.int .i64) none)), (4, .val (.int .i64)), (5, .val (.int .i64))], []⟩, [(.exit 0, ⟨[], [(4, .val (.int .i64))], []⟩), (.ret, ⟨[], [(2, .val (.int .i64)), (3, .val .bool)], []⟩)], fun v => F54_0 k k v.1.1 v.1.2.1 v.1.2.2.1⟩
def F54 (k : Nat) (a0 : (List Int)) : Option ((Int × Bool × Unit) × Unit) :=
  (F54_0 k k a0 (0 : Int) (0 : Int)).bind fun r9 =>
  match r9 with
  | .inl r10 =>
    let y11 := r10.1.1
    some ((y11, (decide (y11 > (0 : Int))), ()), ())
  | .inr r10 =>
    let y12 := r10.1.1
    let y13 := r10.1.2.1
    some ((y12, y13, ()), ())
def sp54 (k : Nat) : Spec := ⟨[.val (.sl false 3 (.int .i64) none)], [.val (.int .i64), .val .bool], fun x => F54 k x.1⟩
def lim54 : Lim := ⟨36, 1, false, false⟩
def cfg54 (k : Nat) : Nat → Option Spec := cfgL []
theorem cfg54_ok (k : Nat) : CfgOK Try.prog (cfg54 k) := cfgL_nil
def pl54_0 (k : Nat) : Plan := .go
theorem pq54_0 (k : Nat) : PlanOK Try.prog lim54 (pl54_0 k) (codeAt (bodyOf Try.f54) [.r, .r, .l, .r, .s, .b]) = PlanOK Try.prog lim54 .go (codeAt (bodyOf Try.f54) [.r, .r, .l, .r, .s, .b]) := by kernel_rfl
theorem ps54_0 (k m : Nat) (v : (fr54_0 k).sh.V) : F54_0 k (m + 1) v.1.1 v.1.2.1 v.1.2.2.1 = (body Try.prog (stepper Try.prog (cfg54 k) lim54) (pl54_0 k) (codeAt (bodyOf Try.f54) [.r, .r, .l, .r, .s, .b]) ((fr54_0 k).sh.st v) (loopK (fr54_0 k) fun v => F54_0 k m v.1.1 v.1.2.1 v.1.2.2.1)).eval := by kernel_rfl
theorem pe54_0 (k m : Nat) (v : (fr54_0 k).sh.V) : (body Try.prog (stepper Try.prog (cfg54 k) lim54) (pl54_0 k) (codeAt (bodyOf Try.f54) [.r, .r, .l, .r, .s, .b]) ((fr54_0 k).sh.st v) (loopK (fr54_0 k) fun v => F54_0 k m v.1.1 v.1.2.1 v.1.2.2.1)).left = (body Try.prog (stepper Try.prog (cfg54 k) lim54) (pl54_0 k) (codeAt (bodyOf Try.f54) [.r, .r, .l, .r, .s, .b]) ((fr54_0 k).sh.st v) (loopK (fr54_0 k) fun v => F54_0 k m v.1.1 v.1.2.1 v.1.2.2.1)).right := by kernel_rfl
theorem fr54_0_ok (k : Nat) : FragOK Try.prog lim54 (fr54_0 k) (codeAt (bodyOf Try.f54) [.r, .r, .l, .r, .s]) :=
  frag_cast (by kernel_rfl) (loop_ok (cfg54_ok k) (Eq.mpr (pq54_0 k) (planOK_go _)) (fun m v => F54_0 k m v.1.1 v.1.2.1 v.1.2.2.1) k (fun _ => rfl) (fun _ => rfl) fun m v => ⟨ps54_0 k m v, pe54_0 k m v⟩)
def pl54 (k : Nat) : Plan := (.seq .go (.seq .go (.seq (.seq .go (.sub (.frag (fr54_0 k)))) .go)))
theorem pq54 (k : Nat) : PlanOK Try.prog lim54 (pl54 k) (codeAt (bodyOf Try.f54) []) = (PlanOK Try.prog lim54 .go (codeAt (bodyOf Try.f54) [.l]) ∧ (PlanOK Try.prog lim54 .go (codeAt (bodyOf Try.f54) [.r, .l]) ∧ ((PlanOK Try.prog lim54 .go (codeAt (bodyOf Try.f54) [.r, .r, .l, .l]) ∧ FragOK Try.prog lim54 (fr54_0 k) (codeAt (bodyOf Try.f54) [.r, .r, .l, .r, .s])) ∧ PlanOK Try.prog lim54 .go (codeAt (bodyOf Try.f54) [.r, .r, .r])))) := by kernel_rfl
theorem ev54 (k : Nat) (x : AT (sp54 k).ps) : (sp54 k).impl x = (fnT Try.prog (cfg54 k) lim54 Try.f54 (bodyOf Try.f54) (pl54 k) (sp54 k) x).eval := by kernel_rfl
theorem eq54 (k : Nat) (x : AT (sp54 k).ps) : (fnT Try.prog (cfg54 k) lim54 Try.f54 (bodyOf Try.f54) (pl54 k) (sp54 k) x).left = (fnT Try.prog (cfg54 k) lim54 Try.f54 (bodyOf Try.f54) (pl54 k) (sp54 k) x).right := by kernel_rfl
theorem v54 (k : Nat) : Callable Try.prog 54 ∧ Valid Try.prog 54 (sp54 k) :=
  fn_ok (cfg54_ok k) (f := 54) (fn := Try.f54) (by kernel_rfl) (c := bodyOf Try.f54) (by kernel_rfl) (by kernel_rfl) rfl rfl (Nat.le_of_ble_eq_true rfl) (Nat.le_of_ble_eq_true rfl) (p := pl54 k) (Eq.mpr (pq54 k) ⟨(planOK_go _), ⟨(planOK_go _), ⟨⟨(planOK_go _), (fr54_0_ok k)⟩, (planOK_go _)⟩⟩⟩) fun x => ⟨ev54 k x, eq54 k x⟩
/-! f55 hyphen/hyphenref12.steps -/
def F55_0 (k : Nat) : Nat → (List (List Int)) → Int → Int → Int → Option ((((List (List Int)) × Int × Int × Unit) × Unit) ⊕ ((Bool × Unit) × Unit))
  | 0, _, _, _, _ => none
  | n + 1, t0, t1, t5, t6 =>
    bif (decide (t6 < t1)) then
      if 0 ≤ t5 ∧ t5 < ((List.length t0 : Nat) : Int) then
        let x9 := (List.getD t0 (Int.toNat t5) ([] : (List Int)))
        if 0 ≤ t6 ∧ t6 < ((List.length x9 : Nat) : Int) then
          let x10 := (decide ((List.getD x9 (Int.toNat t6) (0 : Int)) < (0 : Int)))
          bif x10 then
            some (.inr ((false, ()), ()))
          else
            if 0 ≤ t5 ∧ t5 < ((List.length t0 : Nat) : Int) then
              let x11 := (List.getD t0 (Int.toNat t5) ([] : (List Int)))
              if 0 ≤ t6 ∧ t6 < ((List.length x11 : Nat) : Int) then
                let x12 := (decide ((List.getD x11 (Int.toNat t6) (0 : Int)) ≥ ((List.length t0 : Nat) : Int)))
                bif x12 then
                  some (.inr ((false, ()), ()))
                else
                  (F55_0 k n t0 t1 t5 (IntKind.wrap .i64 (t6 + (1 : Int)))).bind some
              else none
            else none
        else none
      else none
    else
      some (.inl ((t0, t1, t5, ()), ()))
def fr55_0 (k : Nat) : Frag := ⟨⟨[], [(0, .val (.sl false 22 (.sl false 3 (.int .i64) none) none)), (1, .val (.int .i64)), (5, .val (.int .i64)), (6, .val (.int .i64))], []⟩, [(.exit 2, ⟨[], [(0, .val (.sl false 22 (.sl false 3 (.int .i64) none) none)), (1, .val (.int .i64)), (5, .val (.int .i64))], []⟩), (.ret, ⟨[], [(4, .val .bool)], []⟩)], fun v => F55_0 k k v.1.1 v.1.2.1 v.1.2.2.1 v.1.2.2.2.1⟩
def F55_1 (k : Nat) : Nat → (List (List Int)) → Int → Int → Option ((Unit × Unit) ⊕ ((Bool × Unit) × Unit))
  | 0, _, _, _ => none
  | n + 1, t0, t1, t5 =>
    let x19 := (decide (t5 < ((List.length t0 : Nat) : Int)))
    bif x19 then
      if 0 ≤ t5 ∧ t5 < ((List.length t0 : Nat) : Int) then
        let x20 := (List.getD t0 (Int.toNat t5) ([] : (List Int)))
        bif (((List.length x20 : Nat) : Int) != t1) then
          some (.inr ((false, ()), ()))
        else
          (F55_0 k k t0 t1 t5 (0 : Int)).bind fun r21 =>
          match r21 with
          | .inl r22 =>
            let y23 := r22.1.1
            let y24 := r22.1.2.1
            let y25 := r22.1.2.2.1
            (F55_1 k n y23 y24 (IntKind.wrap .i64 (y25 + (1 : Int)))).bind some
          | .inr r22 =>
            let y26 := r22.1.1
            some (.inr ((y26, ()), ()))
      else none
    else
      some (.inl ((), ()))
def fr55_1 (k : Nat) : Frag := ⟨⟨[], [(0, .val (.sl false 22 (.sl false 3 (.int .i64) none) none)), (1, .val (.int .i64)), (5, .val (.int .i64))], []⟩, [(.exit 0, ⟨[], [], []⟩), (.ret, ⟨[], [(4, .val .bool)], []⟩)], fun v => F55_1 k k v.1.1 v.1.2.1 v.1.2.2.1⟩
def F55 (k : Nat) (a0 : (List (List Int))) (a1 : Int) : Option ((Bool × Unit) × Unit) :=
  let x1 := (decide (((List.length a0 : Nat) : Int) < (1 : Int)))
  bif x1 then
    some ((false, ()), ())
  else
    let x2 := (decide (((List.length a0 : Nat) : Int) > (100000 : Int)))
    bif x2 then
      some ((false, ()), ())
    else
      (F55_1 k k a0 a1 (0 : Int)).bind fun r27 =>
      match r27 with
      | .inl r28 =>
        some ((true, ()), ())
      | .inr r28 =>
        let y29 := r28.1.1
        some ((y29, ()), ())
def sp55 (k : Nat) : Spec := ⟨[.val (.sl false 22 (.sl false 3 (.int .i64) none) none), .val (.int .i64)], [.val .bool], fun x => F55 k x.1 x.2.1⟩
def lim55 : Lim := ⟨53, 2, false, false⟩
def cfg55 (k : Nat) : Nat → Option Spec := cfgL []
theorem cfg55_ok (k : Nat) : CfgOK Try.prog (cfg55 k) := cfgL_nil
def pl55_0 (k : Nat) : Plan := .go
theorem pq55_0 (k : Nat) : PlanOK Try.prog lim55 (pl55_0 k) (codeAt (bodyOf Try.f55) [.r, .r, .l, .r, .s, .b, .r, .l, .s, .r, .r, .s, .b]) = PlanOK Try.prog lim55 .go (codeAt (bodyOf Try.f55) [.r, .r, .l, .r, .s, .b, .r, .l, .s, .r, .r, .s, .b]) := by kernel_rfl
theorem ps55_0 (k m : Nat) (v : (fr55_0 k).sh.V) : F55_0 k (m + 1) v.1.1 v.1.2.1 v.1.2.2.1 v.1.2.2.2.1 = (body Try.prog (stepper Try.prog (cfg55 k) lim55) (pl55_0 k) (codeAt (bodyOf Try.f55) [.r, .r, .l, .r, .s, .b, .r, .l, .s, .r, .r, .s, .b]) ((fr55_0 k).sh.st v) (loopK (fr55_0 k) fun v => F55_0 k m v.1.1 v.1.2.1 v.1.2.2.1 v.1.2.2.2.1)).eval := by kernel_rfl
theorem pe55_0 (k m : Nat) (v : (fr55_0 k).sh.V) : (body Try.prog (stepper Try.prog (cfg55 k) lim55) (pl55_0 k) (codeAt (bodyOf Try.f55) [.r, .r, .l, .r, .s, .b, .r, .l, .s, .r, .r, .s, .b]) ((fr55_0 k).sh.st v) (loopK (fr55_0 k) fun v => F55_0 k m v.1.1 v.1.2.1 v.1.2.2.1 v.1.2.2.2.1)).left = (body Try.prog (stepper Try.prog (cfg55 k) lim55) (pl55_0 k) (codeAt (bodyOf Try.f55) [.r, .r, .l, .r, .s, .b, .r, .l, .s, .r, .r, .s, .b]) ((fr55_0 k).sh.st v) (loopK (fr55_0 k) fun v => F55_0 k m v.1.1 v.1.2.1 v.1.2.2.1 v.1.2.2.2.1)).right := by kernel_rfl
theorem fr55_0_ok (k : Nat) : FragOK Try.prog lim55 (fr55_0 k) (codeAt (bodyOf Try.f55) [.r, .r, .l, .r, .s, .b, .r, .l, .s, .r, .r, .s]) :=
  frag_cast (by kernel_rfl) (loop_ok (cfg55_ok k) (Eq.mpr (pq55_0 k) (planOK_go _)) (fun m v => F55_0 k m v.1.1 v.1.2.1 v.1.2.2.1 v.1.2.2.2.1) k (fun _ => rfl) (fun _ => rfl) fun m v => ⟨ps55_0 k m v, pe55_0 k m v⟩)
def pl55_1 (k : Nat) : Plan := (.seq .go (.seq (.sub (.seq .go (.seq .go (.sub (.frag (fr55_0 k)))))) .go))
theorem pq55_1 (k : Nat) : PlanOK Try.prog lim55 (pl55_1 k) (codeAt (bodyOf Try.f55) [.r, .r, .l, .r, .s, .b]) = (PlanOK Try.prog lim55 .go (codeAt (bodyOf Try.f55) [.r, .r, .l, .r, .s, .b, .l]) ∧ ((PlanOK Try.prog lim55 .go (codeAt (bodyOf Try.f55) [.r, .r, .l, .r, .s, .b, .r, .l, .s, .l]) ∧ (PlanOK Try.prog lim55 .go (codeAt (bodyOf Try.f55) [.r, .r, .l, .r, .s, .b, .r, .l, .s, .r, .l]) ∧ FragOK Try.prog lim55 (fr55_0 k) (codeAt (bodyOf Try.f55) [.r, .r, .l, .r, .s, .b, .r, .l, .s, .r, .r, .s]))) ∧ PlanOK Try.prog lim55 .go (codeAt (bodyOf Try.f55) [.r, .r, .l, .r, .s, .b, .r, .r]))) := by kernel_rfl
theorem ps55_1 (k m : Nat) (v : (fr55_1 k).sh.V) : F55_1 k (m + 1) v.1.1 v.1.2.1 v.1.2.2.1 = (body Try.prog (stepper Try.prog (cfg55 k) lim55) (pl55_1 k) (codeAt (bodyOf Try.f55) [.r, .r, .l, .r, .s, .b]) ((fr55_1 k).sh.st v) (loopK (fr55_1 k) fun v => F55_1 k m v.1.1 v.1.2.1 v.1.2.2.1)).eval := by kernel_rfl
theorem pe55_1 (k m : Nat) (v : (fr55_1 k).sh.V) : (body Try.prog (stepper Try.prog (cfg55 k) lim55) (pl55_1 k) (codeAt (bodyOf Try.f55) [.r, .r, .l, .r, .s, .b]) ((fr55_1 k).sh.st v) (loopK (fr55_1 k) fun v => F55_1 k m v.1.1 v.1.2.1 v.1.2.2.1)).left = (body Try.prog (stepper Try.prog (cfg55 k) lim55) (pl55_1 k) (codeAt (bodyOf Try.f55) [.r, .r, .l, .r, .s, .b]) ((fr55_1 k).sh.st v) (loopK (fr55_1 k) fun v => F55_1 k m v.1.1 v.1.2.1 v.1.2.2.1)).right := by kernel_rfl
theorem fr55_1_ok (k : Nat) : FragOK Try.prog lim55 (fr55_1 k) (codeAt (bodyOf Try.f55) [.r, .r, .l, .r, .s]) :=
  frag_cast (by kernel_rfl) (loop_ok (cfg55_ok k) (Eq.mpr (pq55_1 k) ⟨(planOK_go _), ⟨⟨(planOK_go _), ⟨(planOK_go _), (fr55_0_ok k)⟩⟩, (planOK_go _)⟩⟩) (fun m v => F55_1 k m v.1.1 v.1.2.1 v.1.2.2.1) k (fun _ => rfl) (fun _ => rfl) fun m v => ⟨ps55_1 k m v, pe55_1 k m v⟩)
def pl55 (k : Nat) : Plan := (.seq .go (.seq .go (.seq (.seq .go (.sub (.frag (fr55_1 k)))) .go)))
theorem pq55 (k : Nat) : PlanOK Try.prog lim55 (pl55 k) (codeAt (bodyOf Try.f55) []) = (PlanOK Try.prog lim55 .go (codeAt (bodyOf Try.f55) [.l]) ∧ (PlanOK Try.prog lim55 .go (codeAt (bodyOf Try.f55) [.r, .l]) ∧ ((PlanOK Try.prog lim55 .go (codeAt (bodyOf Try.f55) [.r, .r, .l, .l]) ∧ FragOK Try.prog lim55 (fr55_1 k) (codeAt (bodyOf Try.f55) [.r, .r, .l, .r, .s])) ∧ PlanOK Try.prog lim55 .go (codeAt (bodyOf Try.f55) [.r, .r, .r])))) := by kernel_rfl
theorem ev55 (k : Nat) (x : AT (sp55 k).ps) : (sp55 k).impl x = (fnT Try.prog (cfg55 k) lim55 Try.f55 (bodyOf Try.f55) (pl55 k) (sp55 k) x).eval := by kernel_rfl
theorem eq55 (k : Nat) (x : AT (sp55 k).ps) : (fnT Try.prog (cfg55 k) lim55 Try.f55 (bodyOf Try.f55) (pl55 k) (sp55 k) x).left = (fnT Try.prog (cfg55 k) lim55 Try.f55 (bodyOf Try.f55) (pl55 k) (sp55 k) x).right := by kernel_rfl
theorem v55 (k : Nat) : Callable Try.prog 55 ∧ Valid Try.prog 55 (sp55 k) :=
  fn_ok (cfg55_ok k) (f := 55) (fn := Try.f55) (by kernel_rfl) (c := bodyOf Try.f55) (by kernel_rfl) (by kernel_rfl) rfl rfl (Nat.le_of_ble_eq_true rfl) (Nat.le_of_ble_eq_true rfl) (p := pl55 k) (Eq.mpr (pq55 k) ⟨(planOK_go _), ⟨(planOK_go _), ⟨⟨(planOK_go _), (fr55_1_ok k)⟩, (planOK_go _)⟩⟩⟩) fun x => ⟨ev55 k x, eq55 k x⟩
/-! f22 hyphen/hyphenref12.Right -/
def F22_0 (k : Nat) : Nat → Int → ((List Int) × ((List Int) × (((List (List Int)) × ((List Int) × Unit)) × (((List (List Int)) × ((List (List (List Int))) × Unit)) × Unit)))) → Option ((Unit × (((List Int) × ((List Int) × (((List (List Int)) × ((List Int) × Unit)) × (((List (List Int)) × ((List (List (List Int))) × Unit)) × Unit)))) × Unit)) ⊕ ((Bool × Unit) × Unit))
  | 0, _, _ => none
  | n + 1, t5, c1 =>
    let x13 := (decide (t5 < ((List.length c1.1 : Nat) : Int)))
    bif x13 then
      if 0 ≤ t5 ∧ t5 < ((List.length c1.1 : Nat) : Int) then
        if 0 ≤ (IntKind.wrap .i64 (t5 - (1 : Int))) ∧ (IntKind.wrap .i64 (t5 - (1 : Int))) < ((List.length c1.1 : Nat) : Int) then
          let x14 := (List.getD c1.1 (Int.toNat (IntKind.wrap .i64 (t5 - (1 : Int)))) (0 : Int))
          let x15 := (decide ((List.getD c1.1 (Int.toNat t5) (0 : Int)) ≤ x14))
          bif x15 then
            some (.inr ((false, ()), ()))
          else
            if 0 ≤ t5 ∧ t5 < ((List.length c1.1 : Nat) : Int) then
              let x16 := (decide ((List.getD c1.1 (Int.toNat t5) (0 : Int)) > (1114111 : Int)))
              bif x16 then
                some (.inr ((false, ()), ()))
              else
                (F22_0 k n (IntKind.wrap .i64 (t5 + (1 : Int))) c1).bind some
            else none
        else none
      else none
    else
      some (.inl ((), (c1, ())))
def fr22_0 (k : Nat) : Frag := ⟨⟨[], [(1, .ptr 1 []), (5, .val (.int .i64))], [(1, some 31, (.pair (.sl false 3 (.int .i64) none) (.pair (.sl false 3 (.int .i64) none) (.pair (.pair (.sl false 22 (.sl false 3 (.int .i64) none) none) (.pair (.sl false 3 (.int .i64) none) .unit)) (.pair (.pair (.sl false 22 (.sl false 3 (.int .i64) none) none) (.pair (.sl false 46 (.sl false 45 (.arr 3 (.int .i64)) none) none) .unit)) .unit)))))]⟩, [(.exit 0, ⟨[], [(1, .ptr 1 [])], [(1, some 31, (.pair (.sl false 3 (.int .i64) none) (.pair (.sl false 3 (.int .i64) none) (.pair (.pair (.sl false 22 (.sl false 3 (.int .i64) none) none) (.pair (.sl false 3 (.int .i64) none) .unit)) (.pair (.pair (.sl false 22 (.sl false 3 (.int .i64) none) none) (.pair (.sl false 46 (.sl false 45 (.arr 3 (.int .i64)) none) none) .unit)) .unit)))))]⟩), (.ret, ⟨[], [(2, .val .bool)], []⟩)], fun v => F22_0 k k v.1.1 v.2.1⟩
def F22_1 (k : Nat) : Nat → Int → Int → ((List Int) × ((List Int) × (((List (List Int)) × ((List Int) × Unit)) × (((List (List Int)) × ((List (List (List Int))) × Unit)) × Unit)))) → Option (((Int × Unit) × (((List Int) × ((List Int) × (((List (List Int)) × ((List Int) × Unit)) × (((List (List Int)) × ((List (List (List Int))) × Unit)) × Unit)))) × Unit)) ⊕ ((Bool × Unit) × Unit))
  | 0, _, _, _ => none
  | n + 1, t6, t7, c1 =>
    let x24 := (decide (t7 < ((List.length c1.2.2.1.2.1 : Nat) : Int)))
    bif x24 then
      if 0 ≤ t7 ∧ t7 < ((List.length c1.2.2.1.2.1 : Nat) : Int) then
        let x25 := (List.getD c1.2.2.1.2.1 (Int.toNat t7) (0 : Int))
        bif (decide (x25 < (0 : Int))) then
          some (.inr ((false, ()), ()))
        else
          if 0 ≤ t7 ∧ t7 < ((List.length c1.2.2.1.2.1 : Nat) : Int) then
            let x26 := (List.getD c1.2.2.1.2.1 (Int.toNat t7) (0 : Int))
            bif (decide (x26 ≥ (100000 : Int))) then
              some (.inr ((false, ()), ()))
            else
              if 0 ≤ t7 ∧ t7 < ((List.length c1.2.2.1.2.1 : Nat) : Int) then
                let x27 := (List.getD c1.2.2.1.2.1 (Int.toNat t7) (0 : Int))
                (F22_1 k n (maxI t6 x27) (IntKind.wrap .i64 (t7 + (1 : Int))) c1).bind some
              else none
          else none
      else none
    else
      some (.inl ((t6, ()), (c1, ())))
def fr22_1 (k : Nat) : Frag := ⟨⟨[], [(1, .ptr 1 []), (6, .val (.int .i64)), (7, .val (.int .i64))], [(1, some 31, (.pair (.sl false 3 (.int .i64) none) (.pair (.sl false 3 (.int .i64) none) (.pair (.pair (.sl false 22 (.sl false 3 (.int .i64) none) none) (.pair (.sl false 3 (.int .i64) none) .unit)) (.pair (.pair (.sl false 22 (.sl false 3 (.int .i64) none) none) (.pair (.sl false 46 (.sl false 45 (.arr 3 (.int .i64)) none) none) .unit)) .unit)))))]⟩, [(.exit 2, ⟨[], [(1, .ptr 1 []), (6, .val (.int .i64))], [(1, some 31, (.pair (.sl false 3 (.int .i64) none) (.pair (.sl false 3 (.int .i64) none) (.pair (.pair (.sl false 22 (.sl false 3 (.int .i64) none) none) (.pair (.sl false 3 (.int .i64) none) .unit)) (.pair (.pair (.sl false 22 (.sl false 3 (.int .i64) none) none) (.pair (.sl false 46 (.sl false 45 (.arr 3 (.int .i64)) none) none) .unit)) .unit)))))]⟩), (.ret, ⟨[], [(2, .val .bool)], []⟩)], fun v => F22_1 k k v.1.1 v.1.2.1 v.2.1⟩
def F22_2 (k : Nat) : Nat → Int → Int → Int → Int → ((List Int) × ((List Int) × (((List (List Int)) × ((List Int) × Unit)) × (((List (List Int)) × ((List (List (List Int))) × Unit)) × Unit)))) → Option (((Int × Int × Int × Unit) × (((List Int) × ((List Int) × (((List (List Int)) × ((List Int) × Unit)) × (((List (List Int)) × ((List (List (List Int))) × Unit)) × Unit)))) × Unit)) ⊕ ((Bool × Unit) × Unit))
  | 0, _, _, _, _, _ => none
  | n + 1, t6, t8, t9, t10, c1 =>
    bif (decide (t10 < (3 : Int))) then
      if 0 ≤ t8 ∧ t8 < ((List.length c1.2.2.2.1.2.1 : Nat) : Int) then
        let x41 := (List.getD c1.2.2.2.1.2.1 (Int.toNat t8) ([] : (List (List Int))))
        if 0 ≤ t9 ∧ t9 < ((List.length x41 : Nat) : Int) then
          let x42 := (List.getD x41 (Int.toNat t9) ([] : (List Int)))
          if 0 ≤ t10 ∧ t10 < ((3 : Nat) : Int) then
            let x43 := (decide ((List.getD x42 (Int.toNat t10) (0 : Int)) < (0 : Int)))
            bif x43 then
              some (.inr ((false, ()), ()))
            else
              if 0 ≤ t8 ∧ t8 < ((List.length c1.2.2.2.1.2.1 : Nat) : Int) then
                let x44 := (List.getD c1.2.2.2.1.2.1 (Int.toNat t8) ([] : (List (List Int))))
                if 0 ≤ t9 ∧ t9 < ((List.length x44 : Nat) : Int) then
                  let x45 := (List.getD x44 (Int.toNat t9) ([] : (List Int)))
                  if 0 ≤ t10 ∧ t10 < ((3 : Nat) : Int) then
                    let x46 := (decide ((List.getD x45 (Int.toNat t10) (0 : Int)) > (1152921504606846976 : Int)))
                    bif x46 then
                      some (.inr ((false, ()), ()))
                    else
                      (F22_2 k n t6 t8 t9 (IntKind.wrap .i64 (t10 + (1 : Int))) c1).bind some
                  else none
                else none
              else none
          else none
        else none
      else none
    else
      some (.inl ((t6, t8, t9, ()), (c1, ())))
def fr22_2 (k : Nat) : Frag := ⟨⟨[], [(1, .ptr 1 []), (6, .val (.int .i64)), (8, .val (.int .i64)), (9, .val (.int .i64)), (10, .val (.int .i64))], [(1, some 31, (.pair (.sl false 3 (.int .i64) none) (.pair (.sl false 3 (.int .i64) none) (.pair (.pair (.sl false 22 (.sl false 3 (.int .i64) none) none) (.pair (.sl false 3 (.int .i64) none) .unit)) (.pair (.pair (.sl false 22 (.sl false 3 (.int .i64) none) none) (.pair (.sl false 46 (.sl false 45 (.arr 3 (.int .i64)) none) none) .unit)) .unit)))))]⟩, [(.exit 8, ⟨[], [(1, .ptr 1 []), (6, .val (.int .i64)), (8, .val (.int .i64)), (9, .val (.int .i64))], [(1, some 31, (.pair (.sl false 3 (.int .i64) none) (.pair (.sl false 3 (.int .i64) none) (.pair (.pair (.sl false 22 (.sl false 3 (.int .i64) none) none) (.pair (.sl false 3 (.int .i64) none) .unit)) (.pair (.pair (.sl false 22 (.sl false 3 (.int .i64) none) none) (.pair (.sl false 46 (.sl false 45 (.arr 3 (.int .i64)) none) none) .unit)) .unit)))))]⟩), (.ret, ⟨[], [(2, .val .bool)], []⟩)], fun v => F22_2 k k v.1.1 v.1.2.1 v.1.2.2.1 v.1.2.2.2.1 v.2.1⟩
def F22_3 (k : Nat) : Nat → Int → Int → Int → ((List Int) × ((List Int) × (((List (List Int)) × ((List Int) × Unit)) × (((List (List Int)) × ((List (List (List Int))) × Unit)) × Unit)))) → Option (((Int × Int × Unit) × (((List Int) × ((List Int) × (((List (List Int)) × ((List Int) × Unit)) × (((List (List Int)) × ((List (List (List Int))) × Unit)) × Unit)))) × Unit)) ⊕ ((Bool × Unit) × Unit))
  | 0, _, _, _, _ => none
  | n + 1, t6, t8, t9, c1 =>
    bif (decide (t9 ≤ t6)) then
      (F22_2 k k t6 t8 t9 (0 : Int) c1).bind fun r54 =>
      match r54 with
      | .inl r55 =>
        let y56 := r55.1.1
        let y57 := r55.1.2.1
        let y58 := r55.1.2.2.1
        let y59 := r55.2.1
        (F22_3 k n y56 y57 (IntKind.wrap .i64 (y58 + (1 : Int))) y59).bind some
      | .inr r55 =>
        let y60 := r55.1.1
        some (.inr ((y60, ()), ()))
    else
      some (.inl ((t6, t8, ()), (c1, ())))
def fr22_3 (k : Nat) : Frag := ⟨⟨[], [(1, .ptr 1 []), (6, .val (.int .i64)), (8, .val (.int .i64)), (9, .val (.int .i64))], [(1, some 31, (.pair (.sl false 3 (.int .i64) none) (.pair (.sl false 3 (.int .i64) none) (.pair (.pair (.sl false 22 (.sl false 3 (.int .i64) none) none) (.pair (.sl false 3 (.int .i64) none) .unit)) (.pair (.pair (.sl false 22 (.sl false 3 (.int .i64) none) none) (.pair (.sl false 46 (.sl false 45 (.arr 3 (.int .i64)) none) none) .unit)) .unit)))))]⟩, [(.exit 6, ⟨[], [(1, .ptr 1 []), (6, .val (.int .i64)), (8, .val (.int .i64))], [(1, some 31, (.pair (.sl false 3 (.int .i64) none) (.pair (.sl false 3 (.int .i64) none) (.pair (.pair (.sl false 22 (.sl false 3 (.int .i64) none) none) (.pair (.sl false 3 (.int .i64) none) .unit)) (.pair (.pair (.sl false 22 (.sl false 3 (.int .i64) none) none) (.pair (.sl false 46 (.sl false 45 (.arr 3 (.int .i64)) none) none) .unit)) .unit)))))]⟩), (.ret, ⟨[], [(2, .val .bool)], []⟩)], fun v => F22_3 k k v.1.1 v.1.2.1 v.1.2.2.1 v.2.1⟩
def F22_4 (k : Nat) : Nat → Int → Int → ((List Int) × ((List Int) × (((List (List Int)) × ((List Int) × Unit)) × (((List (List Int)) × ((List (List (List Int))) × Unit)) × Unit)))) → Option ((Unit × Unit) ⊕ ((Bool × Unit) × Unit))
  | 0, _, _, _ => none
  | n + 1, t6, t8, c1 =>
    let x67 := (decide (t8 < ((List.length c1.2.2.2.1.2.1 : Nat) : Int)))
    bif x67 then
      if 0 ≤ t8 ∧ t8 < ((List.length c1.2.2.2.1.2.1 : Nat) : Int) then
        let x68 := (List.getD c1.2.2.2.1.2.1 (Int.toNat t8) ([] : (List (List Int))))
        let x69 := (((List.length x68 : Nat) : Int) != (IntKind.wrap .i64 (t6 + (1 : Int))))
        bif x69 then
          some (.inr ((false, ()), ()))
        else
          (F22_3 k k t6 t8 (0 : Int) c1).bind fun r70 =>
          match r70 with
          | .inl r71 =>
            let y72 := r71.1.1
            let y73 := r71.1.2.1
            let y74 := r71.2.1
            (F22_4 k n y72 (IntKind.wrap .i64 (y73 + (1 : Int))) y74).bind some
          | .inr r71 =>
            let y75 := r71.1.1
            some (.inr ((y75, ()), ()))
      else none
    else
      some (.inl ((), ()))
def fr22_4 (k : Nat) : Frag := ⟨⟨[], [(1, .ptr 1 []), (6, .val (.int .i64)), (8, .val (.int .i64))], [(1, some 31, (.pair (.sl false 3 (.int .i64) none) (.pair (.sl false 3 (.int .i64) none) (.pair (.pair (.sl false 22 (.sl false 3 (.int .i64) none) none) (.pair (.sl false 3 (.int .i64) none) .unit)) (.pair (.pair (.sl false 22 (.sl false 3 (.int .i64) none) none) (.pair (.sl false 46 (.sl false 45 (.arr 3 (.int .i64)) none) none) .unit)) .unit)))))]⟩, [(.exit 4, ⟨[], [], []⟩), (.ret, ⟨[], [(2, .val .bool)], []⟩)], fun v => F22_4 k k v.1.1 v.1.2.1 v.2.1⟩
def F22 (k : Nat) (a0 : ((List Int) × ((List Int) × (((List (List Int)) × ((List Int) × Unit)) × (((List (List Int)) × ((List (List (List Int))) × Unit)) × Unit))))) : Option ((Bool × Unit) × Unit) :=
  (F54 k a0.2.1).bind fun r1 =>
  bif (!r1.1.2.1) then
    some ((false, ()), ())
  else
    let x2 := (((List.length a0.1 : Nat) : Int) != ((List.length a0.2.1 : Nat) : Int))
    bif x2 then
      some ((false, ()), ())
    else
      let x3 := (decide (((List.length a0.1 : Nat) : Int) > (100000 : Int)))
      bif x3 then
        some ((false, ()), ())
      else
        if 0 ≤ (0 : Int) ∧ (0 : Int) < ((List.length a0.1 : Nat) : Int) then
          let x4 := (List.getD a0.1 (Int.toNat (0 : Int)) (0 : Int))
          bif (x4 != (0 : Int)) then
            some ((false, ()), ())
          else
            (F55 k a0.2.2.1.1 r1.1.1).bind fun r5 =>
            bif (!r5.1.1) then
              some ((false, ()), ())
            else
              (F55 k a0.2.2.2.1.1 r1.1.1).bind fun r6 =>
              bif (!r6.1.1) then
                some ((false, ()), ())
              else
                let x7 := (((List.length a0.2.2.1.2.1 : Nat) : Int) != ((List.length a0.2.2.1.1 : Nat) : Int))
                bif x7 then
                  some ((false, ()), ())
                else
                  let x8 := (((List.length a0.2.2.2.1.2.1 : Nat) : Int) != ((List.length a0.2.2.2.1.1 : Nat) : Int))
                  bif x8 then
                    some ((false, ()), ())
                  else
                    (F22_0 k k (1 : Int) a0).bind fun r17 =>
                    match r17 with
                    | .inl r18 =>
                      let y19 := r18.2.1
                      (F22_1 k k (0 : Int) (0 : Int) y19).bind fun r28 =>
                      match r28 with
                      | .inl r29 =>
                        let y30 := r29.1.1
                        let y31 := r29.2.1
                        (F22_4 k k y30 (0 : Int) y31).bind fun r76 =>
                        match r76 with
                        | .inl r77 =>
                          some ((true, ()), ())
                        | .inr r77 =>
                          let y78 := r77.1.1
                          some ((y78, ()), ())
                      | .inr r29 =>
                        let y79 := r29.1.1
                        some ((y79, ()), ())
                    | .inr r18 =>
                      let y80 := r18.1.1
                      some ((y80, ()), ())
        else none
def sp22 (k : Nat) : Spec := ⟨[.val (.pair (.sl false 3 (.int .i64) none) (.pair (.sl false 3 (.int .i64) none) (.pair (.pair (.sl false 22 (.sl false 3 (.int .i64) none) none) (.pair (.sl false 3 (.int .i64) none) .unit)) (.pair (.pair (.sl false 22 (.sl false 3 (.int .i64) none) none) (.pair (.sl false 46 (.sl false 45 (.arr 3 (.int .i64)) none) none) .unit)) .unit))))], [.val .bool], fun x => F22 k x.1⟩
def lim22 : Lim := ⟨191, 1, false, false⟩
def cfg22 (k : Nat) : Nat → Option Spec := cfgL [(54, sp54 k), (55, sp55 k)]
theorem cfg22_ok (k : Nat) : CfgOK Try.prog (cfg22 k) := cfgL_cons (v54 k) (cfgL_cons (v55 k) (cfgL_nil))
def pl22_0 (k : Nat) : Plan := .go
theorem pq22_0 (k : Nat) : PlanOK Try.prog lim22 (pl22_0 k) (codeAt (bodyOf Try.f22) [.r, .r, .r, .l, .r, .s, .b]) = PlanOK Try.prog lim22 .go (codeAt (bodyOf Try.f22) [.r, .r, .r, .l, .r, .s, .b]) := by kernel_rfl
theorem ps22_0 (k m : Nat) (v : (fr22_0 k).sh.V) : F22_0 k (m + 1) v.1.1 v.2.1 = (body Try.prog (stepper Try.prog (cfg22 k) lim22) (pl22_0 k) (codeAt (bodyOf Try.f22) [.r, .r, .r, .l, .r, .s, .b]) ((fr22_0 k).sh.st v) (loopK (fr22_0 k) fun v => F22_0 k m v.1.1 v.2.1)).eval := by kernel_rfl
theorem pe22_0 (k m : Nat) (v : (fr22_0 k).sh.V) : (body Try.prog (stepper Try.prog (cfg22 k) lim22) (pl22_0 k) (codeAt (bodyOf Try.f22) [.r, .r, .r, .l, .r, .s, .b]) ((fr22_0 k).sh.st v) (loopK (fr22_0 k) fun v => F22_0 k m v.1.1 v.2.1)).left = (body Try.prog (stepper Try.prog (cfg22 k) lim22) (pl22_0 k) (codeAt (bodyOf Try.f22) [.r, .r, .r, .l, .r, .s, .b]) ((fr22_0 k).sh.st v) (loopK (fr22_0 k) fun v => F22_0 k m v.1.1 v.2.1)).right := by kernel_rfl
theorem fr22_0_ok (k : Nat) : FragOK Try.prog lim22 (fr22_0 k) (codeAt (bodyOf Try.f22) [.r, .r, .r, .l, .r, .s]) :=
  frag_cast (by kernel_rfl) (loop_ok (cfg22_ok k) (Eq.mpr (pq22_0 k) (planOK_go _)) (fun m v => F22_0 k m v.1.1 v.2.1) k (fun _ => rfl) (fun _ => rfl) fun m v => ⟨ps22_0 k m v, pe22_0 k m v⟩)
def pl22_1 (k : Nat) : Plan := .go
theorem pq22_1 (k : Nat) : PlanOK Try.prog lim22 (pl22_1 k) (codeAt (bodyOf Try.f22) [.r, .r, .r, .r, .r, .l, .r, .s, .b]) = PlanOK Try.prog lim22 .go (codeAt (bodyOf Try.f22) [.r, .r, .r, .r, .r, .l, .r, .s, .b]) := by kernel_rfl
theorem ps22_1 (k m : Nat) (v : (fr22_1 k).sh.V) : F22_1 k (m + 1) v.1.1 v.1.2.1 v.2.1 = (body Try.prog (stepper Try.prog (cfg22 k) lim22) (pl22_1 k) (codeAt (bodyOf Try.f22) [.r, .r, .r, .r, .r, .l, .r, .s, .b]) ((fr22_1 k).sh.st v) (loopK (fr22_1 k) fun v => F22_1 k m v.1.1 v.1.2.1 v.2.1)).eval := by kernel_rfl
theorem pe22_1 (k m : Nat) (v : (fr22_1 k).sh.V) : (body Try.prog (stepper Try.prog (cfg22 k) lim22) (pl22_1 k) (codeAt (bodyOf Try.f22) [.r, .r, .r, .r, .r, .l, .r, .s, .b]) ((fr22_1 k).sh.st v) (loopK (fr22_1 k) fun v => F22_1 k m v.1.1 v.1.2.1 v.2.1)).left = (body Try.prog (stepper Try.prog (cfg22 k) lim22) (pl22_1 k) (codeAt (bodyOf Try.f22) [.r, .r, .r, .r, .r, .l, .r, .s, .b]) ((fr22_1 k).sh.st v) (loopK (fr22_1 k) fun v => F22_1 k m v.1.1 v.1.2.1 v.2.1)).right := by kernel_rfl
theorem fr22_1_ok (k : Nat) : FragOK Try.prog lim22 (fr22_1 k) (codeAt (bodyOf Try.f22) [.r, .r, .r, .r, .r, .l, .r, .s]) :=
  frag_cast (by kernel_rfl) (loop_ok (cfg22_ok k) (Eq.mpr (pq22_1 k) (planOK_go _)) (fun m v => F22_1 k m v.1.1 v.1.2.1 v.2.1) k (fun _ => rfl) (fun _ => rfl) fun m v => ⟨ps22_1 k m v, pe22_1 k m v⟩)
def pl22_2 (k : Nat) : Plan := .go
theorem pq22_2 (k : Nat) : PlanOK Try.prog lim22 (pl22_2 k) (codeAt (bodyOf Try.f22) [.r, .r, .r, .r, .r, .r, .l, .r, .s, .b, .r, .l, .s, .r, .r, .s, .b, .r, .l, .s, .r, .s, .b]) = PlanOK Try.prog lim22 .go (codeAt (bodyOf Try.f22) [.r, .r, .r, .r, .r, .r, .l, .r, .s, .b, .r, .l, .s, .r, .r, .s, .b, .r, .l, .s, .r, .s, .b]) := by kernel_rfl
theorem ps22_2 (k m : Nat) (v : (fr22_2 k).sh.V) : F22_2 k (m + 1) v.1.1 v.1.2.1 v.1.2.2.1 v.1.2.2.2.1 v.2.1 = (body Try.prog (stepper Try.prog (cfg22 k) lim22) (pl22_2 k) (codeAt (bodyOf Try.f22) [.r, .r, .r, .r, .r, .r, .l, .r, .s, .b, .r, .l, .s, .r, .r, .s, .b, .r, .l, .s, .r, .s, .b]) ((fr22_2 k).sh.st v) (loopK (fr22_2 k) fun v => F22_2 k m v.1.1 v.1.2.1 v.1.2.2.1 v.1.2.2.2.1 v.2.1)).eval := by kernel_rfl
theorem pe22_2 (k m : Nat) (v : (fr22_2 k).sh.V) : (body Try.prog (stepper Try.prog (cfg22 k) lim22) (pl22_2 k) (codeAt (bodyOf Try.f22) [.r, .r, .r, .r, .r, .r, .l, .r, .s, .b, .r, .l, .s, .r, .r, .s, .b, .r, .l, .s, .r, .s, .b]) ((fr22_2 k).sh.st v) (loopK (fr22_2 k) fun v => F22_2 k m v.1.1 v.1.2.1 v.1.2.2.1 v.1.2.2.2.1 v.2.1)).left = (body Try.prog (stepper Try.prog (cfg22 k) lim22) (pl22_2 k) (codeAt (bodyOf Try.f22) [.r, .r, .r, .r, .r, .r, .l, .r, .s, .b, .r, .l, .s, .r, .r, .s, .b, .r, .l, .s, .r, .s, .b]) ((fr22_2 k).sh.st v) (loopK (fr22_2 k) fun v => F22_2 k m v.1.1 v.1.2.1 v.1.2.2.1 v.1.2.2.2.1 v.2.1)).right := by kernel_rfl
theorem fr22_2_ok (k : Nat) : FragOK Try.prog lim22 (fr22_2 k) (codeAt (bodyOf Try.f22) [.r, .r, .r, .r, .r, .r, .l, .r, .s, .b, .r, .l, .s, .r, .r, .s, .b, .r, .l, .s, .r, .s]) :=
  frag_cast (by kernel_rfl) (loop_ok (cfg22_ok k) (Eq.mpr (pq22_2 k) (planOK_go _)) (fun m v => F22_2 k m v.1.1 v.1.2.1 v.1.2.2.1 v.1.2.2.2.1 v.2.1) k (fun _ => rfl) (fun _ => rfl) fun m v => ⟨ps22_2 k m v, pe22_2 k m v⟩)
def pl22_3 (k : Nat) : Plan := (.seq .go (.seq (.sub (.seq .go (.sub (.frag (fr22_2 k))))) .go))
theorem pq22_3 (k : Nat) : PlanOK Try.prog lim22 (pl22_3 k) (codeAt (bodyOf Try.f22) [.r, .r, .r, .r, .r, .r, .l, .r, .s, .b, .r, .l, .s, .r, .r, .s, .b]) = (PlanOK Try.prog lim22 .go (codeAt (bodyOf Try.f22) [.r, .r, .r, .r, .r, .r, .l, .r, .s, .b, .r, .l, .s, .r, .r, .s, .b, .l]) ∧ ((PlanOK Try.prog lim22 .go (codeAt (bodyOf Try.f22) [.r, .r, .r, .r, .r, .r, .l, .r, .s, .b, .r, .l, .s, .r, .r, .s, .b, .r, .l, .s, .l]) ∧ FragOK Try.prog lim22 (fr22_2 k) (codeAt (bodyOf Try.f22) [.r, .r, .r, .r, .r, .r, .l, .r, .s, .b, .r, .l, .s, .r, .r, .s, .b, .r, .l, .s, .r, .s])) ∧ PlanOK Try.prog lim22 .go (codeAt (bodyOf Try.f22) [.r, .r, .r, .r, .r, .r, .l, .r, .s, .b, .r, .l, .s, .r, .r, .s, .b, .r, .r]))) := by kernel_rfl
theorem ps22_3 (k m : Nat) (v : (fr22_3 k).sh.V) : F22_3 k (m + 1) v.1.1 v.1.2.1 v.1.2.2.1 v.2.1 = (body Try.prog (stepper Try.prog (cfg22 k) lim22) (pl22_3 k) (codeAt (bodyOf Try.f22) [.r, .r, .r, .r, .r, .r, .l, .r, .s, .b, .r, .l, .s, .r, .r, .s, .b]) ((fr22_3 k).sh.st v) (loopK (fr22_3 k) fun v => F22_3 k m v.1.1 v.1.2.1 v.1.2.2.1 v.2.1)).eval := by kernel_rfl
theorem pe22_3 (k m : Nat) (v : (fr22_3 k).sh.V) : (body Try.prog (stepper Try.prog (cfg22 k) lim22) (pl22_3 k) (codeAt (bodyOf Try.f22) [.r, .r, .r, .r, .r, .r, .l, .r, .s, .b, .r, .l, .s, .r, .r, .s, .b]) ((fr22_3 k).sh.st v) (loopK (fr22_3 k) fun v => F22_3 k m v.1.1 v.1.2.1 v.1.2.2.1 v.2.1)).left = (body Try.prog (stepper Try.prog (cfg22 k) lim22) (pl22_3 k) (codeAt (bodyOf Try.f22) [.r, .r, .r, .r, .r, .r, .l, .r, .s, .b, .r, .l, .s, .r, .r, .s, .b]) ((fr22_3 k).sh.st v) (loopK (fr22_3 k) fun v => F22_3 k m v.1.1 v.1.2.1 v.1.2.2.1 v.2.1)).right := by kernel_rfl
theorem fr22_3_ok (k : Nat) : FragOK Try.prog lim22 (fr22_3 k) (codeAt (bodyOf Try.f22) [.r, .r, .r, .r, .r, .r, .l, .r, .s, .b, .r, .l, .s, .r, .r, .s]) :=
  frag_cast (by kernel_rfl) (loop_ok (cfg22_ok k) (Eq.mpr (pq22_3 k) ⟨(planOK_go _), ⟨⟨(planOK_go _), (fr22_2_ok k)⟩, (planOK_go _)⟩⟩) (fun m v => F22_3 k m v.1.1 v.1.2.1 v.1.2.2.1 v.2.1) k (fun _ => rfl) (fun _ => rfl) fun m v => ⟨ps22_3 k m v, pe22_3 k m v⟩)
def pl22_4 (k : Nat) : Plan := (.seq .go (.seq (.sub (.seq .go (.seq .go (.sub (.frag (fr22_3 k)))))) .go))
theorem pq22_4 (k : Nat) : PlanOK Try.prog lim22 (pl22_4 k) (codeAt (bodyOf Try.f22) [.r, .r, .r, .r, .r, .r, .l, .r, .s, .b]) = (PlanOK Try.prog lim22 .go (codeAt (bodyOf Try.f22) [.r, .r, .r, .r, .r, .r, .l, .r, .s, .b, .l]) ∧ ((PlanOK Try.prog lim22 .go (codeAt (bodyOf Try.f22) [.r, .r, .r, .r, .r, .r, .l, .r, .s, .b, .r, .l, .s, .l]) ∧ (PlanOK Try.prog lim22 .go (codeAt (bodyOf Try.f22) [.r, .r, .r, .r, .r, .r, .l, .r, .s, .b, .r, .l, .s, .r, .l]) ∧ FragOK Try.prog lim22 (fr22_3 k) (codeAt (bodyOf Try.f22) [.r, .r, .r, .r, .r, .r, .l, .r, .s, .b, .r, .l, .s, .r, .r, .s]))) ∧ PlanOK Try.prog lim22 .go (codeAt (bodyOf Try.f22) [.r, .r, .r, .r, .r, .r, .l, .r, .s, .b, .r, .r]))) := by kernel_rfl
theorem ps22_4 (k m : Nat) (v : (fr22_4 k).sh.V) : F22_4 k (m + 1) v.1.1 v.1.2.1 v.2.1 = (body Try.prog (stepper Try.prog (cfg22 k) lim22) (pl22_4 k) (codeAt (bodyOf Try.f22) [.r, .r, .r, .r, .r, .r, .l, .r, .s, .b]) ((fr22_4 k).sh.st v) (loopK (fr22_4 k) fun v => F22_4 k m v.1.1 v.1.2.1 v.2.1)).eval := by kernel_rfl
theorem pe22_4 (k m : Nat) (v : (fr22_4 k).sh.V) : (body Try.prog (stepper Try.prog (cfg22 k) lim22) (pl22_4 k) (codeAt (bodyOf Try.f22) [.r, .r, .r, .r, .r, .r, .l, .r, .s, .b]) ((fr22_4 k).sh.st v) (loopK (fr22_4 k) fun v => F22_4 k m v.1.1 v.1.2.1 v.2.1)).left = (body Try.prog (stepper Try.prog (cfg22 k) lim22) (pl22_4 k) (codeAt (bodyOf Try.f22) [.r, .r, .r, .r, .r, .r, .l, .r, .s, .b]) ((fr22_4 k).sh.st v) (loopK (fr22_4 k) fun v => F22_4 k m v.1.1 v.1.2.1 v.2.1)).right := by kernel_rfl
theorem fr22_4_ok (k : Nat) : FragOK Try.prog lim22 (fr22_4 k) (codeAt (bodyOf Try.f22) [.r, .r, .r, .r, .r, .r, .l, .r, .s]) :=
  frag_cast (by kernel_rfl) (loop_ok (cfg22_ok k) (Eq.mpr (pq22_4 k) ⟨(planOK_go _), ⟨⟨(planOK_go _), ⟨(planOK_go _), (fr22_3_ok k)⟩⟩, (planOK_go _)⟩⟩) (fun m v => F22_4 k m v.1.1 v.1.2.1 v.2.1) k (fun _ => rfl) (fun _ => rfl) fun m v => ⟨ps22_4 k m v, pe22_4 k m v⟩)
def pl22 (k : Nat) : Plan := (.seq .go (.seq .go (.seq .go (.seq (.seq .go (.sub (.frag (fr22_0 k)))) (.seq .go (.seq (.seq .go (.sub (.frag (fr22_1 k)))) (.seq (.seq .go (.sub (.frag (fr22_4 k)))) .go)))))))
theorem pq22 (k : Nat) : PlanOK Try.prog lim22 (pl22 k) (codeAt (bodyOf Try.f22) []) = (PlanOK Try.prog lim22 .go (codeAt (bodyOf Try.f22) [.l]) ∧ (PlanOK Try.prog lim22 .go (codeAt (bodyOf Try.f22) [.r, .l]) ∧ (PlanOK Try.prog lim22 .go (codeAt (bodyOf Try.f22) [.r, .r, .l]) ∧ ((PlanOK Try.prog lim22 .go (codeAt (bodyOf Try.f22) [.r, .r, .r, .l, .l]) ∧ FragOK Try.prog lim22 (fr22_0 k) (codeAt (bodyOf Try.f22) [.r, .r, .r, .l, .r, .s])) ∧ (PlanOK Try.prog lim22 .go (codeAt (bodyOf Try.f22) [.r, .r, .r, .r, .l]) ∧ ((PlanOK Try.prog lim22 .go (codeAt (bodyOf Try.f22) [.r, .r, .r, .r, .r, .l, .l]) ∧ FragOK Try.prog lim22 (fr22_1 k) (codeAt (bodyOf Try.f22) [.r, .r, .r, .r, .r, .l, .r, .s])) ∧ ((PlanOK Try.prog lim22 .go (codeAt (bodyOf Try.f22) [.r, .r, .r, .r, .r, .r, .l, .l]) ∧ FragOK Try.prog lim22 (fr22_4 k) (codeAt (bodyOf Try.f22) [.r, .r, .r, .r, .r, .r, .l, .r, .s])) ∧ PlanOK Try.prog lim22 .go (codeAt (bodyOf Try.f22) [.r, .r, .r, .r, .r, .r, .r])))))))) := by kernel_rfl
theorem ev22 (k : Nat) (x : AT (sp22 k).ps) : (sp22 k).impl x = (fnT Try.prog (cfg22 k) lim22 Try.f22 (bodyOf Try.f22) (pl22 k) (sp22 k) x).eval := by kernel_rfl
theorem eq22 (k : Nat) (x : AT (sp22 k).ps) : (fnT Try.prog (cfg22 k) lim22 Try.f22 (bodyOf Try.f22) (pl22 k) (sp22 k) x).left = (fnT Try.prog (cfg22 k) lim22 Try.f22 (bodyOf Try.f22) (pl22 k) (sp22 k) x).right := by kernel_rfl
theorem v22 (k : Nat) : Callable Try.prog 22 ∧ Valid Try.prog 22 (sp22 k) :=
  fn_ok (cfg22_ok k) (f := 22) (fn := Try.f22) (by kernel_rfl) (c := bodyOf Try.f22) (by kernel_rfl) (by kernel_rfl) rfl rfl (Nat.le_of_ble_eq_true rfl) (Nat.le_of_ble_eq_true rfl) (p := pl22 k) (Eq.mpr (pq22 k) ⟨(planOK_go _), ⟨(planOK_go _), ⟨(planOK_go _), ⟨⟨(planOK_go _), (fr22_0_ok k)⟩, ⟨(planOK_go _), ⟨⟨(planOK_go _), (fr22_1_ok k)⟩, ⟨⟨(planOK_go _), (fr22_4_ok k)⟩, (planOK_go _)⟩⟩⟩⟩⟩⟩⟩) fun x => ⟨ev22 k x, eq22 k x⟩
/-! f21 hyphen/hyphenref12.Load -/
def F21_0 (k : Nat) : Nat → Int → Int → ((List Int) × ((List Int) × (((List (List Int)) × ((List Int) × Unit)) × (((List (List Int)) × ((List (List (List Int))) × Unit)) × Unit)))) → ((List Int) × ((List Int) × (((List (List Int)) × ((List Int) × Unit)) × (((List (List Int)) × ((List (List (List Int))) × Unit)) × Unit)))) → ((List Int) × (Bool × Unit)) → Option ((Unit × (((List Int) × ((List Int) × (((List (List Int)) × ((List Int) × Unit)) × (((List (List Int)) × ((List (List (List Int))) × Unit)) × Unit)))) × ((List Int) × ((List Int) × (((List (List Int)) × ((List Int) × Unit)) × (((List (List Int)) × ((List (List (List Int))) × Unit)) × Unit)))) × ((List Int) × (Bool × Unit)) × Unit)))
  | 0, _, _, _, _, _ => none
  | n + 1, t7, t8, c2, c6, c26 =>
    bif (decide (t8 < t7)) then
      bif (!c26.2.1) then
        (F53 k c26).bind fun r16 =>
        let x17 := (List.set (List.replicate 1 ([] : (List (List Int)))) 0 r16.1.1)
        if (List.length c6.2.2.2.1.2.1 + List.length x17) * (24 * 2) ≤ 281474976710656 ∧ List.length c6.2.2.2.1.2.1 + List.length x17 ≤ 9223372036854775807 then
          (F21_0 k n t7 (IntKind.wrap .i64 (t8 + (1 : Int))) c2 (c6.1, (c6.2.1, (c6.2.2.1, ((c6.2.2.2.1.1, ((c6.2.2.2.1.2.1 ++ x17), c6.2.2.2.1.2.2)), c6.2.2.2.2)))) r16.2.1).bind some
        else none
      else
        some ((), (c2, c6, c26, ()))
    else
      some ((), (c2, c6, c26, ()))
def fr21_0 (k : Nat) : Frag := ⟨⟨[], [(2, .ptr 2 []), (5, .ptr 26 []), (6, .ptr 6 []), (7, .val (.int .i64)), (8, .val (.int .i64))], [(2, some 31, (.pair (.sl true 3 (.int .i64) none) (.pair (.sl true 3 (.int .i64) none) (.pair (.pair (.sl true 22 (.sl true 3 (.int .i64) none) none) (.pair (.sl true 3 (.int .i64) none) .unit)) (.pair (.pair (.sl true 22 (.sl true 3 (.int .i64) none) none) (.pair (.sl true 46 (.sl true 45 (.arr 3 (.int .i64)) none) none) .unit)) .unit))))), (6, some 31, (.pair (.sl true 3 (.int .i64) none) (.pair (.sl true 3 (.int .i64) none) (.pair (.pair (.sl true 22 (.sl true 3 (.int .i64) none) none) (.pair (.sl true 3 (.int .i64) none) .unit)) (.pair (.pair (.sl true 22 (.sl true 3 (.int .i64) none) none) (.pair (.sl true 46 (.sl true 45 (.arr 3 (.int .i64)) none) none) .unit)) .unit))))), (26, some 85, (.pair (.sl false 5 (.int .u8) none) (.pair .bool .unit)))]⟩, [(.exit 0, ⟨[], [(2, .ptr 2 []), (5, .ptr 26 []), (6, .ptr 6 [])], [(2, some 31, (.pair (.sl true 3 (.int .i64) none) (.pair (.sl true 3 (.int .i64) none) (.pair (.pair (.sl true 22 (.sl true 3 (.int .i64) none) none) (.pair (.sl true 3 (.int .i64) none) .unit)) (.pair (.pair (.sl true 22 (.sl true 3 (.int .i64) none) none) (.pair (.sl true 46 (.sl true 45 (.arr 3 (.int .i64)) none) none) .unit)) .unit))))), (6, some 31, (.pair (.sl true 3 (.int .i64) none) (.pair (.sl true 3 (.int .i64) none) (.pair (.pair (.sl true 22 (.sl true 3 (.int .i64) none) none) (.pair (.sl true 3 (.int .i64) none) .unit)) (.pair (.pair (.sl true 22 (.sl true 3 (.int .i64) none) none) (.pair (.sl true 46 (.sl true 45 (.arr 3 (.int .i64)) none) none) .unit)) .unit))))), (26, some 85, (.pair (.sl false 5 (.int .u8) none) (.pair .bool .unit)))]⟩)], fun v => F21_0 k k v.1.1 v.1.2.1 v.2.1 v.2.2.1 v.2.2.2.1⟩
def F21 (k : Nat) (a0 : (List Int)) : Option ((((List Int) × ((List Int) × (((List (List Int)) × ((List Int) × Unit)) × (((List (List Int)) × ((List (List (List Int))) × Unit)) × Unit)))) × Bool × Unit) × Unit) :=
  let x1 := (decide (((List.length a0 : Nat) : Int) < (8 : Int)))
  bif x1 then
    some (((([] : (List Int)), (([] : (List Int)), ((([] : (List (List Int))), (([] : (List Int)), ())), ((([] : (List (List Int))), (([] : (List (List (List Int)))), ())), ())))), false, ()), ())
  else
    let x2 := (IntKind.wrap .i64 (((List.length a0 : Nat) : Int) - (8 : Int)))
    if 0 ≤ x2 ∧ x2 ≤ ((List.length a0 : Nat) : Int) ∧ ((List.length a0 : Nat) : Int) ≤ ((List.length a0 : Nat) : Int) then
      let x3 := (List.take (Int.toNat ((List.length a0 : Nat) : Int) - Int.toNat x2) (List.drop (Int.toNat x2) a0))
      let x4 := (IntKind.wrap .i64 (((List.length a0 : Nat) : Int) - (8 : Int)))
      if 0 ≤ (0 : Int) ∧ (0 : Int) ≤ x4 ∧ x4 ≤ ((List.length a0 : Nat) : Int) then
        let x5 := (List.take (Int.toNat x4 - Int.toNat (0 : Int)) (List.drop (Int.toNat (0 : Int)) a0))
        (F49 k (x3, (false, ()))).bind fun r6 =>
        (F24 k x5).bind fun r7 =>
        bif (r6.1.1 != r7.1.1) then
          some (((([] : (List Int)), (([] : (List Int)), ((([] : (List (List Int))), (([] : (List Int)), ())), ((([] : (List (List Int))), (([] : (List (List (List Int)))), ())), ())))), false, ()), ())
        else
          (F50 k (x5, (false, ()))).bind fun r8 =>
          (F50 k r8.2.1).bind fun r9 =>
          (F51 k r9.2.1).bind fun r10 =>
          (F50 k r10.2.1).bind fun r11 =>
          (F51 k r11.2.1).bind fun r12 =>
          (F52 k r12.2.1).bind fun r13 =>
          (F21_0 k k r13.1.1 (0 : Int) (([] : (List Int)), (([] : (List Int)), ((([] : (List (List Int))), (([] : (List Int)), ())), ((([] : (List (List Int))), (([] : (List (List (List Int)))), ())), ())))) (r8.1.1, (r9.1.1, ((r10.1.1, (r11.1.1, ())), ((r12.1.1, (([] : (List (List (List Int)))), ())), ())))) r13.2.1).bind fun r18 =>
          let y20 := r18.2.2.1
          let y21 := r18.2.2.2.1
          bif y21.2.1 then
            some (((([] : (List Int)), (([] : (List Int)), ((([] : (List (List Int))), (([] : (List Int)), ())), ((([] : (List (List Int))), (([] : (List (List (List Int)))), ())), ())))), false, ()), ())
          else
            let x22 := (decide (((List.length y21.1 : Nat) : Int) > (0 : Int)))
            bif x22 then
              some (((([] : (List Int)), (([] : (List Int)), ((([] : (List (List Int))), (([] : (List Int)), ())), ((([] : (List (List Int))), (([] : (List (List (List Int)))), ())), ())))), false, ()), ())
            else
              (F22 k y20).bind fun r23 =>
              bif (!r23.1.1) then
                some (((([] : (List Int)), (([] : (List Int)), ((([] : (List (List Int))), (([] : (List Int)), ())), ((([] : (List (List Int))), (([] : (List (List (List Int)))), ())), ())))), false, ()), ())
              else
                some ((y20, true, ()), ())
      else none
    else none
def sp21 (k : Nat) : Spec := ⟨[.val (.sl false 5 (.int .u8) none)], [.own (.pair (.sl true 3 (.int .i64) none) (.pair (.sl true 3 (.int .i64) none) (.pair (.pair (.sl true 22 (.sl true 3 (.int .i64) none) none) (.pair (.sl true 3 (.int .i64) none) .unit)) (.pair (.pair (.sl true 22 (.sl true 3 (.int .i64) none) none) (.pair (.sl true 46 (.sl true 45 (.arr 3 (.int .i64)) none) none) .unit)) .unit)))), .val .bool], fun x => F21 k x.1⟩
def lim21 : Lim := ⟨96, 1, false, false⟩
def cfg21 (k : Nat) : Nat → Option Spec := cfgL [(22, sp22 k), (24, sp24 k), (49, sp49 k), (50, sp50 k), (51, sp51 k), (52, sp52 k), (53, sp53 k)]
theorem cfg21_ok (k : Nat) : CfgOK Try.prog (cfg21 k) := cfgL_cons (v22 k) (cfgL_cons (v24 k) (cfgL_cons (v49 k) (cfgL_cons (v50 k) (cfgL_cons (v51 k) (cfgL_cons (v52 k) (cfgL_cons (v53 k) (cfgL_nil)))))))
def pl21_0 (k : Nat) : Plan := .go
theorem pq21_0 (k : Nat) : PlanOK Try.prog lim21 (pl21_0 k) (codeAt (bodyOf Try.f21) [.r, .r, .r, .r, .r, .r, .r, .r, .r, .r, .r, .l, .r, .s, .b]) = PlanOK Try.prog lim21 .go (codeAt (bodyOf Try.f21) [.r, .r, .r, .r, .r, .r, .r, .r, .r, .r, .r, .l, .r, .s, .b]) := by kernel_rfl
theorem ps21_0 (k m : Nat) (v : (fr21_0 k).sh.V) : F21_0 k (m + 1) v.1.1 v.1.2.1 v.2.1 v.2.2.1 v.2.2.2.1 = (body Try.prog (stepper Try.prog (cfg21 k) lim21) (pl21_0 k) (codeAt (bodyOf Try.f21) [.r, .r, .r, .r, .r, .r, .r, .r, .r, .r, .r, .l, .r, .s, .b]) ((fr21_0 k).sh.st v) (loopK (fr21_0 k) fun v => F21_0 k m v.1.1 v.1.2.1 v.2.1 v.2.2.1 v.2.2.2.1)).eval := by kernel_rfl
theorem pe21_0 (k m : Nat) (v : (fr21_0 k).sh.V) : (body Try.prog (stepper Try.prog (cfg21 k) lim21) (pl21_0 k) (codeAt (bodyOf Try.f21) [.r, .r, .r, .r, .r, .r, .r, .r, .r, .r, .r, .l, .r, .s, .b]) ((fr21_0 k).sh.st v) (loopK (fr21_0 k) fun v => F21_0 k m v.1.1 v.1.2.1 v.2.1 v.2.2.1 v.2.2.2.1)).left = (body Try.prog (stepper Try.prog (cfg21 k) lim21) (pl21_0 k) (codeAt (bodyOf Try.f21) [.r, .r, .r, .r, .r, .r, .r, .r, .r, .r, .r, .l, .r, .s, .b]) ((fr21_0 k).sh.st v) (loopK (fr21_0 k) fun v => F21_0 k m v.1.1 v.1.2.1 v.2.1 v.2.2.1 v.2.2.2.1)).right := by kernel_rfl
theorem fr21_0_ok (k : Nat) : FragOK Try.prog lim21 (fr21_0 k) (codeAt (bodyOf Try.f21) [.r, .r, .r, .r, .r, .r, .r, .r, .r, .r, .r, .l, .r, .s]) :=
  frag_cast (by kernel_rfl) (loop_ok (cfg21_ok k) (Eq.mpr (pq21_0 k) (planOK_go _)) (fun m v => F21_0 k m v.1.1 v.1.2.1 v.2.1 v.2.2.1 v.2.2.2.1) k (fun _ => rfl) (fun _ => rfl) fun m v => ⟨ps21_0 k m v, pe21_0 k m v⟩)
def pl21 (k : Nat) : Plan := (.seq .go (.seq .go (.seq .go (.seq .go (.seq .go (.seq .go (.seq .go (.seq .go (.seq .go (.seq .go (.seq .go (.seq (.seq .go (.sub (.frag (fr21_0 k)))) .go))))))))))))
theorem pq21 (k : Nat) : PlanOK Try.prog lim21 (pl21 k) (codeAt (bodyOf Try.f21) []) = (PlanOK Try.prog lim21 .go (codeAt (bodyOf Try.f21) [.l]) ∧ (PlanOK Try.prog lim21 .go (codeAt (bodyOf Try.f21) [.r, .l]) ∧ (PlanOK Try.prog lim21 .go (codeAt (bodyOf Try.f21) [.r, .r, .l]) ∧ (PlanOK Try.prog lim21 .go (codeAt (bodyOf Try.f21) [.r, .r, .r, .l]) ∧ (PlanOK Try.prog lim21 .go (codeAt (bodyOf Try.f21) [.r, .r, .r, .r, .l]) ∧ (PlanOK Try.prog lim21 .go (codeAt (bodyOf Try.f21) [.r, .r, .r, .r, .r, .l]) ∧ (PlanOK Try.prog lim21 .go (codeAt (bodyOf Try.f21) [.r, .r, .r, .r, .r, .r, .l]) ∧ (PlanOK Try.prog lim21 .go (codeAt (bodyOf Try.f21) [.r, .r, .r, .r, .r, .r, .r, .l]) ∧ (PlanOK Try.prog lim21 .go (codeAt (bodyOf Try.f21) [.r, .r, .r, .r, .r, .r, .r, .r, .l]) ∧ (PlanOK Try.prog lim21 .go (codeAt (bodyOf Try.f21) [.r, .r, .r, .r, .r, .r, .r, .r, .r, .l]) ∧ (PlanOK Try.prog lim21 .go (codeAt (bodyOf Try.f21) [.r, .r, .r, .r, .r, .r, .r, .r, .r, .r, .l]) ∧ ((PlanOK Try.prog lim21 .go (codeAt (bodyOf Try.f21) [.r, .r, .r, .r, .r, .r, .r, .r, .r, .r, .r, .l, .l]) ∧ FragOK Try.prog lim21 (fr21_0 k) (codeAt (bodyOf Try.f21) [.r, .r, .r, .r, .r, .r, .r, .r, .r, .r, .r, .l, .r, .s])) ∧ PlanOK Try.prog lim21 .go (codeAt (bodyOf Try.f21) [.r, .r, .r, .r, .r, .r, .r, .r, .r, .r, .r, .r]))))))))))))) := by kernel_rfl
theorem ev21 (k : Nat) (x : AT (sp21 k).ps) : (sp21 k).impl x = (fnT Try.prog (cfg21 k) lim21 Try.f21 (bodyOf Try.f21) (pl21 k) (sp21 k) x).eval := by kernel_rfl
theorem eq21 (k : Nat) (x : AT (sp21 k).ps) : (fnT Try.prog (cfg21 k) lim21 Try.f21 (bodyOf Try.f21) (pl21 k) (sp21 k) x).left = (fnT Try.prog (cfg21 k) lim21 Try.f21 (bodyOf Try.f21) (pl21 k) (sp21 k) x).right := by kernel_rfl
theorem v21 (k : Nat) : Callable Try.prog 21 ∧ Valid Try.prog 21 (sp21 k) :=
  fn_ok (cfg21_ok k) (f := 21) (fn := Try.f21) (by kernel_rfl) (c := bodyOf Try.f21) (by kernel_rfl) (by kernel_rfl) rfl rfl (Nat.le_of_ble_eq_true rfl) (Nat.le_of_ble_eq_true rfl) (p := pl21 k) (Eq.mpr (pq21 k) ⟨(planOK_go _), ⟨(planOK_go _), ⟨(planOK_go _), ⟨(planOK_go _), ⟨(planOK_go _), ⟨(planOK_go _), ⟨(planOK_go _), ⟨(planOK_go _), ⟨(planOK_go _), ⟨(planOK_go _), ⟨(planOK_go _), ⟨⟨(planOK_go _), (fr21_0_ok k)⟩, (planOK_go _)⟩⟩⟩⟩⟩⟩⟩⟩⟩⟩⟩⟩) fun x => ⟨ev21 k x, eq21 k x⟩
/-! f5 hyphen/hyphenlaw12.TableRight -/
def F5_0 (k : Nat) (t190 : Bool) (c17 : ((List Int) × ((List Int) × (((List (List Int)) × ((List Int) × Unit)) × (((List (List Int)) × ((List (List (List Int))) × Unit)) × Unit))))) : Option ((Unit × (((List Int) × ((List Int) × (((List (List Int)) × ((List Int) × Unit)) × (((List (List Int)) × ((List (List (List Int))) × Unit)) × Unit)))) × Unit))) :=
  bif t190 then
    some ((), ((c17.1, (c17.2.1, ((([] : (List (List Int))), (([] : (List Int)), ())), c17.2.2.2))), ()))
  else
    some ((), (c17, ()))
def fr5_0 (k : Nat) : Frag := ⟨⟨[], [(17, .ptr 17 []), (190, .val .bool)], [(17, some 31, (.pair (.sl true 3 (.int .i64) none) (.pair (.sl true 3 (.int .i64) none) (.pair (.pair (.sl true 22 (.sl true 3 (.int .i64) none) none) (.pair (.sl true 3 (.int .i64) none) .unit)) (.pair (.pair (.sl true 22 (.sl true 3 (.int .i64) none) none) (.pair (.sl true 46 (.sl true 45 (.arr 3 (.int .i64)) none) none) .unit)) .unit)))))]⟩, [(.normal, ⟨[], [(17, .ptr 17 [])], [(17, some 31, (.pair (.sl true 3 (.int .i64) none) (.pair (.sl true 3 (.int .i64) none) (.pair (.pair (.sl true 22 (.sl true 3 (.int .i64) none) none) (.pair (.sl true 3 (.int .i64) none) .unit)) (.pair (.pair (.sl true 22 (.sl true 3 (.int .i64) none) none) (.pair (.sl true 46 (.sl true 45 (.arr 3 (.int .i64)) none) none) .unit)) .unit)))))]⟩)], fun v => F5_0 k v.1.1 v.2.1⟩
def F5_1 (k : Nat) (t47 : Int) (t169 : Bool) (c17 : ((List Int) × ((List Int) × (((List (List Int)) × ((List Int) × Unit)) × (((List (List Int)) × ((List (List (List Int))) × Unit)) × Unit))))) : Option ((Unit × (((List Int) × ((List Int) × (((List (List Int)) × ((List Int) × Unit)) × (((List (List Int)) × ((List (List (List Int))) × Unit)) × Unit)))) × Unit))) :=
  bif t169 then
    let x31 := (IntKind.wrap .i64 (((List.length c17.1 : Nat) : Int) - (1 : Int)))
    if 0 ≤ x31 ∧ x31 < ((List.length c17.1 : Nat) : Int) then
      let x32 := (IntKind.wrap .i64 ((List.getD c17.1 (Int.toNat x31) (0 : Int)) + (1 : Int)))
      let x33 := (List.set (List.replicate 1 (0 : Int)) 0 x32)
      if (List.length c17.1 + List.length x33) * (8 * 2) ≤ 281474976710656 ∧ List.length c17.1 + List.length x33 ≤ 9223372036854775807 then
        let x34 := (List.set (List.replicate 1 (0 : Int)) 0 (0 : Int))
        if (List.length c17.2.1 + List.length x34) * (8 * 2) ≤ 281474976710656 ∧ List.length c17.2.1 + List.length x34 ≤ 9223372036854775807 then
          some ((), (((c17.1 ++ x33), ((c17.2.1 ++ x34), c17.2.2)), ()))
        else none
      else none
    else none
  else
    (F5_0 k (t47 == (12 : Int)) c17).bind fun r35 =>
    let y36 := r35.2.1
    some ((), (y36, ()))
def fr5_1 (k : Nat) : Frag := ⟨⟨[], [(17, .ptr 17 []), (47, .val (.int .i64)), (169, .val .bool)], [(17, some 31, (.pair (.sl true 3 (.int .i64) none) (.pair (.sl true 3 (.int .i64) none) (.pair (.pair (.sl true 22 (.sl true 3 (.int .i64) none) none) (.pair (.sl true 3 (.int .i64) none) .unit)) (.pair (.pair (.sl true 22 (.sl true 3 (.int .i64) none) none) (.pair (.sl true 46 (.sl true 45 (.arr 3 (.int .i64)) none) none) .unit)) .unit)))))]⟩, [(.normal, ⟨[], [(17, .ptr 17 [])], [(17, some 31, (.pair (.sl true 3 (.int .i64) none) (.pair (.sl true 3 (.int .i64) none) (.pair (.pair (.sl true 22 (.sl true 3 (.int .i64) none) none) (.pair (.sl true 3 (.int .i64) none) .unit)) (.pair (.pair (.sl true 22 (.sl true 3 (.int .i64) none) none) (.pair (.sl true 46 (.sl true 45 (.arr 3 (.int .i64)) none) none) .unit)) .unit)))))]⟩)], fun v => F5_1 k v.1.1 v.1.2.1 v.2.1⟩
def F5_2 (k : Nat) (t47 : Int) (t162 : Bool) (c17 : ((List Int) × ((List Int) × (((List (List Int)) × ((List Int) × Unit)) × (((List (List Int)) × ((List (List (List Int))) × Unit)) × Unit))))) : Option ((Unit × (((List Int) × ((List Int) × (((List (List Int)) × ((List Int) × Unit)) × (((List (List Int)) × ((List (List (List Int))) × Unit)) × Unit)))) × Unit))) :=
  bif t162 then
    let x39 := (List.set (List.replicate 1 (0 : Int)) 0 (0 : Int))
    if (List.length c17.2.1 + List.length x39) * (8 * 2) ≤ 281474976710656 ∧ List.length c17.2.1 + List.length x39 ≤ 9223372036854775807 then
      some ((), ((c17.1, ((c17.2.1 ++ x39), c17.2.2)), ()))
    else none
  else
    (F5_1 k t47 (t47 == (11 : Int)) c17).bind fun r40 =>
    let y41 := r40.2.1
    some ((), (y41, ()))
def fr5_2 (k : Nat) : Frag := ⟨⟨[], [(17, .ptr 17 []), (47, .val (.int .i64)), (162, .val .bool)], [(17, some 31, (.pair (.sl true 3 (.int .i64) none) (.pair (.sl true 3 (.int .i64) none) (.pair (.pair (.sl true 22 (.sl true 3 (.int .i64) none) none) (.pair (.sl true 3 (.int .i64) none) .unit)) (.pair (.pair (.sl true 22 (.sl true 3 (.int .i64) none) none) (.pair (.sl true 46 (.sl true 45 (.arr 3 (.int .i64)) none) none) .unit)) .unit)))))]⟩, [(.normal, ⟨[], [(17, .ptr 17 [])], [(17, some 31, (.pair (.sl true 3 (.int .i64) none) (.pair (.sl true 3 (.int .i64) none) (.pair (.pair (.sl true 22 (.sl true 3 (.int .i64) none) none) (.pair (.sl true 3 (.int .i64) none) .unit)) (.pair (.pair (.sl true 22 (.sl true 3 (.int .i64) none) none) (.pair (.sl true 46 (.sl true 45 (.arr 3 (.int .i64)) none) none) .unit)) .unit)))))]⟩)], fun v => F5_2 k v.1.1 v.1.2.1 v.2.1⟩
def F5_3 (k : Nat) (t47 : Int) (t150 : Bool) (c17 : ((List Int) × ((List Int) × (((List (List Int)) × ((List Int) × Unit)) × (((List (List Int)) × ((List (List (List Int))) × Unit)) × Unit))))) : Option ((Unit × (((List Int) × ((List Int) × (((List (List Int)) × ((List Int) × Unit)) × (((List (List Int)) × ((List (List (List Int))) × Unit)) × Unit)))) × Unit))) :=
  bif t150 then
    if 0 ≤ (0 : Int) ∧ (0 : Int) < ((List.length c17.2.2.2.1.2.1 : Nat) : Int) then
      if 0 ≤ (0 : Int) ∧ (0 : Int) ≤ (1 : Int) ∧ (1 : Int) ≤ ((List.length (List.getD c17.2.2.2.1.2.1 (Int.toNat (0 : Int)) ([] : (List (List Int)))) : Nat) : Int) then
        let x44 := (Int.toNat (1 : Int) - Int.toNat (0 : Int))
        if 0 ≤ (0 : Int) ∧ (0 : Int) < ((List.length c17.2.2.2.1.2.1 : Nat) : Int) then
          if (Int.toNat (0 : Int)) = (Int.toNat (0 : Int)) then
            let x45 := (List.set c17.2.2.2.1.2.1 (Int.toNat (0 : Int)) (List.take x44 (List.drop (Int.toNat (0 : Int)) (List.getD c17.2.2.2.1.2.1 (Int.toNat (0 : Int)) ([] : (List (List Int)))))))
            some ((), ((c17.1, (c17.2.1, (c17.2.2.1, ((c17.2.2.2.1.1, (x45, c17.2.2.2.1.2.2)), c17.2.2.2.2)))), ()))
          else none
        else none
      else none
    else none
  else
    (F5_2 k t47 (t47 == (10 : Int)) c17).bind fun r46 =>
    let y47 := r46.2.1
    some ((), (y47, ()))
def fr5_3 (k : Nat) : Frag := ⟨⟨[], [(17, .ptr 17 []), (47, .val (.int .i64)), (150, .val .bool)], [(17, some 31, (.pair (.sl true 3 (.int .i64) none) (.pair (.sl true 3 (.int .i64) none) (.pair (.pair (.sl true 22 (.sl true 3 (.int .i64) none) none) (.pair (.sl true 3 (.int .i64) none) .unit)) (.pair (.pair (.sl true 22 (.sl true 3 (.int .i64) none) none) (.pair (.sl true 46 (.sl true 45 (.arr 3 (.int .i64)) none) none) .unit)) .unit)))))]⟩, [(.normal, ⟨[], [(17, .ptr 17 [])], [(17, some 31, (.pair (.sl true 3 (.int .i64) none) (.pair (.sl true 3 (.int .i64) none) (.pair (.pair (.sl true 22 (.sl true 3 (.int .i64) none) none) (.pair (.sl true 3 (.int .i64) none) .unit)) (.pair (.pair (.sl true 22 (.sl true 3 (.int .i64) none) none) (.pair (.sl true 46 (.sl true 45 (.arr 3 (.int .i64)) none) none) .unit)) .unit)))))]⟩)], fun v => F5_3 k v.1.1 v.1.2.1 v.2.1⟩
def F5_4 (k : Nat) (t47 : Int) (t138 : Bool) (c17 : ((List Int) × ((List Int) × (((List (List Int)) × ((List Int) × Unit)) × (((List (List Int)) × ((List (List (List Int))) × Unit)) × Unit))))) : Option ((Unit × (((List Int) × ((List Int) × (((List (List Int)) × ((List Int) × Unit)) × (((List (List Int)) × ((List (List (List Int))) × Unit)) × Unit)))) × Unit))) :=
  bif t138 then
    let x50 := (List.set (List.set (List.replicate 2 (List.replicate 3 (0 : Int))) 0 (List.replicate 3 (0 : Int))) 1 (List.replicate 3 (0 : Int)))
    let x51 := (List.set (List.replicate 1 ([] : (List (List Int)))) 0 x50)
    if (List.length c17.2.2.2.1.2.1 + List.length x51) * (24 * 2) ≤ 281474976710656 ∧ List.length c17.2.2.2.1.2.1 + List.length x51 ≤ 9223372036854775807 then
      some ((), ((c17.1, (c17.2.1, (c17.2.2.1, ((c17.2.2.2.1.1, ((c17.2.2.2.1.2.1 ++ x51), c17.2.2.2.1.2.2)), c17.2.2.2.2)))), ()))
    else none
  else
    (F5_3 k t47 (t47 == (9 : Int)) c17).bind fun r52 =>
    let y53 := r52.2.1
    some ((), (y53, ()))
def fr5_4 (k : Nat) : Frag := ⟨⟨[], [(17, .ptr 17 []), (47, .val (.int .i64)), (138, .val .bool)], [(17, some 31, (.pair (.sl true 3 (.int .i64) none) (.pair (.sl true 3 (.int .i64) none) (.pair (.pair (.sl true 22 (.sl true 3 (.int .i64) none) none) (.pair (.sl true 3 (.int .i64) none) .unit)) (.pair (.pair (.sl true 22 (.sl true 3 (.int .i64) none) none) (.pair (.sl true 46 (.sl true 45 (.arr 3 (.int .i64)) none) none) .unit)) .unit)))))]⟩, [(.normal, ⟨[], [(17, .ptr 17 [])], [(17, some 31, (.pair (.sl true 3 (.int .i64) none) (.pair (.sl true 3 (.int .i64) none) (.pair (.pair (.sl true 22 (.sl true 3 (.int .i64) none) none) (.pair (.sl true 3 (.int .i64) none) .unit)) (.pair (.pair (.sl true 22 (.sl true 3 (.int .i64) none) none) (.pair (.sl true 46 (.sl true 45 (.arr 3 (.int .i64)) none) none) .unit)) .unit)))))]⟩)], fun v => F5_4 k v.1.1 v.1.2.1 v.2.1⟩
def F5_5 (k : Nat) (t47 : Int) (t130 : Bool) (c17 : ((List Int) × ((List Int) × (((List (List Int)) × ((List Int) × Unit)) × (((List (List Int)) × ((List (List (List Int))) × Unit)) × Unit))))) : Option ((Unit × (((List Int) × ((List Int) × (((List (List Int)) × ((List Int) × Unit)) × (((List (List Int)) × ((List (List (List Int))) × Unit)) × Unit)))) × Unit))) :=
  bif t130 then
    if 0 ≤ (1 : Int) ∧ (1 : Int) ≤ ((List.length c17.2.2.1.2.1 : Nat) : Int) ∧ ((List.length c17.2.2.1.2.1 : Nat) : Int) ≤ ((List.length c17.2.2.1.2.1 : Nat) : Int) then
      let x56 := (Int.toNat ((List.length c17.2.2.1.2.1 : Nat) : Int) - Int.toNat (1 : Int))
      let x57 := (List.take x56 (List.drop (Int.toNat (1 : Int)) c17.2.2.1.2.1))
      some ((), ((c17.1, (c17.2.1, ((c17.2.2.1.1, (x57, c17.2.2.1.2.2)), c17.2.2.2))), ()))
    else none
  else
    (F5_4 k t47 (t47 == (8 : Int)) c17).bind fun r58 =>
    let y59 := r58.2.1
    some ((), (y59, ()))
def fr5_5 (k : Nat) : Frag := ⟨⟨[], [(17, .ptr 17 []), (47, .val (.int .i64)), (130, .val .bool)], [(17, some 31, (.pair (.sl true 3 (.int .i64) none) (.pair (.sl true 3 (.int .i64) none) (.pair (.pair (.sl true 22 (.sl true 3 (.int .i64) none) none) (.pair (.sl true 3 (.int .i64) none) .unit)) (.pair (.pair (.sl true 22 (.sl true 3 (.int .i64) none) none) (.pair (.sl true 46 (.sl true 45 (.arr 3 (.int .i64)) none) none) .unit)) .unit)))))]⟩, [(.normal, ⟨[], [(17, .ptr 17 [])], [(17, some 31, (.pair (.sl true 3 (.int .i64) none) (.pair (.sl true 3 (.int .i64) none) (.pair (.pair (.sl true 22 (.sl true 3 (.int .i64) none) none) (.pair (.sl true 3 (.int .i64) none) .unit)) (.pair (.pair (.sl true 22 (.sl true 3 (.int .i64) none) none) (.pair (.sl true 46 (.sl true 45 (.arr 3 (.int .i64)) none) none) .unit)) .unit)))))]⟩)], fun v => F5_5 k v.1.1 v.1.2.1 v.2.1⟩
def F5_6 (k : Nat) (t19 : Int) (t47 : Int) (t115 : Bool) (c17 : ((List Int) × ((List Int) × (((List (List Int)) × ((List Int) × Unit)) × (((List (List Int)) × ((List (List (List Int))) × Unit)) × Unit))))) : Option ((Unit × (((List Int) × ((List Int) × (((List (List Int)) × ((List Int) × Unit)) × (((List (List Int)) × ((List (List (List Int))) × Unit)) × Unit)))) × Unit))) :=
  bif t115 then
    if 0 ≤ t19 ∧ t19 < ((List.length c17.2.2.1.1 : Nat) : Int) then
      let x62 := (List.set (List.replicate 1 (0 : Int)) 0 (0 : Int))
      let x63 := (List.getD c17.2.2.1.1 (Int.toNat t19) ([] : (List Int)))
      if (List.length x63 + List.length x62) * (8 * 2) ≤ 281474976710656 ∧ List.length x63 + List.length x62 ≤ 9223372036854775807 then
        if 0 ≤ t19 ∧ t19 < ((List.length c17.2.2.1.1 : Nat) : Int) then
          if (Int.toNat t19) = (Int.toNat t19) then
            let x64 := (List.set c17.2.2.1.1 (Int.toNat t19) (x63 ++ x62))
            some ((), ((c17.1, (c17.2.1, ((x64, c17.2.2.1.2), c17.2.2.2))), ()))
          else none
        else none
      else none
    else none
  else
    (F5_5 k t47 (t47 == (7 : Int)) c17).bind fun r65 =>
    let y66 := r65.2.1
    some ((), (y66, ()))
def fr5_6 (k : Nat) : Frag := ⟨⟨[], [(17, .ptr 17 []), (19, .val (.int .i64)), (47, .val (.int .i64)), (115, .val .bool)], [(17, some 31, (.pair (.sl true 3 (.int .i64) none) (.pair (.sl true 3 (.int .i64) none) (.pair (.pair (.sl true 22 (.sl true 3 (.int .i64) none) none) (.pair (.sl true 3 (.int .i64) none) .unit)) (.pair (.pair (.sl true 22 (.sl true 3 (.int .i64) none) none) (.pair (.sl true 46 (.sl true 45 (.arr 3 (.int .i64)) none) none) .unit)) .unit)))))]⟩, [(.normal, ⟨[], [(17, .ptr 17 [])], [(17, some 31, (.pair (.sl true 3 (.int .i64) none) (.pair (.sl true 3 (.int .i64) none) (.pair (.pair (.sl true 22 (.sl true 3 (.int .i64) none) none) (.pair (.sl true 3 (.int .i64) none) .unit)) (.pair (.pair (.sl true 22 (.sl true 3 (.int .i64) none) none) (.pair (.sl true 46 (.sl true 45 (.arr 3 (.int .i64)) none) none) .unit)) .unit)))))]⟩)], fun v => F5_6 k v.1.1 v.1.2.1 v.1.2.2.1 v.2.1⟩
def F5_7 (k : Nat) (t6 : Int) (t7 : Int) (t19 : Int) (t20 : Int) (t47 : Int) (t95 : Bool) (c17 : ((List Int) × ((List Int) × (((List (List Int)) × ((List Int) × Unit)) × (((List (List Int)) × ((List (List (List Int))) × Unit)) × Unit))))) : Option ((Unit × (((List Int) × ((List Int) × (((List (List Int)) × ((List Int) × Unit)) × (((List (List Int)) × ((List (List (List Int))) × Unit)) × Unit)))) × Unit))) :=
  bif t95 then
    (F19 k t6 ((List.length c17.2.2.2.1.2.1 : Nat) : Int)).bind fun r69 =>
    if 0 ≤ r69.1.1 ∧ r69.1.1 < ((List.length c17.2.2.2.1.2.1 : Nat) : Int) then
      (F19 k t7 (2 : Int)).bind fun r70 =>
      if 0 ≤ r70.1.1 ∧ r70.1.1 < ((List.length (List.getD c17.2.2.2.1.2.1 (Int.toNat r69.1.1) ([] : (List (List Int)))) : Nat) : Int) then
        (F19 k t6 (3 : Int)).bind fun r71 =>
        if 0 ≤ r71.1.1 ∧ r71.1.1 < ((3 : Nat) : Int) then
          let x72 := (List.set c17.2.2.2.1.2.1 (Int.toNat r69.1.1) (List.set (List.getD c17.2.2.2.1.2.1 (Int.toNat r69.1.1) ([] : (List (List Int)))) (Int.toNat r70.1.1) (List.set (List.getD (List.getD c17.2.2.2.1.2.1 (Int.toNat r69.1.1) ([] : (List (List Int)))) (Int.toNat r70.1.1) ([] : (List Int))) (Int.toNat r71.1.1) t20)))
          some ((), ((c17.1, (c17.2.1, (c17.2.2.1, ((c17.2.2.2.1.1, (x72, c17.2.2.2.1.2.2)), c17.2.2.2.2)))), ()))
        else none
      else none
    else none
  else
    (F5_6 k t19 t47 (t47 == (6 : Int)) c17).bind fun r73 =>
    let y74 := r73.2.1
    some ((), (y74, ()))
def fr5_7 (k : Nat) : Frag := ⟨⟨[], [(6, .val (.int .i64)), (7, .val (.int .i64)), (17, .ptr 17 []), (19, .val (.int .i64)), (20, .val (.int .i64)), (47, .val (.int .i64)), (95, .val .bool)], [(17, some 31, (.pair (.sl true 3 (.int .i64) none) (.pair (.sl true 3 (.int .i64) none) (.pair (.pair (.sl true 22 (.sl true 3 (.int .i64) none) none) (.pair (.sl true 3 (.int .i64) none) .unit)) (.pair (.pair (.sl true 22 (.sl true 3 (.int .i64) none) none) (.pair (.sl true 46 (.sl true 45 (.arr 3 (.int .i64)) none) none) .unit)) .unit)))))]⟩, [(.normal, ⟨[], [(17, .ptr 17 [])], [(17, some 31, (.pair (.sl true 3 (.int .i64) none) (.pair (.sl true 3 (.int .i64) none) (.pair (.pair (.sl true 22 (.sl true 3 (.int .i64) none) none) (.pair (.sl true 3 (.int .i64) none) .unit)) (.pair (.pair (.sl true 22 (.sl true 3 (.int .i64) none) none) (.pair (.sl true 46 (.sl true 45 (.arr 3 (.int .i64)) none) none) .unit)) .unit)))))]⟩)], fun v => F5_7 k v.1.1 v.1.2.1 v.1.2.2.1 v.1.2.2.2.1 v.1.2.2.2.2.1 v.1.2.2.2.2.2.1 v.2.1⟩
def F5_8 (k : Nat) (t6 : Int) (t7 : Int) (t19 : Int) (t20 : Int) (t47 : Int) (t80 : Bool) (c17 : ((List Int) × ((List Int) × (((List (List Int)) × ((List Int) × Unit)) × (((List (List Int)) × ((List (List (List Int))) × Unit)) × Unit))))) : Option ((Unit × (((List Int) × ((List Int) × (((List (List Int)) × ((List Int) × Unit)) × (((List (List Int)) × ((List (List (List Int))) × Unit)) × Unit)))) × Unit))) :=
  bif t80 then
    (F19 k t6 ((List.length c17.2.2.2.1.1 : Nat) : Int)).bind fun r77 =>
    if 0 ≤ r77.1.1 ∧ r77.1.1 < ((List.length c17.2.2.2.1.1 : Nat) : Int) then
      if 0 ≤ (0 : Int) ∧ (0 : Int) < ((List.length (List.getD c17.2.2.2.1.1 (Int.toNat r77.1.1) ([] : (List Int))) : Nat) : Int) then
        let x78 := (List.set c17.2.2.2.1.1 (Int.toNat r77.1.1) (List.set (List.getD c17.2.2.2.1.1 (Int.toNat r77.1.1) ([] : (List Int))) (Int.toNat (0 : Int)) t20))
        some ((), ((c17.1, (c17.2.1, (c17.2.2.1, ((x78, c17.2.2.2.1.2), c17.2.2.2.2)))), ()))
      else none
    else none
  else
    (F5_7 k t6 t7 t19 t20 t47 (t47 == (5 : Int)) c17).bind fun r79 =>
    let y80 := r79.2.1
    some ((), (y80, ()))
def fr5_8 (k : Nat) : Frag := ⟨⟨[], [(6, .val (.int .i64)), (7, .val (.int .i64)), (17, .ptr 17 []), (19, .val (.int .i64)), (20, .val (.int .i64)), (47, .val (.int .i64)), (80, .val .bool)], [(17, some 31, (.pair (.sl true 3 (.int .i64) none) (.pair (.sl true 3 (.int .i64) none) (.pair (.pair (.sl true 22 (.sl true 3 (.int .i64) none) none) (.pair (.sl true 3 (.int .i64) none) .unit)) (.pair (.pair (.sl true 22 (.sl true 3 (.int .i64) none) none) (.pair (.sl true 46 (.sl true 45 (.arr 3 (.int .i64)) none) none) .unit)) .unit)))))]⟩, [(.normal, ⟨[], [(17, .ptr 17 [])], [(17, some 31, (.pair (.sl true 3 (.int .i64) none) (.pair (.sl true 3 (.int .i64) none) (.pair (.pair (.sl true 22 (.sl true 3 (.int .i64) none) none) (.pair (.sl true 3 (.int .i64) none) .unit)) (.pair (.pair (.sl true 22 (.sl true 3 (.int .i64) none) none) (.pair (.sl true 46 (.sl true 45 (.arr 3 (.int .i64)) none) none) .unit)) .unit)))))]⟩)], fun v => F5_8 k v.1.1 v.1.2.1 v.1.2.2.1 v.1.2.2.2.1 v.1.2.2.2.2.1 v.1.2.2.2.2.2.1 v.2.1⟩
def F5_9 (k : Nat) (t6 : Int) (t7 : Int) (t19 : Int) (t20 : Int) (t47 : Int) (t72 : Bool) (c17 : ((List Int) × ((List Int) × (((List (List Int)) × ((List Int) × Unit)) × (((List (List Int)) × ((List (List (List Int))) × Unit)) × Unit))))) : Option ((Unit × (((List Int) × ((List Int) × (((List (List Int)) × ((List Int) × Unit)) × (((List (List Int)) × ((List (List (List Int))) × Unit)) × Unit)))) × Unit))) :=
  bif t72 then
    if 0 ≤ t19 ∧ t19 < ((List.length c17.2.2.1.2.1 : Nat) : Int) then
      some ((), ((c17.1, (c17.2.1, ((c17.2.2.1.1, ((List.set c17.2.2.1.2.1 (Int.toNat t19) t20), c17.2.2.1.2.2)), c17.2.2.2))), ()))
    else none
  else
    (F5_8 k t6 t7 t19 t20 t47 (t47 == (4 : Int)) c17).bind fun r83 =>
    let y84 := r83.2.1
    some ((), (y84, ()))
def fr5_9 (k : Nat) : Frag := ⟨⟨[], [(6, .val (.int .i64)), (7, .val (.int .i64)), (17, .ptr 17 []), (19, .val (.int .i64)), (20, .val (.int .i64)), (47, .val (.int .i64)), (72, .val .bool)], [(17, some 31, (.pair (.sl true 3 (.int .i64) none) (.pair (.sl true 3 (.int .i64) none) (.pair (.pair (.sl true 22 (.sl true 3 (.int .i64) none) none) (.pair (.sl true 3 (.int .i64) none) .unit)) (.pair (.pair (.sl true 22 (.sl true 3 (.int .i64) none) none) (.pair (.sl true 46 (.sl true 45 (.arr 3 (.int .i64)) none) none) .unit)) .unit)))))]⟩, [(.normal, ⟨[], [(17, .ptr 17 [])], [(17, some 31, (.pair (.sl true 3 (.int .i64) none) (.pair (.sl true 3 (.int .i64) none) (.pair (.pair (.sl true 22 (.sl true 3 (.int .i64) none) none) (.pair (.sl true 3 (.int .i64) none) .unit)) (.pair (.pair (.sl true 22 (.sl true 3 (.int .i64) none) none) (.pair (.sl true 46 (.sl true 45 (.arr 3 (.int .i64)) none) none) .unit)) .unit)))))]⟩)], fun v => F5_9 k v.1.1 v.1.2.1 v.1.2.2.1 v.1.2.2.2.1 v.1.2.2.2.2.1 v.1.2.2.2.2.2.1 v.2.1⟩
def F5_10 (k : Nat) (t6 : Int) (t7 : Int) (t19 : Int) (t20 : Int) (t47 : Int) (t62 : Bool) (c17 : ((List Int) × ((List Int) × (((List (List Int)) × ((List Int) × Unit)) × (((List (List Int)) × ((List (List (List Int))) × Unit)) × Unit))))) : Option ((Unit × (((List Int) × ((List Int) × (((List (List Int)) × ((List Int) × Unit)) × (((List (List Int)) × ((List (List (List Int))) × Unit)) × Unit)))) × Unit))) :=
  bif t62 then
    if 0 ≤ t19 ∧ t19 < ((List.length c17.2.2.1.1 : Nat) : Int) then
      if 0 ≤ (0 : Int) ∧ (0 : Int) < ((List.length (List.getD c17.2.2.1.1 (Int.toNat t19) ([] : (List Int))) : Nat) : Int) then
        let x87 := (List.set c17.2.2.1.1 (Int.toNat t19) (List.set (List.getD c17.2.2.1.1 (Int.toNat t19) ([] : (List Int))) (Int.toNat (0 : Int)) t20))
        some ((), ((c17.1, (c17.2.1, ((x87, c17.2.2.1.2), c17.2.2.2))), ()))
      else none
    else none
  else
    (F5_9 k t6 t7 t19 t20 t47 (t47 == (3 : Int)) c17).bind fun r88 =>
    let y89 := r88.2.1
    some ((), (y89, ()))
def fr5_10 (k : Nat) : Frag := ⟨⟨[], [(6, .val (.int .i64)), (7, .val (.int .i64)), (17, .ptr 17 []), (19, .val (.int .i64)), (20, .val (.int .i64)), (47, .val (.int .i64)), (62, .val .bool)], [(17, some 31, (.pair (.sl true 3 (.int .i64) none) (.pair (.sl true 3 (.int .i64) none) (.pair (.pair (.sl true 22 (.sl true 3 (.int .i64) none) none) (.pair (.sl true 3 (.int .i64) none) .unit)) (.pair (.pair (.sl true 22 (.sl true 3 (.int .i64) none) none) (.pair (.sl true 46 (.sl true 45 (.arr 3 (.int .i64)) none) none) .unit)) .unit)))))]⟩, [(.normal, ⟨[], [(17, .ptr 17 [])], [(17, some 31, (.pair (.sl true 3 (.int .i64) none) (.pair (.sl true 3 (.int .i64) none) (.pair (.pair (.sl true 22 (.sl true 3 (.int .i64) none) none) (.pair (.sl true 3 (.int .i64) none) .unit)) (.pair (.pair (.sl true 22 (.sl true 3 (.int .i64) none) none) (.pair (.sl true 46 (.sl true 45 (.arr 3 (.int .i64)) none) none) .unit)) .unit)))))]⟩)], fun v => F5_10 k v.1.1 v.1.2.1 v.1.2.2.1 v.1.2.2.2.1 v.1.2.2.2.2.1 v.1.2.2.2.2.2.1 v.2.1⟩
def F5_11 (k : Nat) (t6 : Int) (t7 : Int) (t18 : Int) (t19 : Int) (t20 : Int) (t47 : Int) (t55 : Bool) (c17 : ((List Int) × ((List Int) × (((List (List Int)) × ((List Int) × Unit)) × (((List (List Int)) × ((List (List (List Int))) × Unit)) × Unit))))) : Option ((Unit × (((List Int) × ((List Int) × (((List (List Int)) × ((List Int) × Unit)) × (((List (List Int)) × ((List (List (List Int))) × Unit)) × Unit)))) × Unit))) :=
  bif t55 then
    if 0 ≤ t18 ∧ t18 < ((List.length c17.2.1 : Nat) : Int) then
      some ((), ((c17.1, ((List.set c17.2.1 (Int.toNat t18) t20), c17.2.2)), ()))
    else none
  else
    (F5_10 k t6 t7 t19 t20 t47 (t47 == (2 : Int)) c17).bind fun r92 =>
    let y93 := r92.2.1
    some ((), (y93, ()))
def fr5_11 (k : Nat) : Frag := ⟨⟨[], [(6, .val (.int .i64)), (7, .val (.int .i64)), (17, .ptr 17 []), (18, .val (.int .i64)), (19, .val (.int .i64)), (20, .val (.int .i64)), (47, .val (.int .i64)), (55, .val .bool)], [(17, some 31, (.pair (.sl true 3 (.int .i64) none) (.pair (.sl true 3 (.int .i64) none) (.pair (.pair (.sl true 22 (.sl true 3 (.int .i64) none) none) (.pair (.sl true 3 (.int .i64) none) .unit)) (.pair (.pair (.sl true 22 (.sl true 3 (.int .i64) none) none) (.pair (.sl true 46 (.sl true 45 (.arr 3 (.int .i64)) none) none) .unit)) .unit)))))]⟩, [(.normal, ⟨[], [(17, .ptr 17 [])], [(17, some 31, (.pair (.sl true 3 (.int .i64) none) (.pair (.sl true 3 (.int .i64) none) (.pair (.pair (.sl true 22 (.sl true 3 (.int .i64) none) none) (.pair (.sl true 3 (.int .i64) none) .unit)) (.pair (.pair (.sl true 22 (.sl true 3 (.int .i64) none) none) (.pair (.sl true 46 (.sl true 45 (.arr 3 (.int .i64)) none) none) .unit)) .unit)))))]⟩)], fun v => F5_11 k v.1.1 v.1.2.1 v.1.2.2.1 v.1.2.2.2.1 v.1.2.2.2.2.1 v.1.2.2.2.2.2.1 v.1.2.2.2.2.2.2.1 v.2.1⟩
def F5_12 (k : Nat) (t5 : Int) (t6 : Int) (t7 : Int) (t18 : Int) (t19 : Int) (t20 : Int) (c17 : ((List Int) × ((List Int) × (((List (List Int)) × ((List Int) × Unit)) × (((List (List Int)) × ((List (List (List Int))) × Unit)) × Unit))))) : Option ((Unit × (((List Int) × ((List Int) × (((List (List Int)) × ((List Int) × Unit)) × (((List (List Int)) × ((List (List (List Int))) × Unit)) × Unit)))) × Unit))) :=
  (F19 k t5 (13 : Int)).bind fun r96 =>
  bif (r96.1.1 == (0 : Int)) then
    if 0 ≤ t18 ∧ t18 < ((List.length c17.1 : Nat) : Int) then
      some ((), (((List.set c17.1 (Int.toNat t18) t20), c17.2), ()))
    else none
  else
    (F5_11 k t6 t7 t18 t19 t20 r96.1.1 (r96.1.1 == (1 : Int)) c17).bind fun r97 =>
    let y98 := r97.2.1
    some ((), (y98, ()))
def fr5_12 (k : Nat) : Frag := ⟨⟨[], [(5, .val (.int .i64)), (6, .val (.int .i64)), (7, .val (.int .i64)), (17, .ptr 17 []), (18, .val (.int .i64)), (19, .val (.int .i64)), (20, .val (.int .i64))], [(17, some 31, (.pair (.sl true 3 (.int .i64) none) (.pair (.sl true 3 (.int .i64) none) (.pair (.pair (.sl true 22 (.sl true 3 (.int .i64) none) none) (.pair (.sl true 3 (.int .i64) none) .unit)) (.pair (.pair (.sl true 22 (.sl true 3 (.int .i64) none) none) (.pair (.sl true 46 (.sl true 45 (.arr 3 (.int .i64)) none) none) .unit)) .unit)))))]⟩, [(.normal, ⟨[], [(17, .ptr 17 [])], [(17, some 31, (.pair (.sl true 3 (.int .i64) none) (.pair (.sl true 3 (.int .i64) none) (.pair (.pair (.sl true 22 (.sl true 3 (.int .i64) none) none) (.pair (.sl true 3 (.int .i64) none) .unit)) (.pair (.pair (.sl true 22 (.sl true 3 (.int .i64) none) none) (.pair (.sl true 46 (.sl true 45 (.arr 3 (.int .i64)) none) none) .unit)) .unit)))))]⟩)], fun v => F5_12 k v.1.1 v.1.2.1 v.1.2.2.1 v.1.2.2.2.1 v.1.2.2.2.2.1 v.1.2.2.2.2.2.1 v.2.1⟩
def F5 (k : Nat) (a0 : Int) (a1 : Int) (a2 : (List Int)) (a3 : (List Int)) (a4 : (List Int)) (a5 : Int) (a6 : Int) (a7 : Int) : Option ((Bool × Unit) × Unit) :=
  (F12 k).bind fun r1 =>
  bif (!r1.1.1) then
    some ((false, ()), ())
  else
    (F13 k a0 a1 a2 a3 a4).bind fun r2 =>
    (F19 k a6 ((List.length r2.1.1.1 : Nat) : Int)).bind fun r3 =>
    (F19 k a6 ((List.length r2.1.1.2.2.1.1 : Nat) : Int)).bind fun r4 =>
    let x5 := (List.set (List.set (List.set (List.set (List.set (List.set (List.set (List.set (List.set (List.set (List.set (List.replicate 11 (0 : Int)) 0 (-1 : Int)) 1 (0 : Int)) 2 (1 : Int)) 3 (2 : Int)) 4 (3 : Int)) 5 (100000 : Int)) 6 (1114111 : Int)) 7 (1114112 : Int)) 8 (1152921504606846976 : Int)) 9 (1152921504606846977 : Int)) 10 a7)
    (F19 k a7 (11 : Int)).bind fun r6 =>
    if 0 ≤ r6.1.1 ∧ r6.1.1 < ((List.length x5 : Nat) : Int) then
      (F5_12 k a5 a6 a7 r3.1.1 r4.1.1 (List.getD x5 (Int.toNat r6.1.1) (0 : Int)) r2.1.1).bind fun r99 =>
      let y100 := r99.2.1
      (F14 k y100).bind fun r101 =>
      (F22 k y100).bind fun r102 =>
      some (((r101.1.1 == r102.1.1), ()), ())
    else none
def sp5 (k : Nat) : Spec := ⟨[.val (.int .i64), .val (.int .i64), .val (.sl false 3 (.int .i64) none), .val (.sl false 3 (.int .i64) none), .val (.sl false 3 (.int .i64) none), .val (.int .i64), .val (.int .i64), .val (.int .i64)], [.val .bool], fun x => F5 k x.1 x.2.1 x.2.2.1 x.2.2.2.1 x.2.2.2.2.1 x.2.2.2.2.2.1 x.2.2.2.2.2.2.1 x.2.2.2.2.2.2.2.1⟩
def lim5 : Lim := ⟨199, 8, false, false⟩
def cfg5 (k : Nat) : Nat → Option Spec := cfgL [(12, sp12 k), (13, sp13 k), (14, sp14 k), (19, sp19 k), (22, sp22 k)]
theorem cfg5_ok (k : Nat) : CfgOK Try.prog (cfg5 k) := cfgL_cons (v12 k) (cfgL_cons (v13 k) (cfgL_cons (v14 k) (cfgL_cons (v19 k) (cfgL_cons (v22 k) (cfgL_nil)))))
def pl5_0 (k : Nat) : Plan := .go
theorem pq5_0 (k : Nat) : PlanOK Try.prog lim5 (pl5_0 k) (codeAt (bodyOf Try.f5) [.r, .r, .r, .r, .r, .l, .r, .s, .r, .r, .r, .r, .r, .r, .r, .r, .r, .r, .r, .r, .r, .r, .r, .r, .r, .r, .r, .r, .r, .r, .r, .r, .r]) = PlanOK Try.prog lim5 .go (codeAt (bodyOf Try.f5) [.r, .r, .r, .r, .r, .l, .r, .s, .r, .r, .r, .r, .r, .r, .r, .r, .r, .r, .r, .r, .r, .r, .r, .r, .r, .r, .r, .r, .r, .r, .r, .r, .r]) := by kernel_rfl
theorem ps5_0 (k : Nat) (v : (fr5_0 k).sh.V) : (fr5_0 k).impl v = (body Try.prog (stepper Try.prog (cfg5 k) lim5) (pl5_0 k) (codeAt (bodyOf Try.f5) [.r, .r, .r, .r, .r, .l, .r, .s, .r, .r, .r, .r, .r, .r, .r, .r, .r, .r, .r, .r, .r, .r, .r, .r, .r, .r, .r, .r, .r, .r, .r, .r, .r]) ((fr5_0 k).sh.st v) (injO (fr5_0 k).outs)).eval := by kernel_rfl
theorem pe5_0 (k : Nat) (v : (fr5_0 k).sh.V) : (body Try.prog (stepper Try.prog (cfg5 k) lim5) (pl5_0 k) (codeAt (bodyOf Try.f5) [.r, .r, .r, .r, .r, .l, .r, .s, .r, .r, .r, .r, .r, .r, .r, .r, .r, .r, .r, .r, .r, .r, .r, .r, .r, .r, .r, .r, .r, .r, .r, .r, .r]) ((fr5_0 k).sh.st v) (injO (fr5_0 k).outs)).left = (body Try.prog (stepper Try.prog (cfg5 k) lim5) (pl5_0 k) (codeAt (bodyOf Try.f5) [.r, .r, .r, .r, .r, .l, .r, .s, .r, .r, .r, .r, .r, .r, .r, .r, .r, .r, .r, .r, .r, .r, .r, .r, .r, .r, .r, .r, .r, .r, .r, .r, .r]) ((fr5_0 k).sh.st v) (injO (fr5_0 k).outs)).right := by kernel_rfl
theorem fr5_0_ok (k : Nat) : FragOK Try.prog lim5 (fr5_0 k) (codeAt (bodyOf Try.f5) [.r, .r, .r, .r, .r, .l, .r, .s, .r, .r, .r, .r, .r, .r, .r, .r, .r, .r, .r, .r, .r, .r, .r, .r, .r, .r, .r, .r, .r, .r, .r, .r, .r]) :=
  frag_ok (cfg5_ok k) (Eq.mpr (pq5_0 k) (planOK_go _)) fun v => ⟨ps5_0 k v, pe5_0 k v⟩
def pl5_1 (k : Nat) : Plan := (.seq .go (.seq .go (.frag (fr5_0 k))))
theorem pq5_1 (k : Nat) : PlanOK Try.prog lim5 (pl5_1 k) (codeAt (bodyOf Try.f5) [.r, .r, .r, .r, .r, .l, .r, .s, .r, .r, .r, .r, .r, .r, .r, .r, .r, .r, .r, .r, .r, .r, .r, .r, .r, .r, .r, .r, .r, .r, .r]) = (PlanOK Try.prog lim5 .go (codeAt (bodyOf Try.f5) [.r, .r, .r, .r, .r, .l, .r, .s, .r, .r, .r, .r, .r, .r, .r, .r, .r, .r, .r, .r, .r, .r, .r, .r, .r, .r, .r, .r, .r, .r, .r, .l]) ∧ (PlanOK Try.prog lim5 .go (codeAt (bodyOf Try.f5) [.r, .r, .r, .r, .r, .l, .r, .s, .r, .r, .r, .r, .r, .r, .r, .r, .r, .r, .r, .r, .r, .r, .r, .r, .r, .r, .r, .r, .r, .r, .r, .r, .l]) ∧ FragOK Try.prog lim5 (fr5_0 k) (codeAt (bodyOf Try.f5) [.r, .r, .r, .r, .r, .l, .r, .s, .r, .r, .r, .r, .r, .r, .r, .r, .r, .r, .r, .r, .r, .r, .r, .r, .r, .r, .r, .r, .r, .r, .r, .r, .r]))) := by kernel_rfl
theorem ps5_1 (k : Nat) (v : (fr5_1 k).sh.V) : (fr5_1 k).impl v = (body Try.prog (stepper Try.prog (cfg5 k) lim5) (pl5_1 k) (codeAt (bodyOf Try.f5) [.r, .r, .r, .r, .r, .l, .r, .s, .r, .r, .r, .r, .r, .r, .r, .r, .r, .r, .r, .r, .r, .r, .r, .r, .r, .r, .r, .r, .r, .r, .r]) ((fr5_1 k).sh.st v) (injO (fr5_1 k).outs)).eval := by kernel_rfl
theorem pe5_1 (k : Nat) (v : (fr5_1 k).sh.V) : (body Try.prog (stepper Try.prog (cfg5 k) lim5) (pl5_1 k) (codeAt (bodyOf Try.f5) [.r, .r, .r, .r, .r, .l, .r, .s, .r, .r, .r, .r, .r, .r, .r, .r, .r, .r, .r, .r, .r, .r, .r, .r, .r, .r, .r, .r, .r, .r, .r]) ((fr5_1 k).sh.st v) (injO (fr5_1 k).outs)).left = (body Try.prog (stepper Try.prog (cfg5 k) lim5) (pl5_1 k) (codeAt (bodyOf Try.f5) [.r, .r, .r, .r, .r, .l, .r, .s, .r, .r, .r, .r, .r, .r, .r, .r, .r, .r, .r, .r, .r, .r, .r, .r, .r, .r, .r, .r, .r, .r, .r]) ((fr5_1 k).sh.st v) (injO (fr5_1 k).outs)).right := by kernel_rfl
theorem fr5_1_ok (k : Nat) : FragOK Try.prog lim5 (fr5_1 k) (codeAt (bodyOf Try.f5) [.r, .r, .r, .r, .r, .l, .r, .s, .r, .r, .r, .r, .r, .r, .r, .r, .r, .r, .r, .r, .r, .r, .r, .r, .r, .r, .r, .r, .r, .r, .r]) :=
  frag_ok (cfg5_ok k) (Eq.mpr (pq5_1 k) ⟨(planOK_go _), ⟨(planOK_go _), (fr5_0_ok k)⟩⟩) fun v => ⟨ps5_1 k v, pe5_1 k v⟩
def pl5_2 (k : Nat) : Plan := (.seq .go (.seq .go (.frag (fr5_1 k))))
theorem pq5_2 (k : Nat) : PlanOK Try.prog lim5 (pl5_2 k) (codeAt (bodyOf Try.f5) [.r, .r, .r, .r, .r, .l, .r, .s, .r, .r, .r, .r, .r, .r, .r, .r, .r, .r, .r, .r, .r, .r, .r, .r, .r, .r, .r, .r, .r]) = (PlanOK Try.prog lim5 .go (codeAt (bodyOf Try.f5) [.r, .r, .r, .r, .r, .l, .r, .s, .r, .r, .r, .r, .r, .r, .r, .r, .r, .r, .r, .r, .r, .r, .r, .r, .r, .r, .r, .r, .r, .l]) ∧ (PlanOK Try.prog lim5 .go (codeAt (bodyOf Try.f5) [.r, .r, .r, .r, .r, .l, .r, .s, .r, .r, .r, .r, .r, .r, .r, .r, .r, .r, .r, .r, .r, .r, .r, .r, .r, .r, .r, .r, .r, .r, .l]) ∧ FragOK Try.prog lim5 (fr5_1 k) (codeAt (bodyOf Try.f5) [.r, .r, .r, .r, .r, .l, .r, .s, .r, .r, .r, .r, .r, .r, .r, .r, .r, .r, .r, .r, .r, .r, .r, .r, .r, .r, .r, .r, .r, .r, .r]))) := by kernel_rfl
theorem ps5_2 (k : Nat) (v : (fr5_2 k).sh.V) : (fr5_2 k).impl v = (body Try.prog (stepper Try.prog (cfg5 k) lim5) (pl5_2 k) (codeAt (bodyOf Try.f5) [.r, .r, .r, .r, .r, .l, .r, .s, .r, .r, .r, .r, .r, .r, .r, .r, .r, .r, .r, .r, .r, .r, .r, .r, .r, .r, .r, .r, .r]) ((fr5_2 k).sh.st v) (injO (fr5_2 k).outs)).eval := by kernel_rfl
theorem pe5_2 (k : Nat) (v : (fr5_2 k).sh.V) : (body Try.prog (stepper Try.prog (cfg5 k) lim5) (pl5_2 k) (codeAt (bodyOf Try.f5) [.r, .r, .r, .r, .r, .l, .r, .s, .r, .r, .r, .r, .r, .r, .r, .r, .r, .r, .r, .r, .r, .r, .r, .r, .r, .r, .r, .r, .r]) ((fr5_2 k).sh.st v) (injO (fr5_2 k).outs)).left = (body Try.prog (stepper Try.prog (cfg5 k) lim5) (pl5_2 k) (codeAt (bodyOf Try.f5) [.r, .r, .r, .r, .r, .l, .r, .s, .r, .r, .r, .r, .r, .r, .r, .r, .r, .r, .r, .r, .r, .r, .r, .r, .r, .r, .r, .r, .r]) ((fr5_2 k).sh.st v) (injO (fr5_2 k).outs)).right := by kernel_rfl
theorem fr5_2_ok (k : Nat) : FragOK Try.prog lim5 (fr5_2 k) (codeAt (bodyOf Try.f5) [.r, .r, .r, .r, .r, .l, .r, .s, .r, .r, .r, .r, .r, .r, .r, .r, .r, .r, .r, .r, .r, .r, .r, .r, .r, .r, .r, .r, .r]) :=
  frag_ok (cfg5_ok k) (Eq.mpr (pq5_2 k) ⟨(planOK_go _), ⟨(planOK_go _), (fr5_1_ok k)⟩⟩) fun v => ⟨ps5_2 k v, pe5_2 k v⟩
def pl5_3 (k : Nat) : Plan := (.seq .go (.seq .go (.frag (fr5_2 k))))
theorem pq5_3 (k : Nat) : PlanOK Try.prog lim5 (pl5_3 k) (codeAt (bodyOf Try.f5) [.r, .r, .r, .r, .r, .l, .r, .s, .r, .r, .r, .r, .r, .r, .r, .r, .r, .r, .r, .r, .r, .r, .r, .r, .r, .r, .r]) = (PlanOK Try.prog lim5 .go (codeAt (bodyOf Try.f5) [.r, .r, .r, .r, .r, .l, .r, .s, .r, .r, .r, .r, .r, .r, .r, .r, .r, .r, .r, .r, .r, .r, .r, .r, .r, .r, .r, .l]) ∧ (PlanOK Try.prog lim5 .go (codeAt (bodyOf Try.f5) [.r, .r, .r, .r, .r, .l, .r, .s, .r, .r, .r, .r, .r, .r, .r, .r, .r, .r, .r, .r, .r, .r, .r, .r, .r, .r, .r, .r, .l]) ∧ FragOK Try.prog lim5 (fr5_2 k) (codeAt (bodyOf Try.f5) [.r, .r, .r, .r, .r, .l, .r, .s, .r, .r, .r, .r, .r, .r, .r, .r, .r, .r, .r, .r, .r, .r, .r, .r, .r, .r, .r, .r, .r]))) := by kernel_rfl
theorem ps5_3 (k : Nat) (v : (fr5_3 k).sh.V) : (fr5_3 k).impl v = (body Try.prog (stepper Try.prog (cfg5 k) lim5) (pl5_3 k) (codeAt (bodyOf Try.f5) [.r, .r, .r, .r, .r, .l, .r, .s, .r, .r, .r, .r, .r, .r, .r, .r, .r, .r, .r, .r, .r, .r, .r, .r, .r, .r, .r]) ((fr5_3 k).sh.st v) (injO (fr5_3 k).outs)).eval := by kernel_rfl
theorem pe5_3 (k : Nat) (v : (fr5_3 k).sh.V) : (body Try.prog (stepper Try.prog (cfg5 k) lim5) (pl5_3 k) (codeAt (bodyOf Try.f5) [.r, .r, .r, .r, .r, .l, .r, .s, .r, .r, .r, .r, .r, .r, .r, .r, .r, .r, .r, .r, .r, .r, .r, .r, .r, .r, .r]) ((fr5_3 k).sh.st v) (injO (fr5_3 k).outs)).left = (body Try.prog (stepper Try.prog (cfg5 k) lim5) (pl5_3 k) (codeAt (bodyOf Try.f5) [.r, .r, .r, .r, .r, .l, .r, .s, .r, .r, .r, .r, .r, .r, .r, .r, .r, .r, .r, .r, .r, .r, .r, .r, .r, .r, .r]) ((fr5_3 k).sh.st v) (injO (fr5_3 k).outs)).right := by kernel_rfl
theorem fr5_3_ok (k : Nat) : FragOK Try.prog lim5 (fr5_3 k) (codeAt (bodyOf Try.f5) [.r, .r, .r, .r, .r, .l, .r, .s, .r, .r, .r, .r, .r, .r, .r, .r, .r, .r, .r, .r, .r, .r, .r, .r, .r, .r, .r]) :=
  frag_ok (cfg5_ok k) (Eq.mpr (pq5_3 k) ⟨(planOK_go _), ⟨(planOK_go _), (fr5_2_ok k)⟩⟩) fun v => ⟨ps5_3 k v, pe5_3 k v⟩
def pl5_4 (k : Nat) : Plan := (.seq .go (.seq .go (.frag (fr5_3 k))))
theorem pq5_4 (k : Nat) : PlanOK Try.prog lim5 (pl5_4 k) (codeAt (bodyOf Try.f5) [.r, .r, .r, .r, .r, .l, .r, .s, .r, .r, .r, .r, .r, .r, .r, .r, .r, .r, .r, .r, .r, .r, .r, .r, .r]) = (PlanOK Try.prog lim5 .go (codeAt (bodyOf Try.f5) [.r, .r, .r, .r, .r, .l, .r, .s, .r, .r, .r, .r, .r, .r, .r, .r, .r, .r, .r, .r, .r, .r, .r, .r, .r, .l]) ∧ (PlanOK Try.prog lim5 .go (codeAt (bodyOf Try.f5) [.r, .r, .r, .r, .r, .l, .r, .s, .r, .r, .r, .r, .r, .r, .r, .r, .r, .r, .r, .r, .r, .r, .r, .r, .r, .r, .l]) ∧ FragOK Try.prog lim5 (fr5_3 k) (codeAt (bodyOf Try.f5) [.r, .r, .r, .r, .r, .l, .r, .s, .r, .r, .r, .r, .r, .r, .r, .r, .r, .r, .r, .r, .r, .r, .r, .r, .r, .r, .r]))) := by kernel_rfl
theorem ps5_4 (k : Nat) (v : (fr5_4 k).sh.V) : (fr5_4 k).impl v = (body Try.prog (stepper Try.prog (cfg5 k) lim5) (pl5_4 k) (codeAt (bodyOf Try.f5) [.r, .r, .r, .r, .r, .l, .r, .s, .r, .r, .r, .r, .r, .r, .r, .r, .r, .r, .r, .r, .r, .r, .r, .r, .r]) ((fr5_4 k).sh.st v) (injO (fr5_4 k).outs)).eval := by kernel_rfl
theorem pe5_4 (k : Nat) (v : (fr5_4 k).sh.V) : (body Try.prog (stepper Try.prog (cfg5 k) lim5) (pl5_4 k) (codeAt (bodyOf Try.f5) [.r, .r, .r, .r, .r, .l, .r, .s, .r, .r, .r, .r, .r, .r, .r, .r, .r, .r, .r, .r, .r, .r, .r, .r, .r]) ((fr5_4 k).sh.st v) (injO (fr5_4 k).outs)).left = (body Try.prog (stepper Try.prog (cfg5 k) lim5) (pl5_4 k) (codeAt (bodyOf Try.f5) [.r, .r, .r, .r, .r, .l, .r, .s, .r, .r, .r, .r, .r, .r, .r, .r, .r, .r, .r, .r, .r, .r, .r, .r, .r]) ((fr5_4 k).sh.st v) (injO (fr5_4 k).outs)).right := by kernel_rfl
theorem fr5_4_ok (k : Nat) : FragOK Try.prog lim5 (fr5_4 k) (codeAt (bodyOf Try.f5) [.r, .r, .r, .r, .r, .l, .r, .s, .r, .r, .r, .r, .r, .r, .r, .r, .r, .r, .r, .r, .r, .r, .r, .r, .r]) :=
  frag_ok (cfg5_ok k) (Eq.mpr (pq5_4 k) ⟨(planOK_go _), ⟨(planOK_go _), (fr5_3_ok k)⟩⟩) fun v => ⟨ps5_4 k v, pe5_4 k v⟩
def pl5_5 (k : Nat) : Plan := (.seq .go (.seq .go (.frag (fr5_4 k))))
theorem pq5_5 (k : Nat) : PlanOK Try.prog lim5 (pl5_5 k) (codeAt (bodyOf Try.f5) [.r, .r, .r, .r, .r, .l, .r, .s, .r, .r, .r, .r, .r, .r, .r, .r, .r, .r, .r, .r, .r, .r, .r]) = (PlanOK Try.prog lim5 .go (codeAt (bodyOf Try.f5) [.r, .r, .r, .r, .r, .l, .r, .s, .r, .r, .r, .r, .r, .r, .r, .r, .r, .r, .r, .r, .r, .r, .r, .l]) ∧ (PlanOK Try.prog lim5 .go (codeAt (bodyOf Try.f5) [.r, .r, .r, .r, .r, .l, .r, .s, .r, .r, .r, .r, .r, .r, .r, .r, .r, .r, .r, .r, .r, .r, .r, .r, .l]) ∧ FragOK Try.prog lim5 (fr5_4 k) (codeAt (bodyOf Try.f5) [.r, .r, .r, .r, .r, .l, .r, .s, .r, .r, .r, .r, .r, .r, .r, .r, .r, .r, .r, .r, .r, .r, .r, .r, .r]))) := by kernel_rfl
theorem ps5_5 (k : Nat) (v : (fr5_5 k).sh.V) : (fr5_5 k).impl v = (body Try.prog (stepper Try.prog (cfg5 k) lim5) (pl5_5 k) (codeAt (bodyOf Try.f5) [.r, .r, .r, .r, .r, .l, .r, .s, .r, .r, .r, .r, .r, .r, .r, .r, .r, .r, .r, .r, .r, .r, .r]) ((fr5_5 k).sh.st v) (injO (fr5_5 k).outs)).eval := by kernel_rfl
theorem pe5_5 (k : Nat) (v : (fr5_5 k).sh.V) : (body Try.prog (stepper Try.prog (cfg5 k) lim5) (pl5_5 k) (codeAt (bodyOf Try.f5) [.r, .r, .r, .r, .r, .l, .r, .s, .r, .r, .r, .r, .r, .r, .r, .r, .r, .r, .r, .r, .r, .r, .r]) ((fr5_5 k).sh.st v) (injO (fr5_5 k).outs)).left = (body Try.prog (stepper Try.prog (cfg5 k) lim5) (pl5_5 k) (codeAt (bodyOf Try.f5) [.r, .r, .r, .r, .r, .l, .r, .s, .r, .r, .r, .r, .r, .r, .r, .r, .r, .r, .r, .r, .r, .r, .r]) ((fr5_5 k).sh.st v) (injO (fr5_5 k).outs)).right := by kernel_rfl
theorem fr5_5_ok (k : Nat) : FragOK Try.prog lim5 (fr5_5 k) (codeAt (bodyOf Try.f5) [.r, .r, .r, .r, .r, .l, .r, .s, .r, .r, .r, .r, .r, .r, .r, .r, .r, .r, .r, .r, .r, .r, .r]) :=
  frag_ok (cfg5_ok k) (Eq.mpr (pq5_5 k) ⟨(planOK_go _), ⟨(planOK_go _), (fr5_4_ok k)⟩⟩) fun v => ⟨ps5_5 k v, pe5_5 k v⟩
def pl5_6 (k : Nat) : Plan := (.seq .go (.seq .go (.frag (fr5_5 k))))
theorem pq5_6 (k : Nat) : PlanOK Try.prog lim5 (pl5_6 k) (codeAt (bodyOf Try.f5) [.r, .r, .r, .r, .r, .l, .r, .s, .r, .r, .r, .r, .r, .r, .r, .r, .r, .r, .r, .r, .r]) = (PlanOK Try.prog lim5 .go (codeAt (bodyOf Try.f5) [.r, .r, .r, .r, .r, .l, .r, .s, .r, .r, .r, .r, .r, .r, .r, .r, .r, .r, .r, .r, .r, .l]) ∧ (PlanOK Try.prog lim5 .go (codeAt (bodyOf Try.f5) [.r, .r, .r, .r, .r, .l, .r, .s, .r, .r, .r, .r, .r, .r, .r, .r, .r, .r, .r, .r, .r, .r, .l]) ∧ FragOK Try.prog lim5 (fr5_5 k) (codeAt (bodyOf Try.f5) [.r, .r, .r, .r, .r, .l, .r, .s, .r, .r, .r, .r, .r, .r, .r, .r, .r, .r, .r, .r, .r, .r, .r]))) := by kernel_rfl
theorem ps5_6 (k : Nat) (v : (fr5_6 k).sh.V) : (fr5_6 k).impl v = (body Try.prog (stepper Try.prog (cfg5 k) lim5) (pl5_6 k) (codeAt (bodyOf Try.f5) [.r, .r, .r, .r, .r, .l, .r, .s, .r, .r, .r, .r, .r, .r, .r, .r, .r, .r, .r, .r, .r]) ((fr5_6 k).sh.st v) (injO (fr5_6 k).outs)).eval := by kernel_rfl
theorem pe5_6 (k : Nat) (v : (fr5_6 k).sh.V) : (body Try.prog (stepper Try.prog (cfg5 k) lim5) (pl5_6 k) (codeAt (bodyOf Try.f5) [.r, .r, .r, .r, .r, .l, .r, .s, .r, .r, .r, .r, .r, .r, .r, .r, .r, .r, .r, .r, .r]) ((fr5_6 k).sh.st v) (injO (fr5_6 k).outs)).left = (body Try.prog (stepper Try.prog (cfg5 k) lim5) (pl5_6 k) (codeAt (bodyOf Try.f5) [.r, .r, .r, .r, .r, .l, .r, .s, .r, .r, .r, .r, .r, .r, .r, .r, .r, .r, .r, .r, .r]) ((fr5_6 k).sh.st v) (injO (fr5_6 k).outs)).right := by kernel_rfl
theorem fr5_6_ok (k : Nat) : FragOK Try.prog lim5 (fr5_6 k) (codeAt (bodyOf Try.f5) [.r, .r, .r, .r, .r, .l, .r, .s, .r, .r, .r, .r, .r, .r, .r, .r, .r, .r, .r, .r, .r]) :=
  frag_ok (cfg5_ok k) (Eq.mpr (pq5_6 k) ⟨(planOK_go _), ⟨(planOK_go _), (fr5_5_ok k)⟩⟩) fun v => ⟨ps5_6 k v, pe5_6 k v⟩
def pl5_7 (k : Nat) : Plan := (.seq .go (.seq .go (.frag (fr5_6 k))))
theorem pq5_7 (k : Nat) : PlanOK Try.prog lim5 (pl5_7 k) (codeAt (bodyOf Try.f5) [.r, .r, .r, .r, .r, .l, .r, .s, .r, .r, .r, .r, .r, .r, .r, .r, .r, .r, .r]) = (PlanOK Try.prog lim5 .go (codeAt (bodyOf Try.f5) [.r, .r, .r, .r, .r, .l, .r, .s, .r, .r, .r, .r, .r, .r, .r, .r, .r, .r, .r, .l]) ∧ (PlanOK Try.prog lim5 .go (codeAt (bodyOf Try.f5) [.r, .r, .r, .r, .r, .l, .r, .s, .r, .r, .r, .r, .r, .r, .r, .r, .r, .r, .r, .r, .l]) ∧ FragOK Try.prog lim5 (fr5_6 k) (codeAt (bodyOf Try.f5) [.r, .r, .r, .r, .r, .l, .r, .s, .r, .r, .r, .r, .r, .r, .r, .r, .r, .r, .r, .r, .r]))) := by kernel_rfl
theorem ps5_7 (k : Nat) (v : (fr5_7 k).sh.V) : (fr5_7 k).impl v = (body Try.prog (stepper Try.prog (cfg5 k) lim5) (pl5_7 k) (codeAt (bodyOf Try.f5) [.r, .r, .r, .r, .r, .l, .r, .s, .r, .r, .r, .r, .r, .r, .r, .r, .r, .r, .r]) ((fr5_7 k).sh.st v) (injO (fr5_7 k).outs)).eval := by kernel_rfl
theorem pe5_7 (k : Nat) (v : (fr5_7 k).sh.V) : (body Try.prog (stepper Try.prog (cfg5 k) lim5) (pl5_7 k) (codeAt (bodyOf Try.f5) [.r, .r, .r, .r, .r, .l, .r, .s, .r, .r, .r, .r, .r, .r, .r, .r, .r, .r, .r]) ((fr5_7 k).sh.st v) (injO (fr5_7 k).outs)).left = (body Try.prog (stepper Try.prog (cfg5 k) lim5) (pl5_7 k) (codeAt (bodyOf Try.f5) [.r, .r, .r, .r, .r, .l, .r, .s, .r, .r, .r, .r, .r, .r, .r, .r, .r, .r, .r]) ((fr5_7 k).sh.st v) (injO (fr5_7 k).outs)).right := by kernel_rfl
theorem fr5_7_ok (k : Nat) : FragOK Try.prog lim5 (fr5_7 k) (codeAt (bodyOf Try.f5) [.r, .r, .r, .r, .r, .l, .r, .s, .r, .r, .r, .r, .r, .r, .r, .r, .r, .r, .r]) :=
  frag_ok (cfg5_ok k) (Eq.mpr (pq5_7 k) ⟨(planOK_go _), ⟨(planOK_go _), (fr5_6_ok k)⟩⟩) fun v => ⟨ps5_7 k v, pe5_7 k v⟩
def pl5_8 (k : Nat) : Plan := (.seq .go (.seq .go (.frag (fr5_7 k))))
theorem pq5_8 (k : Nat) : PlanOK Try.prog lim5 (pl5_8 k) (codeAt (bodyOf Try.f5) [.r, .r, .r, .r, .r, .l, .r, .s, .r, .r, .r, .r, .r, .r, .r, .r, .r]) = (PlanOK Try.prog lim5 .go (codeAt (bodyOf Try.f5) [.r, .r, .r, .r, .r, .l, .r, .s, .r, .r, .r, .r, .r, .r, .r, .r, .r, .l]) ∧ (PlanOK Try.prog lim5 .go (codeAt (bodyOf Try.f5) [.r, .r, .r, .r, .r, .l, .r, .s, .r, .r, .r, .r, .r, .r, .r, .r, .r, .r, .l]) ∧ FragOK Try.prog lim5 (fr5_7 k) (codeAt (bodyOf Try.f5) [.r, .r, .r, .r, .r, .l, .r, .s, .r, .r, .r, .r, .r, .r, .r, .r, .r, .r, .r]))) := by kernel_rfl
theorem ps5_8 (k : Nat) (v : (fr5_8 k).sh.V) : (fr5_8 k).impl v = (body Try.prog (stepper Try.prog (cfg5 k) lim5) (pl5_8 k) (codeAt (bodyOf Try.f5) [.r, .r, .r, .r, .r, .l, .r, .s, .r, .r, .r, .r, .r, .r, .r, .r, .r]) ((fr5_8 k).sh.st v) (injO (fr5_8 k).outs)).eval := by kernel_rfl
theorem pe5_8 (k : Nat) (v : (fr5_8 k).sh.V) : (body Try.prog (stepper Try.prog (cfg5 k) lim5) (pl5_8 k) (codeAt (bodyOf Try.f5) [.r, .r, .r, .r, .r, .l, .r, .s, .r, .r, .r, .r, .r, .r, .r, .r, .r]) ((fr5_8 k).sh.st v) (injO (fr5_8 k).outs)).left = (body Try.prog (stepper Try.prog (cfg5 k) lim5) (pl5_8 k) (codeAt (bodyOf Try.f5) [.r, .r, .r, .r, .r, .l, .r, .s, .r, .r, .r, .r, .r, .r, .r, .r, .r]) ((fr5_8 k).sh.st v) (injO (fr5_8 k).outs)).right := by kernel_rfl
theorem fr5_8_ok (k : Nat) : FragOK Try.prog lim5 (fr5_8 k) (codeAt (bodyOf Try.f5) [.r, .r, .r, .r, .r, .l, .r, .s, .r, .r, .r, .r, .r, .r, .r, .r, .r]) :=
  frag_ok (cfg5_ok k) (Eq.mpr (pq5_8 k) ⟨(planOK_go _), ⟨(planOK_go _), (fr5_7_ok k)⟩⟩) fun v => ⟨ps5_8 k v, pe5_8 k v⟩
def pl5_9 (k : Nat) : Plan := (.seq .go (.seq .go (.frag (fr5_8 k))))
theorem pq5_9 (k : Nat) : PlanOK Try.prog lim5 (pl5_9 k) (codeAt (bodyOf Try.f5) [.r, .r, .r, .r, .r, .l, .r, .s, .r, .r, .r, .r, .r, .r, .r]) = (PlanOK Try.prog lim5 .go (codeAt (bodyOf Try.f5) [.r, .r, .r, .r, .r, .l, .r, .s, .r, .r, .r, .r, .r, .r, .r, .l]) ∧ (PlanOK Try.prog lim5 .go (codeAt (bodyOf Try.f5) [.r, .r, .r, .r, .r, .l, .r, .s, .r, .r, .r, .r, .r, .r, .r, .r, .l]) ∧ FragOK Try.prog lim5 (fr5_8 k) (codeAt (bodyOf Try.f5) [.r, .r, .r, .r, .r, .l, .r, .s, .r, .r, .r, .r, .r, .r, .r, .r, .r]))) := by kernel_rfl
theorem ps5_9 (k : Nat) (v : (fr5_9 k).sh.V) : (fr5_9 k).impl v = (body Try.prog (stepper Try.prog (cfg5 k) lim5) (pl5_9 k) (codeAt (bodyOf Try.f5) [.r, .r, .r, .r, .r, .l, .r, .s, .r, .r, .r, .r, .r, .r, .r]) ((fr5_9 k).sh.st v) (injO (fr5_9 k).outs)).eval := by kernel_rfl
theorem pe5_9 (k : Nat) (v : (fr5_9 k).sh.V) : (body Try.prog (stepper Try.prog (cfg5 k) lim5) (pl5_9 k) (codeAt (bodyOf Try.f5) [.r, .r, .r, .r, .r, .l, .r, .s, .r, .r, .r, .r, .r, .r, .r]) ((fr5_9 k).sh.st v) (injO (fr5_9 k).outs)).left = (body Try.prog (stepper Try.prog (cfg5 k) lim5) (pl5_9 k) (codeAt (bodyOf Try.f5) [.r, .r, .r, .r, .r, .l, .r, .s, .r, .r, .r, .r, .r, .r, .r]) ((fr5_9 k).sh.st v) (injO (fr5_9 k).outs)).right := by kernel_rfl
theorem fr5_9_ok (k : Nat) : FragOK Try.prog lim5 (fr5_9 k) (codeAt (bodyOf Try.f5) [.r, .r, .r, .r, .r, .l, .r, .s, .r, .r, .r, .r, .r, .r, .r]) :=
  frag_ok (cfg5_ok k) (Eq.mpr (pq5_9 k) ⟨(planOK_go _), ⟨(planOK_go _), (fr5_8_ok k)⟩⟩) fun v => ⟨ps5_9 k v, pe5_9 k v⟩
def pl5_10 (k : Nat) : Plan := (.seq .go (.seq .go (.frag (fr5_9 k))))
theorem pq5_10 (k : Nat) : PlanOK Try.prog lim5 (pl5_10 k) (codeAt (bodyOf Try.f5) [.r, .r, .r, .r, .r, .l, .r, .s, .r, .r, .r, .r, .r]) = (PlanOK Try.prog lim5 .go (codeAt (bodyOf Try.f5) [.r, .r, .r, .r, .r, .l, .r, .s, .r, .r, .r, .r, .r, .l]) ∧ (PlanOK Try.prog lim5 .go (codeAt (bodyOf Try.f5) [.r, .r, .r, .r, .r, .l, .r, .s, .r, .r, .r, .r, .r, .r, .l]) ∧ FragOK Try.prog lim5 (fr5_9 k) (codeAt (bodyOf Try.f5) [.r, .r, .r, .r, .r, .l, .r, .s, .r, .r, .r, .r, .r, .r, .r]))) := by kernel_rfl
theorem ps5_10 (k : Nat) (v : (fr5_10 k).sh.V) : (fr5_10 k).impl v = (body Try.prog (stepper Try.prog (cfg5 k) lim5) (pl5_10 k) (codeAt (bodyOf Try.f5) [.r, .r, .r, .r, .r, .l, .r, .s, .r, .r, .r, .r, .r]) ((fr5_10 k).sh.st v) (injO (fr5_10 k).outs)).eval := by kernel_rfl
theorem pe5_10 (k : Nat) (v : (fr5_10 k).sh.V) : (body Try.prog (stepper Try.prog (cfg5 k) lim5) (pl5_10 k) (codeAt (bodyOf Try.f5) [.r, .r, .r, .r, .r, .l, .r, .s, .r, .r, .r, .r, .r]) ((fr5_10 k).sh.st v) (injO (fr5_10 k).outs)).left = (body Try.prog (stepper Try.prog (cfg5 k) lim5) (pl5_10 k) (codeAt (bodyOf Try.f5) [.r, .r, .r, .r, .r, .l, .r, .s, .r, .r, .r, .r, .r]) ((fr5_10 k).sh.st v) (injO (fr5_10 k).outs)).right := by kernel_rfl
theorem fr5_10_ok (k : Nat) : FragOK Try.prog lim5 (fr5_10 k) (codeAt (bodyOf Try.f5) [.r, .r, .r, .r, .r, .l, .r, .s, .r, .r, .r, .r, .r]) :=
  frag_ok (cfg5_ok k) (Eq.mpr (pq5_10 k) ⟨(planOK_go _), ⟨(planOK_go _), (fr5_9_ok k)⟩⟩) fun v => ⟨ps5_10 k v, pe5_10 k v⟩
def pl5_11 (k : Nat) : Plan := (.seq .go (.seq .go (.frag (fr5_10 k))))
theorem pq5_11 (k : Nat) : PlanOK Try.prog lim5 (pl5_11 k) (codeAt (bodyOf Try.f5) [.r, .r, .r, .r, .r, .l, .r, .s, .r, .r, .r]) = (PlanOK Try.prog lim5 .go (codeAt (bodyOf Try.f5) [.r, .r, .r, .r, .r, .l, .r, .s, .r, .r, .r, .l]) ∧ (PlanOK Try.prog lim5 .go (codeAt (bodyOf Try.f5) [.r, .r, .r, .r, .r, .l, .r, .s, .r, .r, .r, .r, .l]) ∧ FragOK Try.prog lim5 (fr5_10 k) (codeAt (bodyOf Try.f5) [.r, .r, .r, .r, .r, .l, .r, .s, .r, .r, .r, .r, .r]))) := by kernel_rfl
theorem ps5_11 (k : Nat) (v : (fr5_11 k).sh.V) : (fr5_11 k).impl v = (body Try.prog (stepper Try.prog (cfg5 k) lim5) (pl5_11 k) (codeAt (bodyOf Try.f5) [.r, .r, .r, .r, .r, .l, .r, .s, .r, .r, .r]) ((fr5_11 k).sh.st v) (injO (fr5_11 k).outs)).eval := by kernel_rfl
theorem pe5_11 (k : Nat) (v : (fr5_11 k).sh.V) : (body Try.prog (stepper Try.prog (cfg5 k) lim5) (pl5_11 k) (codeAt (bodyOf Try.f5) [.r, .r, .r, .r, .r, .l, .r, .s, .r, .r, .r]) ((fr5_11 k).sh.st v) (injO (fr5_11 k).outs)).left = (body Try.prog (stepper Try.prog (cfg5 k) lim5) (pl5_11 k) (codeAt (bodyOf Try.f5) [.r, .r, .r, .r, .r, .l, .r, .s, .r, .r, .r]) ((fr5_11 k).sh.st v) (injO (fr5_11 k).outs)).right := by kernel_rfl
theorem fr5_11_ok (k : Nat) : FragOK Try.prog lim5 (fr5_11 k) (codeAt (bodyOf Try.f5) [.r, .r, .r, .r, .r, .l, .r, .s, .r, .r, .r]) :=
  frag_ok (cfg5_ok k) (Eq.mpr (pq5_11 k) ⟨(planOK_go _), ⟨(planOK_go _), (fr5_10_ok k)⟩⟩) fun v => ⟨ps5_11 k v, pe5_11 k v⟩
def pl5_12 (k : Nat) : Plan := (.seq .go (.sub (.seq .go (.seq .go (.seq .go (.frag (fr5_11 k)))))))
theorem pq5_12 (k : Nat) : PlanOK Try.prog lim5 (pl5_12 k) (codeAt (bodyOf Try.f5) [.r, .r, .r, .r, .r, .l]) = (PlanOK Try.prog lim5 .go (codeAt (bodyOf Try.f5) [.r, .r, .r, .r, .r, .l, .l]) ∧ (PlanOK Try.prog lim5 .go (codeAt (bodyOf Try.f5) [.r, .r, .r, .r, .r, .l, .r, .s, .l]) ∧ (PlanOK Try.prog lim5 .go (codeAt (bodyOf Try.f5) [.r, .r, .r, .r, .r, .l, .r, .s, .r, .l]) ∧ (PlanOK Try.prog lim5 .go (codeAt (bodyOf Try.f5) [.r, .r, .r, .r, .r, .l, .r, .s, .r, .r, .l]) ∧ FragOK Try.prog lim5 (fr5_11 k) (codeAt (bodyOf Try.f5) [.r, .r, .r, .r, .r, .l, .r, .s, .r, .r, .r]))))) := by kernel_rfl
theorem ps5_12 (k : Nat) (v : (fr5_12 k).sh.V) : (fr5_12 k).impl v = (body Try.prog (stepper Try.prog (cfg5 k) lim5) (pl5_12 k) (codeAt (bodyOf Try.f5) [.r, .r, .r, .r, .r, .l]) ((fr5_12 k).sh.st v) (injO (fr5_12 k).outs)).eval := by kernel_rfl
theorem pe5_12 (k : Nat) (v : (fr5_12 k).sh.V) : (body Try.prog (stepper Try.prog (cfg5 k) lim5) (pl5_12 k) (codeAt (bodyOf Try.f5) [.r, .r, .r, .r, .r, .l]) ((fr5_12 k).sh.st v) (injO (fr5_12 k).outs)).left = (body Try.prog (stepper Try.prog (cfg5 k) lim5) (pl5_12 k) (codeAt (bodyOf Try.f5) [.r, .r, .r, .r, .r, .l]) ((fr5_12 k).sh.st v) (injO (fr5_12 k).outs)).right := by kernel_rfl
theorem fr5_12_ok (k : Nat) : FragOK Try.prog lim5 (fr5_12 k) (codeAt (bodyOf Try.f5) [.r, .r, .r, .r, .r, .l]) :=
  frag_ok (cfg5_ok k) (Eq.mpr (pq5_12 k) ⟨(planOK_go _), ⟨(planOK_go _), ⟨(planOK_go _), ⟨(planOK_go _), (fr5_11_ok k)⟩⟩⟩⟩) fun v => ⟨ps5_12 k v, pe5_12 k v⟩
def pl5 (k : Nat) : Plan := (.seq .go (.seq .go (.seq .go (.seq .go (.seq .go (.seq (.frag (fr5_12 k)) .go))))))
theorem pq5 (k : Nat) : PlanOK Try.prog lim5 (pl5 k) (codeAt (bodyOf Try.f5) []) = (PlanOK Try.prog lim5 .go (codeAt (bodyOf Try.f5) [.l]) ∧ (PlanOK Try.prog lim5 .go (codeAt (bodyOf Try.f5) [.r, .l]) ∧ (PlanOK Try.prog lim5 .go (codeAt (bodyOf Try.f5) [.r, .r, .l]) ∧ (PlanOK Try.prog lim5 .go (codeAt (bodyOf Try.f5) [.r, .r, .r, .l]) ∧ (PlanOK Try.prog lim5 .go (codeAt (bodyOf Try.f5) [.r, .r, .r, .r, .l]) ∧ (FragOK Try.prog lim5 (fr5_12 k) (codeAt (bodyOf Try.f5) [.r, .r, .r, .r, .r, .l]) ∧ PlanOK Try.prog lim5 .go (codeAt (bodyOf Try.f5) [.r, .r, .r, .r, .r, .r]))))))) := by kernel_rfl
theorem ev5 (k : Nat) (x : AT (sp5 k).ps) : (sp5 k).impl x = (fnT Try.prog (cfg5 k) lim5 Try.f5 (bodyOf Try.f5) (pl5 k) (sp5 k) x).eval := by kernel_rfl
theorem eq5 (k : Nat) (x : AT (sp5 k).ps) : (fnT Try.prog (cfg5 k) lim5 Try.f5 (bodyOf Try.f5) (pl5 k) (sp5 k) x).left = (fnT Try.prog (cfg5 k) lim5 Try.f5 (bodyOf Try.f5) (pl5 k) (sp5 k) x).right := by kernel_rfl
theorem v5 (k : Nat) : Callable Try.prog 5 ∧ Valid Try.prog 5 (sp5 k) :=
  fn_ok (cfg5_ok k) (f := 5) (fn := Try.f5) (by kernel_rfl) (c := bodyOf Try.f5) (by kernel_rfl) (by kernel_rfl) rfl rfl (Nat.le_of_ble_eq_true rfl) (Nat.le_of_ble_eq_true rfl) (p := pl5 k) (Eq.mpr (pq5 k) ⟨(planOK_go _), ⟨(planOK_go _), ⟨(planOK_go _), ⟨(planOK_go _), ⟨(planOK_go _), ⟨(fr5_12_ok k), (planOK_go _)⟩⟩⟩⟩⟩⟩) fun x => ⟨ev5 k x, eq5 k x⟩
/-! f6 hyphen/hyphenlaw12.TableSums -/
def F6 (k : Nat) (a0 : (List Int)) (a1 : Int) (a2 : Int) : Option ((Bool × Unit) × Unit) :=
  (F12 k).bind fun r1 =>
  bif (!r1.1.1) then
    some ((false, ()), ())
  else
    let x2 := (((List.length a0 : Nat) : Int) == (0 : Int))
    bif x2 then
      (F23 k a0).bind fun r3 =>
      (F24 k a0).bind fun r4 =>
      some (((r3.1.1 == r4.1.1), ()), ())
    else
      let x5 := (decide (((List.length a0 : Nat) : Int) > (400 : Int)))
      bif x5 then
        (F23 k a0).bind fun r6 =>
        (F24 k a0).bind fun r7 =>
        some (((r6.1.1 == r7.1.1), ()), ())
      else
        if (List.length (List.replicate 0 (0 : Int)) + List.length a0) * (1 * 2) ≤ 281474976710656 ∧ List.length (List.replicate 0 (0 : Int)) + List.length a0 ≤ 9223372036854775807 then
          let x8 := ((List.length ((List.replicate 0 (0 : Int)) ++ a0) : Nat) : Int)
          (F19 k a1 x8).bind fun r9 =>
          if 0 ≤ r9.1.1 ∧ r9.1.1 < ((List.length ((List.replicate 0 (0 : Int)) ++ a0) : Nat) : Int) then
            let x10 := (List.getD ((List.replicate 0 (0 : Int)) ++ a0) (Int.toNat r9.1.1) (0 : Int))
            if 0 ≤ r9.1.1 ∧ r9.1.1 < ((List.length ((List.replicate 0 (0 : Int)) ++ a0) : Nat) : Int) then
              let x11 := (List.set ((List.replicate 0 (0 : Int)) ++ a0) (Int.toNat r9.1.1) (IntKind.wrap .u8 (x10 + a2)))
              (F23 k a0).bind fun r12 =>
              (F24 k a0).bind fun r13 =>
              bif (r12.1.1 == r13.1.1) then
                (F23 k x11).bind fun r14 =>
                (F23 k a0).bind fun r15 =>
                some ((((a2 == (0 : Int)) == (r14.1.1 == r15.1.1)), ()), ())
              else
                some ((false, ()), ())
            else none
          else none
        else none
def sp6 (k : Nat) : Spec := ⟨[.val (.sl false 5 (.int .u8) none), .val (.int .i64), .val (.int .u8)], [.val .bool], fun x => F6 k x.1 x.2.1 x.2.2.1⟩
def lim6 : Lim := ⟨51, 3, false, false⟩
def cfg6 (k : Nat) : Nat → Option Spec := cfgL [(12, sp12 k), (19, sp19 k), (23, sp23 k), (24, sp24 k)]
theorem cfg6_ok (k : Nat) : CfgOK Try.prog (cfg6 k) := cfgL_cons (v12 k) (cfgL_cons (v19 k) (cfgL_cons (v23 k) (cfgL_cons (v24 k) (cfgL_nil))))
def pl6 (k : Nat) : Plan := .go
theorem pq6 (k : Nat) : PlanOK Try.prog lim6 (pl6 k) (codeAt (bodyOf Try.f6) []) = PlanOK Try.prog lim6 .go (codeAt (bodyOf Try.f6) []) := by kernel_rfl
theorem ev6 (k : Nat) (x : AT (sp6 k).ps) : (sp6 k).impl x = (fnT Try.prog (cfg6 k) lim6 Try.f6 (bodyOf Try.f6) (pl6 k) (sp6 k) x).eval := by kernel_rfl
theorem eq6 (k : Nat) (x : AT (sp6 k).ps) : (fnT Try.prog (cfg6 k) lim6 Try.f6 (bodyOf Try.f6) (pl6 k) (sp6 k) x).left = (fnT Try.prog (cfg6 k) lim6 Try.f6 (bodyOf Try.f6) (pl6 k) (sp6 k) x).right := by kernel_rfl
theorem v6 (k : Nat) : Callable Try.prog 6 ∧ Valid Try.prog 6 (sp6 k) :=
  fn_ok (cfg6_ok k) (f := 6) (fn := Try.f6) (by kernel_rfl) (c := bodyOf Try.f6) (by kernel_rfl) (by kernel_rfl) rfl rfl (Nat.le_of_ble_eq_true rfl) (Nat.le_of_ble_eq_true rfl) (p := pl6 k) (Eq.mpr (pq6 k) (planOK_go _)) fun x => ⟨ev6 k x, eq6 k x⟩
/-! f7 hyphen/hyphenlaw12.TableOwn -/
def F7 (k : Nat) (a0 : Int) (a1 : Int) (a2 : (List Int)) (a3 : (List Int)) (a4 : (List Int)) : Option ((Bool × Unit) × Unit) :=
  (F12 k).bind fun r1 =>
  bif (!r1.1.1) then
    some ((false, ()), ())
  else
    (F13 k a0 a1 a2 a3 a4).bind fun r2 =>
    (F13 k a0 a1 a2 a3 a4).bind fun r3 =>
    (F15 k r2.1.1).bind fun r4 =>
    (F16 k r4.1.1).bind fun r5 =>
    bif (!r5.1.2.1) then
      some ((false, ()), ())
    else
      let x6 := (((List.length r5.1.1.1 : Nat) : Int) == (0 : Int))
      bif x6 then
        some ((false, ()), ())
      else
        let x7 := ((List.length r5.1.1.2.2.2.1.2.1 : Nat) : Int)
        bif (x7 == (0 : Int)) then
          some ((false, ()), ())
        else
          if 0 ≤ (0 : Int) ∧ (0 : Int) < ((List.length r5.1.1.2.2.2.1.2.1 : Nat) : Int) then
            let x8 := ((List.length (List.getD r5.1.1.2.2.2.1.2.1 (Int.toNat (0 : Int)) ([] : (List (List Int)))) : Nat) : Int)
            bif (x8 == (0 : Int)) then
              some ((false, ()), ())
            else
              let x9 := (((List.length r5.1.1.2.2.1.1 : Nat) : Int) == (0 : Int))
              bif x9 then
                some ((false, ()), ())
              else
                if 0 ≤ (0 : Int) ∧ (0 : Int) < ((List.length r5.1.1.2.2.1.1 : Nat) : Int) then
                  let x10 := ((List.length (List.getD r5.1.1.2.2.1.1 (Int.toNat (0 : Int)) ([] : (List Int))) : Nat) : Int)
                  bif (x10 == (0 : Int)) then
                    some ((false, ()), ())
                  else
                    if 0 ≤ (0 : Int) ∧ (0 : Int) < ((List.length r5.1.1.2.2.2.1.2.1 : Nat) : Int) then
                      if 0 ≤ (0 : Int) ∧ (0 : Int) < ((List.length r5.1.1.2.2.1.1 : Nat) : Int) then
                        if 0 ≤ (0 : Int) ∧ (0 : Int) < ((List.length r5.1.1.1 : Nat) : Int) then
                          if 0 ≤ (0 : Int) ∧ (0 : Int) < ((List.length (List.getD r5.1.1.2.2.2.1.2.1 (Int.toNat (0 : Int)) ([] : (List (List Int)))) : Nat) : Int) then
                            if 0 ≤ (0 : Int) ∧ (0 : Int) < ((3 : Nat) : Int) then
                              if 0 ≤ (0 : Int) ∧ (0 : Int) < ((List.length (List.getD r5.1.1.2.2.1.1 (Int.toNat (0 : Int)) ([] : (List Int))) : Nat) : Int) then
                                (F16 k r4.1.1).bind fun r14 =>
                                bif r14.1.2.1 then
                                  (F18 k r14.1.1 r3.1.1).bind fun r15 =>
                                  bif r15.1.1 then
                                    (F18 k r2.1.1 r3.1.1).bind fun r16 =>
                                    some ((r16.1.1, ()), ())
                                  else
                                    some ((false, ()), ())
                                else
                                  some ((false, ()), ())
                              else none
                            else none
                          else none
                        else none
                      else none
                    else none
                else none
          else none
def sp7 (k : Nat) : Spec := ⟨[.val (.int .i64), .val (.int .i64), .val (.sl false 3 (.int .i64) none), .val (.sl false 3 (.int .i64) none), .val (.sl false 3 (.int .i64) none)], [.val .bool], fun x => F7 k x.1 x.2.1 x.2.2.1 x.2.2.2.1 x.2.2.2.2.1⟩
def lim7 : Lim := ⟨111, 5, false, false⟩
def cfg7 (k : Nat) : Nat → Option Spec := cfgL [(12, sp12 k), (13, sp13 k), (15, sp15 k), (16, sp16 k), (18, sp18 k)]
theorem cfg7_ok (k : Nat) : CfgOK Try.prog (cfg7 k) := cfgL_cons (v12 k) (cfgL_cons (v13 k) (cfgL_cons (v15 k) (cfgL_cons (v16 k) (cfgL_cons (v18 k) (cfgL_nil)))))
def pl7 (k : Nat) : Plan := .go
theorem pq7 (k : Nat) : PlanOK Try.prog lim7 (pl7 k) (codeAt (bodyOf Try.f7) []) = PlanOK Try.prog lim7 .go (codeAt (bodyOf Try.f7) []) := by kernel_rfl
theorem ev7 (k : Nat) (x : AT (sp7 k).ps) : (sp7 k).impl x = (fnT Try.prog (cfg7 k) lim7 Try.f7 (bodyOf Try.f7) (pl7 k) (sp7 k) x).eval := by kernel_rfl
theorem eq7 (k : Nat) (x : AT (sp7 k).ps) : (fnT Try.prog (cfg7 k) lim7 Try.f7 (bodyOf Try.f7) (pl7 k) (sp7 k) x).left = (fnT Try.prog (cfg7 k) lim7 Try.f7 (bodyOf Try.f7) (pl7 k) (sp7 k) x).right := by kernel_rfl
theorem v7 (k : Nat) : Callable Try.prog 7 ∧ Valid Try.prog 7 (sp7 k) :=
  fn_ok (cfg7_ok k) (f := 7) (fn := Try.f7) (by kernel_rfl) (c := bodyOf Try.f7) (by kernel_rfl) (by kernel_rfl) rfl rfl (Nat.le_of_ble_eq_true rfl) (Nat.le_of_ble_eq_true rfl) (p := pl7 k) (Eq.mpr (pq7 k) (planOK_go _)) fun x => ⟨ev7 k x, eq7 k x⟩
/-! f8 hyphen/hyphenlaw12.TableCut -/
def F8 (k : Nat) (a0 : Int) (a1 : Int) (a2 : (List Int)) (a3 : (List Int)) (a4 : (List Int)) (a5 : Int) (a6 : (List Int)) : Option ((Bool × Unit) × Unit) :=
  (F12 k).bind fun r1 =>
  bif (!r1.1.1) then
    some ((false, ()), ())
  else
    let x2 := (decide (((List.length a6 : Nat) : Int) > (60 : Int)))
    bif x2 then
      some ((true, ()), ())
    else
      (F13 k a0 a1 a2 a3 a4).bind fun r3 =>
      (F15 k r3.1.1).bind fun r4 =>
      let x5 := (decide (((List.length r4.1.1 : Nat) : Int) < (8 : Int)))
      bif x5 then
        some ((false, ()), ())
      else
        (F19 k a5 ((List.length r4.1.1 : Nat) : Int)).bind fun r6 =>
        if 0 ≤ (0 : Int) ∧ (0 : Int) ≤ r6.1.1 ∧ r6.1.1 ≤ ((List.length r4.1.1 : Nat) : Int) then
          let x7 := (Int.toNat r6.1.1 - Int.toNat (0 : Int))
          (F16 k (List.take x7 (List.drop (Int.toNat (0 : Int)) r4.1.1))).bind fun r8 =>
          if 0 ≤ (0 : Int) ∧ (0 : Int) ≤ r6.1.1 ∧ r6.1.1 ≤ ((List.length r4.1.1 : Nat) : Int) then
            let x9 := (Int.toNat r6.1.1 - Int.toNat (0 : Int))
            (F21 k (List.take x9 (List.drop (Int.toNat (0 : Int)) r4.1.1))).bind fun r10 =>
            if (List.length (List.replicate 0 (0 : Int)) + List.length r4.1.1) * (1 * 2) ≤ 281474976710656 ∧ List.length (List.replicate 0 (0 : Int)) + List.length r4.1.1 ≤ 9223372036854775807 then
              if (List.length ((List.replicate 0 (0 : Int)) ++ r4.1.1) + List.length a6) * (1 * 2) ≤ 281474976710656 ∧ List.length ((List.replicate 0 (0 : Int)) ++ r4.1.1) + List.length a6 ≤ 9223372036854775807 then
                let x11 := (((List.replicate 0 (0 : Int)) ++ r4.1.1) ++ a6)
                (F16 k x11).bind fun r12 =>
                if (List.length (List.replicate 0 (0 : Int)) + List.length r4.1.1) * (1 * 2) ≤ 281474976710656 ∧ List.length (List.replicate 0 (0 : Int)) + List.length r4.1.1 ≤ 9223372036854775807 then
                  if (List.length ((List.replicate 0 (0 : Int)) ++ r4.1.1) + List.length a6) * (1 * 2) ≤ 281474976710656 ∧ List.length ((List.replicate 0 (0 : Int)) ++ r4.1.1) + List.length a6 ≤ 9223372036854775807 then
                    let x13 := (((List.replicate 0 (0 : Int)) ++ r4.1.1) ++ a6)
                    (F21 k x13).bind fun r14 =>
                    let x15 := (IntKind.wrap .i64 (((List.length r4.1.1 : Nat) : Int) - (8 : Int)))
                    if 0 ≤ (0 : Int) ∧ (0 : Int) ≤ x15 ∧ x15 ≤ ((List.length r4.1.1 : Nat) : Int) then
                      let x16 := (Int.toNat x15 - Int.toNat (0 : Int))
                      if (List.length (List.replicate 0 (0 : Int)) + List.length (List.take x16 (List.drop (Int.toNat (0 : Int)) r4.1.1))) * (1 * 2) ≤ 281474976710656 ∧ List.length (List.replicate 0 (0 : Int)) + List.length (List.take x16 (List.drop (Int.toNat (0 : Int)) r4.1.1)) ≤ 9223372036854775807 then
                        let x17 := ((List.replicate 0 (0 : Int)) ++ (List.take x16 (List.drop (Int.toNat (0 : Int)) r4.1.1)))
                        let x18 := (List.set (List.replicate 1 (0 : Int)) 0 (0 : Int))
                        if (List.length x17 + List.length x18) * (1 * 2) ≤ 281474976710656 ∧ List.length x17 + List.length x18 ≤ 9223372036854775807 then
                          (F20 k (x17 ++ x18)).bind fun r19 =>
                          (F16 k r19.1.1).bind fun r20 =>
                          bif (r8.1.2.1 == r10.1.2.1) then
                            bif (r12.1.2.1 == r14.1.2.1) then
                              some (((!r20.1.2.1), ()), ())
                            else
                              some ((false, ()), ())
                          else
                            some ((false, ()), ())
                        else none
                      else none
                    else none
                  else none
                else none
              else none
            else none
          else none
        else none
def sp8 (k : Nat) : Spec := ⟨[.val (.int .i64), .val (.int .i64), .val (.sl false 3 (.int .i64) none), .val (.sl false 3 (.int .i64) none), .val (.sl false 3 (.int .i64) none), .val (.int .i64), .val (.sl false 5 (.int .u8) none)], [.val .bool], fun x => F8 k x.1 x.2.1 x.2.2.1 x.2.2.2.1 x.2.2.2.2.1 x.2.2.2.2.2.1 x.2.2.2.2.2.2.1⟩
def lim8 : Lim := ⟨104, 7, false, false⟩
def cfg8 (k : Nat) : Nat → Option Spec := cfgL [(12, sp12 k), (13, sp13 k), (15, sp15 k), (16, sp16 k), (19, sp19 k), (20, sp20 k), (21, sp21 k)]
theorem cfg8_ok (k : Nat) : CfgOK Try.prog (cfg8 k) := cfgL_cons (v12 k) (cfgL_cons (v13 k) (cfgL_cons (v15 k) (cfgL_cons (v16 k) (cfgL_cons (v19 k) (cfgL_cons (v20 k) (cfgL_cons (v21 k) (cfgL_nil)))))))
def pl8 (k : Nat) : Plan := .go
theorem pq8 (k : Nat) : PlanOK Try.prog lim8 (pl8 k) (codeAt (bodyOf Try.f8) []) = PlanOK Try.prog lim8 .go (codeAt (bodyOf Try.f8) []) := by kernel_rfl
theorem ev8 (k : Nat) (x : AT (sp8 k).ps) : (sp8 k).impl x = (fnT Try.prog (cfg8 k) lim8 Try.f8 (bodyOf Try.f8) (pl8 k) (sp8 k) x).eval := by kernel_rfl
theorem eq8 (k : Nat) (x : AT (sp8 k).ps) : (fnT Try.prog (cfg8 k) lim8 Try.f8 (bodyOf Try.f8) (pl8 k) (sp8 k) x).left = (fnT Try.prog (cfg8 k) lim8 Try.f8 (bodyOf Try.f8) (pl8 k) (sp8 k) x).right := by kernel_rfl
theorem v8 (k : Nat) : Callable Try.prog 8 ∧ Valid Try.prog 8 (sp8 k) :=
  fn_ok (cfg8_ok k) (f := 8) (fn := Try.f8) (by kernel_rfl) (c := bodyOf Try.f8) (by kernel_rfl) (by kernel_rfl) rfl rfl (Nat.le_of_ble_eq_true rfl) (Nat.le_of_ble_eq_true rfl) (p := pl8 k) (Eq.mpr (pq8 k) (planOK_go _)) fun x => ⟨ev8 k x, eq8 k x⟩
/-! f9 hyphen/hyphenlaw12.TableSizes -/
def F9_0 (k : Nat) : Nat → Int → Int → ((List Int) × ((List Int) × (((List (List Int)) × ((List Int) × Unit)) × (((List (List Int)) × ((List (List (List Int))) × Unit)) × Unit)))) → Option (((Int × Unit) × (((List Int) × ((List Int) × (((List (List Int)) × ((List Int) × Unit)) × (((List (List Int)) × ((List (List (List Int))) × Unit)) × Unit)))) × Unit)))
  | 0, _, _, _ => none
  | n + 1, t12, t13, c11 =>
    let x11 := (decide (t13 < ((List.length c11.2.2.1.1 : Nat) : Int)))
    bif x11 then
      if 0 ≤ t13 ∧ t13 < ((List.length c11.2.2.1.1 : Nat) : Int) then
        let x12 := ((List.length (List.getD c11.2.2.1.1 (Int.toNat t13) ([] : (List Int))) : Nat) : Int)
        let x13 := (IntKind.wrap .i64 ((IntKind.wrap .i64 (t12 + (1 : Int))) + x12))
        (F9_0 k n x13 (IntKind.wrap .i64 (t13 + (1 : Int))) c11).bind some
      else none
    else
      some ((t12, ()), (c11, ()))
def fr9_0 (k : Nat) : Frag := ⟨⟨[], [(11, .ptr 11 []), (12, .val (.int .i64)), (13, .val (.int .i64))], [(11, some 31, (.pair (.sl true 3 (.int .i64) none) (.pair (.sl true 3 (.int .i64) none) (.pair (.pair (.sl true 22 (.sl true 3 (.int .i64) none) none) (.pair (.sl true 3 (.int .i64) none) .unit)) (.pair (.pair (.sl true 22 (.sl true 3 (.int .i64) none) none) (.pair (.sl true 46 (.sl true 45 (.arr 3 (.int .i64)) none) none) .unit)) .unit)))))]⟩, [(.exit 0, ⟨[], [(11, .ptr 11 []), (12, .val (.int .i64))], [(11, some 31, (.pair (.sl true 3 (.int .i64) none) (.pair (.sl true 3 (.int .i64) none) (.pair (.pair (.sl true 22 (.sl true 3 (.int .i64) none) none) (.pair (.sl true 3 (.int .i64) none) .unit)) (.pair (.pair (.sl true 22 (.sl true 3 (.int .i64) none) none) (.pair (.sl true 46 (.sl true 45 (.arr 3 (.int .i64)) none) none) .unit)) .unit)))))]⟩)], fun v => F9_0 k k v.1.1 v.1.2.1 v.2.1⟩
def F9_1 (k : Nat) : Nat → Int → Int → ((List Int) × ((List Int) × (((List (List Int)) × ((List Int) × Unit)) × (((List (List Int)) × ((List (List (List Int))) × Unit)) × Unit)))) → Option (((Int × Unit) × (((List Int) × ((List Int) × (((List (List Int)) × ((List Int) × Unit)) × (((List (List Int)) × ((List (List (List Int))) × Unit)) × Unit)))) × Unit)))
  | 0, _, _, _ => none
  | n + 1, t12, t14, c11 =>
    let x22 := (decide (t14 < ((List.length c11.2.2.2.1.1 : Nat) : Int)))
    bif x22 then
      if 0 ≤ t14 ∧ t14 < ((List.length c11.2.2.2.1.1 : Nat) : Int) then
        let x23 := ((List.length (List.getD c11.2.2.2.1.1 (Int.toNat t14) ([] : (List Int))) : Nat) : Int)
        let x24 := (IntKind.wrap .i64 ((IntKind.wrap .i64 (t12 + (1 : Int))) + x23))
        if 0 ≤ t14 ∧ t14 < ((List.length c11.2.2.2.1.2.1 : Nat) : Int) then
          let x25 := ((List.length (List.getD c11.2.2.2.1.2.1 (Int.toNat t14) ([] : (List (List Int)))) : Nat) : Int)
          let x26 := (IntKind.wrap .i64 ((IntKind.wrap .i64 (x24 + (1 : Int))) + (IntKind.wrap .i64 ((3 : Int) * x25))))
          (F9_1 k n x26 (IntKind.wrap .i64 (t14 + (1 : Int))) c11).bind some
        else none
      else none
    else
      some ((t12, ()), (c11, ()))
def fr9_1 (k : Nat) : Frag := ⟨⟨[], [(11, .ptr 11 []), (12, .val (.int .i64)), (14, .val (.int .i64))], [(11, some 31, (.pair (.sl true 3 (.int .i64) none) (.pair (.sl true 3 (.int .i64) none) (.pair (.pair (.sl true 22 (.sl true 3 (.int .i64) none) none) (.pair (.sl true 3 (.int .i64) none) .unit)) (.pair (.pair (.sl true 22 (.sl true 3 (.int .i64) none) none) (.pair (.sl true 46 (.sl true 45 (.arr 3 (.int .i64)) none) none) .unit)) .unit)))))]⟩, [(.exit 2, ⟨[], [(11, .ptr 11 []), (12, .val (.int .i64))], [(11, some 31, (.pair (.sl true 3 (.int .i64) none) (.pair (.sl true 3 (.int .i64) none) (.pair (.pair (.sl true 22 (.sl true 3 (.int .i64) none) none) (.pair (.sl true 3 (.int .i64) none) .unit)) (.pair (.pair (.sl true 22 (.sl true 3 (.int .i64) none) none) (.pair (.sl true 46 (.sl true 45 (.arr 3 (.int .i64)) none) none) .unit)) .unit)))))]⟩)], fun v => F9_1 k k v.1.1 v.1.2.1 v.2.1⟩
def F9 (k : Nat) (a0 : Int) (a1 : Int) (a2 : (List Int)) (a3 : (List Int)) (a4 : (List Int)) : Option ((Bool × Unit) × Unit) :=
  (F12 k).bind fun r1 =>
  bif (!r1.1.1) then
    some ((false, ()), ())
  else
    (F13 k a0 a1 a2 a3 a4).bind fun r2 =>
    let x3 := (IntKind.wrap .i64 ((1 : Int) + ((List.length r2.1.1.1 : Nat) : Int)))
    let x4 := (IntKind.wrap .i64 ((IntKind.wrap .i64 (x3 + (1 : Int))) + ((List.length r2.1.1.2.1 : Nat) : Int)))
    let x5 := (IntKind.wrap .i64 ((IntKind.wrap .i64 (x4 + (1 : Int))) + (1 : Int)))
    let x6 := (IntKind.wrap .i64 (x5 + ((List.length r2.1.1.2.2.1.2.1 : Nat) : Int)))
    let x7 := (IntKind.wrap .i64 ((IntKind.wrap .i64 (x6 + (1 : Int))) + (1 : Int)))
    (F9_0 k k (IntKind.wrap .i64 (x7 + (1 : Int))) (0 : Int) r2.1.1).bind fun r14 =>
    let y15 := r14.1.1
    let y16 := r14.2.1
    (F9_1 k k y15 (0 : Int) y16).bind fun r27 =>
    let y28 := r27.1.1
    let y29 := r27.2.1
    (F15 k y29).bind fun r30 =>
    let x31 := (((List.length r30.1.1 : Nat) : Int) == (IntKind.wrap .i64 ((8 : Int) * y28)))
    some ((x31, ()), ())
def sp9 (k : Nat) : Spec := ⟨[.val (.int .i64), .val (.int .i64), .val (.sl false 3 (.int .i64) none), .val (.sl false 3 (.int .i64) none), .val (.sl false 3 (.int .i64) none)], [.val .bool], fun x => F9 k x.1 x.2.1 x.2.2.1 x.2.2.2.1 x.2.2.2.2.1⟩
def lim9 : Lim := ⟨94, 5, false, false⟩
def cfg9 (k : Nat) : Nat → Option Spec := cfgL [(12, sp12 k), (13, sp13 k), (15, sp15 k)]
theorem cfg9_ok (k : Nat) : CfgOK Try.prog (cfg9 k) := cfgL_cons (v12 k) (cfgL_cons (v13 k) (cfgL_cons (v15 k) (cfgL_nil)))
def pl9_0 (k : Nat) : Plan := .go
theorem pq9_0 (k : Nat) : PlanOK Try.prog lim9 (pl9_0 k) (codeAt (bodyOf Try.f9) [.r, .r, .r, .r, .l, .r, .s, .b]) = PlanOK Try.prog lim9 .go (codeAt (bodyOf Try.f9) [.r, .r, .r, .r, .l, .r, .s, .b]) := by kernel_rfl
theorem ps9_0 (k m : Nat) (v : (fr9_0 k).sh.V) : F9_0 k (m + 1) v.1.1 v.1.2.1 v.2.1 = (body Try.prog (stepper Try.prog (cfg9 k) lim9) (pl9_0 k) (codeAt (bodyOf Try.f9) [.r, .r, .r, .r, .l, .r, .s, .b]) ((fr9_0 k).sh.st v) (loopK (fr9_0 k) fun v => F9_0 k m v.1.1 v.1.2.1 v.2.1)).eval := by kernel_rfl
theorem pe9_0 (k m : Nat) (v : (fr9_0 k).sh.V) : (body Try.prog (stepper Try.prog (cfg9 k) lim9) (pl9_0 k) (codeAt (bodyOf Try.f9) [.r, .r, .r, .r, .l, .r, .s, .b]) ((fr9_0 k).sh.st v) (loopK (fr9_0 k) fun v => F9_0 k m v.1.1 v.1.2.1 v.2.1)).left = (body Try.prog (stepper Try.prog (cfg9 k) lim9) (pl9_0 k) (codeAt (bodyOf Try.f9) [.r, .r, .r, .r, .l, .r, .s, .b]) ((fr9_0 k).sh.st v) (loopK (fr9_0 k) fun v => F9_0 k m v.1.1 v.1.2.1 v.2.1)).right := by kernel_rfl
theorem fr9_0_ok (k : Nat) : FragOK Try.prog lim9 (fr9_0 k) (codeAt (bodyOf Try.f9) [.r, .r, .r, .r, .l, .r, .s]) :=
  frag_cast (by kernel_rfl) (loop_ok (cfg9_ok k) (Eq.mpr (pq9_0 k) (planOK_go _)) (fun m v => F9_0 k m v.1.1 v.1.2.1 v.2.1) k (fun _ => rfl) (fun _ => rfl) fun m v => ⟨ps9_0 k m v, pe9_0 k m v⟩)
def pl9_1 (k : Nat) : Plan := .go
theorem pq9_1 (k : Nat) : PlanOK Try.prog lim9 (pl9_1 k) (codeAt (bodyOf Try.f9) [.r, .r, .r, .r, .r, .l, .r, .s, .b]) = PlanOK Try.prog lim9 .go (codeAt (bodyOf Try.f9) [.r, .r, .r, .r, .r, .l, .r, .s, .b]) := by kernel_rfl
theorem ps9_1 (k m : Nat) (v : (fr9_1 k).sh.V) : F9_1 k (m + 1) v.1.1 v.1.2.1 v.2.1 = (body Try.prog (stepper Try.prog (cfg9 k) lim9) (pl9_1 k) (codeAt (bodyOf Try.f9) [.r, .r, .r, .r, .r, .l, .r, .s, .b]) ((fr9_1 k).sh.st v) (loopK (fr9_1 k) fun v => F9_1 k m v.1.1 v.1.2.1 v.2.1)).eval := by kernel_rfl
theorem pe9_1 (k m : Nat) (v : (fr9_1 k).sh.V) : (body Try.prog (stepper Try.prog (cfg9 k) lim9) (pl9_1 k) (codeAt (bodyOf Try.f9) [.r, .r, .r, .r, .r, .l, .r, .s, .b]) ((fr9_1 k).sh.st v) (loopK (fr9_1 k) fun v => F9_1 k m v.1.1 v.1.2.1 v.2.1)).left = (body Try.prog (stepper Try.prog (cfg9 k) lim9) (pl9_1 k) (codeAt (bodyOf Try.f9) [.r, .r, .r, .r, .r, .l, .r, .s, .b]) ((fr9_1 k).sh.st v) (loopK (fr9_1 k) fun v => F9_1 k m v.1.1 v.1.2.1 v.2.1)).right := by kernel_rfl
theorem fr9_1_ok (k : Nat) : FragOK Try.prog lim9 (fr9_1 k) (codeAt (bodyOf Try.f9) [.r, .r, .r, .r, .r, .l, .r, .s]) :=
  frag_cast (by kernel_rfl) (loop_ok (cfg9_ok k) (Eq.mpr (pq9_1 k) (planOK_go _)) (fun m v => F9_1 k m v.1.1 v.1.2.1 v.2.1) k (fun _ => rfl) (fun _ => rfl) fun m v => ⟨ps9_1 k m v, pe9_1 k m v⟩)
def pl9 (k : Nat) : Plan := (.seq .go (.seq .go (.seq .go (.seq .go (.seq (.seq .go (.sub (.frag (fr9_0 k)))) (.seq (.seq .go (.sub (.frag (fr9_1 k)))) .go))))))
theorem pq9 (k : Nat) : PlanOK Try.prog lim9 (pl9 k) (codeAt (bodyOf Try.f9) []) = (PlanOK Try.prog lim9 .go (codeAt (bodyOf Try.f9) [.l]) ∧ (PlanOK Try.prog lim9 .go (codeAt (bodyOf Try.f9) [.r, .l]) ∧ (PlanOK Try.prog lim9 .go (codeAt (bodyOf Try.f9) [.r, .r, .l]) ∧ (PlanOK Try.prog lim9 .go (codeAt (bodyOf Try.f9) [.r, .r, .r, .l]) ∧ ((PlanOK Try.prog lim9 .go (codeAt (bodyOf Try.f9) [.r, .r, .r, .r, .l, .l]) ∧ FragOK Try.prog lim9 (fr9_0 k) (codeAt (bodyOf Try.f9) [.r, .r, .r, .r, .l, .r, .s])) ∧ ((PlanOK Try.prog lim9 .go (codeAt (bodyOf Try.f9) [.r, .r, .r, .r, .r, .l, .l]) ∧ FragOK Try.prog lim9 (fr9_1 k) (codeAt (bodyOf Try.f9) [.r, .r, .r, .r, .r, .l, .r, .s])) ∧ PlanOK Try.prog lim9 .go (codeAt (bodyOf Try.f9) [.r, .r, .r, .r, .r, .r]))))))) := by kernel_rfl
theorem ev9 (k : Nat) (x : AT (sp9 k).ps) : (sp9 k).impl x = (fnT Try.prog (cfg9 k) lim9 Try.f9 (bodyOf Try.f9) (pl9 k) (sp9 k) x).eval := by kernel_rfl
theorem eq9 (k : Nat) (x : AT (sp9 k).ps) : (fnT Try.prog (cfg9 k) lim9 Try.f9 (bodyOf Try.f9) (pl9 k) (sp9 k) x).left = (fnT Try.prog (cfg9 k) lim9 Try.f9 (bodyOf Try.f9) (pl9 k) (sp9 k) x).right := by kernel_rfl
theorem v9 (k : Nat) : Callable Try.prog 9 ∧ Valid Try.prog 9 (sp9 k) :=
  fn_ok (cfg9_ok k) (f := 9) (fn := Try.f9) (by kernel_rfl) (c := bodyOf Try.f9) (by kernel_rfl) (by kernel_rfl) rfl rfl (Nat.le_of_ble_eq_true rfl) (Nat.le_of_ble_eq_true rfl) (p := pl9 k) (Eq.mpr (pq9 k) ⟨(planOK_go _), ⟨(planOK_go _), ⟨(planOK_go _), ⟨(planOK_go _), ⟨⟨(planOK_go _), (fr9_0_ok k)⟩, ⟨⟨(planOK_go _), (fr9_1_ok k)⟩, (planOK_go _)⟩⟩⟩⟩⟩⟩) fun x => ⟨ev9 k x, eq9 k x⟩
/-! f56 hyphen/hyphenlaw12.ints -/
def F56_0 (k : Nat) : Nat → (List Int) → (List Int) → Int → Option ((Unit × Unit) ⊕ ((Bool × Unit) × Unit))
  | 0, _, _, _ => none
  | n + 1, t0, t1, t5 =>
    let x4 := (decide (t5 < ((List.length t0 : Nat) : Int)))
    bif x4 then
      if 0 ≤ t5 ∧ t5 < ((List.length t0 : Nat) : Int) then
        if 0 ≤ t5 ∧ t5 < ((List.length t1 : Nat) : Int) then
          let x5 := ((List.getD t0 (Int.toNat t5) (0 : Int)) != (List.getD t1 (Int.toNat t5) (0 : Int)))
          bif x5 then
            some (.inr ((false, ()), ()))
          else
            (F56_0 k n t0 t1 (IntKind.wrap .i64 (t5 + (1 : Int)))).bind some
        else none
      else none
    else
      some (.inl ((), ()))
def fr56_0 (k : Nat) : Frag := ⟨⟨[], [(0, .val (.sl false 3 (.int .i64) none)), (1, .val (.sl false 3 (.int .i64) none)), (5, .val (.int .i64))], []⟩, [(.exit 0, ⟨[], [], []⟩), (.ret, ⟨[], [(4, .val .bool)], []⟩)], fun v => F56_0 k k v.1.1 v.1.2.1 v.1.2.2.1⟩
def F56 (k : Nat) (a0 : (List Int)) (a1 : (List Int)) : Option ((Bool × Unit) × Unit) :=
  let x1 := (((List.length a0 : Nat) : Int) != ((List.length a1 : Nat) : Int))
  bif x1 then
    some ((false, ()), ())
  else
    (F56_0 k k a0 a1 (0 : Int)).bind fun r6 =>
    match r6 with
    | .inl r7 =>
      some ((true, ()), ())
    | .inr r7 =>
      let y8 := r7.1.1
      some ((y8, ()), ())
def sp56 (k : Nat) : Spec := ⟨[.val (.sl false 3 (.int .i64) none), .val (.sl false 3 (.int .i64) none)], [.val .bool], fun x => F56 k x.1 x.2.1⟩
def lim56 : Lim := ⟨26, 2, false, false⟩
def cfg56 (k : Nat) : Nat → Option Spec := cfgL []
theorem cfg56_ok (k : Nat) : CfgOK Try.prog (cfg56 k) := cfgL_nil
def pl56_0 (k : Nat) : Plan := .go
theorem pq56_0 (k : Nat) : PlanOK Try.prog lim56 (pl56_0 k) (codeAt (bodyOf Try.f56) [.r, .r, .l, .r, .s, .b]) = PlanOK Try.prog lim56 .go (codeAt (bodyOf Try.f56) [.r, .r, .l, .r, .s, .b]) := by kernel_rfl
theorem ps56_0 (k m : Nat) (v : (fr56_0 k).sh.V) : F56_0 k (m + 1) v.1.1 v.1.2.1 v.1.2.2.1 = (body Try.prog (stepper Try.prog (cfg56 k) lim56) (pl56_0 k) (codeAt (bodyOf Try.f56) [.r, .r, .l, .r, .s, .b]) ((fr56_0 k).sh.st v) (loopK (fr56_0 k) fun v => F56_0 k m v.1.1 v.1.2.1 v.1.2.2.1)).eval := by kernel_rfl
theorem pe56_0 (k m : Nat) (v : (fr56_0 k).sh.V) : (body Try.prog (stepper Try.prog (cfg56 k) lim56) (pl56_0 k) (codeAt (bodyOf Try.f56) [.r, .r, .l, .r, .s, .b]) ((fr56_0 k).sh.st v) (loopK (fr56_0 k) fun v => F56_0 k m v.1.1 v.1.2.1 v.1.2.2.1)).left = (body Try.prog (stepper Try.prog (cfg56 k) lim56) (pl56_0 k) (codeAt (bodyOf Try.f56) [.r, .r, .l, .r, .s, .b]) ((fr56_0 k).sh.st v) (loopK (fr56_0 k) fun v => F56_0 k m v.1.1 v.1.2.1 v.1.2.2.1)).right := by kernel_rfl
theorem fr56_0_ok (k : Nat) : FragOK Try.prog lim56 (fr56_0 k) (codeAt (bodyOf Try.f56) [.r, .r, .l, .r, .s]) :=
  frag_cast (by kernel_rfl) (loop_ok (cfg56_ok k) (Eq.mpr (pq56_0 k) (planOK_go _)) (fun m v => F56_0 k m v.1.1 v.1.2.1 v.1.2.2.1) k (fun _ => rfl) (fun _ => rfl) fun m v => ⟨ps56_0 k m v, pe56_0 k m v⟩)
def pl56 (k : Nat) : Plan := (.seq .go (.seq .go (.seq (.seq .go (.sub (.frag (fr56_0 k)))) .go)))
theorem pq56 (k : Nat) : PlanOK Try.prog lim56 (pl56 k) (codeAt (bodyOf Try.f56) []) = (PlanOK Try.prog lim56 .go (codeAt (bodyOf Try.f56) [.l]) ∧ (PlanOK Try.prog lim56 .go (codeAt (bodyOf Try.f56) [.r, .l]) ∧ ((PlanOK Try.prog lim56 .go (codeAt (bodyOf Try.f56) [.r, .r, .l, .l]) ∧ FragOK Try.prog lim56 (fr56_0 k) (codeAt (bodyOf Try.f56) [.r, .r, .l, .r, .s])) ∧ PlanOK Try.prog lim56 .go (codeAt (bodyOf Try.f56) [.r, .r, .r])))) := by kernel_rfl
theorem ev56 (k : Nat) (x : AT (sp56 k).ps) : (sp56 k).impl x = (fnT Try.prog (cfg56 k) lim56 Try.f56 (bodyOf Try.f56) (pl56 k) (sp56 k) x).eval := by kernel_rfl
theorem eq56 (k : Nat) (x : AT (sp56 k).ps) : (fnT Try.prog (cfg56 k) lim56 Try.f56 (bodyOf Try.f56) (pl56 k) (sp56 k) x).left = (fnT Try.prog (cfg56 k) lim56 Try.f56 (bodyOf Try.f56) (pl56 k) (sp56 k) x).right := by kernel_rfl
theorem v56 (k : Nat) : Callable Try.prog 56 ∧ Valid Try.prog 56 (sp56 k) :=
  fn_ok (cfg56_ok k) (f := 56) (fn := Try.f56) (by kernel_rfl) (c := bodyOf Try.f56) (by kernel_rfl) (by kernel_rfl) rfl rfl (Nat.le_of_ble_eq_true rfl) (Nat.le_of_ble_eq_true rfl) (p := pl56 k) (Eq.mpr (pq56 k) ⟨(planOK_go _), ⟨(planOK_go _), ⟨⟨(planOK_go _), (fr56_0_ok k)⟩, (planOK_go _)⟩⟩⟩) fun x => ⟨ev56 k x, eq56 k x⟩
/-! f25 hyphen/hyphenlaw12.same -/
def F25_0 (k : Nat) : Nat → Int → ((List Int) × ((List Int) × (((List (List Int)) × ((List Int) × Unit)) × (((List (List Int)) × ((List (List (List Int))) × Unit)) × Unit)))) → ((List Int) × ((List Int) × (((List (List Int)) × ((List Int) × Unit)) × (((List (List Int)) × ((List (List (List Int))) × Unit)) × Unit)))) → Option ((Unit × (((List Int) × ((List Int) × (((List (List Int)) × ((List Int) × Unit)) × (((List (List Int)) × ((List (List (List Int))) × Unit)) × Unit)))) × ((List Int) × ((List Int) × (((List (List Int)) × ((List Int) × Unit)) × (((List (List Int)) × ((List (List (List Int))) × Unit)) × Unit)))) × Unit)) ⊕ ((Bool × Unit) × Unit))
  | 0, _, _, _ => none
  | n + 1, t5, c2, c3 =>
    let x11 := (decide (t5 < ((List.length c2.2.2.1.1 : Nat) : Int)))
    bif x11 then
      if 0 ≤ t5 ∧ t5 < ((List.length c2.2.2.1.1 : Nat) : Int) then
        let x12 := (List.getD c2.2.2.1.1 (Int.toNat t5) ([] : (List Int)))
        if 0 ≤ t5 ∧ t5 < ((List.length c3.2.2.1.1 : Nat) : Int) then
          let x13 := (List.getD c3.2.2.1.1 (Int.toNat t5) ([] : (List Int)))
          (F56 k x12 x13).bind fun r14 =>
          bif (!r14.1.1) then
            some (.inr ((false, ()), ()))
          else
            (F25_0 k n (IntKind.wrap .i64 (t5 + (1 : Int))) c2 c3).bind some
        else none
      else none
    else
      some (.inl ((), (c2, c3, ())))
def fr25_0 (k : Nat) : Frag := ⟨⟨[], [(2, .ptr 2 []), (3, .ptr 3 []), (5, .val (.int .i64))], [(2, some 31, (.pair (.sl false 3 (.int .i64) none) (.pair (.sl false 3 (.int .i64) none) (.pair (.pair (.sl false 22 (.sl false 3 (.int .i64) none) none) (.pair (.sl false 3 (.int .i64) none) .unit)) (.pair (.pair (.sl false 22 (.sl false 3 (.int .i64) none) none) (.pair (.sl false 46 (.sl false 45 (.arr 3 (.int .i64)) none) none) .unit)) .unit))))), (3, some 31, (.pair (.sl false 3 (.int .i64) none) (.pair (.sl false 3 (.int .i64) none) (.pair (.pair (.sl false 22 (.sl false 3 (.int .i64) none) none) (.pair (.sl false 3 (.int .i64) none) .unit)) (.pair (.pair (.sl false 22 (.sl false 3 (.int .i64) none) none) (.pair (.sl false 46 (.sl false 45 (.arr 3 (.int .i64)) none) none) .unit)) .unit)))))]⟩, [(.exit 0, ⟨[], [(2, .ptr 2 []), (3, .ptr 3 [])], [(2, some 31, (.pair (.sl false 3 (.int .i64) none) (.pair (.sl false 3 (.int .i64) none) (.pair (.pair (.sl false 22 (.sl false 3 (.int .i64) none) none) (.pair (.sl false 3 (.int .i64) none) .unit)) (.pair (.pair (.sl false 22 (.sl false 3 (.int .i64) none) none) (.pair (.sl false 46 (.sl false 45 (.arr 3 (.int .i64)) none) none) .unit)) .unit))))), (3, some 31, (.pair (.sl false 3 (.int .i64) none) (.pair (.sl false 3 (.int .i64) none) (.pair (.pair (.sl false 22 (.sl false 3 (.int .i64) none) none) (.pair (.sl false 3 (.int .i64) none) .unit)) (.pair (.pair (.sl false 22 (.sl false 3 (.int .i64) none) none) (.pair (.sl false 46 (.sl false 45 (.arr 3 (.int .i64)) none) none) .unit)) .unit)))))]⟩), (.ret, ⟨[], [(4, .val .bool)], []⟩)], fun v => F25_0 k k v.1.1 v.2.1 v.2.2.1⟩
def F25_1 (k : Nat) : Nat → Int → Int → (List (List (List Int))) → Int → (List (List Int)) → (List (List Int)) → Int → (List (List (List Int))) → Int → (List (List Int)) → (List (List Int)) → Int → Bool → ((List Int) × ((List Int) × (((List (List Int)) × ((List Int) × Unit)) × (((List (List Int)) × ((List (List (List Int))) × Unit)) × Unit)))) → ((List Int) × ((List Int) × (((List (List Int)) × ((List Int) × Unit)) × (((List (List Int)) × ((List (List (List Int))) × Unit)) × Unit)))) → Option (((Int × (List (List (List Int))) × Int × (List (List Int)) × (List (List Int)) × Int × (List (List (List Int))) × Int × (List (List Int)) × (List (List Int)) × Int × Bool × Unit) × (((List Int) × ((List Int) × (((List (List Int)) × ((List Int) × Unit)) × (((List (List Int)) × ((List (List (List Int))) × Unit)) × Unit)))) × ((List Int) × ((List Int) × (((List (List Int)) × ((List Int) × Unit)) × (((List (List Int)) × ((List (List (List Int))) × Unit)) × Unit)))) × Unit)) ⊕ ((Bool × Unit) × Unit))
  | 0, _, _, _, _, _, _, _, _, _, _, _, _, _, _, _ => none
  | n + 1, t6, t7, t112, t113, t114, t115, t116, t119, t120, t121, t122, t123, t124, c2, c3 =>
    if 0 ≤ t6 ∧ t6 < ((List.length c2.2.2.2.1.2.1 : Nat) : Int) then
      let x32 := (List.getD c2.2.2.2.1.2.1 (Int.toNat t6) ([] : (List (List Int))))
      let x33 := (decide (t7 < ((List.length x32 : Nat) : Int)))
      bif x33 then
        if 0 ≤ t6 ∧ t6 < ((List.length c2.2.2.2.1.2.1 : Nat) : Int) then
          let x34 := (List.getD c2.2.2.2.1.2.1 (Int.toNat t6) ([] : (List (List Int))))
          if 0 ≤ t7 ∧ t7 < ((List.length x34 : Nat) : Int) then
            let x35 := (List.getD x34 (Int.toNat t7) ([] : (List Int)))
            if 0 ≤ t6 ∧ t6 < ((List.length c3.2.2.2.1.2.1 : Nat) : Int) then
              let x36 := (List.getD c3.2.2.2.1.2.1 (Int.toNat t6) ([] : (List (List Int))))
              if 0 ≤ t7 ∧ t7 < ((List.length x36 : Nat) : Int) then
                let x37 := (List.getD x36 (Int.toNat t7) ([] : (List Int)))
                bif (!(x35 == x37)) then
                  some (.inr ((false, ()), ()))
                else
                  (F25_1 k n t6 (IntKind.wrap .i64 (t7 + (1 : Int))) t112 t113 t114 t115 t116 t119 t120 t121 t122 t123 t124 c2 c3).bind some
              else none
            else none
          else none
        else none
      else
        some (.inl ((t6, t112, t113, t114, t115, t116, t119, t120, t121, t122, t123, t124, ()), (c2, c3, ())))
    else none
def fr25_1 (k : Nat) : Frag := ⟨⟨[], [(2, .ptr 2 []), (3, .ptr 3 []), (6, .val (.int .i64)), (7, .val (.int .i64)), (110, .ptr 2 [.snd, .snd, .snd, .fst]), (111, .ptr 2 [.snd, .snd, .snd, .fst, .snd, .fst]), (112, .val (.sl false 46 (.sl false 45 (.arr 3 (.int .i64)) none) none)), (113, .val (.int .i64)), (114, .eptr (.sl false 45 (.arr 3 (.int .i64)) none)), (115, .val (.sl false 45 (.arr 3 (.int .i64)) none)), (116, .val (.int .i64)), (117, .ptr 3 [.snd, .snd, .snd, .fst]), (118, .ptr 3 [.snd, .snd, .snd, .fst, .snd, .fst]), (119, .val (.sl false 46 (.sl false 45 (.arr 3 (.int .i64)) none) none)), (120, .val (.int .i64)), (121, .eptr (.sl false 45 (.arr 3 (.int .i64)) none)), (122, .val (.sl false 45 (.arr 3 (.int .i64)) none)), (123, .val (.int .i64)), (124, .val .bool)], [(2, some 31, (.pair (.sl false 3 (.int .i64) none) (.pair (.sl false 3 (.int .i64) none) (.pair (.pair (.sl false 22 (.sl false 3 (.int .i64) none) none) (.pair (.sl false 3 (.int .i64) none) .unit)) (.pair (.pair (.sl false 22 (.sl false 3 (.int .i64) none) none) (.pair (.sl false 46 (.sl false 45 (.arr 3 (.int .i64)) none) none) .unit)) .unit))))), (3, some 31, (.pair (.sl false 3 (.int .i64) none) (.pair (.sl false 3 (.int .i64) none) (.pair (.pair (.sl false 22 (.sl false 3 (.int .i64) none) none) (.pair (.sl false 3 (.int .i64) none) .unit)) (.pair (.pair (.sl false 22 (.sl false 3 (.int .i64) none) none) (.pair (.sl false 46 (.sl false 45 (.arr 3 (.int .i64)) none) none) .unit)) .unit)))))]⟩, [(.exit 4, ⟨[], [(2, .ptr 2 []), (3, .ptr 3 []), (6, .val (.int .i64)), (110, .ptr 2 [.snd, .snd, .snd, .fst]), (111, .ptr 2 [.snd, .snd, .snd, .fst, .snd, .fst]), (112, .val (.sl false 46 (.sl false 45 (.arr 3 (.int .i64)) none) none)), (113, .val (.int .i64)), (114, .eptr (.sl false 45 (.arr 3 (.int .i64)) none)), (115, .val (.sl false 45 (.arr 3 (.int .i64)) none)), (116, .val (.int .i64)), (117, .ptr 3 [.snd, .snd, .snd, .fst]), (118, .ptr 3 [.snd, .snd, .snd, .fst, .snd, .fst]), (119, .val (.sl false 46 (.sl false 45 (.arr 3 (.int .i64)) none) none)), (120, .val (.int .i64)), (121, .eptr (.sl false 45 (.arr 3 (.int .i64)) none)), (122, .val (.sl false 45 (.arr 3 (.int .i64)) none)), (123, .val (.int .i64)), (124, .val .bool)], [(2, some 31, (.pair (.sl false 3 (.int .i64) none) (.pair (.sl false 3 (.int .i64) none) (.pair (.pair (.sl false 22 (.sl false 3 (.int .i64) none) none) (.pair (.sl false 3 (.int .i64) none) .unit)) (.pair (.pair (.sl false 22 (.sl false 3 (.int .i64) none) none) (.pair (.sl false 46 (.sl false 45 (.arr 3 (.int .i64)) none) none) .unit)) .unit))))), (3, some 31, (.pair (.sl false 3 (.int .i64) none) (.pair (.sl false 3 (.int .i64) none) (.pair (.pair (.sl false 22 (.sl false 3 (.int .i64) none) none) (.pair (.sl false 3 (.int .i64) none) .unit)) (.pair (.pair (.sl false 22 (.sl false 3 (.int .i64) none) none) (.pair (.sl false 46 (.sl false 45 (.arr 3 (.int .i64)) none) none) .unit)) .unit)))))]⟩), (.ret, ⟨[], [(4, .val .bool)], []⟩)], fun v => F25_1 k k v.1.1 v.1.2.1 v.1.2.2.1 v.1.2.2.2.1 v.1.2.2.2.2.1 v.1.2.2.2.2.2.1 v.1.2.2.2.2.2.2.1 v.1.2.2.2.2.2.2.2.1 v.1.2.2.2.2.2.2.2.2.1 v.1.2.2.2.2.2.2.2.2.2.1 v.1.2.2.2.2.2.2.2.2.2.2.1 v.1.2.2.2.2.2.2.2.2.2.2.2.1 v.1.2.2.2.2.2.2.2.2.2.2.2.2.1 v.2.1 v.2.2.1⟩
def F25_2 (k : Nat) : Nat → Int → ((List Int) × ((List Int) × (((List (List Int)) × ((List Int) × Unit)) × (((List (List Int)) × ((List (List (List Int))) × Unit)) × Unit)))) → ((List Int) × ((List Int) × (((List (List Int)) × ((List Int) × Unit)) × (((List (List Int)) × ((List (List (List Int))) × Unit)) × Unit)))) → Option ((Unit × Unit) ⊕ ((Bool × Unit) × Unit))
  | 0, _, _, _ => none
  | n + 1, t6, c2, c3 =>
    let x55 := (decide (t6 < ((List.length c2.2.2.2.1.1 : Nat) : Int)))
    bif x55 then
      if 0 ≤ t6 ∧ t6 < ((List.length c2.2.2.2.1.1 : Nat) : Int) then
        let x56 := (List.getD c2.2.2.2.1.1 (Int.toNat t6) ([] : (List Int)))
        if 0 ≤ t6 ∧ t6 < ((List.length c3.2.2.2.1.1 : Nat) : Int) then
          let x57 := (List.getD c3.2.2.2.1.1 (Int.toNat t6) ([] : (List Int)))
          (F56 k x56 x57).bind fun r58 =>
          bif (!r58.1.1) then
            some (.inr ((false, ()), ()))
          else
            if 0 ≤ t6 ∧ t6 < ((List.length c2.2.2.2.1.2.1 : Nat) : Int) then
              let x59 := (List.getD c2.2.2.2.1.2.1 (Int.toNat t6) ([] : (List (List Int))))
              if 0 ≤ t6 ∧ t6 < ((List.length c3.2.2.2.1.2.1 : Nat) : Int) then
                let x60 := (List.getD c3.2.2.2.1.2.1 (Int.toNat t6) ([] : (List (List Int))))
                let x61 := (((List.length x59 : Nat) : Int) != ((List.length x60 : Nat) : Int))
                bif x61 then
                  some (.inr ((false, ()), ()))
                else
                  (F25_1 k k t6 (0 : Int) c2.2.2.2.1.2.1 t6 x59 x59 ((List.length x59 : Nat) : Int) c3.2.2.2.1.2.1 t6 x60 x60 ((List.length x60 : Nat) : Int) x61 c2 c3).bind fun r62 =>
                  match r62 with
                  | .inl r63 =>
                    let y64 := r63.1.1
                    let y76 := r63.2.1
                    let y77 := r63.2.2.1
                    (F25_2 k n (IntKind.wrap .i64 (y64 + (1 : Int))) y76 y77).bind some
                  | .inr r63 =>
                    let y78 := r63.1.1
                    some (.inr ((y78, ()), ()))
              else none
            else none
        else none
      else none
    else
      some (.inl ((), ()))
def fr25_2 (k : Nat) : Frag := ⟨⟨[], [(2, .ptr 2 []), (3, .ptr 3 []), (6, .val (.int .i64))], [(2, some 31, (.pair (.sl false 3 (.int .i64) none) (.pair (.sl false 3 (.int .i64) none) (.pair (.pair (.sl false 22 (.sl false 3 (.int .i64) none) none) (.pair (.sl false 3 (.int .i64) none) .unit)) (.pair (.pair (.sl false 22 (.sl false 3 (.int .i64) none) none) (.pair (.sl false 46 (.sl false 45 (.arr 3 (.int .i64)) none) none) .unit)) .unit))))), (3, some 31, (.pair (.sl false 3 (.int .i64) none) (.pair (.sl false 3 (.int .i64) none) (.pair (.pair (.sl false 22 (.sl false 3 (.int .i64) none) none) (.pair (.sl false 3 (.int .i64) none) .unit)) (.pair (.pair (.sl false 22 (.sl false 3 (.int .i64) none) none) (.pair (.sl false 46 (.sl false 45 (.arr 3 (.int .i64)) none) none) .unit)) .unit)))))]⟩, [(.exit 2, ⟨[], [], []⟩), (.ret, ⟨[], [(4, .val .bool)], []⟩)], fun v => F25_2 k k v.1.1 v.2.1 v.2.2.1⟩
def F25 (k : Nat) (a0 : ((List Int) × ((List Int) × (((List (List Int)) × ((List Int) × Unit)) × (((List (List Int)) × ((List (List (List Int))) × Unit)) × Unit))))) (a1 : ((List Int) × ((List Int) × (((List (List Int)) × ((List Int) × Unit)) × (((List (List Int)) × ((List (List (List Int))) × Unit)) × Unit))))) : Option ((Bool × Unit) × Unit) :=
  (F56 k a0.1 a1.1).bind fun r1 =>
  bif (!r1.1.1) then
    some ((false, ()), ())
  else
    (F56 k a0.2.1 a1.2.1).bind fun r2 =>
    bif (!r2.1.1) then
      some ((false, ()), ())
    else
      (F56 k a0.2.2.1.2.1 a1.2.2.1.2.1).bind fun r3 =>
      bif (!r3.1.1) then
        some ((false, ()), ())
      else
        let x4 := (((List.length a0.2.2.1.1 : Nat) : Int) != ((List.length a1.2.2.1.1 : Nat) : Int))
        bif x4 then
          some ((false, ()), ())
        else
          let x5 := (((List.length a0.2.2.2.1.1 : Nat) : Int) != ((List.length a1.2.2.2.1.1 : Nat) : Int))
          bif x5 then
            some ((false, ()), ())
          else
            let x6 := (((List.length a0.2.2.2.1.2.1 : Nat) : Int) != ((List.length a1.2.2.2.1.2.1 : Nat) : Int))
            bif x6 then
              some ((false, ()), ())
            else
              (F25_0 k k (0 : Int) a0 a1).bind fun r15 =>
              match r15 with
              | .inl r16 =>
                let y17 := r16.2.1
                let y18 := r16.2.2.1
                (F25_2 k k (0 : Int) y17 y18).bind fun r79 =>
                match r79 with
                | .inl r80 =>
                  some ((true, ()), ())
                | .inr r80 =>
                  let y81 := r80.1.1
                  some ((y81, ()), ())
              | .inr r16 =>
                let y82 := r16.1.1
                some ((y82, ()), ())
def sp25 (k : Nat) : Spec := ⟨[.val (.pair (.sl false 3 (.int .i64) none) (.pair (.sl false 3 (.int .i64) none) (.pair (.pair (.sl false 22 (.sl false 3 (.int .i64) none) none) (.pair (.sl false 3 (.int .i64) none) .unit)) (.pair (.pair (.sl false 22 (.sl false 3 (.int .i64) none) none) (.pair (.sl false 46 (.sl false 45 (.arr 3 (.int .i64)) none) none) .unit)) .unit)))), .val (.pair (.sl false 3 (.int .i64) none) (.pair (.sl false 3 (.int .i64) none) (.pair (.pair (.sl false 22 (.sl false 3 (.int .i64) none) none) (.pair (.sl false 3 (.int .i64) none) .unit)) (.pair (.pair (.sl false 22 (.sl false 3 (.int .i64) none) none) (.pair (.sl false 46 (.sl false 45 (.arr 3 (.int .i64)) none) none) .unit)) .unit))))], [.val .bool], fun x => F25 k x.1 x.2.1⟩
def lim25 : Lim := ⟨156, 2, false, false⟩
def cfg25 (k : Nat) : Nat → Option Spec := cfgL [(56, sp56 k)]
theorem cfg25_ok (k : Nat) : CfgOK Try.prog (cfg25 k) := cfgL_cons (v56 k) (cfgL_nil)
def pl25_0 (k : Nat) : Plan := .go
theorem pq25_0 (k : Nat) : PlanOK Try.prog lim25 (pl25_0 k) (codeAt (bodyOf Try.f25) [.r, .r, .l, .r, .s, .b]) = PlanOK Try.prog lim25 .go (codeAt (bodyOf Try.f25) [.r, .r, .l, .r, .s, .b]) := by kernel_rfl
theorem ps25_0 (k m : Nat) (v : (fr25_0 k).sh.V) : F25_0 k (m + 1) v.1.1 v.2.1 v.2.2.1 = (body Try.prog (stepper Try.prog (cfg25 k) lim25) (pl25_0 k) (codeAt (bodyOf Try.f25) [.r, .r, .l, .r, .s, .b]) ((fr25_0 k).sh.st v) (loopK (fr25_0 k) fun v => F25_0 k m v.1.1 v.2.1 v.2.2.1)).eval := by kernel_rfl
theorem pe25_0 (k m : Nat) (v : (fr25_0 k).sh.V) : (body Try.prog (stepper Try.prog (cfg25 k) lim25) (pl25_0 k) (codeAt (bodyOf Try.f25) [.r, .r, .l, .r, .s, .b]) ((fr25_0 k).sh.st v) (loopK (fr25_0 k) fun v => F25_0 k m v.1.1 v.2.1 v.2.2.1)).left = (body Try.prog (stepper Try.prog (cfg25 k) lim25) (pl25_0 k) (codeAt (bodyOf Try.f25) [.r, .r, .l, .r, .s, .b]) ((fr25_0 k).sh.st v) (loopK (fr25_0 k) fun v => F25_0 k m v.1.1 v.2.1 v.2.2.1)).right := by kernel_rfl
theorem fr25_0_ok (k : Nat) : FragOK Try.prog lim25 (fr25_0 k) (codeAt (bodyOf Try.f25) [.r, .r, .l, .r, .s]) :=
  frag_cast (by kernel_rfl) (loop_ok (cfg25_ok k) (Eq.mpr (pq25_0 k) (planOK_go _)) (fun m v => F25_0 k m v.1.1 v.2.1 v.2.2.1) k (fun _ => rfl) (fun _ => rfl) fun m v => ⟨ps25_0 k m v, pe25_0 k m v⟩)
def pl25_1 (k : Nat) : Plan := .go
theorem pq25_1 (k : Nat) : PlanOK Try.prog lim25 (pl25_1 k) (codeAt (bodyOf Try.f25) [.r, .r, .r, .l, .r, .s, .b, .r, .l, .s, .r, .r, .s, .b]) = PlanOK Try.prog lim25 .go (codeAt (bodyOf Try.f25) [.r, .r, .r, .l, .r, .s, .b, .r, .l, .s, .r, .r, .s, .b]) := by kernel_rfl
theorem ps25_1 (k m : Nat) (v : (fr25_1 k).sh.V) : F25_1 k (m + 1) v.1.1 v.1.2.1 v.1.2.2.1 v.1.2.2.2.1 v.1.2.2.2.2.1 v.1.2.2.2.2.2.1 v.1.2.2.2.2.2.2.1 v.1.2.2.2.2.2.2.2.1 v.1.2.2.2.2.2.2.2.2.1 v.1.2.2.2.2.2.2.2.2.2.1 v.1.2.2.2.2.2.2.2.2.2.2.1 v.1.2.2.2.2.2.2.2.2.2.2.2.1 v.1.2.2.2.2.2.2.2.2.2.2.2.2.1 v.2.1 v.2.2.1 = (body Try.prog (stepper Try.prog (cfg25 k) lim25) (pl25_1 k) (codeAt (bodyOf Try.f25) [.r, .r, .r, .l, .r, .s, .b, .r, .l, .s, .r, .r, .s, .b]) ((fr25_1 k).sh.st v) (loopK (fr25_1 k) fun v => F25_1 k m v.1.1 v.1.2.1 v.1.2.2.1 v.1.2.2.2.1 v.1.2.2.2.2.1 v.1.2.2.2.2.2.1 v.1.2.2.2.2.2.2.1 v.1.2.2.2.2.2.2.2.1 v.1.2.2.2.2.2.2.2.2.1 v.1.2.2.2.2.2.2.2.2.2.1 v.1.2.2.2.2.2.2.2.2.2.2.1 v.1.2.2.2.2.2.2.2.2.2.2.2.1 v.1.2.2.2.2.2.2.2.2.2.2.2.2.1 v.2.1 v.2.2.1)).eval := by kernel_rfl
theorem pe25_1 (k m : Nat) (v : (fr25_1 k).sh.V) : (body Try.prog (stepper Try.prog (cfg25 k) lim25) (pl25_1 k) (codeAt (bodyOf Try.f25) [.r, .r, .r, .l, .r, .s, .b, .r, .l, .s, .r, .r, .s, .b]) ((fr25_1 k).sh.st v) (loopK (fr25_1 k) fun v => F25_1 k m v.1.1 v.1.2.1 v.1.2.2.1 v.1.2.2.2.1 v.1.2.2.2.2.1 v.1.2.2.2.2.2.1 v.1.2.2.2.2.2.2.1 v.1.2.2.2.2.2.2.2.1 v.1.2.2.2.2.2.2.2.2.1 v.1.2.2.2.2.2.2.2.2.2.1 v.1.2.2.2.2.2.2.2.2.2.2.1 v.1.2.2.2.2.2.2.2.2.2.2.2.1 v.1.2.2.2.2.2.2.2.2.2.2.2.2.1 v.2.1 v.2.2.1)).left = (body Try.prog (stepper Try.prog (cfg25 k) lim25) (pl25_1 k) (codeAt (bodyOf Try.f25) [.r, .r, .r, .l, .r, .s, .b, .r, .l, .s, .r, .r, .s, .b]) ((fr25_1 k).sh.st v) (loopK (fr25_1 k) fun v => F25_1 k m v.1.1 v.1.2.1 v.1.2.2.1 v.1.2.2.2.1 v.1.2.2.2.2.1 v.1.2.2.2.2.2.1 v.1.2.2.2.2.2.2.1 v.1.2.2.2.2.2.2.2.1 v.1.2.2.2.2.2.2.2.2.1 v.1.2.2.2.2.2.2.2.2.2.1 v.1.2.2.2.2.2.2.2.2.2.2.1 v.1.2.2.2.2.2.2.2.2.2.2.2.1 v.1.2.2.2.2.2.2.2.2.2.2.2.2.1 v.2.1 v.2.2.1)).right := by kernel_rfl
theorem fr25_1_ok (k : Nat) : FragOK Try.prog lim25 (fr25_1 k) (codeAt (bodyOf Try.f25) [.r, .r, .r, .l, .r, .s, .b, .r, .l, .s, .r, .r, .s]) :=
  frag_cast (by kernel_rfl) (loop_ok (cfg25_ok k) (Eq.mpr (pq25_1 k) (planOK_go _)) (fun m v => F25_1 k m v.1.1 v.1.2.1 v.1.2.2.1 v.1.2.2.2.1 v.1.2.2.2.2.1 v.1.2.2.2.2.2.1 v.1.2.2.2.2.2.2.1 v.1.2.2.2.2.2.2.2.1 v.1.2.2.2.2.2.2.2.2.1 v.1.2.2.2.2.2.2.2.2.2.1 v.1.2.2.2.2.2.2.2.2.2.2.1 v.1.2.2.2.2.2.2.2.2.2.2.2.1 v.1.2.2.2.2.2.2.2.2.2.2.2.2.1 v.2.1 v.2.2.1) k (fun _ => rfl) (fun _ => rfl) fun m v => ⟨ps25_1 k m v, pe25_1 k m v⟩)
def pl25_2 (k : Nat) : Plan := (.seq .go (.seq (.sub (.seq .go (.seq .go (.sub (.frag (fr25_1 k)))))) .go))
theorem pq25_2 (k : Nat) : PlanOK Try.prog lim25 (pl25_2 k) (codeAt (bodyOf Try.f25) [.r, .r, .r, .l, .r, .s, .b]) = (PlanOK Try.prog lim25 .go (codeAt (bodyOf Try.f25) [.r, .r, .r, .l, .r, .s, .b, .l]) ∧ ((PlanOK Try.prog lim25 .go (codeAt (bodyOf Try.f25) [.r, .r, .r, .l, .r, .s, .b, .r, .l, .s, .l]) ∧ (PlanOK Try.prog lim25 .go (codeAt (bodyOf Try.f25) [.r, .r, .r, .l, .r, .s, .b, .r, .l, .s, .r, .l]) ∧ FragOK Try.prog lim25 (fr25_1 k) (codeAt (bodyOf Try.f25) [.r, .r, .r, .l, .r, .s, .b, .r, .l, .s, .r, .r, .s]))) ∧ PlanOK Try.prog lim25 .go (codeAt (bodyOf Try.f25) [.r, .r, .r, .l, .r, .s, .b, .r, .r]))) := by kernel_rfl
theorem ps25_2 (k m : Nat) (v : (fr25_2 k).sh.V) : F25_2 k (m + 1) v.1.1 v.2.1 v.2.2.1 = (body Try.prog (stepper Try.prog (cfg25 k) lim25) (pl25_2 k) (codeAt (bodyOf Try.f25) [.r, .r, .r, .l, .r, .s, .b]) ((fr25_2 k).sh.st v) (loopK (fr25_2 k) fun v => F25_2 k m v.1.1 v.2.1 v.2.2.1)).eval := by kernel_rfl
theorem pe25_2 (k m : Nat) (v : (fr25_2 k).sh.V) : (body Try.prog (stepper Try.prog (cfg25 k) lim25) (pl25_2 k) (codeAt (bodyOf Try.f25) [.r, .r, .r, .l, .r, .s, .b]) ((fr25_2 k).sh.st v) (loopK (fr25_2 k) fun v => F25_2 k m v.1.1 v.2.1 v.2.2.1)).left = (body Try.prog (stepper Try.prog (cfg25 k) lim25) (pl25_2 k) (codeAt (bodyOf Try.f25) [.r, .r, .r, .l, .r, .s, .b]) ((fr25_2 k).sh.st v) (loopK (fr25_2 k) fun v => F25_2 k m v.1.1 v.2.1 v.2.2.1)).right := by kernel_rfl
theorem fr25_2_ok (k : Nat) : FragOK Try.prog lim25 (fr25_2 k) (codeAt (bodyOf Try.f25) [.r, .r, .r, .l, .r, .s]) :=
  frag_cast (by kernel_rfl) (loop_ok (cfg25_ok k) (Eq.mpr (pq25_2 k) ⟨(planOK_go _), ⟨⟨(planOK_go _), ⟨(planOK_go _), (fr25_1_ok k)⟩⟩, (planOK_go _)⟩⟩) (fun m v => F25_2 k m v.1.1 v.2.1 v.2.2.1) k (fun _ => rfl) (fun _ => rfl) fun m v => ⟨ps25_2 k m v, pe25_2 k m v⟩)
def pl25 (k : Nat) : Plan := (.seq .go (.seq .go (.seq (.seq .go (.sub (.frag (fr25_0 k)))) (.seq (.seq .go (.sub (.frag (fr25_2 k)))) .go))))
theorem pq25 (k : Nat) : PlanOK Try.prog lim25 (pl25 k) (codeAt (bodyOf Try.f25) []) = (PlanOK Try.prog lim25 .go (codeAt (bodyOf Try.f25) [.l]) ∧ (PlanOK Try.prog lim25 .go (codeAt (bodyOf Try.f25) [.r, .l]) ∧ ((PlanOK Try.prog lim25 .go (codeAt (bodyOf Try.f25) [.r, .r, .l, .l]) ∧ FragOK Try.prog lim25 (fr25_0 k) (codeAt (bodyOf Try.f25) [.r, .r, .l, .r, .s])) ∧ ((PlanOK Try.prog lim25 .go (codeAt (bodyOf Try.f25) [.r, .r, .r, .l, .l]) ∧ FragOK Try.prog lim25 (fr25_2 k) (codeAt (bodyOf Try.f25) [.r, .r, .r, .l, .r, .s])) ∧ PlanOK Try.prog lim25 .go (codeAt (bodyOf Try.f25) [.r, .r, .r, .r]))))) := by kernel_rfl
theorem ev25 (k : Nat) (x : AT (sp25 k).ps) : (sp25 k).impl x = (fnT Try.prog (cfg25 k) lim25 Try.f25 (bodyOf Try.f25) (pl25 k) (sp25 k) x).eval := by kernel_rfl
theorem eq25 (k : Nat) (x : AT (sp25 k).ps) : (fnT Try.prog (cfg25 k) lim25 Try.f25 (bodyOf Try.f25) (pl25 k) (sp25 k) x).left = (fnT Try.prog (cfg25 k) lim25 Try.f25 (bodyOf Try.f25) (pl25 k) (sp25 k) x).right := by kernel_rfl
theorem v25 (k : Nat) : Callable Try.prog 25 ∧ Valid Try.prog 25 (sp25 k) :=
  fn_ok (cfg25_ok k) (f := 25) (fn := Try.f25) (by kernel_rfl) (c := bodyOf Try.f25) (by kernel_rfl) (by kernel_rfl) rfl rfl (Nat.le_of_ble_eq_true rfl) (Nat.le_of_ble_eq_true rfl) (p := pl25 k) (Eq.mpr (pq25 k) ⟨(planOK_go _), ⟨(planOK_go _), ⟨⟨(planOK_go _), (fr25_0_ok k)⟩, ⟨⟨(planOK_go _), (fr25_2_ok k)⟩, (planOK_go _)⟩⟩⟩⟩) fun x => ⟨ev25 k x, eq25 k x⟩
/-! f10 hyphen/hyphenlaw12.TableApart -/
def F10 (k : Nat) (a0 : Int) (a1 : Int) (a2 : (List Int)) (a3 : (List Int)) (a4 : (List Int)) (a5 : (List Int)) (a6 : Int) : Option ((Bool × Unit) × Unit) :=
  (F12 k).bind fun r1 =>
  bif (!r1.1.1) then
    some ((false, ()), ())
  else
    (F13 k a0 a1 a2 a3 a4).bind fun r2 =>
    (F13 k a0 a1 a2 a3 a4).bind fun r3 =>
    (F19 k a6 (3 : Int)).bind fun r4 =>
    bif (r4.1.1 == (0 : Int)) then
      (F13 k a0 a1 a5 a3 a4).bind fun r5 =>
      (F15 k r2.1.1).bind fun r6 =>
      if List.length r6.1.1 ≤ 9223372036854775807 then
        (F15 k r5.1.1).bind fun r7 =>
        if List.length r7.1.1 ≤ 9223372036854775807 then
          let x8 := (ByteArray.toList (bstr r6.1.1) == ByteArray.toList (bstr r7.1.1))
          (F25 k r2.1.1 r5.1.1).bind fun r9 =>
          some (((x8 == r9.1.1), ()), ())
        else none
      else none
    else
      bif (r4.1.1 == (1 : Int)) then
        (F13 k a0 a1 a2 a5 a4).bind fun r10 =>
        (F15 k r2.1.1).bind fun r11 =>
        if List.length r11.1.1 ≤ 9223372036854775807 then
          (F15 k r10.1.1).bind fun r12 =>
          if List.length r12.1.1 ≤ 9223372036854775807 then
            let x13 := (ByteArray.toList (bstr r11.1.1) == ByteArray.toList (bstr r12.1.1))
            (F25 k r2.1.1 r10.1.1).bind fun r14 =>
            some (((x13 == r14.1.1), ()), ())
          else none
        else none
      else
        bif (r4.1.1 == (2 : Int)) then
          (F13 k a0 a1 a2 a3 a5).bind fun r15 =>
          (F15 k r2.1.1).bind fun r16 =>
          if List.length r16.1.1 ≤ 9223372036854775807 then
            (F15 k r15.1.1).bind fun r17 =>
            if List.length r17.1.1 ≤ 9223372036854775807 then
              let x18 := (ByteArray.toList (bstr r16.1.1) == ByteArray.toList (bstr r17.1.1))
              (F25 k r2.1.1 r15.1.1).bind fun r19 =>
              some (((x18 == r19.1.1), ()), ())
            else none
          else none
        else
          (F15 k r2.1.1).bind fun r20 =>
          if List.length r20.1.1 ≤ 9223372036854775807 then
            (F15 k r3.1.1).bind fun r21 =>
            if List.length r21.1.1 ≤ 9223372036854775807 then
              let x22 := (ByteArray.toList (bstr r20.1.1) == ByteArray.toList (bstr r21.1.1))
              (F25 k r2.1.1 r3.1.1).bind fun r23 =>
              some (((x22 == r23.1.1), ()), ())
            else none
          else none
def sp10 (k : Nat) : Spec := ⟨[.val (.int .i64), .val (.int .i64), .val (.sl false 3 (.int .i64) none), .val (.sl false 3 (.int .i64) none), .val (.sl false 3 (.int .i64) none), .val (.sl false 3 (.int .i64) none), .val (.int .i64)], [.val .bool], fun x => F10 k x.1 x.2.1 x.2.2.1 x.2.2.2.1 x.2.2.2.2.1 x.2.2.2.2.2.1 x.2.2.2.2.2.2.1⟩
def lim10 : Lim := ⟨68, 7, false, false⟩
def cfg10 (k : Nat) : Nat → Option Spec := cfgL [(12, sp12 k), (13, sp13 k), (15, sp15 k), (19, sp19 k), (25, sp25 k)]
theorem cfg10_ok (k : Nat) : CfgOK Try.prog (cfg10 k) := cfgL_cons (v12 k) (cfgL_cons (v13 k) (cfgL_cons (v15 k) (cfgL_cons (v19 k) (cfgL_cons (v25 k) (cfgL_nil)))))
def pl10 (k : Nat) : Plan := .go
theorem pq10 (k : Nat) : PlanOK Try.prog lim10 (pl10 k) (codeAt (bodyOf Try.f10) []) = PlanOK Try.prog lim10 .go (codeAt (bodyOf Try.f10) []) := by kernel_rfl
theorem ev10 (k : Nat) (x : AT (sp10 k).ps) : (sp10 k).impl x = (fnT Try.prog (cfg10 k) lim10 Try.f10 (bodyOf Try.f10) (pl10 k) (sp10 k) x).eval := by kernel_rfl
theorem eq10 (k : Nat) (x : AT (sp10 k).ps) : (fnT Try.prog (cfg10 k) lim10 Try.f10 (bodyOf Try.f10) (pl10 k) (sp10 k) x).left = (fnT Try.prog (cfg10 k) lim10 Try.f10 (bodyOf Try.f10) (pl10 k) (sp10 k) x).right := by kernel_rfl
theorem v10 (k : Nat) : Callable Try.prog 10 ∧ Valid Try.prog 10 (sp10 k) :=
  fn_ok (cfg10_ok k) (f := 10) (fn := Try.f10) (by kernel_rfl) (c := bodyOf Try.f10) (by kernel_rfl) (by kernel_rfl) rfl rfl (Nat.le_of_ble_eq_true rfl) (Nat.le_of_ble_eq_true rfl) (p := pl10 k) (Eq.mpr (pq10 k) (planOK_go _)) fun x => ⟨ev10 k x, eq10 k x⟩
/-! f11 hyphen/hyphenlaw12.TableNumbers -/
def F11_0 (k : Nat) : Nat → Int → Int → Int → (List Int) → Option ((Unit × ((List Int) × Unit)))
  | 0, _, _, _, _ => none
  | n + 1, t17, t18, t19, c39 =>
    bif (decide (t19 < (8 : Int))) then
      let x14 := (IntKind.wrap .i64 ((56 : Int) - (IntKind.wrap .i64 ((8 : Int) * t19))))
      if 0 ≤ (IntKind.wrap .u64 x14) then
        let x15 := (Int.fdiv t18 (2 ^ (min (Int.toNat (IntKind.wrap .u64 x14)) (IntKind.bits .i64))))
        if 0 ≤ (IntKind.wrap .i64 (t17 + t19)) ∧ (IntKind.wrap .i64 (t17 + t19)) < ((List.length c39 : Nat) : Int) then
          let x16 := (Int.toNat (IntKind.wrap .i64 (t17 + t19)))
          (F11_0 k n t17 t18 (IntKind.wrap .i64 (t19 + (1 : Int))) (List.set c39 x16 (IntKind.wrap .u8 x15))).bind some
        else none
      else none
    else
      some ((), (c39, ()))
def fr11_0 (k : Nat) : Frag := ⟨⟨[], [(16, .at 39 []), (17, .val (.int .i64)), (18, .val (.int .i64)), (19, .val (.int .i64))], [(39, none, (.sl true 5 (.int .u8) none))]⟩, [(.exit 0, ⟨[], [(16, .at 39 [])], [(39, none, (.sl true 5 (.int .u8) none))]⟩)], fun v => F11_0 k k v.1.1 v.1.2.1 v.1.2.2.1 v.2.1⟩
def F11 (k : Nat) (a0 : Int) (a1 : Int) (a2 : (List Int)) (a3 : (List Int)) (a4 : (List Int)) (a5 : Int) (a6 : Int) : Option ((Bool × Unit) × Unit) :=
  (F12 k).bind fun r1 =>
  bif (!r1.1.1) then
    some ((false, ()), ())
  else
    (F13 k a0 a1 a2 a3 a4).bind fun r2 =>
    (F17 k r2.1.1).bind fun r3 =>
    let x4 := (IntKind.wrap .i64 (((List.length r3.1.1 : Nat) : Int) - (8 : Int)))
    if 0 ≤ (0 : Int) ∧ (0 : Int) ≤ x4 ∧ x4 ≤ ((List.length r3.1.1 : Nat) : Int) then
      let x5 := (Int.toNat x4 - Int.toNat (0 : Int))
      if (List.length (List.replicate 0 (0 : Int)) + List.length (List.take x5 (List.drop (Int.toNat (0 : Int)) r3.1.1))) * (1 * 2) ≤ 281474976710656 ∧ List.length (List.replicate 0 (0 : Int)) + List.length (List.take x5 (List.drop (Int.toNat (0 : Int)) r3.1.1)) ≤ 9223372036854775807 then
        let x6 := ((List.replicate 0 (0 : Int)) ++ (List.take x5 (List.drop (Int.toNat (0 : Int)) r3.1.1)))
        let x7 := (IntKind.wrap .i64 (Int.tdiv ((List.length x6 : Nat) : Int) (8 : Int)))
        (F19 k a5 x7).bind fun r8 =>
        let x9 := (List.set (List.set (List.set (List.set (List.set (List.set (List.set (List.set (List.replicate 8 (0 : Int)) 0 a6) 1 (-1 : Int)) 2 (0 : Int)) 3 (1 : Int)) 4 (1099511627776 : Int)) 5 (100001 : Int)) 6 (9223372036854775807 : Int)) 7 (-9223372036854775808 : Int))
        (F19 k a6 (8 : Int)).bind fun r10 =>
        if 0 ≤ r10.1.1 ∧ r10.1.1 < ((List.length x9 : Nat) : Int) then
          (F11_0 k k (IntKind.wrap .i64 ((8 : Int) * r8.1.1)) (List.getD x9 (Int.toNat r10.1.1) (0 : Int)) (0 : Int) x6).bind fun r17 =>
          let y18 := r17.2.1
          (F20 k y18).bind fun r19 =>
          (F16 k r19.1.1).bind fun r20 =>
          (F20 k y18).bind fun r21 =>
          (F21 k r21.1.1).bind fun r22 =>
          bif (r20.1.2.1 == r22.1.2.1) then
            (F18 k r20.1.1 r22.1.1).bind fun r23 =>
            bif r23.1.1 then
              bif (!r20.1.2.1) then
                some ((true, ()), ())
              else
                (F14 k r20.1.1).bind fun r24 =>
                some ((r24.1.1, ()), ())
            else
              some ((false, ()), ())
          else
            some ((false, ()), ())
        else none
      else none
    else none
def sp11 (k : Nat) : Spec := ⟨[.val (.int .i64), .val (.int .i64), .val (.sl false 3 (.int .i64) none), .val (.sl false 3 (.int .i64) none), .val (.sl false 3 (.int .i64) none), .val (.int .i64), .val (.int .i64)], [.val .bool], fun x => F11 k x.1 x.2.1 x.2.2.1 x.2.2.2.1 x.2.2.2.2.1 x.2.2.2.2.2.1 x.2.2.2.2.2.2.1⟩
def lim11 : Lim := ⟨96, 7, false, false⟩
def cfg11 (k : Nat) : Nat → Option Spec := cfgL [(12, sp12 k), (13, sp13 k), (14, sp14 k), (16, sp16 k), (17, sp17 k), (18, sp18 k), (19, sp19 k), (20, sp20 k), (21, sp21 k)]
theorem cfg11_ok (k : Nat) : CfgOK Try.prog (cfg11 k) := cfgL_cons (v12 k) (cfgL_cons (v13 k) (cfgL_cons (v14 k) (cfgL_cons (v16 k) (cfgL_cons (v17 k) (cfgL_cons (v18 k) (cfgL_cons (v19 k) (cfgL_cons (v20 k) (cfgL_cons (v21 k) (cfgL_nil)))))))))
def pl11_0 (k : Nat) : Plan := .go
theorem pq11_0 (k : Nat) : PlanOK Try.prog lim11 (pl11_0 k) (codeAt (bodyOf Try.f11) [.r, .r, .r, .r, .r, .r, .l, .r, .s, .b]) = PlanOK Try.prog lim11 .go (codeAt (bodyOf Try.f11) [.r, .r, .r, .r, .r, .r, .l, .r, .s, .b]) := by kernel_rfl
theorem ps11_0 (k m : Nat) (v : (fr11_0 k).sh.V) : F11_0 k (m + 1) v.1.1 v.1.2.1 v.1.2.2.1 v.2.1 = (body Try.prog (stepper Try.prog (cfg11 k) lim11) (pl11_0 k) (codeAt (bodyOf Try.f11) [.r, .r, .r, .r, .r, .r, .l, .r, .s, .b]) ((fr11_0 k).sh.st v) (loopK (fr11_0 k) fun v => F11_0 k m v.1.1 v.1.2.1 v.1.2.2.1 v.2.1)).eval := by kernel_rfl
theorem pe11_0 (k m : Nat) (v : (fr11_0 k).sh.V) : (body Try.prog (stepper Try.prog (cfg11 k) lim11) (pl11_0 k) (codeAt (bodyOf Try.f11) [.r, .r, .r, .r, .r, .r, .l, .r, .s, .b]) ((fr11_0 k).sh.st v) (loopK (fr11_0 k) fun v => F11_0 k m v.1.1 v.1.2.1 v.1.2.2.1 v.2.1)).left = (body Try.prog (stepper Try.prog (cfg11 k) lim11) (pl11_0 k) (codeAt (bodyOf Try.f11) [.r, .r, .r, .r, .r, .r, .l, .r, .s, .b]) ((fr11_0 k).sh.st v) (loopK (fr11_0 k) fun v => F11_0 k m v.1.1 v.1.2.1 v.1.2.2.1 v.2.1)).right := by kernel_rfl
theorem fr11_0_ok (k : Nat) : FragOK Try.prog lim11 (fr11_0 k) (codeAt (bodyOf Try.f11) [.r, .r, .r, .r, .r, .r, .l, .r, .s]) :=
  frag_cast (by kernel_rfl) (loop_ok (cfg11_ok k) (Eq.mpr (pq11_0 k) (planOK_go _)) (fun m v => F11_0 k m v.1.1 v.1.2.1 v.1.2.2.1 v.2.1) k (fun _ => rfl) (fun _ => rfl) fun m v => ⟨ps11_0 k m v, pe11_0 k m v⟩)
def pl11 (k : Nat) : Plan := (.seq .go (.seq .go (.seq .go (.seq .go (.seq .go (.seq .go (.seq (.seq .go (.sub (.frag (fr11_0 k)))) .go)))))))
theorem pq11 (k : Nat) : PlanOK Try.prog lim11 (pl11 k) (codeAt (bodyOf Try.f11) []) = (PlanOK Try.prog lim11 .go (codeAt (bodyOf Try.f11) [.l]) ∧ (PlanOK Try.prog lim11 .go (codeAt (bodyOf Try.f11) [.r, .l]) ∧ (PlanOK Try.prog lim11 .go (codeAt (bodyOf Try.f11) [.r, .r, .l]) ∧ (PlanOK Try.prog lim11 .go (codeAt (bodyOf Try.f11) [.r, .r, .r, .l]) ∧ (PlanOK Try.prog lim11 .go (codeAt (bodyOf Try.f11) [.r, .r, .r, .r, .l]) ∧ (PlanOK Try.prog lim11 .go (codeAt (bodyOf Try.f11) [.r, .r, .r, .r, .r, .l]) ∧ ((PlanOK Try.prog lim11 .go (codeAt (bodyOf Try.f11) [.r, .r, .r, .r, .r, .r, .l, .l]) ∧ FragOK Try.prog lim11 (fr11_0 k) (codeAt (bodyOf Try.f11) [.r, .r, .r, .r, .r, .r, .l, .r, .s])) ∧ PlanOK Try.prog lim11 .go (codeAt (bodyOf Try.f11) [.r, .r, .r, .r, .r, .r, .r])))))))) := by kernel_rfl
theorem ev11 (k : Nat) (x : AT (sp11 k).ps) : (sp11 k).impl x = (fnT Try.prog (cfg11 k) lim11 Try.f11 (bodyOf Try.f11) (pl11 k) (sp11 k) x).eval := by kernel_rfl
theorem eq11 (k : Nat) (x : AT (sp11 k).ps) : (fnT Try.prog (cfg11 k) lim11 Try.f11 (bodyOf Try.f11) (pl11 k) (sp11 k) x).left = (fnT Try.prog (cfg11 k) lim11 Try.f11 (bodyOf Try.f11) (pl11 k) (sp11 k) x).right := by kernel_rfl
theorem v11 (k : Nat) : Callable Try.prog 11 ∧ Valid Try.prog 11 (sp11 k) :=
  fn_ok (cfg11_ok k) (f := 11) (fn := Try.f11) (by kernel_rfl) (c := bodyOf Try.f11) (by kernel_rfl) (by kernel_rfl) rfl rfl (Nat.le_of_ble_eq_true rfl) (Nat.le_of_ble_eq_true rfl) (p := pl11 k) (Eq.mpr (pq11 k) ⟨(planOK_go _), ⟨(planOK_go _), ⟨(planOK_go _), ⟨(planOK_go _), ⟨(planOK_go _), ⟨(planOK_go _), ⟨⟨(planOK_go _), (fr11_0_ok k)⟩, (planOK_go _)⟩⟩⟩⟩⟩⟩⟩) fun x => ⟨ev11 k x, eq11 k x⟩
/-! f4 hyphen/hyphenlaw12.TableLoads -/
def F4_0 (k : Nat) : Nat → (List Int) → (List Int) → Int → (List Int) → (List Int) → Int → (List Int) → (List Int) → Option (((Int × (List Int) × (List Int) × Unit) × ((List Int) × (List Int) × Unit)))
  | 0, _, _, _, _, _, _, _, _ => none
  | n + 1, t5, t6, t7, t8, t9, t23, c55, c1000768 =>
    let x14 := (decide (t23 < ((List.length t5 : Nat) : Int)))
    bif x14 then
      let x15 := (decide (t23 < ((List.length t6 : Nat) : Int)))
      bif x15 then
        bif (decide (t23 < (3 : Int))) then
          if 0 ≤ t23 ∧ t23 < ((List.length t5 : Nat) : Int) then
            if 0 ≤ t23 ∧ t23 < ((List.length t6 : Nat) : Int) then
              (F19 k (List.getD t5 (Int.toNat t23) (0 : Int)) ((List.length c55 : Nat) : Int)).bind fun r16 =>
              if 0 ≤ r16.1.1 ∧ r16.1.1 < ((List.length c55 : Nat) : Int) then
                let x17 := (List.getD c55 (Int.toNat r16.1.1) (0 : Int))
                let x18 := (IntKind.wrap .u8 (x17 + (List.getD t6 (Int.toNat t23) (0 : Int))))
                if 0 ≤ r16.1.1 ∧ r16.1.1 < ((List.length c55 : Nat) : Int) then
                  (F4_0 k n t5 t6 t7 t8 t9 (IntKind.wrap .i64 (t23 + (1 : Int))) (List.set c55 (Int.toNat r16.1.1) x18) c1000768).bind some
                else none
              else none
            else none
          else none
        else
          some ((t7, t8, t9, ()), (c55, c1000768, ()))
      else
        some ((t7, t8, t9, ()), (c55, c1000768, ()))
    else
      some ((t7, t8, t9, ()), (c55, c1000768, ()))
def fr4_0 (k : Nat) : Frag := ⟨⟨[], [(5, .val (.sl false 3 (.int .i64) none)), (6, .val (.sl false 5 (.int .u8) none)), (7, .val (.int .i64)), (8, .val (.sl false 5 (.int .u8) none)), (9, .val (.sl false 5 (.int .u8) none)), (21, .at 1000768 []), (22, .at 55 []), (23, .val (.int .i64))], [(55, none, (.sl true 5 (.int .u8) none)), (1000768, none, (.sl true 5 (.int .u8) none))]⟩, [(.exit 0, ⟨[], [(7, .val (.int .i64)), (8, .val (.sl false 5 (.int .u8) none)), (9, .val (.sl false 5 (.int .u8) none)), (21, .at 1000768 []), (22, .at 55 [])], [(55, none, (.sl true 5 (.int .u8) none)), (1000768, none, (.sl true 5 (.int .u8) none))]⟩)], fun v => F4_0 k k v.1.1 v.1.2.1 v.1.2.2.1 v.1.2.2.2.1 v.1.2.2.2.2.1 v.1.2.2.2.2.2.1 v.2.1 v.2.2.1⟩
def F4_1 (k : Nat) : Nat → Int → (List (List Int)) → Option ((Unit × Unit) ⊕ ((Bool × Unit) × Unit))
  | 0, _, _ => none
  | n + 1, t27, c126 =>
    let x46 := (decide (t27 < ((List.length c126 : Nat) : Int)))
    bif x46 then
      if 0 ≤ t27 ∧ t27 < ((List.length c126 : Nat) : Int) then
        let x47 := (List.getD c126 (Int.toNat t27) ([] : (List Int)))
        (F16 k x47).bind fun r48 =>
        if 0 ≤ t27 ∧ t27 < ((List.length c126 : Nat) : Int) then
          let x49 := (List.getD c126 (Int.toNat t27) ([] : (List Int)))
          (F21 k x49).bind fun r50 =>
          bif (!(r48.1.2.1 == r50.1.2.1)) then
            some (.inr ((false, ()), ()))
          else
            (F18 k r48.1.1 r50.1.1).bind fun r51 =>
            bif (!r51.1.1) then
              some (.inr ((false, ()), ()))
            else
              (F4_1 k n (IntKind.wrap .i64 (t27 + (1 : Int))) c126).bind some
        else none
      else none
    else
      some (.inl ((), ()))
def fr4_1 (k : Nat) : Frag := ⟨⟨[], [(26, .at 126 []), (27, .val (.int .i64))], [(126, none, (.sl true 34 (.sl false 5 (.int .u8) none) none))]⟩, [(.exit 2, ⟨[], [], []⟩), (.ret, ⟨[], [(20, .val .bool)], []⟩)], fun v => F4_1 k k v.1.1 v.2.1⟩
def F4 (k : Nat) (a0 : Int) (a1 : Int) (a2 : (List Int)) (a3 : (List Int)) (a4 : (List Int)) (a5 : (List Int)) (a6 : (List Int)) (a7 : Int) (a8 : (List Int)) (a9 : (List Int)) : Option ((Bool × Unit) × Unit) :=
  (F12 k).bind fun r1 =>
  bif (!r1.1.1) then
    some ((false, ()), ())
  else
    let x2 := (decide (((List.length a8 : Nat) : Int) > (60 : Int)))
    bif x2 then
      some ((true, ()), ())
    else
      let x3 := (decide (((List.length a9 : Nat) : Int) > (300 : Int)))
      bif x3 then
        some ((true, ()), ())
      else
        (F13 k a0 a1 a2 a3 a4).bind fun r4 =>
        (F17 k r4.1.1).bind fun r5 =>
        let x6 := (IntKind.wrap .i64 (((List.length r5.1.1 : Nat) : Int) - (8 : Int)))
        if 0 ≤ (0 : Int) ∧ (0 : Int) ≤ x6 ∧ x6 ≤ ((List.length r5.1.1 : Nat) : Int) then
          let x7 := (Int.toNat x6 - Int.toNat (0 : Int))
          if (List.length (List.replicate 0 (0 : Int)) + List.length (List.take x7 (List.drop (Int.toNat (0 : Int)) r5.1.1))) * (1 * 2) ≤ 281474976710656 ∧ List.length (List.replicate 0 (0 : Int)) + List.length (List.take x7 (List.drop (Int.toNat (0 : Int)) r5.1.1)) ≤ 9223372036854775807 then
            let x8 := ((List.replicate 0 (0 : Int)) ++ (List.take x7 (List.drop (Int.toNat (0 : Int)) r5.1.1)))
            (F4_0 k k a5 a6 a7 a8 a9 (0 : Int) x8 r5.1.1).bind fun r19 =>
            let y20 := r19.1.1
            let y21 := r19.1.2.1
            let y22 := r19.1.2.2.1
            let y23 := r19.2.1
            let y24 := r19.2.2.1
            let x25 := (IntKind.wrap .i64 (((List.length y24 : Nat) : Int) - (8 : Int)))
            if 0 ≤ x25 ∧ x25 ≤ ((List.length y24 : Nat) : Int) ∧ ((List.length y24 : Nat) : Int) ≤ ((List.length y24 : Nat) : Int) then
              let x26 := (Int.toNat ((List.length y24 : Nat) : Int) - Int.toNat x25)
              if (List.length (List.replicate 0 (0 : Int)) + List.length y23) * (1 * 2) ≤ 281474976710656 ∧ List.length (List.replicate 0 (0 : Int)) + List.length y23 ≤ 9223372036854775807 then
                if (List.length ((List.replicate 0 (0 : Int)) ++ y23) + List.length (List.take x26 (List.drop (Int.toNat x25) y24))) * (1 * 2) ≤ 281474976710656 ∧ List.length ((List.replicate 0 (0 : Int)) ++ y23) + List.length (List.take x26 (List.drop (Int.toNat x25) y24)) ≤ 9223372036854775807 then
                  let x27 := (((List.replicate 0 (0 : Int)) ++ y23) ++ (List.take x26 (List.drop (Int.toNat x25) y24)))
                  let x28 := (IntKind.wrap .i64 (((List.length y24 : Nat) : Int) + (1 : Int)))
                  (F19 k y20 x28).bind fun r29 =>
                  if 0 ≤ (0 : Int) ∧ (0 : Int) ≤ r29.1.1 ∧ r29.1.1 ≤ ((List.length y24 : Nat) : Int) then
                    let x30 := (Int.toNat r29.1.1 - Int.toNat (0 : Int))
                    if 0 ≤ (0 : Int) ∧ (0 : Int) ≤ r29.1.1 ∧ r29.1.1 ≤ ((List.length y24 : Nat) : Int) then
                      let x31 := (Int.toNat r29.1.1 - Int.toNat (0 : Int))
                      if 0 ≤ r29.1.1 ∧ r29.1.1 ≤ ((List.length y24 : Nat) : Int) ∧ ((List.length y24 : Nat) : Int) ≤ ((List.length y24 : Nat) : Int) then
                        let x32 := (Int.toNat ((List.length y24 : Nat) : Int) - Int.toNat r29.1.1)
                        if 0 ≤ (0 : Int) ∧ (0 : Int) ≤ r29.1.1 ∧ r29.1.1 ≤ ((List.length y24 : Nat) : Int) then
                          let x33 := (Int.toNat r29.1.1 - Int.toNat (0 : Int))
                          (F20 k y23).bind fun r34 =>
                          if (List.length (List.replicate 0 (0 : Int)) + List.length (List.take x31 (List.drop (Int.toNat (0 : Int)) y24))) * (1 * 2) ≤ 281474976710656 ∧ List.length (List.replicate 0 (0 : Int)) + List.length (List.take x31 (List.drop (Int.toNat (0 : Int)) y24)) ≤ 9223372036854775807 then
                            let x35 := ((List.replicate 0 (0 : Int)) ++ (List.take x31 (List.drop (Int.toNat (0 : Int)) y24)))
                            if (List.length x35 + List.length y21) * (1 * 2) ≤ 281474976710656 ∧ List.length x35 + List.length y21 ≤ 9223372036854775807 then
                              if (List.length (x35 ++ y21) + List.length (List.take x32 (List.drop (Int.toNat r29.1.1) y24))) * (1 * 2) ≤ 281474976710656 ∧ List.length (x35 ++ y21) + List.length (List.take x32 (List.drop (Int.toNat r29.1.1) y24)) ≤ 9223372036854775807 then
                                let x36 := ((x35 ++ y21) ++ (List.take x32 (List.drop (Int.toNat r29.1.1) y24)))
                                (F20 k y22).bind fun r37 =>
                                (F20 k (List.take x33 (List.drop (Int.toNat (0 : Int)) y24))).bind fun r38 =>
                                let x39 := (List.set (List.set (List.set (List.set (List.set (List.set (List.set (List.replicate 7 ([] : (List Int))) 0 r34.1.1) 1 x27) 2 (List.take x30 (List.drop (Int.toNat (0 : Int)) y24))) 3 x36) 4 y22) 5 r37.1.1) 6 r38.1.1)
                                (F4_1 k k (0 : Int) x39).bind fun r52 =>
                                match r52 with
                                | .inl r53 =>
                                  some ((true, ()), ())
                                | .inr r53 =>
                                  let y54 := r53.1.1
                                  some ((y54, ()), ())
                              else none
                            else none
                          else none
                        else none
                      else none
                    else none
                  else none
                else none
              else none
            else none
          else none
        else none
def sp4 (k : Nat) : Spec := ⟨[.val (.int .i64), .val (.int .i64), .val (.sl false 3 (.int .i64) none), .val (.sl false 3 (.int .i64) none), .val (.sl false 3 (.int .i64) none), .val (.sl false 3 (.int .i64) none), .val (.sl false 5 (.int .u8) none), .val (.int .i64), .val (.sl false 5 (.int .u8) none), .val (.sl false 5 (.int .u8) none)], [.val .bool], fun x => F4 k x.1 x.2.1 x.2.2.1 x.2.2.2.1 x.2.2.2.2.1 x.2.2.2.2.2.1 x.2.2.2.2.2.2.1 x.2.2.2.2.2.2.2.1 x.2.2.2.2.2.2.2.2.1 x.2.2.2.2.2.2.2.2.2.1⟩
def lim4 : Lim := ⟨158, 10, false, false⟩
def cfg4 (k : Nat) : Nat → Option Spec := cfgL [(12, sp12 k), (13, sp13 k), (16, sp16 k), (17, sp17 k), (18, sp18 k), (19, sp19 k), (20, sp20 k), (21, sp21 k)]
theorem cfg4_ok (k : Nat) : CfgOK Try.prog (cfg4 k) := cfgL_cons (v12 k) (cfgL_cons (v13 k) (cfgL_cons (v16 k) (cfgL_cons (v17 k) (cfgL_cons (v18 k) (cfgL_cons (v19 k) (cfgL_cons (v20 k) (cfgL_cons (v21 k) (cfgL_nil))))))))
def pl4_0 (k : Nat) : Plan := .go
theorem pq4_0 (k : Nat) : PlanOK Try.prog lim4 (pl4_0 k) (codeAt (bodyOf Try.f4) [.r, .r, .r, .r, .r, .l, .r, .s, .b]) = PlanOK Try.prog lim4 .go (codeAt (bodyOf Try.f4) [.r, .r, .r, .r, .r, .l, .r, .s, .b]) := by kernel_rfl
theorem ps4_0 (k m : Nat) (v : (fr4_0 k).sh.V) : F4_0 k (m + 1) v.1.1 v.1.2.1 v.1.2.2.1 v.1.2.2.2.1 v.1.2.2.2.2.1 v.1.2.2.2.2.2.1 v.2.1 v.2.2.1 = (body Try.prog (stepper Try.prog (cfg4 k) lim4) (pl4_0 k) (codeAt (bodyOf Try.f4) [.r, .r, .r, .r, .r, .l, .r, .s, .b]) ((fr4_0 k).sh.st v) (loopK (fr4_0 k) fun v => F4_0 k m v.1.1 v.1.2.1 v.1.2.2.1 v.1.2.2.2.1 v.1.2.2.2.2.1 v.1.2.2.2.2.2.1 v.2.1 v.2.2.1)).eval := by kernel_rfl
theorem pe4_0 (k m : Nat) (v : (fr4_0 k).sh.V) : (body Try.prog (stepper Try.prog (cfg4 k) lim4) (pl4_0 k) (codeAt (bodyOf Try.f4) [.r, .r, .r, .r, .r, .l, .r, .s, .b]) ((fr4_0 k).sh.st v) (loopK (fr4_0 k) fun v => F4_0 k m v.1.1 v.1.2.1 v.1.2.2.1 v.1.2.2.2.1 v.1.2.2.2.2.1 v.1.2.2.2.2.2.1 v.2.1 v.2.2.1)).left = (body Try.prog (stepper Try.prog (cfg4 k) lim4) (pl4_0 k) (codeAt (bodyOf Try.f4) [.r, .r, .r, .r, .r, .l, .r, .s, .b]) ((fr4_0 k).sh.st v) (loopK (fr4_0 k) fun v => F4_0 k m v.1.1 v.1.2.1 v.1.2.2.1 v.1.2.2.2.1 v.1.2.2.2.2.1 v.1.2.2.2.2.2.1 v.2.1 v.2.2.1)).right := by kernel_rfl
theorem fr4_0_ok (k : Nat) : FragOK Try.prog lim4 (fr4_0 k) (codeAt (bodyOf Try.f4) [.r, .r, .r, .r, .r, .l, .r, .s]) :=
  frag_cast (by kernel_rfl) (loop_ok (cfg4_ok k) (Eq.mpr (pq4_0 k) (planOK_go _)) (fun m v => F4_0 k m v.1.1 v.1.2.1 v.1.2.2.1 v.1.2.2.2.1 v.1.2.2.2.2.1 v.1.2.2.2.2.2.1 v.2.1 v.2.2.1) k (fun _ => rfl) (fun _ => rfl) fun m v => ⟨ps4_0 k m v, pe4_0 k m v⟩)
def pl4_1 (k : Nat) : Plan := .go
theorem pq4_1 (k : Nat) : PlanOK Try.prog lim4 (pl4_1 k) (codeAt (bodyOf Try.f4) [.r, .r, .r, .r, .r, .r, .r, .r, .r, .l, .r, .s, .b]) = PlanOK Try.prog lim4 .go (codeAt (bodyOf Try.f4) [.r, .r, .r, .r, .r, .r, .r, .r, .r, .l, .r, .s, .b]) := by kernel_rfl
theorem ps4_1 (k m : Nat) (v : (fr4_1 k).sh.V) : F4_1 k (m + 1) v.1.1 v.2.1 = (body Try.prog (stepper Try.prog (cfg4 k) lim4) (pl4_1 k) (codeAt (bodyOf Try.f4) [.r, .r, .r, .r, .r, .r, .r, .r, .r, .l, .r, .s, .b]) ((fr4_1 k).sh.st v) (loopK (fr4_1 k) fun v => F4_1 k m v.1.1 v.2.1)).eval := by kernel_rfl
theorem pe4_1 (k m : Nat) (v : (fr4_1 k).sh.V) : (body Try.prog (stepper Try.prog (cfg4 k) lim4) (pl4_1 k) (codeAt (bodyOf Try.f4) [.r, .r, .r, .r, .r, .r, .r, .r, .r, .l, .r, .s, .b]) ((fr4_1 k).sh.st v) (loopK (fr4_1 k) fun v => F4_1 k m v.1.1 v.2.1)).left = (body Try.prog (stepper Try.prog (cfg4 k) lim4) (pl4_1 k) (codeAt (bodyOf Try.f4) [.r, .r, .r, .r, .r, .r, .r, .r, .r, .l, .r, .s, .b]) ((fr4_1 k).sh.st v) (loopK (fr4_1 k) fun v => F4_1 k m v.1.1 v.2.1)).right := by kernel_rfl
theorem fr4_1_ok (k : Nat) : FragOK Try.prog lim4 (fr4_1 k) (codeAt (bodyOf Try.f4) [.r, .r, .r, .r, .r, .r, .r, .r, .r, .l, .r, .s]) :=
  frag_cast (by kernel_rfl) (loop_ok (cfg4_ok k) (Eq.mpr (pq4_1 k) (planOK_go _)) (fun m v => F4_1 k m v.1.1 v.2.1) k (fun _ => rfl) (fun _ => rfl) fun m v => ⟨ps4_1 k m v, pe4_1 k m v⟩)
def pl4 (k : Nat) : Plan := (.seq .go (.seq .go (.seq .go (.seq .go (.seq .go (.seq (.seq .go (.sub (.frag (fr4_0 k)))) (.seq .go (.seq .go (.seq .go (.seq (.seq .go (.sub (.frag (fr4_1 k)))) .go))))))))))
theorem pq4 (k : Nat) : PlanOK Try.prog lim4 (pl4 k) (codeAt (bodyOf Try.f4) []) = (PlanOK Try.prog lim4 .go (codeAt (bodyOf Try.f4) [.l]) ∧ (PlanOK Try.prog lim4 .go (codeAt (bodyOf Try.f4) [.r, .l]) ∧ (PlanOK Try.prog lim4 .go (codeAt (bodyOf Try.f4) [.r, .r, .l]) ∧ (PlanOK Try.prog lim4 .go (codeAt (bodyOf Try.f4) [.r, .r, .r, .l]) ∧ (PlanOK Try.prog lim4 .go (codeAt (bodyOf Try.f4) [.r, .r, .r, .r, .l]) ∧ ((PlanOK Try.prog lim4 .go (codeAt (bodyOf Try.f4) [.r, .r, .r, .r, .r, .l, .l]) ∧ FragOK Try.prog lim4 (fr4_0 k) (codeAt (bodyOf Try.f4) [.r, .r, .r, .r, .r, .l, .r, .s])) ∧ (PlanOK Try.prog lim4 .go (codeAt (bodyOf Try.f4) [.r, .r, .r, .r, .r, .r, .l]) ∧ (PlanOK Try.prog lim4 .go (codeAt (bodyOf Try.f4) [.r, .r, .r, .r, .r, .r, .r, .l]) ∧ (PlanOK Try.prog lim4 .go (codeAt (bodyOf Try.f4) [.r, .r, .r, .r, .r, .r, .r, .r, .l]) ∧ ((PlanOK Try.prog lim4 .go (codeAt (bodyOf Try.f4) [.r, .r, .r, .r, .r, .r, .r, .r, .r, .l, .l]) ∧ FragOK Try.prog lim4 (fr4_1 k) (codeAt (bodyOf Try.f4) [.r, .r, .r, .r, .r, .r, .r, .r, .r, .l, .r, .s])) ∧ PlanOK Try.prog lim4 .go (codeAt (bodyOf Try.f4) [.r, .r, .r, .r, .r, .r, .r, .r, .r, .r]))))))))))) := by kernel_rfl
theorem ev4 (k : Nat) (x : AT (sp4 k).ps) : (sp4 k).impl x = (fnT Try.prog (cfg4 k) lim4 Try.f4 (bodyOf Try.f4) (pl4 k) (sp4 k) x).eval := by kernel_rfl
theorem eq4 (k : Nat) (x : AT (sp4 k).ps) : (fnT Try.prog (cfg4 k) lim4 Try.f4 (bodyOf Try.f4) (pl4 k) (sp4 k) x).left = (fnT Try.prog (cfg4 k) lim4 Try.f4 (bodyOf Try.f4) (pl4 k) (sp4 k) x).right := by kernel_rfl
theorem v4 (k : Nat) : Callable Try.prog 4 ∧ Valid Try.prog 4 (sp4 k) :=
  fn_ok (cfg4_ok k) (f := 4) (fn := Try.f4) (by kernel_rfl) (c := bodyOf Try.f4) (by kernel_rfl) (by kernel_rfl) rfl rfl (Nat.le_of_ble_eq_true rfl) (Nat.le_of_ble_eq_true rfl) (p := pl4 k) (Eq.mpr (pq4 k) ⟨(planOK_go _), ⟨(planOK_go _), ⟨(planOK_go _), ⟨(planOK_go _), ⟨(planOK_go _), ⟨⟨(planOK_go _), (fr4_0_ok k)⟩, ⟨(planOK_go _), ⟨(planOK_go _), ⟨(planOK_go _), ⟨⟨(planOK_go _), (fr4_1_ok k)⟩, (planOK_go _)⟩⟩⟩⟩⟩⟩⟩⟩⟩⟩) fun x => ⟨ev4 k x, eq4 k x⟩
end Go.Proofs.YtmjlilmajdknkaaE
