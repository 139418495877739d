/- Functions of the program, as Lean functions, with their contracts; printed by gen.py. Conditions: none. -/
import Derived.Test.YtgojfdimbciaiaaE38
import Derived.Test.YtgojfdimbciaiaaProg
set_option linter.unusedVariables false
namespace Go.Proofs.YtgojfdimbciaiaaE
open Kd
set_option maxRecDepth 20000
/-! f32 hyphen/twin.drawn -/
def F32_0 (k : Nat) : Nat → (List (Int × (Int × (Int × Unit)))) → Int → Int → ((List (List Int)) × Unit) → ((List (List Int)) × Unit) → Option ((Unit × (((List (List Int)) × Unit) × ((List (List Int)) × Unit) × Unit)))
  | 0, _, _, _, _, _ => none
  | n + 1, t12, t13, t14, c2, c3 =>
    bif (decide (t14 < t13)) then
      if 0 ≤ t14 ∧ t14 < ((List.length t12 : Nat) : Int) then
        let x5 := (List.getD t12 (Int.toNat t14) ((0 : Int), ((0 : Int), ((0 : Int), ()))))
        if 0 ≤ x5.1 ∧ x5.1 < ((List.length c3.1 : Nat) : Int) then
          let x6 := (List.set (List.replicate 1 (0 : Int)) 0 x5.2.1)
          let x7 := (List.getD c3.1 (Int.toNat x5.1) ([] : (List Int)))
          if (List.length x7 + List.length x6) * (8 * 2) ≤ 281474976710656 ∧ List.length x7 + List.length x6 ≤ 9223372036854775807 then
            if 0 ≤ x5.1 ∧ x5.1 < ((List.length c3.1 : Nat) : Int) then
              if (Int.toNat x5.1) = (Int.toNat x5.1) then
                (F32_0 k n t12 t13 (IntKind.wrap .i64 (t14 + (1 : Int))) c2 ((List.set c3.1 (Int.toNat x5.1) (x7 ++ x6)), c3.2)).bind some
              else none
            else none
          else none
        else none
      else none
    else
      some ((), (c2, c3, ()))
def fr32_0 (k : Nat) : Frag := ⟨⟨[], [(2, .ptr 2 []), (3, .ptr 3 []), (12, .val (.sl false 43 (.pair (.int .i64) (.pair (.int .i64) (.pair (.int .i64) .unit))) none)), (13, .val (.int .i64)), (14, .val (.int .i64))], [(2, some 76, (.pair (.sl true 23 (.sl true 3 (.int .i64) none) none) .unit)), (3, some 76, (.pair (.sl true 23 (.sl true 3 (.int .i64) none) none) .unit))]⟩, [(.exit 0, ⟨[], [(2, .ptr 2 []), (3, .ptr 3 [])], [(2, some 76, (.pair (.sl true 23 (.sl true 3 (.int .i64) none) none) .unit)), (3, some 76, (.pair (.sl true 23 (.sl true 3 (.int .i64) none) none) .unit))]⟩)], fun v => F32_0 k k v.1.1 v.1.2.1 v.1.2.2.1 v.2.1 v.2.2.1⟩
def F32 (k : Nat) (a0 : ((List Int) × ((List Int) × ((List Int) × ((List (Int × (Int × (Int × Unit)))) × (Int × Unit)))))) : Option ((((List (List Int)) × Unit) × Unit) × Unit) :=
  if (0 ≤ ((List.length a0.1 : Nat) : Int) ∧ ((List.length a0.1 : Nat) : Int) < ((List.length a0.1 : Nat) : Int) + 1) ∧ ((List.length a0.1 : Nat) : Int) ≤ 9223372036854775807 ∧ ((24 : Nat) : Int) * ((List.length a0.1 : Nat) : Int) ≤ 281474976710656 then
    let x1 := (List.replicate (Int.toNat ((List.length a0.1 : Nat) : Int)) ([] : (List Int)))
    (F32_0 k k a0.2.2.2.1 ((List.length a0.2.2.2.1 : Nat) : Int) (0 : Int) (([] : (List (List Int))), ()) (x1, ())).bind fun r8 =>
    let y10 := r8.2.2.1
    some ((y10, ()), ())
  else none
def sp32 (k : Nat) : Spec := ⟨[.val (.pair (.sl false 3 (.int .i64) none) (.pair (.sl false 3 (.int .i64) none) (.pair (.sl false 3 (.int .i64) none) (.pair (.sl false 43 (.pair (.int .i64) (.pair (.int .i64) (.pair (.int .i64) .unit))) none) (.pair (.int .i64) .unit)))))], [.own (.pair (.sl true 23 (.sl true 3 (.int .i64) none) none) .unit)], fun x => F32 k x.1⟩
def lim32 : Lim := ⟨35, 1, false, false, []⟩
def cfg32 (k : Nat) : Nat → Option Spec := cfgL []
theorem cfg32_ok (k : Nat) : CfgOK Try.prog (cfg32 k) := cfgL_nil
def pl32_0 (k : Nat) : Plan := .go
theorem pq32_0 (k : Nat) : PlanOK Try.prog lim32 (pl32_0 k) (codeAt (bodyOf Try.f32) [.r, .r, .l, .r, .s, .b]) = PlanOK Try.prog lim32 .go (codeAt (bodyOf Try.f32) [.r, .r, .l, .r, .s, .b]) := by kernel_rfl
theorem ps32_0 (k m : Nat) (v : (fr32_0 k).sh.V) : F32_0 k (m + 1) v.1.1 v.1.2.1 v.1.2.2.1 v.2.1 v.2.2.1 = (body Try.prog (stepper Try.prog (cfg32 k) lim32) (pl32_0 k) (codeAt (bodyOf Try.f32) [.r, .r, .l, .r, .s, .b]) ((fr32_0 k).sh.st v) (loopK (fr32_0 k) fun v => F32_0 k m v.1.1 v.1.2.1 v.1.2.2.1 v.2.1 v.2.2.1)).eval := by kernel_rfl
theorem pe32_0 (k m : Nat) (v : (fr32_0 k).sh.V) : (body Try.prog (stepper Try.prog (cfg32 k) lim32) (pl32_0 k) (codeAt (bodyOf Try.f32) [.r, .r, .l, .r, .s, .b]) ((fr32_0 k).sh.st v) (loopK (fr32_0 k) fun v => F32_0 k m v.1.1 v.1.2.1 v.1.2.2.1 v.2.1 v.2.2.1)).left = (body Try.prog (stepper Try.prog (cfg32 k) lim32) (pl32_0 k) (codeAt (bodyOf Try.f32) [.r, .r, .l, .r, .s, .b]) ((fr32_0 k).sh.st v) (loopK (fr32_0 k) fun v => F32_0 k m v.1.1 v.1.2.1 v.1.2.2.1 v.2.1 v.2.2.1)).right := by kernel_rfl
theorem fr32_0_ok (k : Nat) : FragOK Try.prog lim32 (fr32_0 k) (codeAt (bodyOf Try.f32) [.r, .r, .l, .r, .s]) :=
  frag_cast (by kernel_rfl) (loop_ok (cfg32_ok k) (Eq.mpr (pq32_0 k) (planOK_go _)) (fun m v => F32_0 k m v.1.1 v.1.2.1 v.1.2.2.1 v.2.1 v.2.2.1) k (fun _ => rfl) (fun _ => rfl) fun m v => ⟨ps32_0 k m v, pe32_0 k m v⟩)
def pl32 (k : Nat) : Plan := (.seq .go (.seq .go (.seq (.seq .go (.sub (.frag (fr32_0 k)))) .go)))
theorem pq32 (k : Nat) : PlanOK Try.prog lim32 (pl32 k) (codeAt (bodyOf Try.f32) []) = (PlanOK Try.prog lim32 .go (codeAt (bodyOf Try.f32) [.l]) ∧ (PlanOK Try.prog lim32 .go (codeAt (bodyOf Try.f32) [.r, .l]) ∧ ((PlanOK Try.prog lim32 .go (codeAt (bodyOf Try.f32) [.r, .r, .l, .l]) ∧ FragOK Try.prog lim32 (fr32_0 k) (codeAt (bodyOf Try.f32) [.r, .r, .l, .r, .s])) ∧ PlanOK Try.prog lim32 .go (codeAt (bodyOf Try.f32) [.r, .r, .r])))) := by kernel_rfl
theorem ev32 (k : Nat) (x : AT (sp32 k).ps) : (sp32 k).impl x = (fnT Try.prog (cfg32 k) lim32 Try.f32 (bodyOf Try.f32) (pl32 k) (sp32 k) x).eval := by kernel_rfl
theorem eq32 (k : Nat) (x : AT (sp32 k).ps) : (fnT Try.prog (cfg32 k) lim32 Try.f32 (bodyOf Try.f32) (pl32 k) (sp32 k) x).left = (fnT Try.prog (cfg32 k) lim32 Try.f32 (bodyOf Try.f32) (pl32 k) (sp32 k) x).right := by kernel_rfl
theorem v32 (k : Nat) : Callable Try.prog 32 ∧ Valid Try.prog 32 (sp32 k) :=
  fn_ok (cfg32_ok k) (f := 32) (fn := Try.f32) (by kernel_rfl) (c := bodyOf Try.f32) (by kernel_rfl) (by kernel_rfl) rfl rfl (Nat.le_of_ble_eq_true rfl) (Nat.le_of_ble_eq_true rfl) (p := pl32 k) (Eq.mpr (pq32 k) ⟨(planOK_go _), ⟨(planOK_go _), ⟨⟨(planOK_go _), (fr32_0_ok k)⟩, (planOK_go _)⟩⟩⟩) fun x => ⟨ev32 k x, eq32 k x⟩
/-! f33 hyphen/twin.begin -/
def F33_0 (k : Nat) : Nat → (List Int) → Int → Int → (((List (List Int)) × Unit) × ((List Int) × ((List Int) × Unit))) → Option ((((List Int) × Unit) × ((((List (List Int)) × Unit) × ((List Int) × ((List Int) × Unit))) × Unit)))
  | 0, _, _, _, _ => none
  | n + 1, t1, t20, t21, c15 =>
    bif (decide (t21 < t20)) then
      if 0 ≤ t21 ∧ t21 < ((List.length c15.2.1 : Nat) : Int) then
        let x3 := (List.set c15.2.1 (Int.toNat t21) (-1 : Int))
        (F33_0 k n t1 t20 (IntKind.wrap .i64 (t21 + (1 : Int))) (c15.1, (x3, c15.2.2))).bind some
      else none
    else
      some ((t1, ()), (c15, ()))
def fr33_0 (k : Nat) : Frag := ⟨⟨[], [(1, .val (.sl false 3 (.int .i64) none)), (5, .ptr 15 []), (20, .val (.int .i64)), (21, .val (.int .i64))], [(15, some 104, (.pair (.pair (.sl false 23 (.sl false 3 (.int .i64) none) none) .unit) (.pair (.sl true 3 (.int .i64) none) (.pair (.sl true 3 (.int .i64) none) .unit))))]⟩, [(.exit 0, ⟨[], [(1, .val (.sl false 3 (.int .i64) none)), (5, .ptr 15 [])], [(15, some 104, (.pair (.pair (.sl false 23 (.sl false 3 (.int .i64) none) none) .unit) (.pair (.sl true 3 (.int .i64) none) (.pair (.sl true 3 (.int .i64) none) .unit))))]⟩)], fun v => F33_0 k k v.1.1 v.1.2.1 v.1.2.2.1 v.2.1⟩
def F33_1 (k : Nat) : Nat → (List Int) → Int → Int → (((List (List Int)) × Unit) × ((List Int) × ((List Int) × Unit))) → Option ((Unit × ((((List (List Int)) × Unit) × ((List Int) × ((List Int) × Unit))) × Unit)))
  | 0, _, _, _, _ => none
  | n + 1, t31, t32, t33, c15 =>
    bif (decide (t33 < t32)) then
      if 0 ≤ t33 ∧ t33 < ((List.length t31 : Nat) : Int) then
        if 0 ≤ (List.getD t31 (Int.toNat t33) (0 : Int)) ∧ (List.getD t31 (Int.toNat t33) (0 : Int)) < ((List.length c15.2.1 : Nat) : Int) then
          let x10 := (Int.toNat (List.getD t31 (Int.toNat t33) (0 : Int)))
          let x11 := (List.set c15.2.1 x10 (List.getD t31 (Int.toNat t33) (0 : Int)))
          let x12 := (List.set (List.replicate 1 (0 : Int)) 0 (List.getD t31 (Int.toNat t33) (0 : Int)))
          if (List.length c15.2.2.1 + List.length x12) * (8 * 2) ≤ 281474976710656 ∧ List.length c15.2.2.1 + List.length x12 ≤ 9223372036854775807 then
            (F33_1 k n t31 t32 (IntKind.wrap .i64 (t33 + (1 : Int))) (c15.1, (x11, ((c15.2.2.1 ++ x12), c15.2.2.2)))).bind some
          else none
        else none
      else none
    else
      some ((), (c15, ()))
def fr33_1 (k : Nat) : Frag := ⟨⟨[], [(5, .ptr 15 []), (31, .val (.sl false 3 (.int .i64) none)), (32, .val (.int .i64)), (33, .val (.int .i64))], [(15, some 104, (.pair (.pair (.sl false 23 (.sl false 3 (.int .i64) none) none) .unit) (.pair (.sl true 3 (.int .i64) none) (.pair (.sl true 3 (.int .i64) none) .unit))))]⟩, [(.exit 2, ⟨[], [(5, .ptr 15 [])], [(15, some 104, (.pair (.pair (.sl false 23 (.sl false 3 (.int .i64) none) none) .unit) (.pair (.sl true 3 (.int .i64) none) (.pair (.sl true 3 (.int .i64) none) .unit))))]⟩)], fun v => F33_1 k k v.1.1 v.1.2.1 v.1.2.2.1 v.2.1⟩
def F33 (k : Nat) (a0 : ((List (List Int)) × Unit)) (a1 : (List Int)) : Option (((((List (List Int)) × Unit) × ((List Int) × ((List Int) × Unit))) × Unit) × Unit) :=
  if (0 ≤ ((List.length a0.1 : Nat) : Int) ∧ ((List.length a0.1 : Nat) : Int) < ((List.length a0.1 : Nat) : Int) + 1) ∧ ((List.length a0.1 : Nat) : Int) ≤ 9223372036854775807 ∧ ((8 : Nat) : Int) * ((List.length a0.1 : Nat) : Int) ≤ 281474976710656 then
    let x1 := (List.replicate (Int.toNat ((List.length a0.1 : Nat) : Int)) (0 : Int))
    (F33_0 k k a1 ((List.length x1 : Nat) : Int) (0 : Int) (a0, (x1, (([] : (List Int)), ())))).bind fun r4 =>
    let y5 := r4.1.1
    let y6 := r4.2.1
    (F33_1 k k y5 ((List.length y5 : Nat) : Int) (0 : Int) y6).bind fun r13 =>
    let y14 := r13.2.1
    some ((y14, ()), ())
  else none
def sp33 (k : Nat) : Spec := ⟨[.val (.pair (.sl false 23 (.sl false 3 (.int .i64) none) none) .unit), .val (.sl false 3 (.int .i64) none)], [.box 104 (.pair (.pair (.sl false 23 (.sl false 3 (.int .i64) none) none) .unit) (.pair (.sl true 3 (.int .i64) none) (.pair (.sl true 3 (.int .i64) none) .unit)))], fun x => F33 k x.1 x.2.1⟩
def lim33 : Lim := ⟨56, 2, false, false, []⟩
def cfg33 (k : Nat) : Nat → Option Spec := cfgL []
theorem cfg33_ok (k : Nat) : CfgOK Try.prog (cfg33 k) := cfgL_nil
def pl33_0 (k : Nat) : Plan := .go
theorem pq33_0 (k : Nat) : PlanOK Try.prog lim33 (pl33_0 k) (codeAt (bodyOf Try.f33) [.r, .r, .l, .r, .s, .b]) = PlanOK Try.prog lim33 .go (codeAt (bodyOf Try.f33) [.r, .r, .l, .r, .s, .b]) := by kernel_rfl
theorem ps33_0 (k m : Nat) (v : (fr33_0 k).sh.V) : F33_0 k (m + 1) v.1.1 v.1.2.1 v.1.2.2.1 v.2.1 = (body Try.prog (stepper Try.prog (cfg33 k) lim33) (pl33_0 k) (codeAt (bodyOf Try.f33) [.r, .r, .l, .r, .s, .b]) ((fr33_0 k).sh.st v) (loopK (fr33_0 k) fun v => F33_0 k m v.1.1 v.1.2.1 v.1.2.2.1 v.2.1)).eval := by kernel_rfl
theorem pe33_0 (k m : Nat) (v : (fr33_0 k).sh.V) : (body Try.prog (stepper Try.prog (cfg33 k) lim33) (pl33_0 k) (codeAt (bodyOf Try.f33) [.r, .r, .l, .r, .s, .b]) ((fr33_0 k).sh.st v) (loopK (fr33_0 k) fun v => F33_0 k m v.1.1 v.1.2.1 v.1.2.2.1 v.2.1)).left = (body Try.prog (stepper Try.prog (cfg33 k) lim33) (pl33_0 k) (codeAt (bodyOf Try.f33) [.r, .r, .l, .r, .s, .b]) ((fr33_0 k).sh.st v) (loopK (fr33_0 k) fun v => F33_0 k m v.1.1 v.1.2.1 v.1.2.2.1 v.2.1)).right := by kernel_rfl
theorem fr33_0_ok (k : Nat) : FragOK Try.prog lim33 (fr33_0 k) (codeAt (bodyOf Try.f33) [.r, .r, .l, .r, .s]) :=
  frag_cast (by kernel_rfl) (loop_ok (cfg33_ok k) (Eq.mpr (pq33_0 k) (planOK_go _)) (fun m v => F33_0 k m v.1.1 v.1.2.1 v.1.2.2.1 v.2.1) k (fun _ => rfl) (fun _ => rfl) fun m v => ⟨ps33_0 k m v, pe33_0 k m v⟩)
def pl33_1 (k : Nat) : Plan := .go
theorem pq33_1 (k : Nat) : PlanOK Try.prog lim33 (pl33_1 k) (codeAt (bodyOf Try.f33) [.r, .r, .r, .l, .r, .s, .b]) = PlanOK Try.prog lim33 .go (codeAt (bodyOf Try.f33) [.r, .r, .r, .l, .r, .s, .b]) := by kernel_rfl
theorem ps33_1 (k m : Nat) (v : (fr33_1 k).sh.V) : F33_1 k (m + 1) v.1.1 v.1.2.1 v.1.2.2.1 v.2.1 = (body Try.prog (stepper Try.prog (cfg33 k) lim33) (pl33_1 k) (codeAt (bodyOf Try.f33) [.r, .r, .r, .l, .r, .s, .b]) ((fr33_1 k).sh.st v) (loopK (fr33_1 k) fun v => F33_1 k m v.1.1 v.1.2.1 v.1.2.2.1 v.2.1)).eval := by kernel_rfl
theorem pe33_1 (k m : Nat) (v : (fr33_1 k).sh.V) : (body Try.prog (stepper Try.prog (cfg33 k) lim33) (pl33_1 k) (codeAt (bodyOf Try.f33) [.r, .r, .r, .l, .r, .s, .b]) ((fr33_1 k).sh.st v) (loopK (fr33_1 k) fun v => F33_1 k m v.1.1 v.1.2.1 v.1.2.2.1 v.2.1)).left = (body Try.prog (stepper Try.prog (cfg33 k) lim33) (pl33_1 k) (codeAt (bodyOf Try.f33) [.r, .r, .r, .l, .r, .s, .b]) ((fr33_1 k).sh.st v) (loopK (fr33_1 k) fun v => F33_1 k m v.1.1 v.1.2.1 v.1.2.2.1 v.2.1)).right := by kernel_rfl
theorem fr33_1_ok (k : Nat) : FragOK Try.prog lim33 (fr33_1 k) (codeAt (bodyOf Try.f33) [.r, .r, .r, .l, .r, .s]) :=
  frag_cast (by kernel_rfl) (loop_ok (cfg33_ok k) (Eq.mpr (pq33_1 k) (planOK_go _)) (fun m v => F33_1 k m v.1.1 v.1.2.1 v.1.2.2.1 v.2.1) k (fun _ => rfl) (fun _ => rfl) fun m v => ⟨ps33_1 k m v, pe33_1 k m v⟩)
def pl33 (k : Nat) : Plan := (.seq .go (.seq .go (.seq (.seq .go (.sub (.frag (fr33_0 k)))) (.seq (.seq .go (.sub (.frag (fr33_1 k)))) .go))))
theorem pq33 (k : Nat) : PlanOK Try.prog lim33 (pl33 k) (codeAt (bodyOf Try.f33) []) = (PlanOK Try.prog lim33 .go (codeAt (bodyOf Try.f33) [.l]) ∧ (PlanOK Try.prog lim33 .go (codeAt (bodyOf Try.f33) [.r, .l]) ∧ ((PlanOK Try.prog lim33 .go (codeAt (bodyOf Try.f33) [.r, .r, .l, .l]) ∧ FragOK Try.prog lim33 (fr33_0 k) (codeAt (bodyOf Try.f33) [.r, .r, .l, .r, .s])) ∧ ((PlanOK Try.prog lim33 .go (codeAt (bodyOf Try.f33) [.r, .r, .r, .l, .l]) ∧ FragOK Try.prog lim33 (fr33_1 k) (codeAt (bodyOf Try.f33) [.r, .r, .r, .l, .r, .s])) ∧ PlanOK Try.prog lim33 .go (codeAt (bodyOf Try.f33) [.r, .r, .r, .r]))))) := by kernel_rfl
theorem ev33 (k : Nat) (x : AT (sp33 k).ps) : (sp33 k).impl x = (fnT Try.prog (cfg33 k) lim33 Try.f33 (bodyOf Try.f33) (pl33 k) (sp33 k) x).eval := by kernel_rfl
theorem eq33 (k : Nat) (x : AT (sp33 k).ps) : (fnT Try.prog (cfg33 k) lim33 Try.f33 (bodyOf Try.f33) (pl33 k) (sp33 k) x).left = (fnT Try.prog (cfg33 k) lim33 Try.f33 (bodyOf Try.f33) (pl33 k) (sp33 k) x).right := by kernel_rfl
theorem v33 (k : Nat) : Callable Try.prog 33 ∧ Valid Try.prog 33 (sp33 k) :=
  fn_ok (cfg33_ok k) (f := 33) (fn := Try.f33) (by kernel_rfl) (c := bodyOf Try.f33) (by kernel_rfl) (by kernel_rfl) rfl rfl (Nat.le_of_ble_eq_true rfl) (Nat.le_of_ble_eq_true rfl) (p := pl33 k) (Eq.mpr (pq33 k) ⟨(planOK_go _), ⟨(planOK_go _), ⟨⟨(planOK_go _), (fr33_0_ok k)⟩, ⟨⟨(planOK_go _), (fr33_1_ok k)⟩, (planOK_go _)⟩⟩⟩⟩) fun x => ⟨ev33 k x, eq33 k x⟩
/-! f52 slices.Reverse[[]int,int] -/
def F52_0 (k : Nat) : Nat → Int → Int → (List Int) → Option ((Unit × ((List Int) × Unit)))
  | 0, _, _, _ => none
  | n + 1, t2, t3, c0 =>
    bif (decide (t2 < t3)) then
      if 0 ≤ t3 ∧ t3 < ((List.length c0 : Nat) : Int) then
        if 0 ≤ t2 ∧ t2 < ((List.length c0 : Nat) : Int) then
          if 0 ≤ t2 ∧ t2 < ((List.length c0 : Nat) : Int) then
            let x4 := (List.set c0 (Int.toNat t2) (List.getD c0 (Int.toNat t3) (0 : Int)))
            if 0 ≤ t3 ∧ t3 < ((List.length x4 : Nat) : Int) then
              let x5 := (List.set x4 (Int.toNat t3) (List.getD c0 (Int.toNat t2) (0 : Int)))
              (F52_0 k n (IntKind.wrap .i64 (t2 + (1 : Int))) (IntKind.wrap .i64 (t3 - (1 : Int))) x5).bind some
            else none
          else none
        else none
      else none
    else
      some ((), (c0, ()))
def fr52_0 (k : Nat) : Frag := ⟨⟨[], [(0, .at 0 []), (2, .val (.int .i64)), (3, .val (.int .i64))], [(0, none, (.sl true 3 (.int .i64) none))]⟩, [(.exit 0, ⟨[], [], [(0, none, (.sl true 3 (.int .i64) none))]⟩)], fun v => F52_0 k k v.1.1 v.1.2.1 v.2.1⟩
def F52 (k : Nat) (a0 : (List Int)) : Option (Unit × ((List Int) × Unit)) :=
  let x1 := (IntKind.wrap .i64 (((List.length a0 : Nat) : Int) - (1 : Int)))
  (F52_0 k k (0 : Int) x1 a0).bind fun r6 =>
  let y7 := r6.2.1
  some ((), (y7, ()))
def sp52 (k : Nat) : Spec := ⟨[.mut (.sl true 3 (.int .i64) none)], [], fun x => F52 k x.1⟩
def lim52 : Lim := ⟨28, 1, false, false, []⟩
def cfg52 (k : Nat) : Nat → Option Spec := cfgL []
theorem cfg52_ok (k : Nat) : CfgOK Try.prog (cfg52 k) := cfgL_nil
def pl52_0 (k : Nat) : Plan := .go
theorem pq52_0 (k : Nat) : PlanOK Try.prog lim52 (pl52_0 k) (codeAt (bodyOf Try.f52) [.r, .s, .b]) = PlanOK Try.prog lim52 .go (codeAt (bodyOf Try.f52) [.r, .s, .b]) := by kernel_rfl
theorem ps52_0 (k m : Nat) (v : (fr52_0 k).sh.V) : F52_0 k (m + 1) v.1.1 v.1.2.1 v.2.1 = (body Try.prog (stepper Try.prog (cfg52 k) lim52) (pl52_0 k) (codeAt (bodyOf Try.f52) [.r, .s, .b]) ((fr52_0 k).sh.st v) (loopK (fr52_0 k) fun v => F52_0 k m v.1.1 v.1.2.1 v.2.1)).eval := by kernel_rfl
theorem pe52_0 (k m : Nat) (v : (fr52_0 k).sh.V) : (body Try.prog (stepper Try.prog (cfg52 k) lim52) (pl52_0 k) (codeAt (bodyOf Try.f52) [.r, .s, .b]) ((fr52_0 k).sh.st v) (loopK (fr52_0 k) fun v => F52_0 k m v.1.1 v.1.2.1 v.2.1)).left = (body Try.prog (stepper Try.prog (cfg52 k) lim52) (pl52_0 k) (codeAt (bodyOf Try.f52) [.r, .s, .b]) ((fr52_0 k).sh.st v) (loopK (fr52_0 k) fun v => F52_0 k m v.1.1 v.1.2.1 v.2.1)).right := by kernel_rfl
theorem fr52_0_ok (k : Nat) : FragOK Try.prog lim52 (fr52_0 k) (codeAt (bodyOf Try.f52) [.r, .s]) :=
  frag_cast (by kernel_rfl) (loop_ok (cfg52_ok k) (Eq.mpr (pq52_0 k) (planOK_go _)) (fun m v => F52_0 k m v.1.1 v.1.2.1 v.2.1) k (fun _ => rfl) (fun _ => rfl) fun m v => ⟨ps52_0 k m v, pe52_0 k m v⟩)
def pl52 (k : Nat) : Plan := (.seq .go (.sub (.frag (fr52_0 k))))
theorem pq52 (k : Nat) : PlanOK Try.prog lim52 (pl52 k) (codeAt (bodyOf Try.f52) []) = (PlanOK Try.prog lim52 .go (codeAt (bodyOf Try.f52) [.l]) ∧ FragOK Try.prog lim52 (fr52_0 k) (codeAt (bodyOf Try.f52) [.r, .s])) := by kernel_rfl
theorem ev52 (k : Nat) (x : AT (sp52 k).ps) : (sp52 k).impl x = (fnT Try.prog (cfg52 k) lim52 Try.f52 (bodyOf Try.f52) (pl52 k) (sp52 k) x).eval := by kernel_rfl
theorem eq52 (k : Nat) (x : AT (sp52 k).ps) : (fnT Try.prog (cfg52 k) lim52 Try.f52 (bodyOf Try.f52) (pl52 k) (sp52 k) x).left = (fnT Try.prog (cfg52 k) lim52 Try.f52 (bodyOf Try.f52) (pl52 k) (sp52 k) x).right := by kernel_rfl
theorem v52 (k : Nat) : Callable Try.prog 52 ∧ Valid Try.prog 52 (sp52 k) :=
  fn_ok (cfg52_ok k) (f := 52) (fn := Try.f52) (by kernel_rfl) (c := bodyOf Try.f52) (by kernel_rfl) (by kernel_rfl) rfl rfl (Nat.le_of_ble_eq_true rfl) (Nat.le_of_ble_eq_true rfl) (p := pl52 k) (Eq.mpr (pq52 k) ⟨(planOK_go _), (fr52_0_ok k)⟩) fun x => ⟨ev52 k x, eq52 k x⟩
/-! f34 (*hyphen/twin.walk).to -/
def F34_0 (k : Nat) : Nat → Int → Int → Int → Int → Bool → (List Int) → Int → Int → (((List (List Int)) × Unit) × ((List Int) × ((List Int) × Unit))) → Option (((Int × Int × Int × Bool × Unit) × ((((List (List Int)) × Unit) × ((List Int) × ((List Int) × Unit))) × Unit)))
  | 0, _, _, _, _, _, _, _, _, _ => none
  | n + 1, t1, t5, t21, t23, t24, t47, t48, t49, c0 =>
    bif (decide (t49 < t48)) then
      if 0 ≤ t49 ∧ t49 < ((List.length t47 : Nat) : Int) then
        if 0 ≤ (List.getD t47 (Int.toNat t49) (0 : Int)) ∧ (List.getD t47 (Int.toNat t49) (0 : Int)) < ((List.length c0.2.1 : Nat) : Int) then
          let x7 := (Int.toNat (List.getD t47 (Int.toNat t49) (0 : Int)))
          let x8 := (decide ((List.getD c0.2.1 x7 (0 : Int)) < (0 : Int)))
          bif x8 then
            if 0 ≤ (List.getD t47 (Int.toNat t49) (0 : Int)) ∧ (List.getD t47 (Int.toNat t49) (0 : Int)) < ((List.length c0.2.1 : Nat) : Int) then
              let x9 := (Int.toNat (List.getD t47 (Int.toNat t49) (0 : Int)))
              let x10 := (List.set (List.replicate 1 (0 : Int)) 0 (List.getD t47 (Int.toNat t49) (0 : Int)))
              if (List.length c0.2.2.1 + List.length x10) * (8 * 2) ≤ 281474976710656 ∧ List.length c0.2.2.1 + List.length x10 ≤ 9223372036854775807 then
                (F34_0 k n t1 t5 t21 t23 t24 t47 t48 (IntKind.wrap .i64 (t49 + (1 : Int))) (c0.1, ((List.set c0.2.1 x9 t5), ((c0.2.2.1 ++ x10), c0.2.2.2)))).bind some
              else none
            else none
          else
            (F34_0 k n t1 t5 t21 t23 t24 t47 t48 (IntKind.wrap .i64 (t49 + (1 : Int))) c0).bind some
        else none
      else none
    else
      some ((t1, t21, t23, t24, ()), (c0, ()))
def fr34_0 (k : Nat) : Frag := ⟨⟨[], [(0, .ptr 0 []), (1, .val (.int .i64)), (5, .val (.int .i64)), (17, .ptr 0 []), (18, .ptr 0 []), (19, .ptr 0 [.snd, .fst]), (20, .at 0 [.snd, .fst]), (21, .val (.int .i64)), (23, .val (.int .i64)), (24, .val .bool), (47, .val (.sl false 3 (.int .i64) none)), (48, .val (.int .i64)), (49, .val (.int .i64))], [(0, some 104, (.pair (.pair (.sl false 23 (.sl false 3 (.int .i64) none) none) .unit) (.pair (.sl true 3 (.int .i64) none) (.pair (.sl true 3 (.int .i64) none) .unit))))]⟩, [(.exit 2, ⟨[], [(0, .ptr 0 []), (1, .val (.int .i64)), (17, .ptr 0 []), (18, .ptr 0 []), (19, .ptr 0 [.snd, .fst]), (20, .at 0 [.snd, .fst]), (21, .val (.int .i64)), (23, .val (.int .i64)), (24, .val .bool)], [(0, some 104, (.pair (.pair (.sl false 23 (.sl false 3 (.int .i64) none) none) .unit) (.pair (.sl true 3 (.int .i64) none) (.pair (.sl true 3 (.int .i64) none) .unit))))]⟩)], fun v => F34_0 k k v.1.1 v.1.2.1 v.1.2.2.1 v.1.2.2.2.1 v.1.2.2.2.2.1 v.1.2.2.2.2.2.1 v.1.2.2.2.2.2.2.1 v.1.2.2.2.2.2.2.2.1 v.2.1⟩
def F34_1 (k : Nat) : Nat → Int → (((List (List Int)) × Unit) × ((List Int) × ((List Int) × Unit))) → Option (((Int × Unit) × ((((List (List Int)) × Unit) × ((List Int) × ((List Int) × Unit))) × Unit)))
  | 0, _, _ => none
  | n + 1, t1, c0 =>
    let x1 := (decide (((List.length c0.2.2.1 : Nat) : Int) > (0 : Int)))
    bif x1 then
      if 0 ≤ t1 ∧ t1 < ((List.length c0.2.1 : Nat) : Int) then
        let x2 := (decide ((List.getD c0.2.1 (Int.toNat t1) (0 : Int)) < (0 : Int)))
        bif x2 then
          if 0 ≤ (0 : Int) ∧ (0 : Int) < ((List.length c0.2.2.1 : Nat) : Int) then
            let x3 := (List.getD c0.2.2.1 (Int.toNat (0 : Int)) (0 : Int))
            if 0 ≤ (1 : Int) ∧ (1 : Int) ≤ ((List.length c0.2.2.1 : Nat) : Int) ∧ ((List.length c0.2.2.1 : Nat) : Int) ≤ ((List.length c0.2.2.1 : Nat) : Int) then
              let x4 := (Int.toNat ((List.length c0.2.2.1 : Nat) : Int) - Int.toNat (1 : Int))
              let x5 := (List.take x4 (List.drop (Int.toNat (1 : Int)) c0.2.2.1))
              if 0 ≤ x3 ∧ x3 < ((List.length c0.1.1 : Nat) : Int) then
                let x6 := (List.getD c0.1.1 (Int.toNat x3) ([] : (List Int)))
                (F34_0 k k t1 x3 t1 (List.getD c0.2.1 (Int.toNat t1) (0 : Int)) x2 x6 ((List.length x6 : Nat) : Int) (0 : Int) (c0.1, (c0.2.1, (x5, c0.2.2.2)))).bind fun r11 =>
                let y12 := r11.1.1
                let y16 := r11.2.1
                (F34_1 k n y12 y16).bind some
              else none
            else none
          else none
        else
          some ((t1, ()), (c0, ()))
      else none
    else
      some ((t1, ()), (c0, ()))
def fr34_1 (k : Nat) : Frag := ⟨⟨[], [(0, .ptr 0 []), (1, .val (.int .i64))], [(0, some 104, (.pair (.pair (.sl false 23 (.sl false 3 (.int .i64) none) none) .unit) (.pair (.sl true 3 (.int .i64) none) (.pair (.sl true 3 (.int .i64) none) .unit))))]⟩, [(.exit 0, ⟨[], [(0, .ptr 0 []), (1, .val (.int .i64))], [(0, some 104, (.pair (.pair (.sl false 23 (.sl false 3 (.int .i64) none) none) .unit) (.pair (.sl true 3 (.int .i64) none) (.pair (.sl true 3 (.int .i64) none) .unit))))]⟩)], fun v => F34_1 k k v.1.1 v.2.1⟩
def F34_2 (k : Nat) : Nat → Int → (((List (List Int)) × Unit) × ((List Int) × ((List Int) × Unit))) → (List Int) → Option ((Unit × ((((List (List Int)) × Unit) × ((List Int) × ((List Int) × Unit))) × (List Int) × Unit)))
  | 0, _, _, _ => none
  | n + 1, t9, c0, c2000008 =>
    if 0 ≤ t9 ∧ t9 < ((List.length c0.2.1 : Nat) : Int) then
      let x22 := ((List.getD c0.2.1 (Int.toNat t9) (0 : Int)) != t9)
      bif x22 then
        if 0 ≤ t9 ∧ t9 < ((List.length c0.2.1 : Nat) : Int) then
          let x23 := (List.set (List.replicate 1 (0 : Int)) 0 (List.getD c0.2.1 (Int.toNat t9) (0 : Int)))
          if (List.length c2000008 + List.length x23) * (8 * 2) ≤ 281474976710656 ∧ List.length c2000008 + List.length x23 ≤ 9223372036854775807 then
            if 0 ≤ t9 ∧ t9 < ((List.length c0.2.1 : Nat) : Int) then
              (F34_2 k n (List.getD c0.2.1 (Int.toNat t9) (0 : Int)) c0 (c2000008 ++ x23)).bind some
            else none
          else none
        else none
      else
        some ((), (c0, c2000008, ()))
    else none
def fr34_2 (k : Nat) : Frag := ⟨⟨[(8, (.sl true 3 (.int .i64) none))], [(0, .ptr 0 []), (8, .at 2000008 []), (9, .val (.int .i64))], [(0, some 104, (.pair (.pair (.sl false 23 (.sl false 3 (.int .i64) none) none) .unit) (.pair (.sl true 3 (.int .i64) none) (.pair (.sl true 3 (.int .i64) none) .unit)))), (2000008, none, (.sl true 3 (.int .i64) none))]⟩, [(.exit 4, ⟨[(8, (.sl true 3 (.int .i64) none))], [(8, .at 2000008 [])], [(0, some 104, (.pair (.pair (.sl false 23 (.sl false 3 (.int .i64) none) none) .unit) (.pair (.sl true 3 (.int .i64) none) (.pair (.sl true 3 (.int .i64) none) .unit)))), (2000008, none, (.sl true 3 (.int .i64) none))]⟩)], fun v => F34_2 k k v.1.1 v.2.1 v.2.2.1⟩
def F34 (k : Nat) (a0 : (((List (List Int)) × Unit) × ((List Int) × ((List Int) × Unit)))) (a1 : Int) : Option (((List Int) × Unit) × ((((List (List Int)) × Unit) × ((List Int) × ((List Int) × Unit))) × Unit)) :=
  (F34_1 k k a1 a0).bind fun r17 =>
  let y18 := r17.1.1
  let y19 := r17.2.1
  if 0 ≤ y18 ∧ y18 < ((List.length y19.2.1 : Nat) : Int) then
    let x20 := (List.getD y19.2.1 (Int.toNat y18) (0 : Int))
    bif (decide (x20 < (0 : Int))) then
      some (([], ()), (y19, ()))
    else
      let x21 := (List.set (List.replicate 1 (0 : Int)) 0 y18)
      (F34_2 k k y18 y19 x21).bind fun r24 =>
      let y25 := r24.2.1
      let y26 := r24.2.2.1
      (F52 k y26).bind fun r27 =>
      if (!(List.isEmpty r27.2.1)) = true then
        some ((r27.2.1, ()), (y25, ()))
      else none
  else none
def sp34 (k : Nat) : Spec := ⟨[.ptr 104 (.pair (.pair (.sl false 23 (.sl false 3 (.int .i64) none) none) .unit) (.pair (.sl true 3 (.int .i64) none) (.pair (.sl true 3 (.int .i64) none) .unit))) [], .val (.int .i64)], [.ownN (.sl true 3 (.int .i64) none)], fun x => F34 k x.1 x.2.1⟩
def lim34 : Lim := ⟨119, 2, false, false, []⟩
def cfg34 (k : Nat) : Nat → Option Spec := cfgL [(52, sp52 k)]
theorem cfg34_ok (k : Nat) : CfgOK Try.prog (cfg34 k) := cfgL_cons (v52 k) (cfgL_nil)
def pl34_0 (k : Nat) : Plan := .go
theorem pq34_0 (k : Nat) : PlanOK Try.prog lim34 (pl34_0 k) (codeAt (bodyOf Try.f34) [.r, .l, .s, .b, .r, .s, .r, .r, .r, .s, .b]) = PlanOK Try.prog lim34 .go (codeAt (bodyOf Try.f34) [.r, .l, .s, .b, .r, .s, .r, .r, .r, .s, .b]) := by kernel_rfl
theorem ps34_0 (k m : Nat) (v : (fr34_0 k).sh.V) : F34_0 k (m + 1) v.1.1 v.1.2.1 v.1.2.2.1 v.1.2.2.2.1 v.1.2.2.2.2.1 v.1.2.2.2.2.2.1 v.1.2.2.2.2.2.2.1 v.1.2.2.2.2.2.2.2.1 v.2.1 = (body Try.prog (stepper Try.prog (cfg34 k) lim34) (pl34_0 k) (codeAt (bodyOf Try.f34) [.r, .l, .s, .b, .r, .s, .r, .r, .r, .s, .b]) ((fr34_0 k).sh.st v) (loopK (fr34_0 k) fun v => F34_0 k m v.1.1 v.1.2.1 v.1.2.2.1 v.1.2.2.2.1 v.1.2.2.2.2.1 v.1.2.2.2.2.2.1 v.1.2.2.2.2.2.2.1 v.1.2.2.2.2.2.2.2.1 v.2.1)).eval := by kernel_rfl
theorem pe34_0 (k m : Nat) (v : (fr34_0 k).sh.V) : (body Try.prog (stepper Try.prog (cfg34 k) lim34) (pl34_0 k) (codeAt (bodyOf Try.f34) [.r, .l, .s, .b, .r, .s, .r, .r, .r, .s, .b]) ((fr34_0 k).sh.st v) (loopK (fr34_0 k) fun v => F34_0 k m v.1.1 v.1.2.1 v.1.2.2.1 v.1.2.2.2.1 v.1.2.2.2.2.1 v.1.2.2.2.2.2.1 v.1.2.2.2.2.2.2.1 v.1.2.2.2.2.2.2.2.1 v.2.1)).left = (body Try.prog (stepper Try.prog (cfg34 k) lim34) (pl34_0 k) (codeAt (bodyOf Try.f34) [.r, .l, .s, .b, .r, .s, .r, .r, .r, .s, .b]) ((fr34_0 k).sh.st v) (loopK (fr34_0 k) fun v => F34_0 k m v.1.1 v.1.2.1 v.1.2.2.1 v.1.2.2.2.1 v.1.2.2.2.2.1 v.1.2.2.2.2.2.1 v.1.2.2.2.2.2.2.1 v.1.2.2.2.2.2.2.2.1 v.2.1)).right := by kernel_rfl
theorem fr34_0_ok (k : Nat) : FragOK Try.prog lim34 (fr34_0 k) (codeAt (bodyOf Try.f34) [.r, .l, .s, .b, .r, .s, .r, .r, .r, .s]) :=
  frag_cast (by kernel_rfl) (loop_ok (cfg34_ok k) (Eq.mpr (pq34_0 k) (planOK_go _)) (fun m v => F34_0 k m v.1.1 v.1.2.1 v.1.2.2.1 v.1.2.2.2.1 v.1.2.2.2.2.1 v.1.2.2.2.2.2.1 v.1.2.2.2.2.2.2.1 v.1.2.2.2.2.2.2.2.1 v.2.1) k (fun _ => rfl) (fun _ => rfl) fun m v => ⟨ps34_0 k m v, pe34_0 k m v⟩)
def pl34_1 (k : Nat) : Plan := (.seq .go (.sub (.seq .go (.seq .go (.seq .go (.sub (.frag (fr34_0 k))))))))
theorem pq34_1 (k : Nat) : PlanOK Try.prog lim34 (pl34_1 k) (codeAt (bodyOf Try.f34) [.r, .l, .s, .b]) = (PlanOK Try.prog lim34 .go (codeAt (bodyOf Try.f34) [.r, .l, .s, .b, .l]) ∧ (PlanOK Try.prog lim34 .go (codeAt (bodyOf Try.f34) [.r, .l, .s, .b, .r, .s, .l]) ∧ (PlanOK Try.prog lim34 .go (codeAt (bodyOf Try.f34) [.r, .l, .s, .b, .r, .s, .r, .l]) ∧ (PlanOK Try.prog lim34 .go (codeAt (bodyOf Try.f34) [.r, .l, .s, .b, .r, .s, .r, .r, .l]) ∧ FragOK Try.prog lim34 (fr34_0 k) (codeAt (bodyOf Try.f34) [.r, .l, .s, .b, .r, .s, .r, .r, .r, .s]))))) := by kernel_rfl
theorem ps34_1 (k m : Nat) (v : (fr34_1 k).sh.V) : F34_1 k (m + 1) v.1.1 v.2.1 = (body Try.prog (stepper Try.prog (cfg34 k) lim34) (pl34_1 k) (codeAt (bodyOf Try.f34) [.r, .l, .s, .b]) ((fr34_1 k).sh.st v) (loopK (fr34_1 k) fun v => F34_1 k m v.1.1 v.2.1)).eval := by kernel_rfl
theorem pe34_1 (k m : Nat) (v : (fr34_1 k).sh.V) : (body Try.prog (stepper Try.prog (cfg34 k) lim34) (pl34_1 k) (codeAt (bodyOf Try.f34) [.r, .l, .s, .b]) ((fr34_1 k).sh.st v) (loopK (fr34_1 k) fun v => F34_1 k m v.1.1 v.2.1)).left = (body Try.prog (stepper Try.prog (cfg34 k) lim34) (pl34_1 k) (codeAt (bodyOf Try.f34) [.r, .l, .s, .b]) ((fr34_1 k).sh.st v) (loopK (fr34_1 k) fun v => F34_1 k m v.1.1 v.2.1)).right := by kernel_rfl
theorem fr34_1_ok (k : Nat) : FragOK Try.prog lim34 (fr34_1 k) (codeAt (bodyOf Try.f34) [.r, .l, .s]) :=
  frag_cast (by kernel_rfl) (loop_ok (cfg34_ok k) (Eq.mpr (pq34_1 k) ⟨(planOK_go _), ⟨(planOK_go _), ⟨(planOK_go _), ⟨(planOK_go _), (fr34_0_ok k)⟩⟩⟩⟩) (fun m v => F34_1 k m v.1.1 v.2.1) k (fun _ => rfl) (fun _ => rfl) fun m v => ⟨ps34_1 k m v, pe34_1 k m v⟩)
def pl34_2 (k : Nat) : Plan := .go
theorem pq34_2 (k : Nat) : PlanOK Try.prog lim34 (pl34_2 k) (codeAt (bodyOf Try.f34) [.r, .r, .r, .r, .l, .r, .s, .b]) = PlanOK Try.prog lim34 .go (codeAt (bodyOf Try.f34) [.r, .r, .r, .r, .l, .r, .s, .b]) := by kernel_rfl
theorem ps34_2 (k m : Nat) (v : (fr34_2 k).sh.V) : F34_2 k (m + 1) v.1.1 v.2.1 v.2.2.1 = (body Try.prog (stepper Try.prog (cfg34 k) lim34) (pl34_2 k) (codeAt (bodyOf Try.f34) [.r, .r, .r, .r, .l, .r, .s, .b]) ((fr34_2 k).sh.st v) (loopK (fr34_2 k) fun v => F34_2 k m v.1.1 v.2.1 v.2.2.1)).eval := by kernel_rfl
theorem pe34_2 (k m : Nat) (v : (fr34_2 k).sh.V) : (body Try.prog (stepper Try.prog (cfg34 k) lim34) (pl34_2 k) (codeAt (bodyOf Try.f34) [.r, .r, .r, .r, .l, .r, .s, .b]) ((fr34_2 k).sh.st v) (loopK (fr34_2 k) fun v => F34_2 k m v.1.1 v.2.1 v.2.2.1)).left = (body Try.prog (stepper Try.prog (cfg34 k) lim34) (pl34_2 k) (codeAt (bodyOf Try.f34) [.r, .r, .r, .r, .l, .r, .s, .b]) ((fr34_2 k).sh.st v) (loopK (fr34_2 k) fun v => F34_2 k m v.1.1 v.2.1 v.2.2.1)).right := by kernel_rfl
theorem fr34_2_ok (k : Nat) : FragOK Try.prog lim34 (fr34_2 k) (codeAt (bodyOf Try.f34) [.r, .r, .r, .r, .l, .r, .s]) :=
  frag_cast (by kernel_rfl) (loop_ok (cfg34_ok k) (Eq.mpr (pq34_2 k) (planOK_go _)) (fun m v => F34_2 k m v.1.1 v.2.1 v.2.2.1) k (fun _ => rfl) (fun _ => rfl) fun m v => ⟨ps34_2 k m v, pe34_2 k m v⟩)
def pl34 (k : Nat) : Plan := (.seq .go (.seq (.sub (.frag (fr34_1 k))) (.seq .go (.seq .go (.seq (.seq .go (.sub (.frag (fr34_2 k)))) .go)))))
theorem pq34 (k : Nat) : PlanOK Try.prog lim34 (pl34 k) (codeAt (bodyOf Try.f34) []) = (PlanOK Try.prog lim34 .go (codeAt (bodyOf Try.f34) [.l]) ∧ (FragOK Try.prog lim34 (fr34_1 k) (codeAt (bodyOf Try.f34) [.r, .l, .s]) ∧ (PlanOK Try.prog lim34 .go (codeAt (bodyOf Try.f34) [.r, .r, .l]) ∧ (PlanOK Try.prog lim34 .go (codeAt (bodyOf Try.f34) [.r, .r, .r, .l]) ∧ ((PlanOK Try.prog lim34 .go (codeAt (bodyOf Try.f34) [.r, .r, .r, .r, .l, .l]) ∧ FragOK Try.prog lim34 (fr34_2 k) (codeAt (bodyOf Try.f34) [.r, .r, .r, .r, .l, .r, .s])) ∧ PlanOK Try.prog lim34 .go (codeAt (bodyOf Try.f34) [.r, .r, .r, .r, .r])))))) := by kernel_rfl
theorem ev34 (k : Nat) (x : AT (sp34 k).ps) : (sp34 k).impl x = (fnT Try.prog (cfg34 k) lim34 Try.f34 (bodyOf Try.f34) (pl34 k) (sp34 k) x).eval := by kernel_rfl
theorem eq34 (k : Nat) (x : AT (sp34 k).ps) : (fnT Try.prog (cfg34 k) lim34 Try.f34 (bodyOf Try.f34) (pl34 k) (sp34 k) x).left = (fnT Try.prog (cfg34 k) lim34 Try.f34 (bodyOf Try.f34) (pl34 k) (sp34 k) x).right := by kernel_rfl
theorem v34 (k : Nat) : Callable Try.prog 34 ∧ Valid Try.prog 34 (sp34 k) :=
  fn_ok (cfg34_ok k) (f := 34) (fn := Try.f34) (by kernel_rfl) (c := bodyOf Try.f34) (by kernel_rfl) (by kernel_rfl) rfl rfl (Nat.le_of_ble_eq_true rfl) (Nat.le_of_ble_eq_true rfl) (p := pl34 k) (Eq.mpr (pq34 k) ⟨(planOK_go _), ⟨(fr34_1_ok k), ⟨(planOK_go _), ⟨(planOK_go _), ⟨⟨(planOK_go _), (fr34_2_ok k)⟩, (planOK_go _)⟩⟩⟩⟩⟩) fun x => ⟨ev34 k x, eq34 k x⟩
/-! f35 slices.Clone[[]int,int] -/
def F35 (k : Nat) (a0 : (List Int)) : Option (((List Int) × Unit) × Unit) :=
  bif (((List.length a0 : Nat) : Int) == 0) then
    some (([], ()), ())
  else
    if (List.length (List.replicate 0 (0 : Int)) + List.length a0) * (8 * 2) ≤ 281474976710656 ∧ List.length (List.replicate 0 (0 : Int)) + List.length a0 ≤ 9223372036854775807 then
      some ((((List.replicate 0 (0 : Int)) ++ a0), ()), ())
    else none
def sp35 (k : Nat) : Spec := ⟨[.val (.sl false 3 (.int .i64) none)], [.own (.sl true 3 (.int .i64) none)], fun x => F35 k x.1⟩
def lim35 : Lim := ⟨8, 1, true, false, []⟩
def cfg35 (k : Nat) : Nat → Option Spec := cfgL []
theorem cfg35_ok (k : Nat) : CfgOK Try.prog (cfg35 k) := cfgL_nil
def pl35 (k : Nat) : Plan := .go
theorem pq35 (k : Nat) : PlanOK Try.prog lim35 (pl35 k) (codeAt (bodyOf Try.f35) []) = PlanOK Try.prog lim35 .go (codeAt (bodyOf Try.f35) []) := by kernel_rfl
theorem ev35 (k : Nat) (x : AT (sp35 k).ps) : (sp35 k).impl x = (fnT Try.prog (cfg35 k) lim35 Try.f35 (bodyOf Try.f35) (pl35 k) (sp35 k) x).eval := by kernel_rfl
theorem tr35 (k : Nat) (x : AT (sp35 k).ps) : (fnT Try.prog (cfg35 k) lim35 Try.f35 (bodyOf Try.f35) (pl35 k) (sp35 k) x) = (Tr.split (((List.length x.1 : Nat) : Int) == 0) (.both (.split true (.leaf (([], ()), ())) (.need ((List.length (List.replicate 0 (0 : Int)) + List.length x.1) * (8 * 2) ≤ 281474976710656 ∧ List.length (List.replicate 0 (0 : Int)) + List.length x.1 ≤ 9223372036854775807) (.leaf (([] ++ x.1, ()), ())))) (.split false (.leaf (([], ()), ())) (.need ((List.length (List.replicate 0 (0 : Int)) + List.length x.1) * (8 * 2) ≤ 281474976710656 ∧ List.length (List.replicate 0 (0 : Int)) + List.length x.1 ≤ 9223372036854775807) (.leaf (([] ++ x.1, ()), ()))))) (.split false (.leaf (([], ()), ())) (.need ((List.length (List.replicate 0 (0 : Int)) + List.length x.1) * (8 * 2) ≤ 281474976710656 ∧ List.length (List.replicate 0 (0 : Int)) + List.length x.1 ≤ 9223372036854775807) (.leaf (([] ++ x.1, ()), ()))))) := by kernel_rfl
theorem sa35 (k : Nat) (x : AT (sp35 k).ps) (r) (h : (sp35 k).impl x = some r) : (fnT Try.prog (cfg35 k) lim35 Try.f35 (bodyOf Try.f35) (pl35 k) (sp35 k) x).sat (· = r) := sat_of_eq (tr35 k x) (clone_sat (a := x.1) (p := (List.length (List.replicate 0 (0 : Int)) + List.length x.1) * (8 * 2) ≤ 281474976710656 ∧ List.length (List.replicate 0 (0 : Int)) + List.length x.1 ≤ 9223372036854775807) (fun e => by rw [e]; simp) h)
theorem v35 (k : Nat) : Callable Try.prog 35 ∧ Valid Try.prog 35 (sp35 k) :=
  fn_sat (cfg35_ok k) (f := 35) (fn := Try.f35) (by kernel_rfl) (c := bodyOf Try.f35) (by kernel_rfl) (by kernel_rfl) rfl rfl (Nat.le_of_ble_eq_true rfl) (Nat.le_of_ble_eq_true rfl) (p := pl35 k) (Eq.mpr (pq35 k) (planOK_go _)) fun x r h => sa35 k x r h
/-! f14 hyphen/twin.Round -/
def F14_0 (k : Nat) : Nat → (List (Int × (Int × (Int × Unit)))) → Int → Int → ((List (List Int)) × Unit) → Option ((Unit × Unit) ⊕ ((Bool × Unit) × ((List Int) × Unit)))
  | 0, _, _, _, _ => none
  | n + 1, t11, t12, t13, c4 =>
    bif (decide (t13 < t12)) then
      if 0 ≤ t13 ∧ t13 < ((List.length t11 : Nat) : Int) then
        let x7 := (List.getD t11 (Int.toNat t13) ((0 : Int), ((0 : Int), ((0 : Int), ()))))
        bif (decide (x7.2.2.1 ≤ (0 : Int))) then
          (F14_0 k n t11 t12 (IntKind.wrap .i64 (t13 + (1 : Int))) c4).bind some
        else
          let x8 := (List.set (List.replicate 1 (0 : Int)) 0 x7.2.1)
          (F33 k c4 x8).bind fun r9 =>
          (F34 k r9.1.1 x7.1).bind fun r10 =>
          bif (!(List.isEmpty r10.1.1)) then
            if ((List.length r10.1.1 : Nat) : Int) ≠ 0 then
              (F35 k r10.1.1).bind fun r11 =>
              some (.inr ((true, ()), (r11.1.1, ())))
            else none
          else
            (F14_0 k n t11 t12 (IntKind.wrap .i64 (t13 + (1 : Int))) c4).bind some
      else none
    else
      some (.inl ((), ()))
def fr14_0 (k : Nat) : Frag := ⟨⟨[], [(4, .ptr 4 []), (11, .val (.sl false 43 (.pair (.int .i64) (.pair (.int .i64) (.pair (.int .i64) .unit))) none)), (12, .val (.int .i64)), (13, .val (.int .i64))], [(4, some 76, (.pair (.sl false 23 (.sl false 3 (.int .i64) none) none) .unit))]⟩, [(.exit 0, ⟨[], [], []⟩), (.ret, ⟨[], [(2, .at 1000496 []), (3, .val .bool)], [(1000496, none, (.sl true 3 (.int .i64) none))]⟩)], fun v => F14_0 k k v.1.1 v.1.2.1 v.1.2.2.1 v.2.1⟩
def F14 (k : Nat) (a0 : ((List Int) × ((List Int) × ((List Int) × ((List (Int × (Int × (Int × Unit)))) × (Int × Unit)))))) : Option (((List Int) × Bool × Unit) × Unit) :=
  (F32 k a0).bind fun r1 =>
  (F14_0 k k a0.2.2.2.1 ((List.length a0.2.2.2.1 : Nat) : Int) (0 : Int) r1.1.1).bind fun r12 =>
  match r12 with
  | .inl r13 =>
    some (([], false, ()), ())
  | .inr r13 =>
    let y14 := r13.1.1
    let y15 := r13.2.1
    some ((y15, y14, ()), ())
def sp14 (k : Nat) : Spec := ⟨[.val (.pair (.sl false 3 (.int .i64) none) (.pair (.sl false 3 (.int .i64) none) (.pair (.sl false 3 (.int .i64) none) (.pair (.sl false 43 (.pair (.int .i64) (.pair (.int .i64) (.pair (.int .i64) .unit))) none) (.pair (.int .i64) .unit)))))], [.own (.sl true 3 (.int .i64) none), .val .bool], fun x => F14 k x.1⟩
def lim14 : Lim := ⟨33, 1, false, false, [9, 23]⟩
def cfg14 (k : Nat) : Nat → Option Spec := cfgL [(32, sp32 k), (33, sp33 k), (34, sp34 k), (35, sp35 k)]
theorem cfg14_ok (k : Nat) : CfgOK Try.prog (cfg14 k) := cfgL_cons (v32 k) (cfgL_cons (v33 k) (cfgL_cons (v34 k) (cfgL_cons (v35 k) (cfgL_nil))))
def pl14_0 (k : Nat) : Plan := .go
theorem pq14_0 (k : Nat) : PlanOK Try.prog lim14 (pl14_0 k) (codeAt (bodyOf Try.f14) [.r, .r, .l, .r, .s, .b]) = PlanOK Try.prog lim14 .go (codeAt (bodyOf Try.f14) [.r, .r, .l, .r, .s, .b]) := by kernel_rfl
theorem ps14_0 (k m : Nat) (v : (fr14_0 k).sh.V) : F14_0 k (m + 1) v.1.1 v.1.2.1 v.1.2.2.1 v.2.1 = (body Try.prog (stepper Try.prog (cfg14 k) lim14) (pl14_0 k) (codeAt (bodyOf Try.f14) [.r, .r, .l, .r, .s, .b]) ((fr14_0 k).sh.st v) (loopK (fr14_0 k) fun v => F14_0 k m v.1.1 v.1.2.1 v.1.2.2.1 v.2.1)).eval := by kernel_rfl
theorem pe14_0 (k m : Nat) (v : (fr14_0 k).sh.V) : (body Try.prog (stepper Try.prog (cfg14 k) lim14) (pl14_0 k) (codeAt (bodyOf Try.f14) [.r, .r, .l, .r, .s, .b]) ((fr14_0 k).sh.st v) (loopK (fr14_0 k) fun v => F14_0 k m v.1.1 v.1.2.1 v.1.2.2.1 v.2.1)).left = (body Try.prog (stepper Try.prog (cfg14 k) lim14) (pl14_0 k) (codeAt (bodyOf Try.f14) [.r, .r, .l, .r, .s, .b]) ((fr14_0 k).sh.st v) (loopK (fr14_0 k) fun v => F14_0 k m v.1.1 v.1.2.1 v.1.2.2.1 v.2.1)).right := by kernel_rfl
theorem fr14_0_ok (k : Nat) : FragOK Try.prog lim14 (fr14_0 k) (codeAt (bodyOf Try.f14) [.r, .r, .l, .r, .s]) :=
  frag_cast (by kernel_rfl) (loop_ok (cfg14_ok k) (Eq.mpr (pq14_0 k) (planOK_go _)) (fun m v => F14_0 k m v.1.1 v.1.2.1 v.1.2.2.1 v.2.1) k (fun _ => rfl) (fun _ => rfl) fun m v => ⟨ps14_0 k m v, pe14_0 k m v⟩)
def pl14 (k : Nat) : Plan := (.seq .go (.seq .go (.seq (.seq .go (.sub (.frag (fr14_0 k)))) .go)))
theorem pq14 (k : Nat) : PlanOK Try.prog lim14 (pl14 k) (codeAt (bodyOf Try.f14) []) = (PlanOK Try.prog lim14 .go (codeAt (bodyOf Try.f14) [.l]) ∧ (PlanOK Try.prog lim14 .go (codeAt (bodyOf Try.f14) [.r, .l]) ∧ ((PlanOK Try.prog lim14 .go (codeAt (bodyOf Try.f14) [.r, .r, .l, .l]) ∧ FragOK Try.prog lim14 (fr14_0 k) (codeAt (bodyOf Try.f14) [.r, .r, .l, .r, .s])) ∧ PlanOK Try.prog lim14 .go (codeAt (bodyOf Try.f14) [.r, .r, .r])))) := by kernel_rfl
theorem ev14 (k : Nat) (x : AT (sp14 k).ps) : (sp14 k).impl x = (fnT Try.prog (cfg14 k) lim14 Try.f14 (bodyOf Try.f14) (pl14 k) (sp14 k) x).eval := by kernel_rfl
theorem eq14 (k : Nat) (x : AT (sp14 k).ps) : (fnT Try.prog (cfg14 k) lim14 Try.f14 (bodyOf Try.f14) (pl14 k) (sp14 k) x).left = (fnT Try.prog (cfg14 k) lim14 Try.f14 (bodyOf Try.f14) (pl14 k) (sp14 k) x).right := by kernel_rfl
theorem v14 (k : Nat) : Callable Try.prog 14 ∧ Valid Try.prog 14 (sp14 k) :=
  fn_ok (cfg14_ok k) (f := 14) (fn := Try.f14) (by kernel_rfl) (c := bodyOf Try.f14) (by kernel_rfl) (by kernel_rfl) rfl rfl (Nat.le_of_ble_eq_true rfl) (Nat.le_of_ble_eq_true rfl) (p := pl14 k) (Eq.mpr (pq14 k) ⟨(planOK_go _), ⟨(planOK_go _), ⟨⟨(planOK_go _), (fr14_0_ok k)⟩, (planOK_go _)⟩⟩⟩) fun x => ⟨ev14 k x, eq14 k x⟩
/-! f19 hyphen/twin.Way -/
def F19_0 (k : Nat) : Nat → Int → (List Int) → Int → Int → ((List Int) × ((List Int) × ((List Int) × ((List (Int × (Int × (Int × Unit)))) × (Int × Unit))))) → (List Int) → Option (((Int × Unit) × (((List Int) × ((List Int) × ((List Int) × ((List (Int × (Int × (Int × Unit)))) × (Int × Unit))))) × (List Int) × Unit)))
  | 0, _, _, _, _, _, _ => none
  | n + 1, t1, t19, t20, t21, c2, c2000006 =>
    bif (decide (t21 < t20)) then
      if 0 ≤ t21 ∧ t21 < ((List.length t19 : Nat) : Int) then
        let x2 := (decide ((List.getD t19 (Int.toNat t21) (0 : Int)) < (1152921504606846976 : Int)))
        bif x2 then
          let x3 := (List.set (List.replicate 1 (0 : Int)) 0 t21)
          if (List.length c2000006 + List.length x3) * (8 * 2) ≤ 281474976710656 ∧ List.length c2000006 + List.length x3 ≤ 9223372036854775807 then
            (F19_0 k n t1 t19 t20 (IntKind.wrap .i64 (t21 + (1 : Int))) c2 (c2000006 ++ x3)).bind some
          else none
        else
          (F19_0 k n t1 t19 t20 (IntKind.wrap .i64 (t21 + (1 : Int))) c2 c2000006).bind some
      else none
    else
      some ((t1, ()), (c2, c2000006, ()))
def fr19_0 (k : Nat) : Frag := ⟨⟨[(6, (.sl true 3 (.int .i64) none))], [(1, .val (.int .i64)), (2, .ptr 2 []), (6, .at 2000006 []), (19, .val (.sl false 3 (.int .i64) none)), (20, .val (.int .i64)), (21, .val (.int .i64))], [(2, some 28, (.pair (.sl false 3 (.int .i64) none) (.pair (.sl false 3 (.int .i64) none) (.pair (.sl false 3 (.int .i64) none) (.pair (.sl false 43 (.pair (.int .i64) (.pair (.int .i64) (.pair (.int .i64) .unit))) none) (.pair (.int .i64) .unit)))))), (2000006, none, (.sl true 3 (.int .i64) none))]⟩, [(.exit 0, ⟨[(6, (.sl true 3 (.int .i64) none))], [(1, .val (.int .i64)), (2, .ptr 2 []), (6, .at 2000006 [])], [(2, some 28, (.pair (.sl false 3 (.int .i64) none) (.pair (.sl false 3 (.int .i64) none) (.pair (.sl false 3 (.int .i64) none) (.pair (.sl false 43 (.pair (.int .i64) (.pair (.int .i64) (.pair (.int .i64) .unit))) none) (.pair (.int .i64) .unit)))))), (2000006, none, (.sl true 3 (.int .i64) none))]⟩)], fun v => F19_0 k k v.1.1 v.1.2.1 v.1.2.2.1 v.1.2.2.2.1 v.2.1 v.2.2.1⟩
def F19 (k : Nat) (a0 : ((List Int) × ((List Int) × ((List Int) × ((List (Int × (Int × (Int × Unit)))) × (Int × Unit)))))) (a1 : Int) : Option (((List Int) × Bool × Unit) × Unit) :=
  bif (decide (a1 < (0 : Int))) then
    some (([], false, ()), ())
  else
    let x1 := (decide (a1 ≥ ((List.length a0.1 : Nat) : Int)))
    bif x1 then
      some (([], false, ()), ())
    else
      (F19_0 k k a1 a0.2.1 ((List.length a0.2.1 : Nat) : Int) (0 : Int) a0 []).bind fun r4 =>
      let y5 := r4.1.1
      let y6 := r4.2.1
      let y7 := r4.2.2.1
      (F32 k y6).bind fun r8 =>
      (F33 k r8.1.1 y7).bind fun r9 =>
      (F34 k r9.1.1 y5).bind fun r10 =>
      bif (!(List.isEmpty r10.1.1)) then
        (F35 k r10.1.1).bind fun r11 =>
        if ((List.length r10.1.1 : Nat) : Int) ≠ 0 then
          some ((r11.1.1, true, ()), ())
        else none
      else
        (F35 k []).bind fun r12 =>
        some ((r12.1.1, false, ()), ())
def sp19 (k : Nat) : Spec := ⟨[.val (.pair (.sl false 3 (.int .i64) none) (.pair (.sl false 3 (.int .i64) none) (.pair (.sl false 3 (.int .i64) none) (.pair (.sl false 43 (.pair (.int .i64) (.pair (.int .i64) (.pair (.int .i64) .unit))) none) (.pair (.int .i64) .unit))))), .val (.int .i64)], [.own (.sl true 3 (.int .i64) none), .val .bool], fun x => F19 k x.1 x.2.1⟩
def lim19 : Lim := ⟨43, 2, false, false, [34, 35]⟩
def cfg19 (k : Nat) : Nat → Option Spec := cfgL [(32, sp32 k), (33, sp33 k), (34, sp34 k), (35, sp35 k)]
theorem cfg19_ok (k : Nat) : CfgOK Try.prog (cfg19 k) := cfgL_cons (v32 k) (cfgL_cons (v33 k) (cfgL_cons (v34 k) (cfgL_cons (v35 k) (cfgL_nil))))
def pl19_0 (k : Nat) : Plan := .go
theorem pq19_0 (k : Nat) : PlanOK Try.prog lim19 (pl19_0 k) (codeAt (bodyOf Try.f19) [.r, .r, .r, .l, .r, .s, .b]) = PlanOK Try.prog lim19 .go (codeAt (bodyOf Try.f19) [.r, .r, .r, .l, .r, .s, .b]) := by kernel_rfl
theorem ps19_0 (k m : Nat) (v : (fr19_0 k).sh.V) : F19_0 k (m + 1) v.1.1 v.1.2.1 v.1.2.2.1 v.1.2.2.2.1 v.2.1 v.2.2.1 = (body Try.prog (stepper Try.prog (cfg19 k) lim19) (pl19_0 k) (codeAt (bodyOf Try.f19) [.r, .r, .r, .l, .r, .s, .b]) ((fr19_0 k).sh.st v) (loopK (fr19_0 k) fun v => F19_0 k m v.1.1 v.1.2.1 v.1.2.2.1 v.1.2.2.2.1 v.2.1 v.2.2.1)).eval := by kernel_rfl
theorem pe19_0 (k m : Nat) (v : (fr19_0 k).sh.V) : (body Try.prog (stepper Try.prog (cfg19 k) lim19) (pl19_0 k) (codeAt (bodyOf Try.f19) [.r, .r, .r, .l, .r, .s, .b]) ((fr19_0 k).sh.st v) (loopK (fr19_0 k) fun v => F19_0 k m v.1.1 v.1.2.1 v.1.2.2.1 v.1.2.2.2.1 v.2.1 v.2.2.1)).left = (body Try.prog (stepper Try.prog (cfg19 k) lim19) (pl19_0 k) (codeAt (bodyOf Try.f19) [.r, .r, .r, .l, .r, .s, .b]) ((fr19_0 k).sh.st v) (loopK (fr19_0 k) fun v => F19_0 k m v.1.1 v.1.2.1 v.1.2.2.1 v.1.2.2.2.1 v.2.1 v.2.2.1)).right := by kernel_rfl
theorem fr19_0_ok (k : Nat) : FragOK Try.prog lim19 (fr19_0 k) (codeAt (bodyOf Try.f19) [.r, .r, .r, .l, .r, .s]) :=
  frag_cast (by kernel_rfl) (loop_ok (cfg19_ok k) (Eq.mpr (pq19_0 k) (planOK_go _)) (fun m v => F19_0 k m v.1.1 v.1.2.1 v.1.2.2.1 v.1.2.2.2.1 v.2.1 v.2.2.1) k (fun _ => rfl) (fun _ => rfl) fun m v => ⟨ps19_0 k m v, pe19_0 k m v⟩)
def pl19 (k : Nat) : Plan := (.seq .go (.seq .go (.seq .go (.seq (.seq .go (.sub (.frag (fr19_0 k)))) .go))))
theorem pq19 (k : Nat) : PlanOK Try.prog lim19 (pl19 k) (codeAt (bodyOf Try.f19) []) = (PlanOK Try.prog lim19 .go (codeAt (bodyOf Try.f19) [.l]) ∧ (PlanOK Try.prog lim19 .go (codeAt (bodyOf Try.f19) [.r, .l]) ∧ (PlanOK Try.prog lim19 .go (codeAt (bodyOf Try.f19) [.r, .r, .l]) ∧ ((PlanOK Try.prog lim19 .go (codeAt (bodyOf Try.f19) [.r, .r, .r, .l, .l]) ∧ FragOK Try.prog lim19 (fr19_0 k) (codeAt (bodyOf Try.f19) [.r, .r, .r, .l, .r, .s])) ∧ PlanOK Try.prog lim19 .go (codeAt (bodyOf Try.f19) [.r, .r, .r, .r]))))) := by kernel_rfl
theorem ev19 (k : Nat) (x : AT (sp19 k).ps) : (sp19 k).impl x = (fnT Try.prog (cfg19 k) lim19 Try.f19 (bodyOf Try.f19) (pl19 k) (sp19 k) x).eval := by kernel_rfl
theorem eq19 (k : Nat) (x : AT (sp19 k).ps) : (fnT Try.prog (cfg19 k) lim19 Try.f19 (bodyOf Try.f19) (pl19 k) (sp19 k) x).left = (fnT Try.prog (cfg19 k) lim19 Try.f19 (bodyOf Try.f19) (pl19 k) (sp19 k) x).right := by kernel_rfl
theorem v19 (k : Nat) : Callable Try.prog 19 ∧ Valid Try.prog 19 (sp19 k) :=
  fn_ok (cfg19_ok k) (f := 19) (fn := Try.f19) (by kernel_rfl) (c := bodyOf Try.f19) (by kernel_rfl) (by kernel_rfl) rfl rfl (Nat.le_of_ble_eq_true rfl) (Nat.le_of_ble_eq_true rfl) (p := pl19 k) (Eq.mpr (pq19 k) ⟨(planOK_go _), ⟨(planOK_go _), ⟨(planOK_go _), ⟨⟨(planOK_go _), (fr19_0_ok k)⟩, (planOK_go _)⟩⟩⟩⟩) fun x => ⟨ev19 k x, eq19 k x⟩
/-! f38 hyphen/trop.Add -/
def F38 (k : Nat) (a0 : Int) (a1 : Int) : Option ((Int × Unit) × Unit) :=
  let x1 := (IntKind.wrap .i64 ((minI a0 (1152921504606846976 : Int)) + (minI a1 (1152921504606846976 : Int))))
  some (((minI x1 (1152921504606846976 : Int)), ()), ())
def sp38 (k : Nat) : Spec := ⟨[.val (.int .i64), .val (.int .i64)], [.val (.int .i64)], fun x => F38 k x.1 x.2.1⟩
def lim38 : Lim := ⟨11, 2, false, false, []⟩
def cfg38 (k : Nat) : Nat → Option Spec := cfgL []
theorem cfg38_ok (k : Nat) : CfgOK Try.prog (cfg38 k) := cfgL_nil
def pl38 (k : Nat) : Plan := .go
theorem pq38 (k : Nat) : PlanOK Try.prog lim38 (pl38 k) (codeAt (bodyOf Try.f38) []) = PlanOK Try.prog lim38 .go (codeAt (bodyOf Try.f38) []) := by kernel_rfl
theorem ev38 (k : Nat) (x : AT (sp38 k).ps) : (sp38 k).impl x = (fnT Try.prog (cfg38 k) lim38 Try.f38 (bodyOf Try.f38) (pl38 k) (sp38 k) x).eval := by kernel_rfl
theorem eq38 (k : Nat) (x : AT (sp38 k).ps) : (fnT Try.prog (cfg38 k) lim38 Try.f38 (bodyOf Try.f38) (pl38 k) (sp38 k) x).left = (fnT Try.prog (cfg38 k) lim38 Try.f38 (bodyOf Try.f38) (pl38 k) (sp38 k) x).right := by kernel_rfl
theorem v38 (k : Nat) : Callable Try.prog 38 ∧ Valid Try.prog 38 (sp38 k) :=
  fn_ok (cfg38_ok k) (f := 38) (fn := Try.f38) (by kernel_rfl) (c := bodyOf Try.f38) (by kernel_rfl) (by kernel_rfl) rfl rfl (Nat.le_of_ble_eq_true rfl) (Nat.le_of_ble_eq_true rfl) (p := pl38 k) (Eq.mpr (pq38 k) (planOK_go _)) fun x => ⟨ev38 k x, eq38 k x⟩
/-! f17 hyphen/twin.Check -/
def F17_0 (k : Nat) : Nat → (List Int) → Int → Int → Int → (List Int) → Int → Int → (List (Int × (Int × (Int × Unit)))) → Int → Int → ((List Int) × ((List Int) × ((List Int) × ((List (Int × (Int × (Int × Unit)))) × (Int × Unit))))) → Option ((((List Int) × Int × (List Int) × Int × Int × Int × Int × Bool × Unit) × (((List Int) × ((List Int) × ((List Int) × ((List (Int × (Int × (Int × Unit)))) × (Int × Unit))))) × (Int × (Int × (Int × Unit))) × Unit)) ⊕ (Unit × Unit))
  | 0, _, _, _, _, _, _, _, _, _, _, _ => none
  | n + 1, t1, t6, t8, t9, t12, t13, t14, t28, t29, t30, c2 =>
    bif (decide (t30 < t29)) then
      if 0 ≤ t30 ∧ t30 < ((List.length t28 : Nat) : Int) then
        let x4 := (List.getD t28 (Int.toNat t30) ((0 : Int), ((0 : Int), ((0 : Int), ()))))
        bif (x4.1 == t8) then
          bif (x4.2.1 == t9) then
            (F38 k t6 x4.2.2.1).bind fun r5 =>
            some (.inl ((t1, r5.1.1, t12, t13, t14, x4.2.1, t9, (x4.2.1 == t9), ()), (c2, x4, ())))
          else
            (F17_0 k n t1 t6 t8 t9 t12 t13 t14 t28 t29 (IntKind.wrap .i64 (t30 + (1 : Int))) c2).bind some
        else
          (F17_0 k n t1 t6 t8 t9 t12 t13 t14 t28 t29 (IntKind.wrap .i64 (t30 + (1 : Int))) c2).bind some
      else none
    else
      some (.inr ((), ()))
def fr17_0 (k : Nat) : Frag := ⟨⟨[], [(1, .val (.sl false 3 (.int .i64) none)), (2, .ptr 2 []), (6, .val (.int .i64)), (8, .val (.int .i64)), (9, .val (.int .i64)), (12, .val (.sl false 3 (.int .i64) none)), (13, .val (.int .i64)), (14, .val (.int .i64)), (28, .val (.sl false 43 (.pair (.int .i64) (.pair (.int .i64) (.pair (.int .i64) .unit))) none)), (29, .val (.int .i64)), (30, .val (.int .i64))], [(2, some 28, (.pair (.sl false 3 (.int .i64) none) (.pair (.sl false 3 (.int .i64) none) (.pair (.sl false 3 (.int .i64) none) (.pair (.sl false 43 (.pair (.int .i64) (.pair (.int .i64) (.pair (.int .i64) .unit))) none) (.pair (.int .i64) .unit))))))]⟩, [(.exit 1, ⟨[], [(1, .val (.sl false 3 (.int .i64) none)), (2, .ptr 2 []), (6, .val (.int .i64)), (12, .val (.sl false 3 (.int .i64) none)), (13, .val (.int .i64)), (14, .val (.int .i64)), (39, .ptr 11 [.snd, .fst]), (40, .val (.int .i64)), (41, .val (.int .i64)), (42, .val .bool)], [(2, some 28, (.pair (.sl false 3 (.int .i64) none) (.pair (.sl false 3 (.int .i64) none) (.pair (.sl false 3 (.int .i64) none) (.pair (.sl false 43 (.pair (.int .i64) (.pair (.int .i64) (.pair (.int .i64) .unit))) none) (.pair (.int .i64) .unit)))))), (11, some 43, (.pair (.int .i64) (.pair (.int .i64) (.pair (.int .i64) .unit))))]⟩), (.exit 2, ⟨[], [], []⟩)], fun v => F17_0 k k v.1.1 v.1.2.1 v.1.2.2.1 v.1.2.2.2.1 v.1.2.2.2.2.1 v.1.2.2.2.2.2.1 v.1.2.2.2.2.2.2.1 v.1.2.2.2.2.2.2.2.1 v.1.2.2.2.2.2.2.2.2.1 v.1.2.2.2.2.2.2.2.2.2.1 v.2.1⟩
def F17_1 (k : Nat) : Nat → (List Int) → Int → (List Int) → Int → Int → ((List Int) × ((List Int) × ((List Int) × ((List (Int × (Int × (Int × Unit)))) × (Int × Unit))))) → Option ((((List Int) × Int × Unit) × Unit) ⊕ ((Int × Bool × Unit) × Unit))
  | 0, _, _, _, _, _, _ => none
  | n + 1, t1, t6, t12, t13, t14, c2 =>
    bif (decide (t14 < t13)) then
      if 0 ≤ t14 ∧ t14 < ((List.length t12 : Nat) : Int) then
        if ((List.length t1 : Nat) : Int) ≠ 0 then
          let x18 := (Int.tmod (IntKind.wrap .i64 (t14 + (1 : Int))) ((List.length t1 : Nat) : Int))
          if 0 ≤ x18 ∧ x18 < ((List.length t1 : Nat) : Int) then
            (F17_0 k k t1 t6 (List.getD t12 (Int.toNat t14) (0 : Int)) (List.getD t1 (Int.toNat x18) (0 : Int)) t12 t13 t14 c2.2.2.2.1 ((List.length c2.2.2.2.1 : Nat) : Int) (0 : Int) c2).bind fun r19 =>
            match r19 with
            | .inl r20 =>
              let y21 := r20.1.1
              let y22 := r20.1.2.1
              let y23 := r20.1.2.2.1
              let y24 := r20.1.2.2.2.1
              let y25 := r20.1.2.2.2.2.1
              let y29 := r20.2.1
              (F17_1 k n y21 y22 y23 y24 (IntKind.wrap .i64 (y25 + (1 : Int))) y29).bind some
            | .inr r20 =>
              some (.inr (((0 : Int), false, ()), ()))
          else none
        else none
      else none
    else
      some (.inl ((t1, t6, ()), ()))
def fr17_1 (k : Nat) : Frag := ⟨⟨[], [(1, .val (.sl false 3 (.int .i64) none)), (2, .ptr 2 []), (6, .val (.int .i64)), (12, .val (.sl false 3 (.int .i64) none)), (13, .val (.int .i64)), (14, .val (.int .i64))], [(2, some 28, (.pair (.sl false 3 (.int .i64) none) (.pair (.sl false 3 (.int .i64) none) (.pair (.sl false 3 (.int .i64) none) (.pair (.sl false 43 (.pair (.int .i64) (.pair (.int .i64) (.pair (.int .i64) .unit))) none) (.pair (.int .i64) .unit))))))]⟩, [(.exit 0, ⟨[], [(1, .val (.sl false 3 (.int .i64) none)), (6, .val (.int .i64))], []⟩), (.ret, ⟨[], [(4, .val (.int .i64)), (5, .val .bool)], []⟩)], fun v => F17_1 k k v.1.1 v.1.2.1 v.1.2.2.1 v.1.2.2.2.1 v.1.2.2.2.2.1 v.2.1⟩
def F17 (k : Nat) (a0 : ((List Int) × ((List Int) × ((List Int) × ((List (Int × (Int × (Int × Unit)))) × (Int × Unit)))))) (a1 : (List Int)) : Option ((Int × Bool × Unit) × Unit) :=
  (F17_1 k k a1 (0 : Int) a1 ((List.length a1 : Nat) : Int) (0 : Int) a0).bind fun r31 =>
  match r31 with
  | .inl r32 =>
    let y33 := r32.1.1
    let y34 := r32.1.2.1
    let x35 := (decide (((List.length y33 : Nat) : Int) > (0 : Int)))
    some ((y34, x35, ()), ())
  | .inr r32 =>
    let y36 := r32.1.1
    let y37 := r32.1.2.1
    some ((y36, y37, ()), ())
def sp17 (k : Nat) : Spec := ⟨[.val (.pair (.sl false 3 (.int .i64) none) (.pair (.sl false 3 (.int .i64) none) (.pair (.sl false 3 (.int .i64) none) (.pair (.sl false 43 (.pair (.int .i64) (.pair (.int .i64) (.pair (.int .i64) .unit))) none) (.pair (.int .i64) .unit))))), .val (.sl false 3 (.int .i64) none)], [.val (.int .i64), .val .bool], fun x => F17 k x.1 x.2.1⟩
def lim17 : Lim := ⟨54, 2, false, false, []⟩
def cfg17 (k : Nat) : Nat → Option Spec := cfgL [(38, sp38 k)]
theorem cfg17_ok (k : Nat) : CfgOK Try.prog (cfg17 k) := cfgL_cons (v38 k) (cfgL_nil)
def pl17_0 (k : Nat) : Plan := .go
theorem pq17_0 (k : Nat) : PlanOK Try.prog lim17 (pl17_0 k) (codeAt (bodyOf Try.f17) [.r, .s, .r, .r, .l, .r, .s, .b, .r, .r, .l, .s, .r, .r, .l, .r, .s, .b]) = PlanOK Try.prog lim17 .go (codeAt (bodyOf Try.f17) [.r, .s, .r, .r, .l, .r, .s, .b, .r, .r, .l, .s, .r, .r, .l, .r, .s, .b]) := by kernel_rfl
theorem ps17_0 (k m : Nat) (v : (fr17_0 k).sh.V) : F17_0 k (m + 1) v.1.1 v.1.2.1 v.1.2.2.1 v.1.2.2.2.1 v.1.2.2.2.2.1 v.1.2.2.2.2.2.1 v.1.2.2.2.2.2.2.1 v.1.2.2.2.2.2.2.2.1 v.1.2.2.2.2.2.2.2.2.1 v.1.2.2.2.2.2.2.2.2.2.1 v.2.1 = (body Try.prog (stepper Try.prog (cfg17 k) lim17) (pl17_0 k) (codeAt (bodyOf Try.f17) [.r, .s, .r, .r, .l, .r, .s, .b, .r, .r, .l, .s, .r, .r, .l, .r, .s, .b]) ((fr17_0 k).sh.st v) (loopK (fr17_0 k) fun v => F17_0 k m v.1.1 v.1.2.1 v.1.2.2.1 v.1.2.2.2.1 v.1.2.2.2.2.1 v.1.2.2.2.2.2.1 v.1.2.2.2.2.2.2.1 v.1.2.2.2.2.2.2.2.1 v.1.2.2.2.2.2.2.2.2.1 v.1.2.2.2.2.2.2.2.2.2.1 v.2.1)).eval := by kernel_rfl
theorem pe17_0 (k m : Nat) (v : (fr17_0 k).sh.V) : (body Try.prog (stepper Try.prog (cfg17 k) lim17) (pl17_0 k) (codeAt (bodyOf Try.f17) [.r, .s, .r, .r, .l, .r, .s, .b, .r, .r, .l, .s, .r, .r, .l, .r, .s, .b]) ((fr17_0 k).sh.st v) (loopK (fr17_0 k) fun v => F17_0 k m v.1.1 v.1.2.1 v.1.2.2.1 v.1.2.2.2.1 v.1.2.2.2.2.1 v.1.2.2.2.2.2.1 v.1.2.2.2.2.2.2.1 v.1.2.2.2.2.2.2.2.1 v.1.2.2.2.2.2.2.2.2.1 v.1.2.2.2.2.2.2.2.2.2.1 v.2.1)).left = (body Try.prog (stepper Try.prog (cfg17 k) lim17) (pl17_0 k) (codeAt (bodyOf Try.f17) [.r, .s, .r, .r, .l, .r, .s, .b, .r, .r, .l, .s, .r, .r, .l, .r, .s, .b]) ((fr17_0 k).sh.st v) (loopK (fr17_0 k) fun v => F17_0 k m v.1.1 v.1.2.1 v.1.2.2.1 v.1.2.2.2.1 v.1.2.2.2.2.1 v.1.2.2.2.2.2.1 v.1.2.2.2.2.2.2.1 v.1.2.2.2.2.2.2.2.1 v.1.2.2.2.2.2.2.2.2.1 v.1.2.2.2.2.2.2.2.2.2.1 v.2.1)).right := by kernel_rfl
theorem fr17_0_ok (k : Nat) : FragOK Try.prog lim17 (fr17_0 k) (codeAt (bodyOf Try.f17) [.r, .s, .r, .r, .l, .r, .s, .b, .r, .r, .l, .s, .r, .r, .l, .r, .s]) :=
  frag_cast (by kernel_rfl) (loop_ok (cfg17_ok k) (Eq.mpr (pq17_0 k) (planOK_go _)) (fun m v => F17_0 k m v.1.1 v.1.2.1 v.1.2.2.1 v.1.2.2.2.1 v.1.2.2.2.2.1 v.1.2.2.2.2.2.1 v.1.2.2.2.2.2.2.1 v.1.2.2.2.2.2.2.2.1 v.1.2.2.2.2.2.2.2.2.1 v.1.2.2.2.2.2.2.2.2.2.1 v.2.1) k (fun _ => rfl) (fun _ => rfl) fun m v => ⟨ps17_0 k m v, pe17_0 k m v⟩)
def pl17_1 (k : Nat) : Plan := (.seq .go (.seq .go (.seq (.sub (.seq .go (.seq .go (.seq (.seq .go (.sub (.frag (fr17_0 k)))) .go)))) .go)))
theorem pq17_1 (k : Nat) : PlanOK Try.prog lim17 (pl17_1 k) (codeAt (bodyOf Try.f17) [.r, .s, .r, .r, .l, .r, .s, .b]) = (PlanOK Try.prog lim17 .go (codeAt (bodyOf Try.f17) [.r, .s, .r, .r, .l, .r, .s, .b, .l]) ∧ (PlanOK Try.prog lim17 .go (codeAt (bodyOf Try.f17) [.r, .s, .r, .r, .l, .r, .s, .b, .r, .l]) ∧ ((PlanOK Try.prog lim17 .go (codeAt (bodyOf Try.f17) [.r, .s, .r, .r, .l, .r, .s, .b, .r, .r, .l, .s, .l]) ∧ (PlanOK Try.prog lim17 .go (codeAt (bodyOf Try.f17) [.r, .s, .r, .r, .l, .r, .s, .b, .r, .r, .l, .s, .r, .l]) ∧ ((PlanOK Try.prog lim17 .go (codeAt (bodyOf Try.f17) [.r, .s, .r, .r, .l, .r, .s, .b, .r, .r, .l, .s, .r, .r, .l, .l]) ∧ FragOK Try.prog lim17 (fr17_0 k) (codeAt (bodyOf Try.f17) [.r, .s, .r, .r, .l, .r, .s, .b, .r, .r, .l, .s, .r, .r, .l, .r, .s])) ∧ PlanOK Try.prog lim17 .go (codeAt (bodyOf Try.f17) [.r, .s, .r, .r, .l, .r, .s, .b, .r, .r, .l, .s, .r, .r, .r])))) ∧ PlanOK Try.prog lim17 .go (codeAt (bodyOf Try.f17) [.r, .s, .r, .r, .l, .r, .s, .b, .r, .r, .r])))) := by kernel_rfl
theorem ps17_1 (k m : Nat) (v : (fr17_1 k).sh.V) : F17_1 k (m + 1) v.1.1 v.1.2.1 v.1.2.2.1 v.1.2.2.2.1 v.1.2.2.2.2.1 v.2.1 = (body Try.prog (stepper Try.prog (cfg17 k) lim17) (pl17_1 k) (codeAt (bodyOf Try.f17) [.r, .s, .r, .r, .l, .r, .s, .b]) ((fr17_1 k).sh.st v) (loopK (fr17_1 k) fun v => F17_1 k m v.1.1 v.1.2.1 v.1.2.2.1 v.1.2.2.2.1 v.1.2.2.2.2.1 v.2.1)).eval := by kernel_rfl
theorem pe17_1 (k m : Nat) (v : (fr17_1 k).sh.V) : (body Try.prog (stepper Try.prog (cfg17 k) lim17) (pl17_1 k) (codeAt (bodyOf Try.f17) [.r, .s, .r, .r, .l, .r, .s, .b]) ((fr17_1 k).sh.st v) (loopK (fr17_1 k) fun v => F17_1 k m v.1.1 v.1.2.1 v.1.2.2.1 v.1.2.2.2.1 v.1.2.2.2.2.1 v.2.1)).left = (body Try.prog (stepper Try.prog (cfg17 k) lim17) (pl17_1 k) (codeAt (bodyOf Try.f17) [.r, .s, .r, .r, .l, .r, .s, .b]) ((fr17_1 k).sh.st v) (loopK (fr17_1 k) fun v => F17_1 k m v.1.1 v.1.2.1 v.1.2.2.1 v.1.2.2.2.1 v.1.2.2.2.2.1 v.2.1)).right := by kernel_rfl
theorem fr17_1_ok (k : Nat) : FragOK Try.prog lim17 (fr17_1 k) (codeAt (bodyOf Try.f17) [.r, .s, .r, .r, .l, .r, .s]) :=
  frag_cast (by kernel_rfl) (loop_ok (cfg17_ok k) (Eq.mpr (pq17_1 k) ⟨(planOK_go _), ⟨(planOK_go _), ⟨⟨(planOK_go _), ⟨(planOK_go _), ⟨⟨(planOK_go _), (fr17_0_ok k)⟩, (planOK_go _)⟩⟩⟩, (planOK_go _)⟩⟩⟩) (fun m v => F17_1 k m v.1.1 v.1.2.1 v.1.2.2.1 v.1.2.2.2.1 v.1.2.2.2.2.1 v.2.1) k (fun _ => rfl) (fun _ => rfl) fun m v => ⟨ps17_1 k m v, pe17_1 k m v⟩)
def pl17 (k : Nat) : Plan := (.seq .go (.sub (.seq .go (.seq .go (.seq (.seq .go (.sub (.frag (fr17_1 k)))) .go)))))
theorem pq17 (k : Nat) : PlanOK Try.prog lim17 (pl17 k) (codeAt (bodyOf Try.f17) []) = (PlanOK Try.prog lim17 .go (codeAt (bodyOf Try.f17) [.l]) ∧ (PlanOK Try.prog lim17 .go (codeAt (bodyOf Try.f17) [.r, .s, .l]) ∧ (PlanOK Try.prog lim17 .go (codeAt (bodyOf Try.f17) [.r, .s, .r, .l]) ∧ ((PlanOK Try.prog lim17 .go (codeAt (bodyOf Try.f17) [.r, .s, .r, .r, .l, .l]) ∧ FragOK Try.prog lim17 (fr17_1 k) (codeAt (bodyOf Try.f17) [.r, .s, .r, .r, .l, .r, .s])) ∧ PlanOK Try.prog lim17 .go (codeAt (bodyOf Try.f17) [.r, .s, .r, .r, .r]))))) := by kernel_rfl
theorem ev17 (k : Nat) (x : AT (sp17 k).ps) : (sp17 k).impl x = (fnT Try.prog (cfg17 k) lim17 Try.f17 (bodyOf Try.f17) (pl17 k) (sp17 k) x).eval := by kernel_rfl
theorem eq17 (k : Nat) (x : AT (sp17 k).ps) : (fnT Try.prog (cfg17 k) lim17 Try.f17 (bodyOf Try.f17) (pl17 k) (sp17 k) x).left = (fnT Try.prog (cfg17 k) lim17 Try.f17 (bodyOf Try.f17) (pl17 k) (sp17 k) x).right := by kernel_rfl
theorem v17 (k : Nat) : Callable Try.prog 17 ∧ Valid Try.prog 17 (sp17 k) :=
  fn_ok (cfg17_ok k) (f := 17) (fn := Try.f17) (by kernel_rfl) (c := bodyOf Try.f17) (by kernel_rfl) (by kernel_rfl) rfl rfl (Nat.le_of_ble_eq_true rfl) (Nat.le_of_ble_eq_true rfl) (p := pl17 k) (Eq.mpr (pq17 k) ⟨(planOK_go _), ⟨(planOK_go _), ⟨(planOK_go _), ⟨⟨(planOK_go _), (fr17_1_ok k)⟩, (planOK_go _)⟩⟩⟩⟩) fun x => ⟨ev17 k x, eq17 k x⟩
/-! f11 hyphen/hyphenlaw8.known -/
def F11 (k : Nat) : Option ((Bool × Unit) × Unit) :=
  (F14 k (([] : (List Int)), (([] : (List Int)), (([] : (List Int)), (([] : (List (Int × (Int × (Int × Unit))))), ((1152921504606846976 : Int), ())))))).bind fun r1 =>
  let x2 := (List.set (List.set (List.replicate 2 (0 : Int)) 0 (-1 : Int)) 1 (-1 : Int))
  let x3 := (List.set (List.set (List.replicate 2 (0 : Int)) 0 (0 : Int)) 1 (1152921504606846976 : Int))
  let x4 := (List.set (List.set (List.replicate 2 (0 : Int)) 0 (1152921504606846976 : Int)) 1 (0 : Int))
  let x5 := (List.set (List.set (List.replicate 2 ((0 : Int), ((0 : Int), ((0 : Int), ())))) 0 ((0 : Int), ((1 : Int), ((0 : Int), ())))) 1 ((1 : Int), ((1 : Int), ((2 : Int), ()))))
  (F14 k (x2, (x3, (x4, (x5, ((1152921504606846976 : Int), ())))))).bind fun r6 =>
  (F19 k (x2, (x3, (x4, (x5, ((1152921504606846976 : Int), ()))))) (1 : Int)).bind fun r7 =>
  let x8 := (List.set (List.replicate 1 (0 : Int)) 0 (1 : Int))
  (F17 k (x2, (x3, (x4, (x5, ((1152921504606846976 : Int), ()))))) x8).bind fun r9 =>
  bif (!r1.1.2.1) then
    bif r6.1.2.1 then
      let x10 := (((List.length r6.1.1 : Nat) : Int) == (1 : Int))
      bif x10 then
        if 0 ≤ (0 : Int) ∧ (0 : Int) < ((List.length r6.1.1 : Nat) : Int) then
          let x11 := (List.getD r6.1.1 (Int.toNat (0 : Int)) (0 : Int))
          bif (x11 == (1 : Int)) then
            bif r7.1.2.1 then
              let x12 := (((List.length r7.1.1 : Nat) : Int) == (2 : Int))
              bif x12 then
                if 0 ≤ (0 : Int) ∧ (0 : Int) < ((List.length r7.1.1 : Nat) : Int) then
                  let x13 := (List.getD r7.1.1 (Int.toNat (0 : Int)) (0 : Int))
                  bif (x13 == (0 : Int)) then
                    bif r9.1.2.1 then
                      some (((r9.1.1 == (2 : Int)), ()), ())
                    else
                      some ((false, ()), ())
                  else
                    some ((false, ()), ())
                else none
              else
                some ((false, ()), ())
            else
              some ((false, ()), ())
          else
            some ((false, ()), ())
        else none
      else
        some ((false, ()), ())
    else
      some ((false, ()), ())
  else
    some ((false, ()), ())
def sp11 (k : Nat) : Spec := ⟨[], [.val .bool], fun x => F11 k⟩
def lim11 : Lim := ⟨75, 0, false, false, []⟩
def cfg11 (k : Nat) : Nat → Option Spec := cfgL [(14, sp14 k), (17, sp17 k), (19, sp19 k)]
theorem cfg11_ok (k : Nat) : CfgOK Try.prog (cfg11 k) := cfgL_cons (v14 k) (cfgL_cons (v17 k) (cfgL_cons (v19 k) (cfgL_nil)))
def pl11 (k : Nat) : Plan := .go
theorem pq11 (k : Nat) : PlanOK Try.prog lim11 (pl11 k) (codeAt (bodyOf Try.f11) []) = PlanOK Try.prog lim11 .go (codeAt (bodyOf Try.f11) []) := by kernel_rfl
theorem ev11 (k : Nat) (x : AT (sp11 k).ps) : (sp11 k).impl x = (fnT Try.prog (cfg11 k) lim11 Try.f11 (bodyOf Try.f11) (pl11 k) (sp11 k) x).eval := by kernel_rfl
theorem eq11 (k : Nat) (x : AT (sp11 k).ps) : (fnT Try.prog (cfg11 k) lim11 Try.f11 (bodyOf Try.f11) (pl11 k) (sp11 k) x).left = (fnT Try.prog (cfg11 k) lim11 Try.f11 (bodyOf Try.f11) (pl11 k) (sp11 k) x).right := by kernel_rfl
theorem v11 (k : Nat) : Callable Try.prog 11 ∧ Valid Try.prog 11 (sp11 k) :=
  fn_ok (cfg11_ok k) (f := 11) (fn := Try.f11) (by kernel_rfl) (c := bodyOf Try.f11) (by kernel_rfl) (by kernel_rfl) rfl rfl (Nat.le_of_ble_eq_true rfl) (Nat.le_of_ble_eq_true rfl) (p := pl11 k) (Eq.mpr (pq11 k) (planOK_go _)) fun x => ⟨ev11 k x, eq11 k x⟩
/-! f18 hyphen/hyphenlaw8.within -/
def F18 (k : Nat) (a0 : Int) (a1 : Int) : Option ((Int × Unit) × Unit) :=
  if a1 ≠ 0 then
    bif (decide ((Int.tmod a0 a1) < (0 : Int))) then
      some (((IntKind.wrap .i64 ((Int.tmod a0 a1) + a1)), ()), ())
    else
      some (((Int.tmod a0 a1), ()), ())
  else none
def sp18 (k : Nat) : Spec := ⟨[.val (.int .i64), .val (.int .i64)], [.val (.int .i64)], fun x => F18 k x.1 x.2.1⟩
def lim18 : Lim := ⟨15, 2, false, false, []⟩
def cfg18 (k : Nat) : Nat → Option Spec := cfgL []
theorem cfg18_ok (k : Nat) : CfgOK Try.prog (cfg18 k) := cfgL_nil
def pl18 (k : Nat) : Plan := .go
theorem pq18 (k : Nat) : PlanOK Try.prog lim18 (pl18 k) (codeAt (bodyOf Try.f18) []) = PlanOK Try.prog lim18 .go (codeAt (bodyOf Try.f18) []) := by kernel_rfl
theorem ev18 (k : Nat) (x : AT (sp18 k).ps) : (sp18 k).impl x = (fnT Try.prog (cfg18 k) lim18 Try.f18 (bodyOf Try.f18) (pl18 k) (sp18 k) x).eval := by kernel_rfl
theorem eq18 (k : Nat) (x : AT (sp18 k).ps) : (fnT Try.prog (cfg18 k) lim18 Try.f18 (bodyOf Try.f18) (pl18 k) (sp18 k) x).left = (fnT Try.prog (cfg18 k) lim18 Try.f18 (bodyOf Try.f18) (pl18 k) (sp18 k) x).right := by kernel_rfl
theorem v18 (k : Nat) : Callable Try.prog 18 ∧ Valid Try.prog 18 (sp18 k) :=
  fn_ok (cfg18_ok k) (f := 18) (fn := Try.f18) (by kernel_rfl) (c := bodyOf Try.f18) (by kernel_rfl) (by kernel_rfl) rfl rfl (Nat.le_of_ble_eq_true rfl) (Nat.le_of_ble_eq_true rfl) (p := pl18 k) (Eq.mpr (pq18 k) (planOK_go _)) fun x => ⟨ev18 k x, eq18 k x⟩
/-! f23 hyphen/hyphenlaw8.Ring -/
def F23_0 (k : Nat) : Nat → Int → (List Int) → (List Int) → Int → Int → ((List Int) × ((List Int) × ((List Int) × ((List (Int × (Int × (Int × Unit)))) × (Int × Unit))))) → ((List Int) × ((List Int) × ((List Int) × ((List (Int × (Int × (Int × Unit)))) × (Int × Unit))))) → Option (((Int × (List Int) × (List Int) × Int × Unit) × (((List Int) × ((List Int) × ((List Int) × ((List (Int × (Int × (Int × Unit)))) × (Int × Unit))))) × ((List Int) × ((List Int) × ((List Int) × ((List (Int × (Int × (Int × Unit)))) × (Int × Unit))))) × Unit)))
  | 0, _, _, _, _, _, _, _ => none
  | n + 1, t0, t1, t2, t7, t9, c6, c8 =>
    bif (decide (t9 < t7)) then
      let x5 := (List.set (List.replicate 1 (0 : Int)) 0 (-1 : Int))
      if (List.length c8.1 + List.length x5) * (8 * 2) ≤ 281474976710656 ∧ List.length c8.1 + List.length x5 ≤ 9223372036854775807 then
        let x6 := (List.set (List.replicate 1 (0 : Int)) 0 (0 : Int))
        if (List.length c8.2.1 + List.length x6) * (8 * 2) ≤ 281474976710656 ∧ List.length c8.2.1 + List.length x6 ≤ 9223372036854775807 then
          let x7 := (List.set (List.replicate 1 (0 : Int)) 0 (0 : Int))
          if (List.length c8.2.2.1 + List.length x7) * (8 * 2) ≤ 281474976710656 ∧ List.length c8.2.2.1 + List.length x7 ≤ 9223372036854775807 then
            (F23_0 k n t0 t1 t2 t7 (IntKind.wrap .i64 (t9 + (1 : Int))) c6 ((c8.1 ++ x5), ((c8.2.1 ++ x6), ((c8.2.2.1 ++ x7), c8.2.2.2)))).bind some
          else none
        else none
      else none
    else
      some ((t0, t1, t2, t7, ()), (c6, c8, ()))
def fr23_0 (k : Nat) : Frag := ⟨⟨[], [(0, .val (.int .i64)), (1, .val (.sl false 3 (.int .i64) none)), (2, .val (.sl false 3 (.int .i64) none)), (6, .ptr 6 []), (7, .val (.int .i64)), (8, .ptr 8 []), (9, .val (.int .i64))], [(6, some 28, (.pair (.sl true 3 (.int .i64) none) (.pair (.sl true 3 (.int .i64) none) (.pair (.sl true 3 (.int .i64) none) (.pair (.sl true 43 (.pair (.int .i64) (.pair (.int .i64) (.pair (.int .i64) .unit))) none) (.pair (.int .i64) .unit)))))), (8, some 28, (.pair (.sl true 3 (.int .i64) none) (.pair (.sl true 3 (.int .i64) none) (.pair (.sl true 3 (.int .i64) none) (.pair (.sl true 43 (.pair (.int .i64) (.pair (.int .i64) (.pair (.int .i64) .unit))) none) (.pair (.int .i64) .unit))))))]⟩, [(.exit 0, ⟨[], [(0, .val (.int .i64)), (1, .val (.sl false 3 (.int .i64) none)), (2, .val (.sl false 3 (.int .i64) none)), (6, .ptr 6 []), (7, .val (.int .i64)), (8, .ptr 8 [])], [(6, some 28, (.pair (.sl true 3 (.int .i64) none) (.pair (.sl true 3 (.int .i64) none) (.pair (.sl true 3 (.int .i64) none) (.pair (.sl true 43 (.pair (.int .i64) (.pair (.int .i64) (.pair (.int .i64) .unit))) none) (.pair (.int .i64) .unit)))))), (8, some 28, (.pair (.sl true 3 (.int .i64) none) (.pair (.sl true 3 (.int .i64) none) (.pair (.sl true 3 (.int .i64) none) (.pair (.sl true 43 (.pair (.int .i64) (.pair (.int .i64) (.pair (.int .i64) .unit))) none) (.pair (.int .i64) .unit))))))]⟩)], fun v => F23_0 k k v.1.1 v.1.2.1 v.1.2.2.1 v.1.2.2.2.1 v.1.2.2.2.2.1 v.2.1 v.2.2.1⟩
def F23_1 (k : Nat) : Nat → Int → (List Int) → (List Int) → Int → Int → Int → ((List Int) × ((List Int) × ((List Int) × ((List (Int × (Int × (Int × Unit)))) × (Int × Unit))))) → ((List Int) × ((List Int) × ((List Int) × ((List (Int × (Int × (Int × Unit)))) × (Int × Unit))))) → Option (((Int × (List Int) × (List Int) × Int × Int × Unit) × (((List Int) × ((List Int) × ((List Int) × ((List (Int × (Int × (Int × Unit)))) × (Int × Unit))))) × ((List Int) × ((List Int) × ((List Int) × ((List (Int × (Int × (Int × Unit)))) × (Int × Unit))))) × Unit)))
  | 0, _, _, _, _, _, _, _, _ => none
  | n + 1, t0, t1, t2, t7, t10, t11, c6, c8 =>
    bif (decide (t11 < t7)) then
      let x37 := (IntKind.wrap .i64 ((IntKind.wrap .i64 (t10 * t7)) + t11))
      let x38 := (decide (x37 < ((List.length t1 : Nat) : Int)))
      bif x38 then
        if 0 ≤ x37 ∧ x37 < ((List.length t1 : Nat) : Int) then
          (F18 k (List.getD t1 (Int.toNat x37) (0 : Int)) (3 : Int)).bind fun r39 =>
          bif (r39.1.1 == (0 : Int)) then
            let x40 := (decide (x37 < ((List.length t2 : Nat) : Int)))
            bif x40 then
              if 0 ≤ x37 ∧ x37 < ((List.length t2 : Nat) : Int) then
                (F18 k (List.getD t2 (Int.toNat x37) (0 : Int)) (9 : Int)).bind fun r41 =>
                let x42 := (maxI (0 : Int) (IntKind.wrap .i64 (r41.1.1 - (5 : Int))))
                let x43 := (List.set (List.replicate 1 ((0 : Int), ((0 : Int), ((0 : Int), ())))) 0 (t10, (t11, (x42, ()))))
                if (List.length c8.2.2.2.1 + List.length x43) * (24 * 2) ≤ 281474976710656 ∧ List.length c8.2.2.2.1 + List.length x43 ≤ 9223372036854775807 then
                  (F23_1 k n t0 t1 t2 t7 t10 (IntKind.wrap .i64 (t11 + (1 : Int))) c6 (c8.1, (c8.2.1, (c8.2.2.1, ((c8.2.2.2.1 ++ x43), c8.2.2.2.2))))).bind some
                else none
              else none
            else
              let x44 := (List.set (List.replicate 1 ((0 : Int), ((0 : Int), ((0 : Int), ())))) 0 (t10, (t11, ((0 : Int), ()))))
              if (List.length c8.2.2.2.1 + List.length x44) * (24 * 2) ≤ 281474976710656 ∧ List.length c8.2.2.2.1 + List.length x44 ≤ 9223372036854775807 then
                (F23_1 k n t0 t1 t2 t7 t10 (IntKind.wrap .i64 (t11 + (1 : Int))) c6 (c8.1, (c8.2.1, (c8.2.2.1, ((c8.2.2.2.1 ++ x44), c8.2.2.2.2))))).bind some
              else none
          else
            if t7 ≠ 0 then
              let x45 := (Int.tmod (IntKind.wrap .i64 (t10 + (1 : Int))) t7)
              bif (t11 == x45) then
                (F18 k (IntKind.wrap .i64 (Int.tdiv t0 (8 : Int))) (2 : Int)).bind fun r46 =>
                bif (r46.1.1 == (0 : Int)) then
                  let x47 := (decide (x37 < ((List.length t2 : Nat) : Int)))
                  bif x47 then
                    if 0 ≤ x37 ∧ x37 < ((List.length t2 : Nat) : Int) then
                      (F18 k (List.getD t2 (Int.toNat x37) (0 : Int)) (9 : Int)).bind fun r48 =>
                      let x49 := (maxI (0 : Int) (IntKind.wrap .i64 (r48.1.1 - (5 : Int))))
                      let x50 := (List.set (List.replicate 1 ((0 : Int), ((0 : Int), ((0 : Int), ())))) 0 (t10, (t11, (x49, ()))))
                      if (List.length c8.2.2.2.1 + List.length x50) * (24 * 2) ≤ 281474976710656 ∧ List.length c8.2.2.2.1 + List.length x50 ≤ 9223372036854775807 then
                        (F23_1 k n t0 t1 t2 t7 t10 (IntKind.wrap .i64 (t11 + (1 : Int))) c6 (c8.1, (c8.2.1, (c8.2.2.1, ((c8.2.2.2.1 ++ x50), c8.2.2.2.2))))).bind some
                      else none
                    else none
                  else
                    let x51 := (List.set (List.replicate 1 ((0 : Int), ((0 : Int), ((0 : Int), ())))) 0 (t10, (t11, ((0 : Int), ()))))
                    if (List.length c8.2.2.2.1 + List.length x51) * (24 * 2) ≤ 281474976710656 ∧ List.length c8.2.2.2.1 + List.length x51 ≤ 9223372036854775807 then
                      (F23_1 k n t0 t1 t2 t7 t10 (IntKind.wrap .i64 (t11 + (1 : Int))) c6 (c8.1, (c8.2.1, (c8.2.2.1, ((c8.2.2.2.1 ++ x51), c8.2.2.2.2))))).bind some
                    else none
                else
                  (F23_1 k n t0 t1 t2 t7 t10 (IntKind.wrap .i64 (t11 + (1 : Int))) c6 c8).bind some
              else
                (F23_1 k n t0 t1 t2 t7 t10 (IntKind.wrap .i64 (t11 + (1 : Int))) c6 c8).bind some
            else none
        else none
      else
        if t7 ≠ 0 then
          let x52 := (Int.tmod (IntKind.wrap .i64 (t10 + (1 : Int))) t7)
          bif (t11 == x52) then
            (F18 k (IntKind.wrap .i64 (Int.tdiv t0 (8 : Int))) (2 : Int)).bind fun r53 =>
            bif (r53.1.1 == (0 : Int)) then
              let x54 := (decide (x37 < ((List.length t2 : Nat) : Int)))
              bif x54 then
                if 0 ≤ x37 ∧ x37 < ((List.length t2 : Nat) : Int) then
                  (F18 k (List.getD t2 (Int.toNat x37) (0 : Int)) (9 : Int)).bind fun r55 =>
                  let x56 := (maxI (0 : Int) (IntKind.wrap .i64 (r55.1.1 - (5 : Int))))
                  let x57 := (List.set (List.replicate 1 ((0 : Int), ((0 : Int), ((0 : Int), ())))) 0 (t10, (t11, (x56, ()))))
                  if (List.length c8.2.2.2.1 + List.length x57) * (24 * 2) ≤ 281474976710656 ∧ List.length c8.2.2.2.1 + List.length x57 ≤ 9223372036854775807 then
                    (F23_1 k n t0 t1 t2 t7 t10 (IntKind.wrap .i64 (t11 + (1 : Int))) c6 (c8.1, (c8.2.1, (c8.2.2.1, ((c8.2.2.2.1 ++ x57), c8.2.2.2.2))))).bind some
                  else none
                else none
              else
                let x58 := (List.set (List.replicate 1 ((0 : Int), ((0 : Int), ((0 : Int), ())))) 0 (t10, (t11, ((0 : Int), ()))))
                if (List.length c8.2.2.2.1 + List.length x58) * (24 * 2) ≤ 281474976710656 ∧ List.length c8.2.2.2.1 + List.length x58 ≤ 9223372036854775807 then
                  (F23_1 k n t0 t1 t2 t7 t10 (IntKind.wrap .i64 (t11 + (1 : Int))) c6 (c8.1, (c8.2.1, (c8.2.2.1, ((c8.2.2.2.1 ++ x58), c8.2.2.2.2))))).bind some
                else none
            else
              (F23_1 k n t0 t1 t2 t7 t10 (IntKind.wrap .i64 (t11 + (1 : Int))) c6 c8).bind some
          else
            (F23_1 k n t0 t1 t2 t7 t10 (IntKind.wrap .i64 (t11 + (1 : Int))) c6 c8).bind some
        else none
    else
      some ((t0, t1, t2, t7, t10, ()), (c6, c8, ()))
def fr23_1 (k : Nat) : Frag := ⟨⟨[], [(0, .val (.int .i64)), (1, .val (.sl false 3 (.int .i64) none)), (2, .val (.sl false 3 (.int .i64) none)), (6, .ptr 6 []), (7, .val (.int .i64)), (8, .ptr 8 []), (10, .val (.int .i64)), (11, .val (.int .i64))], [(6, some 28, (.pair (.sl true 3 (.int .i64) none) (.pair (.sl true 3 (.int .i64) none) (.pair (.sl true 3 (.int .i64) none) (.pair (.sl true 43 (.pair (.int .i64) (.pair (.int .i64) (.pair (.int .i64) .unit))) none) (.pair (.int .i64) .unit)))))), (8, some 28, (.pair (.sl true 3 (.int .i64) none) (.pair (.sl true 3 (.int .i64) none) (.pair (.sl true 3 (.int .i64) none) (.pair (.sl true 43 (.pair (.int .i64) (.pair (.int .i64) (.pair (.int .i64) .unit))) none) (.pair (.int .i64) .unit))))))]⟩, [(.exit 4, ⟨[], [(0, .val (.int .i64)), (1, .val (.sl false 3 (.int .i64) none)), (2, .val (.sl false 3 (.int .i64) none)), (6, .ptr 6 []), (7, .val (.int .i64)), (8, .ptr 8 []), (10, .val (.int .i64))], [(6, some 28, (.pair (.sl true 3 (.int .i64) none) (.pair (.sl true 3 (.int .i64) none) (.pair (.sl true 3 (.int .i64) none) (.pair (.sl true 43 (.pair (.int .i64) (.pair (.int .i64) (.pair (.int .i64) .unit))) none) (.pair (.int .i64) .unit)))))), (8, some 28, (.pair (.sl true 3 (.int .i64) none) (.pair (.sl true 3 (.int .i64) none) (.pair (.sl true 3 (.int .i64) none) (.pair (.sl true 43 (.pair (.int .i64) (.pair (.int .i64) (.pair (.int .i64) .unit))) none) (.pair (.int .i64) .unit))))))]⟩)], fun v => F23_1 k k v.1.1 v.1.2.1 v.1.2.2.1 v.1.2.2.2.1 v.1.2.2.2.2.1 v.1.2.2.2.2.2.1 v.2.1 v.2.2.1⟩
def F23_2 (k : Nat) : Nat → Int → (List Int) → (List Int) → Int → Int → ((List Int) × ((List Int) × ((List Int) × ((List (Int × (Int × (Int × Unit)))) × (Int × Unit))))) → ((List Int) × ((List Int) × ((List Int) × ((List (Int × (Int × (Int × Unit)))) × (Int × Unit))))) → Option ((Unit × (((List Int) × ((List Int) × ((List Int) × ((List (Int × (Int × (Int × Unit)))) × (Int × Unit))))) × ((List Int) × ((List Int) × ((List Int) × ((List (Int × (Int × (Int × Unit)))) × (Int × Unit))))) × Unit)))
  | 0, _, _, _, _, _, _, _ => none
  | n + 1, t0, t1, t2, t7, t10, c6, c8 =>
    bif (decide (t10 < t7)) then
      (F23_1 k k t0 t1 t2 t7 t10 (0 : Int) c6 c8).bind fun r67 =>
      let y68 := r67.1.1
      let y69 := r67.1.2.1
      let y70 := r67.1.2.2.1
      let y71 := r67.1.2.2.2.1
      let y72 := r67.1.2.2.2.2.1
      let y73 := r67.2.1
      let y74 := r67.2.2.1
      (F23_2 k n y68 y69 y70 y71 (IntKind.wrap .i64 (y72 + (1 : Int))) y73 y74).bind some
    else
      some ((), (c6, c8, ()))
def fr23_2 (k : Nat) : Frag := ⟨⟨[], [(0, .val (.int .i64)), (1, .val (.sl false 3 (.int .i64) none)), (2, .val (.sl false 3 (.int .i64) none)), (6, .ptr 6 []), (7, .val (.int .i64)), (8, .ptr 8 []), (10, .val (.int .i64))], [(6, some 28, (.pair (.sl true 3 (.int .i64) none) (.pair (.sl true 3 (.int .i64) none) (.pair (.sl true 3 (.int .i64) none) (.pair (.sl true 43 (.pair (.int .i64) (.pair (.int .i64) (.pair (.int .i64) .unit))) none) (.pair (.int .i64) .unit)))))), (8, some 28, (.pair (.sl true 3 (.int .i64) none) (.pair (.sl true 3 (.int .i64) none) (.pair (.sl true 3 (.int .i64) none) (.pair (.sl true 43 (.pair (.int .i64) (.pair (.int .i64) (.pair (.int .i64) .unit))) none) (.pair (.int .i64) .unit))))))]⟩, [(.exit 2, ⟨[], [(6, .ptr 6 []), (8, .ptr 8 [])], [(6, some 28, (.pair (.sl true 3 (.int .i64) none) (.pair (.sl true 3 (.int .i64) none) (.pair (.sl true 3 (.int .i64) none) (.pair (.sl true 43 (.pair (.int .i64) (.pair (.int .i64) (.pair (.int .i64) .unit))) none) (.pair (.int .i64) .unit)))))), (8, some 28, (.pair (.sl true 3 (.int .i64) none) (.pair (.sl true 3 (.int .i64) none) (.pair (.sl true 3 (.int .i64) none) (.pair (.sl true 43 (.pair (.int .i64) (.pair (.int .i64) (.pair (.int .i64) .unit))) none) (.pair (.int .i64) .unit))))))]⟩)], fun v => F23_2 k k v.1.1 v.1.2.1 v.1.2.2.1 v.1.2.2.2.1 v.1.2.2.2.2.1 v.2.1 v.2.2.1⟩
def F23 (k : Nat) (a0 : Int) (a1 : (List Int)) (a2 : (List Int)) : Option ((((List Int) × ((List Int) × ((List Int) × ((List (Int × (Int × (Int × Unit)))) × (Int × Unit))))) × Unit) × Unit) :=
  (F18 k a0 (8 : Int)).bind fun r1 =>
  (F23_0 k k a0 a1 a2 (IntKind.wrap .i64 ((1 : Int) + r1.1.1)) (0 : Int) (([] : (List Int)), (([] : (List Int)), (([] : (List Int)), (([] : (List (Int × (Int × (Int × Unit))))), ((0 : Int), ()))))) (([] : (List Int)), (([] : (List Int)), (([] : (List Int)), (([] : (List (Int × (Int × (Int × Unit))))), ((1152921504606846976 : Int), ())))))).bind fun r8 =>
  let y9 := r8.1.1
  let y10 := r8.1.2.1
  let y11 := r8.1.2.2.1
  let y12 := r8.1.2.2.2.1
  let y13 := r8.2.1
  let y14 := r8.2.2.1
  (F23_2 k k y9 y10 y11 y12 (0 : Int) y13 y14).bind fun r75 =>
  let y77 := r75.2.2.1
  some ((y77, ()), ())
def sp23 (k : Nat) : Spec := ⟨[.val (.int .i64), .val (.sl false 3 (.int .i64) none), .val (.sl false 3 (.int .i64) none)], [.own (.pair (.sl true 3 (.int .i64) none) (.pair (.sl true 3 (.int .i64) none) (.pair (.sl true 3 (.int .i64) none) (.pair (.sl true 43 (.pair (.int .i64) (.pair (.int .i64) (.pair (.int .i64) .unit))) none) (.pair (.int .i64) .unit)))))], fun x => F23 k x.1 x.2.1 x.2.2.1⟩
def lim23 : Lim := ⟨100, 3, false, false, []⟩
def cfg23 (k : Nat) : Nat → Option Spec := cfgL [(18, sp18 k)]
theorem cfg23_ok (k : Nat) : CfgOK Try.prog (cfg23 k) := cfgL_cons (v18 k) (cfgL_nil)
def pl23_0 (k : Nat) : Plan := .go
theorem pq23_0 (k : Nat) : PlanOK Try.prog lim23 (pl23_0 k) (codeAt (bodyOf Try.f23) [.r, .r, .r, .l, .r, .s, .b]) = PlanOK Try.prog lim23 .go (codeAt (bodyOf Try.f23) [.r, .r, .r, .l, .r, .s, .b]) := by kernel_rfl
theorem ps23_0 (k m : Nat) (v : (fr23_0 k).sh.V) : F23_0 k (m + 1) v.1.1 v.1.2.1 v.1.2.2.1 v.1.2.2.2.1 v.1.2.2.2.2.1 v.2.1 v.2.2.1 = (body Try.prog (stepper Try.prog (cfg23 k) lim23) (pl23_0 k) (codeAt (bodyOf Try.f23) [.r, .r, .r, .l, .r, .s, .b]) ((fr23_0 k).sh.st v) (loopK (fr23_0 k) fun v => F23_0 k m v.1.1 v.1.2.1 v.1.2.2.1 v.1.2.2.2.1 v.1.2.2.2.2.1 v.2.1 v.2.2.1)).eval := by kernel_rfl
theorem pe23_0 (k m : Nat) (v : (fr23_0 k).sh.V) : (body Try.prog (stepper Try.prog (cfg23 k) lim23) (pl23_0 k) (codeAt (bodyOf Try.f23) [.r, .r, .r, .l, .r, .s, .b]) ((fr23_0 k).sh.st v) (loopK (fr23_0 k) fun v => F23_0 k m v.1.1 v.1.2.1 v.1.2.2.1 v.1.2.2.2.1 v.1.2.2.2.2.1 v.2.1 v.2.2.1)).left = (body Try.prog (stepper Try.prog (cfg23 k) lim23) (pl23_0 k) (codeAt (bodyOf Try.f23) [.r, .r, .r, .l, .r, .s, .b]) ((fr23_0 k).sh.st v) (loopK (fr23_0 k) fun v => F23_0 k m v.1.1 v.1.2.1 v.1.2.2.1 v.1.2.2.2.1 v.1.2.2.2.2.1 v.2.1 v.2.2.1)).right := by kernel_rfl
theorem fr23_0_ok (k : Nat) : FragOK Try.prog lim23 (fr23_0 k) (codeAt (bodyOf Try.f23) [.r, .r, .r, .l, .r, .s]) :=
  frag_cast (by kernel_rfl) (loop_ok (cfg23_ok k) (Eq.mpr (pq23_0 k) (planOK_go _)) (fun m v => F23_0 k m v.1.1 v.1.2.1 v.1.2.2.1 v.1.2.2.2.1 v.1.2.2.2.2.1 v.2.1 v.2.2.1) k (fun _ => rfl) (fun _ => rfl) fun m v => ⟨ps23_0 k m v, pe23_0 k m v⟩)
def pl23_1 (k : Nat) : Plan := .go
theorem pq23_1 (k : Nat) : PlanOK Try.prog lim23 (pl23_1 k) (codeAt (bodyOf Try.f23) [.r, .r, .r, .r, .l, .r, .s, .b, .r, .l, .s, .r, .s, .b]) = PlanOK Try.prog lim23 .go (codeAt (bodyOf Try.f23) [.r, .r, .r, .r, .l, .r, .s, .b, .r, .l, .s, .r, .s, .b]) := by kernel_rfl
theorem ps23_1 (k m : Nat) (v : (fr23_1 k).sh.V) : F23_1 k (m + 1) v.1.1 v.1.2.1 v.1.2.2.1 v.1.2.2.2.1 v.1.2.2.2.2.1 v.1.2.2.2.2.2.1 v.2.1 v.2.2.1 = (body Try.prog (stepper Try.prog (cfg23 k) lim23) (pl23_1 k) (codeAt (bodyOf Try.f23) [.r, .r, .r, .r, .l, .r, .s, .b, .r, .l, .s, .r, .s, .b]) ((fr23_1 k).sh.st v) (loopK (fr23_1 k) fun v => F23_1 k m v.1.1 v.1.2.1 v.1.2.2.1 v.1.2.2.2.1 v.1.2.2.2.2.1 v.1.2.2.2.2.2.1 v.2.1 v.2.2.1)).eval := by kernel_rfl
theorem pe23_1 (k m : Nat) (v : (fr23_1 k).sh.V) : (body Try.prog (stepper Try.prog (cfg23 k) lim23) (pl23_1 k) (codeAt (bodyOf Try.f23) [.r, .r, .r, .r, .l, .r, .s, .b, .r, .l, .s, .r, .s, .b]) ((fr23_1 k).sh.st v) (loopK (fr23_1 k) fun v => F23_1 k m v.1.1 v.1.2.1 v.1.2.2.1 v.1.2.2.2.1 v.1.2.2.2.2.1 v.1.2.2.2.2.2.1 v.2.1 v.2.2.1)).left = (body Try.prog (stepper Try.prog (cfg23 k) lim23) (pl23_1 k) (codeAt (bodyOf Try.f23) [.r, .r, .r, .r, .l, .r, .s, .b, .r, .l, .s, .r, .s, .b]) ((fr23_1 k).sh.st v) (loopK (fr23_1 k) fun v => F23_1 k m v.1.1 v.1.2.1 v.1.2.2.1 v.1.2.2.2.1 v.1.2.2.2.2.1 v.1.2.2.2.2.2.1 v.2.1 v.2.2.1)).right := by kernel_rfl
theorem fr23_1_ok (k : Nat) : FragOK Try.prog lim23 (fr23_1 k) (codeAt (bodyOf Try.f23) [.r, .r, .r, .r, .l, .r, .s, .b, .r, .l, .s, .r, .s]) :=
  frag_cast (by kernel_rfl) (loop_ok (cfg23_ok k) (Eq.mpr (pq23_1 k) (planOK_go _)) (fun m v => F23_1 k m v.1.1 v.1.2.1 v.1.2.2.1 v.1.2.2.2.1 v.1.2.2.2.2.1 v.1.2.2.2.2.2.1 v.2.1 v.2.2.1) k (fun _ => rfl) (fun _ => rfl) fun m v => ⟨ps23_1 k m v, pe23_1 k m v⟩)
def pl23_2 (k : Nat) : Plan := (.seq .go (.seq (.sub (.seq .go (.sub (.frag (fr23_1 k))))) .go))
theorem pq23_2 (k : Nat) : PlanOK Try.prog lim23 (pl23_2 k) (codeAt (bodyOf Try.f23) [.r, .r, .r, .r, .l, .r, .s, .b]) = (PlanOK Try.prog lim23 .go (codeAt (bodyOf Try.f23) [.r, .r, .r, .r, .l, .r, .s, .b, .l]) ∧ ((PlanOK Try.prog lim23 .go (codeAt (bodyOf Try.f23) [.r, .r, .r, .r, .l, .r, .s, .b, .r, .l, .s, .l]) ∧ FragOK Try.prog lim23 (fr23_1 k) (codeAt (bodyOf Try.f23) [.r, .r, .r, .r, .l, .r, .s, .b, .r, .l, .s, .r, .s])) ∧ PlanOK Try.prog lim23 .go (codeAt (bodyOf Try.f23) [.r, .r, .r, .r, .l, .r, .s, .b, .r, .r]))) := by kernel_rfl
theorem ps23_2 (k m : Nat) (v : (fr23_2 k).sh.V) : F23_2 k (m + 1) v.1.1 v.1.2.1 v.1.2.2.1 v.1.2.2.2.1 v.1.2.2.2.2.1 v.2.1 v.2.2.1 = (body Try.prog (stepper Try.prog (cfg23 k) lim23) (pl23_2 k) (codeAt (bodyOf Try.f23) [.r, .r, .r, .r, .l, .r, .s, .b]) ((fr23_2 k).sh.st v) (loopK (fr23_2 k) fun v => F23_2 k m v.1.1 v.1.2.1 v.1.2.2.1 v.1.2.2.2.1 v.1.2.2.2.2.1 v.2.1 v.2.2.1)).eval := by kernel_rfl
theorem pe23_2 (k m : Nat) (v : (fr23_2 k).sh.V) : (body Try.prog (stepper Try.prog (cfg23 k) lim23) (pl23_2 k) (codeAt (bodyOf Try.f23) [.r, .r, .r, .r, .l, .r, .s, .b]) ((fr23_2 k).sh.st v) (loopK (fr23_2 k) fun v => F23_2 k m v.1.1 v.1.2.1 v.1.2.2.1 v.1.2.2.2.1 v.1.2.2.2.2.1 v.2.1 v.2.2.1)).left = (body Try.prog (stepper Try.prog (cfg23 k) lim23) (pl23_2 k) (codeAt (bodyOf Try.f23) [.r, .r, .r, .r, .l, .r, .s, .b]) ((fr23_2 k).sh.st v) (loopK (fr23_2 k) fun v => F23_2 k m v.1.1 v.1.2.1 v.1.2.2.1 v.1.2.2.2.1 v.1.2.2.2.2.1 v.2.1 v.2.2.1)).right := by kernel_rfl
theorem fr23_2_ok (k : Nat) : FragOK Try.prog lim23 (fr23_2 k) (codeAt (bodyOf Try.f23) [.r, .r, .r, .r, .l, .r, .s]) :=
  frag_cast (by kernel_rfl) (loop_ok (cfg23_ok k) (Eq.mpr (pq23_2 k) ⟨(planOK_go _), ⟨⟨(planOK_go _), (fr23_1_ok k)⟩, (planOK_go _)⟩⟩) (fun m v => F23_2 k m v.1.1 v.1.2.1 v.1.2.2.1 v.1.2.2.2.1 v.1.2.2.2.2.1 v.2.1 v.2.2.1) k (fun _ => rfl) (fun _ => rfl) fun m v => ⟨ps23_2 k m v, pe23_2 k m v⟩)
def pl23 (k : Nat) : Plan := (.seq .go (.seq .go (.seq .go (.seq (.seq .go (.sub (.frag (fr23_0 k)))) (.seq (.seq .go (.sub (.frag (fr23_2 k)))) .go)))))
theorem pq23 (k : Nat) : PlanOK Try.prog lim23 (pl23 k) (codeAt (bodyOf Try.f23) []) = (PlanOK Try.prog lim23 .go (codeAt (bodyOf Try.f23) [.l]) ∧ (PlanOK Try.prog lim23 .go (codeAt (bodyOf Try.f23) [.r, .l]) ∧ (PlanOK Try.prog lim23 .go (codeAt (bodyOf Try.f23) [.r, .r, .l]) ∧ ((PlanOK Try.prog lim23 .go (codeAt (bodyOf Try.f23) [.r, .r, .r, .l, .l]) ∧ FragOK Try.prog lim23 (fr23_0 k) (codeAt (bodyOf Try.f23) [.r, .r, .r, .l, .r, .s])) ∧ ((PlanOK Try.prog lim23 .go (codeAt (bodyOf Try.f23) [.r, .r, .r, .r, .l, .l]) ∧ FragOK Try.prog lim23 (fr23_2 k) (codeAt (bodyOf Try.f23) [.r, .r, .r, .r, .l, .r, .s])) ∧ PlanOK Try.prog lim23 .go (codeAt (bodyOf Try.f23) [.r, .r, .r, .r, .r])))))) := by kernel_rfl
theorem ev23 (k : Nat) (x : AT (sp23 k).ps) : (sp23 k).impl x = (fnT Try.prog (cfg23 k) lim23 Try.f23 (bodyOf Try.f23) (pl23 k) (sp23 k) x).eval := by kernel_rfl
theorem eq23 (k : Nat) (x : AT (sp23 k).ps) : (fnT Try.prog (cfg23 k) lim23 Try.f23 (bodyOf Try.f23) (pl23 k) (sp23 k) x).left = (fnT Try.prog (cfg23 k) lim23 Try.f23 (bodyOf Try.f23) (pl23 k) (sp23 k) x).right := by kernel_rfl
theorem v23 (k : Nat) : Callable Try.prog 23 ∧ Valid Try.prog 23 (sp23 k) :=
  fn_ok (cfg23_ok k) (f := 23) (fn := Try.f23) (by kernel_rfl) (c := bodyOf Try.f23) (by kernel_rfl) (by kernel_rfl) rfl rfl (Nat.le_of_ble_eq_true rfl) (Nat.le_of_ble_eq_true rfl) (p := pl23 k) (Eq.mpr (pq23 k) ⟨(planOK_go _), ⟨(planOK_go _), ⟨(planOK_go _), ⟨⟨(planOK_go _), (fr23_0_ok k)⟩, ⟨⟨(planOK_go _), (fr23_2_ok k)⟩, (planOK_go _)⟩⟩⟩⟩⟩) fun x => ⟨ev23 k x, eq23 k x⟩
/-! f15 hyphen/hyphenref8.Round -/
def F15_0 (k : Nat) : Nat → Int → Int → ((List Int) × ((List Int) × ((List Int) × ((List (Int × (Int × (Int × Unit)))) × (Int × Unit))))) → (List (List Bool)) → Option (((Int × Unit) × (((List Int) × ((List Int) × ((List Int) × ((List (Int × (Int × (Int × Unit)))) × (Int × Unit))))) × (List (List Bool)) × Unit)))
  | 0, _, _, _, _ => none
  | n + 1, t3, t5, c1, c16 =>
    bif (decide (t5 < t3)) then
      if (0 ≤ t3 ∧ t3 < t3 + 1) ∧ t3 ≤ 9223372036854775807 ∧ ((1 : Nat) : Int) * t3 ≤ 281474976710656 then
        if 0 ≤ t5 ∧ t5 < ((List.length c16 : Nat) : Int) then
          let x4 := (List.set c16 (Int.toNat t5) (List.replicate (Int.toNat t3) false))
          if 0 ≤ t5 ∧ t5 < ((List.length x4 : Nat) : Int) then
            if 0 ≤ t5 ∧ t5 < ((List.length (List.getD x4 (Int.toNat t5) ([] : (List Bool))) : Nat) : Int) then
              let x5 := (List.set x4 (Int.toNat t5) (List.set (List.getD x4 (Int.toNat t5) ([] : (List Bool))) (Int.toNat t5) true))
              (F15_0 k n t3 (IntKind.wrap .i64 (t5 + (1 : Int))) c1 x5).bind some
            else none
          else none
        else none
      else none
    else
      some ((t3, ()), (c1, c16, ()))
def fr15_0 (k : Nat) : Frag := ⟨⟨[], [(1, .ptr 1 []), (3, .val (.int .i64)), (4, .at 16 []), (5, .val (.int .i64))], [(1, some 28, (.pair (.sl false 3 (.int .i64) none) (.pair (.sl false 3 (.int .i64) none) (.pair (.sl false 3 (.int .i64) none) (.pair (.sl false 43 (.pair (.int .i64) (.pair (.int .i64) (.pair (.int .i64) .unit))) none) (.pair (.int .i64) .unit)))))), (16, none, (.sl true 82 (.sl true 4 .bool none) none))]⟩, [(.exit 0, ⟨[], [(1, .ptr 1 []), (3, .val (.int .i64)), (4, .at 16 [])], [(1, some 28, (.pair (.sl false 3 (.int .i64) none) (.pair (.sl false 3 (.int .i64) none) (.pair (.sl false 3 (.int .i64) none) (.pair (.sl false 43 (.pair (.int .i64) (.pair (.int .i64) (.pair (.int .i64) .unit))) none) (.pair (.int .i64) .unit)))))), (16, none, (.sl true 82 (.sl true 4 .bool none) none))]⟩)], fun v => F15_0 k k v.1.1 v.1.2.1 v.2.1 v.2.2.1⟩
def F15_1 (k : Nat) : Nat → Int → Int → ((List Int) × ((List Int) × ((List Int) × ((List (Int × (Int × (Int × Unit)))) × (Int × Unit))))) → (List (List Bool)) → Option (((Int × Unit) × (((List Int) × ((List Int) × ((List Int) × ((List (Int × (Int × (Int × Unit)))) × (Int × Unit))))) × (List (List Bool)) × Unit)))
  | 0, _, _, _, _ => none
  | n + 1, t3, t6, c1, c16 =>
    let x14 := (decide (t6 < ((List.length c1.2.2.2.1 : Nat) : Int)))
    bif x14 then
      if 0 ≤ t6 ∧ t6 < ((List.length c1.2.2.2.1 : Nat) : Int) then
        let x15 := (List.getD c1.2.2.2.1 (Int.toNat t6) ((0 : Int), ((0 : Int), ((0 : Int), ()))))
        if 0 ≤ x15.1 ∧ x15.1 < ((List.length c16 : Nat) : Int) then
          if 0 ≤ t6 ∧ t6 < ((List.length c1.2.2.2.1 : Nat) : Int) then
            let x16 := (List.getD c1.2.2.2.1 (Int.toNat t6) ((0 : Int), ((0 : Int), ((0 : Int), ()))))
            if 0 ≤ x16.2.1 ∧ x16.2.1 < ((List.length (List.getD c16 (Int.toNat x15.1) ([] : (List Bool))) : Nat) : Int) then
              let x17 := (List.set c16 (Int.toNat x15.1) (List.set (List.getD c16 (Int.toNat x15.1) ([] : (List Bool))) (Int.toNat x16.2.1) true))
              (F15_1 k n t3 (IntKind.wrap .i64 (t6 + (1 : Int))) c1 x17).bind some
            else none
          else none
        else none
      else none
    else
      some ((t3, ()), (c1, c16, ()))
def fr15_1 (k : Nat) : Frag := ⟨⟨[], [(1, .ptr 1 []), (3, .val (.int .i64)), (4, .at 16 []), (6, .val (.int .i64))], [(1, some 28, (.pair (.sl false 3 (.int .i64) none) (.pair (.sl false 3 (.int .i64) none) (.pair (.sl false 3 (.int .i64) none) (.pair (.sl false 43 (.pair (.int .i64) (.pair (.int .i64) (.pair (.int .i64) .unit))) none) (.pair (.int .i64) .unit)))))), (16, none, (.sl true 82 (.sl true 4 .bool none) none))]⟩, [(.exit 2, ⟨[], [(1, .ptr 1 []), (3, .val (.int .i64)), (4, .at 16 [])], [(1, some 28, (.pair (.sl false 3 (.int .i64) none) (.pair (.sl false 3 (.int .i64) none) (.pair (.sl false 3 (.int .i64) none) (.pair (.sl false 43 (.pair (.int .i64) (.pair (.int .i64) (.pair (.int .i64) .unit))) none) (.pair (.int .i64) .unit)))))), (16, none, (.sl true 82 (.sl true 4 .bool none) none))]⟩)], fun v => F15_1 k k v.1.1 v.1.2.1 v.2.1 v.2.2.1⟩
def F15_2 (k : Nat) : Nat → Int → Int → Int → Int → ((List Int) × ((List Int) × ((List Int) × ((List (Int × (Int × (Int × Unit)))) × (Int × Unit))))) → (List (List Bool)) → Option (((Int × Int × Int × Unit) × (((List Int) × ((List Int) × ((List Int) × ((List (Int × (Int × (Int × Unit)))) × (Int × Unit))))) × (List (List Bool)) × Unit)))
  | 0, _, _, _, _, _, _ => none
  | n + 1, t3, t7, t8, t9, c1, c16 =>
    bif (decide (t9 < t3)) then
      if 0 ≤ t8 ∧ t8 < ((List.length c16 : Nat) : Int) then
        if 0 ≤ t8 ∧ t8 < ((List.length c16 : Nat) : Int) then
          if 0 ≤ t9 ∧ t9 < ((List.length (List.getD c16 (Int.toNat t8) ([] : (List Bool))) : Nat) : Int) then
            let x28 := (List.getD (List.getD c16 (Int.toNat t8) ([] : (List Bool))) (Int.toNat t9) false)
            bif x28 then
              if 0 ≤ t9 ∧ t9 < ((List.length (List.getD c16 (Int.toNat t8) ([] : (List Bool))) : Nat) : Int) then
                let x29 := (List.set c16 (Int.toNat t8) (List.set (List.getD c16 (Int.toNat t8) ([] : (List Bool))) (Int.toNat t9) true))
                (F15_2 k n t3 t7 t8 (IntKind.wrap .i64 (t9 + (1 : Int))) c1 x29).bind some
              else none
            else
              if 0 ≤ t8 ∧ t8 < ((List.length c16 : Nat) : Int) then
                if 0 ≤ t7 ∧ t7 < ((List.length (List.getD c16 (Int.toNat t8) ([] : (List Bool))) : Nat) : Int) then
                  let x30 := (List.getD (List.getD c16 (Int.toNat t8) ([] : (List Bool))) (Int.toNat t7) false)
                  bif x30 then
                    if 0 ≤ t7 ∧ t7 < ((List.length c16 : Nat) : Int) then
                      if 0 ≤ t9 ∧ t9 < ((List.length (List.getD c16 (Int.toNat t7) ([] : (List Bool))) : Nat) : Int) then
                        let x31 := (List.getD (List.getD c16 (Int.toNat t7) ([] : (List Bool))) (Int.toNat t9) false)
                        if 0 ≤ t9 ∧ t9 < ((List.length (List.getD c16 (Int.toNat t8) ([] : (List Bool))) : Nat) : Int) then
                          let x32 := (List.set c16 (Int.toNat t8) (List.set (List.getD c16 (Int.toNat t8) ([] : (List Bool))) (Int.toNat t9) x31))
                          (F15_2 k n t3 t7 t8 (IntKind.wrap .i64 (t9 + (1 : Int))) c1 x32).bind some
                        else none
                      else none
                    else none
                  else
                    if 0 ≤ t9 ∧ t9 < ((List.length (List.getD c16 (Int.toNat t8) ([] : (List Bool))) : Nat) : Int) then
                      let x33 := (List.set c16 (Int.toNat t8) (List.set (List.getD c16 (Int.toNat t8) ([] : (List Bool))) (Int.toNat t9) false))
                      (F15_2 k n t3 t7 t8 (IntKind.wrap .i64 (t9 + (1 : Int))) c1 x33).bind some
                    else none
                else none
              else none
          else none
        else none
      else none
    else
      some ((t3, t7, t8, ()), (c1, c16, ()))
def fr15_2 (k : Nat) : Frag := ⟨⟨[], [(1, .ptr 1 []), (3, .val (.int .i64)), (4, .at 16 []), (7, .val (.int .i64)), (8, .val (.int .i64)), (9, .val (.int .i64))], [(1, some 28, (.pair (.sl false 3 (.int .i64) none) (.pair (.sl false 3 (.int .i64) none) (.pair (.sl false 3 (.int .i64) none) (.pair (.sl false 43 (.pair (.int .i64) (.pair (.int .i64) (.pair (.int .i64) .unit))) none) (.pair (.int .i64) .unit)))))), (16, none, (.sl true 82 (.sl true 4 .bool none) none))]⟩, [(.exit 8, ⟨[], [(1, .ptr 1 []), (3, .val (.int .i64)), (4, .at 16 []), (7, .val (.int .i64)), (8, .val (.int .i64))], [(1, some 28, (.pair (.sl false 3 (.int .i64) none) (.pair (.sl false 3 (.int .i64) none) (.pair (.sl false 3 (.int .i64) none) (.pair (.sl false 43 (.pair (.int .i64) (.pair (.int .i64) (.pair (.int .i64) .unit))) none) (.pair (.int .i64) .unit)))))), (16, none, (.sl true 82 (.sl true 4 .bool none) none))]⟩)], fun v => F15_2 k k v.1.1 v.1.2.1 v.1.2.2.1 v.1.2.2.2.1 v.2.1 v.2.2.1⟩
def F15_3 (k : Nat) : Nat → Int → Int → Int → ((List Int) × ((List Int) × ((List Int) × ((List (Int × (Int × (Int × Unit)))) × (Int × Unit))))) → (List (List Bool)) → Option (((Int × Int × Unit) × (((List Int) × ((List Int) × ((List Int) × ((List (Int × (Int × (Int × Unit)))) × (Int × Unit))))) × (List (List Bool)) × Unit)))
  | 0, _, _, _, _, _ => none
  | n + 1, t3, t7, t8, c1, c16 =>
    bif (decide (t8 < t3)) then
      (F15_2 k k t3 t7 t8 (0 : Int) c1 c16).bind fun r40 =>
      let y41 := r40.1.1
      let y42 := r40.1.2.1
      let y43 := r40.1.2.2.1
      let y44 := r40.2.1
      let y45 := r40.2.2.1
      (F15_3 k n y41 y42 (IntKind.wrap .i64 (y43 + (1 : Int))) y44 y45).bind some
    else
      some ((t3, t7, ()), (c1, c16, ()))
def fr15_3 (k : Nat) : Frag := ⟨⟨[], [(1, .ptr 1 []), (3, .val (.int .i64)), (4, .at 16 []), (7, .val (.int .i64)), (8, .val (.int .i64))], [(1, some 28, (.pair (.sl false 3 (.int .i64) none) (.pair (.sl false 3 (.int .i64) none) (.pair (.sl false 3 (.int .i64) none) (.pair (.sl false 43 (.pair (.int .i64) (.pair (.int .i64) (.pair (.int .i64) .unit))) none) (.pair (.int .i64) .unit)))))), (16, none, (.sl true 82 (.sl true 4 .bool none) none))]⟩, [(.exit 6, ⟨[], [(1, .ptr 1 []), (3, .val (.int .i64)), (4, .at 16 []), (7, .val (.int .i64))], [(1, some 28, (.pair (.sl false 3 (.int .i64) none) (.pair (.sl false 3 (.int .i64) none) (.pair (.sl false 3 (.int .i64) none) (.pair (.sl false 43 (.pair (.int .i64) (.pair (.int .i64) (.pair (.int .i64) .unit))) none) (.pair (.int .i64) .unit)))))), (16, none, (.sl true 82 (.sl true 4 .bool none) none))]⟩)], fun v => F15_3 k k v.1.1 v.1.2.1 v.1.2.2.1 v.2.1 v.2.2.1⟩
def F15_4 (k : Nat) : Nat → Int → Int → ((List Int) × ((List Int) × ((List Int) × ((List (Int × (Int × (Int × Unit)))) × (Int × Unit))))) → (List (List Bool)) → Option ((Unit × (((List Int) × ((List Int) × ((List Int) × ((List (Int × (Int × (Int × Unit)))) × (Int × Unit))))) × (List (List Bool)) × Unit)))
  | 0, _, _, _, _ => none
  | n + 1, t3, t7, c1, c16 =>
    bif (decide (t7 < t3)) then
      (F15_3 k k t3 t7 (0 : Int) c1 c16).bind fun r51 =>
      let y52 := r51.1.1
      let y53 := r51.1.2.1
      let y54 := r51.2.1
      let y55 := r51.2.2.1
      (F15_4 k n y52 (IntKind.wrap .i64 (y53 + (1 : Int))) y54 y55).bind some
    else
      some ((), (c1, c16, ()))
def fr15_4 (k : Nat) : Frag := ⟨⟨[], [(1, .ptr 1 []), (3, .val (.int .i64)), (4, .at 16 []), (7, .val (.int .i64))], [(1, some 28, (.pair (.sl false 3 (.int .i64) none) (.pair (.sl false 3 (.int .i64) none) (.pair (.sl false 3 (.int .i64) none) (.pair (.sl false 43 (.pair (.int .i64) (.pair (.int .i64) (.pair (.int .i64) .unit))) none) (.pair (.int .i64) .unit)))))), (16, none, (.sl true 82 (.sl true 4 .bool none) none))]⟩, [(.exit 4, ⟨[], [(1, .ptr 1 []), (4, .at 16 [])], [(1, some 28, (.pair (.sl false 3 (.int .i64) none) (.pair (.sl false 3 (.int .i64) none) (.pair (.sl false 3 (.int .i64) none) (.pair (.sl false 43 (.pair (.int .i64) (.pair (.int .i64) (.pair (.int .i64) .unit))) none) (.pair (.int .i64) .unit)))))), (16, none, (.sl true 82 (.sl true 4 .bool none) none))]⟩)], fun v => F15_4 k k v.1.1 v.1.2.1 v.2.1 v.2.2.1⟩
def F15_5 (k : Nat) : Nat → Int → ((List Int) × ((List Int) × ((List Int) × ((List (Int × (Int × (Int × Unit)))) × (Int × Unit))))) → (List (List Bool)) → Option ((Unit × Unit) ⊕ ((Bool × Unit) × Unit))
  | 0, _, _, _ => none
  | n + 1, t10, c1, c16 =>
    let x62 := (decide (t10 < ((List.length c1.2.2.2.1 : Nat) : Int)))
    bif x62 then
      if 0 ≤ t10 ∧ t10 < ((List.length c1.2.2.2.1 : Nat) : Int) then
        let x63 := (List.getD c1.2.2.2.1 (Int.toNat t10) ((0 : Int), ((0 : Int), ((0 : Int), ()))))
        bif (decide (x63.2.2.1 > (0 : Int))) then
          if 0 ≤ x63.2.1 ∧ x63.2.1 < ((List.length c16 : Nat) : Int) then
            if 0 ≤ x63.1 ∧ x63.1 < ((List.length (List.getD c16 (Int.toNat x63.2.1) ([] : (List Bool))) : Nat) : Int) then
              let x64 := (List.getD (List.getD c16 (Int.toNat x63.2.1) ([] : (List Bool))) (Int.toNat x63.1) false)
              bif x64 then
                some (.inr ((true, ()), ()))
              else
                (F15_5 k n (IntKind.wrap .i64 (t10 + (1 : Int))) c1 c16).bind some
            else none
          else none
        else
          (F15_5 k n (IntKind.wrap .i64 (t10 + (1 : Int))) c1 c16).bind some
      else none
    else
      some (.inl ((), ()))
def fr15_5 (k : Nat) : Frag := ⟨⟨[], [(1, .ptr 1 []), (4, .at 16 []), (10, .val (.int .i64))], [(1, some 28, (.pair (.sl false 3 (.int .i64) none) (.pair (.sl false 3 (.int .i64) none) (.pair (.sl false 3 (.int .i64) none) (.pair (.sl false 43 (.pair (.int .i64) (.pair (.int .i64) (.pair (.int .i64) .unit))) none) (.pair (.int .i64) .unit)))))), (16, none, (.sl true 82 (.sl true 4 .bool none) none))]⟩, [(.exit 10, ⟨[], [], []⟩), (.ret, ⟨[], [(2, .val .bool)], []⟩)], fun v => F15_5 k k v.1.1 v.2.1 v.2.2.1⟩
def F15 (k : Nat) (a0 : ((List Int) × ((List Int) × ((List Int) × ((List (Int × (Int × (Int × Unit)))) × (Int × Unit)))))) : Option ((Bool × Unit) × Unit) :=
  if (0 ≤ ((List.length a0.1 : Nat) : Int) ∧ ((List.length a0.1 : Nat) : Int) < ((List.length a0.1 : Nat) : Int) + 1) ∧ ((List.length a0.1 : Nat) : Int) ≤ 9223372036854775807 ∧ ((24 : Nat) : Int) * ((List.length a0.1 : Nat) : Int) ≤ 281474976710656 then
    let x1 := (List.replicate (Int.toNat ((List.length a0.1 : Nat) : Int)) ([] : (List Bool)))
    (F15_0 k k ((List.length a0.1 : Nat) : Int) (0 : Int) a0 x1).bind fun r6 =>
    let y7 := r6.1.1
    let y8 := r6.2.1
    let y9 := r6.2.2.1
    (F15_1 k k y7 (0 : Int) y8 y9).bind fun r18 =>
    let y19 := r18.1.1
    let y20 := r18.2.1
    let y21 := r18.2.2.1
    (F15_4 k k y19 (0 : Int) y20 y21).bind fun r56 =>
    let y57 := r56.2.1
    let y58 := r56.2.2.1
    (F15_5 k k (0 : Int) y57 y58).bind fun r65 =>
    match r65 with
    | .inl r66 =>
      some ((false, ()), ())
    | .inr r66 =>
      let y67 := r66.1.1
      some ((y67, ()), ())
  else none
def sp15 (k : Nat) : Spec := ⟨[.val (.pair (.sl false 3 (.int .i64) none) (.pair (.sl false 3 (.int .i64) none) (.pair (.sl false 3 (.int .i64) none) (.pair (.sl false 43 (.pair (.int .i64) (.pair (.int .i64) (.pair (.int .i64) .unit))) none) (.pair (.int .i64) .unit)))))], [.val .bool], fun x => F15 k x.1⟩
def lim15 : Lim := ⟨128, 1, false, false, []⟩
def cfg15 (k : Nat) : Nat → Option Spec := cfgL []
theorem cfg15_ok (k : Nat) : CfgOK Try.prog (cfg15 k) := cfgL_nil
def pl15_0 (k : Nat) : Plan := .go
theorem pq15_0 (k : Nat) : PlanOK Try.prog lim15 (pl15_0 k) (codeAt (bodyOf Try.f15) [.r, .r, .r, .l, .r, .s, .b]) = PlanOK Try.prog lim15 .go (codeAt (bodyOf Try.f15) [.r, .r, .r, .l, .r, .s, .b]) := by kernel_rfl
theorem ps15_0 (k m : Nat) (v : (fr15_0 k).sh.V) : F15_0 k (m + 1) v.1.1 v.1.2.1 v.2.1 v.2.2.1 = (body Try.prog (stepper Try.prog (cfg15 k) lim15) (pl15_0 k) (codeAt (bodyOf Try.f15) [.r, .r, .r, .l, .r, .s, .b]) ((fr15_0 k).sh.st v) (loopK (fr15_0 k) fun v => F15_0 k m v.1.1 v.1.2.1 v.2.1 v.2.2.1)).eval := by kernel_rfl
theorem pe15_0 (k m : Nat) (v : (fr15_0 k).sh.V) : (body Try.prog (stepper Try.prog (cfg15 k) lim15) (pl15_0 k) (codeAt (bodyOf Try.f15) [.r, .r, .r, .l, .r, .s, .b]) ((fr15_0 k).sh.st v) (loopK (fr15_0 k) fun v => F15_0 k m v.1.1 v.1.2.1 v.2.1 v.2.2.1)).left = (body Try.prog (stepper Try.prog (cfg15 k) lim15) (pl15_0 k) (codeAt (bodyOf Try.f15) [.r, .r, .r, .l, .r, .s, .b]) ((fr15_0 k).sh.st v) (loopK (fr15_0 k) fun v => F15_0 k m v.1.1 v.1.2.1 v.2.1 v.2.2.1)).right := by kernel_rfl
theorem fr15_0_ok (k : Nat) : FragOK Try.prog lim15 (fr15_0 k) (codeAt (bodyOf Try.f15) [.r, .r, .r, .l, .r, .s]) :=
  frag_cast (by kernel_rfl) (loop_ok (cfg15_ok k) (Eq.mpr (pq15_0 k) (planOK_go _)) (fun m v => F15_0 k m v.1.1 v.1.2.1 v.2.1 v.2.2.1) k (fun _ => rfl) (fun _ => rfl) fun m v => ⟨ps15_0 k m v, pe15_0 k m v⟩)
def pl15_1 (k : Nat) : Plan := .go
theorem pq15_1 (k : Nat) : PlanOK Try.prog lim15 (pl15_1 k) (codeAt (bodyOf Try.f15) [.r, .r, .r, .r, .l, .r, .s, .b]) = PlanOK Try.prog lim15 .go (codeAt (bodyOf Try.f15) [.r, .r, .r, .r, .l, .r, .s, .b]) := by kernel_rfl
theorem ps15_1 (k m : Nat) (v : (fr15_1 k).sh.V) : F15_1 k (m + 1) v.1.1 v.1.2.1 v.2.1 v.2.2.1 = (body Try.prog (stepper Try.prog (cfg15 k) lim15) (pl15_1 k) (codeAt (bodyOf Try.f15) [.r, .r, .r, .r, .l, .r, .s, .b]) ((fr15_1 k).sh.st v) (loopK (fr15_1 k) fun v => F15_1 k m v.1.1 v.1.2.1 v.2.1 v.2.2.1)).eval := by kernel_rfl
theorem pe15_1 (k m : Nat) (v : (fr15_1 k).sh.V) : (body Try.prog (stepper Try.prog (cfg15 k) lim15) (pl15_1 k) (codeAt (bodyOf Try.f15) [.r, .r, .r, .r, .l, .r, .s, .b]) ((fr15_1 k).sh.st v) (loopK (fr15_1 k) fun v => F15_1 k m v.1.1 v.1.2.1 v.2.1 v.2.2.1)).left = (body Try.prog (stepper Try.prog (cfg15 k) lim15) (pl15_1 k) (codeAt (bodyOf Try.f15) [.r, .r, .r, .r, .l, .r, .s, .b]) ((fr15_1 k).sh.st v) (loopK (fr15_1 k) fun v => F15_1 k m v.1.1 v.1.2.1 v.2.1 v.2.2.1)).right := by kernel_rfl
theorem fr15_1_ok (k : Nat) : FragOK Try.prog lim15 (fr15_1 k) (codeAt (bodyOf Try.f15) [.r, .r, .r, .r, .l, .r, .s]) :=
  frag_cast (by kernel_rfl) (loop_ok (cfg15_ok k) (Eq.mpr (pq15_1 k) (planOK_go _)) (fun m v => F15_1 k m v.1.1 v.1.2.1 v.2.1 v.2.2.1) k (fun _ => rfl) (fun _ => rfl) fun m v => ⟨ps15_1 k m v, pe15_1 k m v⟩)
def pl15_2 (k : Nat) : Plan := .go
theorem pq15_2 (k : Nat) : PlanOK Try.prog lim15 (pl15_2 k) (codeAt (bodyOf Try.f15) [.r, .r, .r, .r, .r, .l, .r, .s, .b, .r, .l, .s, .r, .s, .b, .r, .l, .s, .r, .s, .b]) = PlanOK Try.prog lim15 .go (codeAt (bodyOf Try.f15) [.r, .r, .r, .r, .r, .l, .r, .s, .b, .r, .l, .s, .r, .s, .b, .r, .l, .s, .r, .s, .b]) := by kernel_rfl
theorem ps15_2 (k m : Nat) (v : (fr15_2 k).sh.V) : F15_2 k (m + 1) v.1.1 v.1.2.1 v.1.2.2.1 v.1.2.2.2.1 v.2.1 v.2.2.1 = (body Try.prog (stepper Try.prog (cfg15 k) lim15) (pl15_2 k) (codeAt (bodyOf Try.f15) [.r, .r, .r, .r, .r, .l, .r, .s, .b, .r, .l, .s, .r, .s, .b, .r, .l, .s, .r, .s, .b]) ((fr15_2 k).sh.st v) (loopK (fr15_2 k) fun v => F15_2 k m v.1.1 v.1.2.1 v.1.2.2.1 v.1.2.2.2.1 v.2.1 v.2.2.1)).eval := by kernel_rfl
theorem pe15_2 (k m : Nat) (v : (fr15_2 k).sh.V) : (body Try.prog (stepper Try.prog (cfg15 k) lim15) (pl15_2 k) (codeAt (bodyOf Try.f15) [.r, .r, .r, .r, .r, .l, .r, .s, .b, .r, .l, .s, .r, .s, .b, .r, .l, .s, .r, .s, .b]) ((fr15_2 k).sh.st v) (loopK (fr15_2 k) fun v => F15_2 k m v.1.1 v.1.2.1 v.1.2.2.1 v.1.2.2.2.1 v.2.1 v.2.2.1)).left = (body Try.prog (stepper Try.prog (cfg15 k) lim15) (pl15_2 k) (codeAt (bodyOf Try.f15) [.r, .r, .r, .r, .r, .l, .r, .s, .b, .r, .l, .s, .r, .s, .b, .r, .l, .s, .r, .s, .b]) ((fr15_2 k).sh.st v) (loopK (fr15_2 k) fun v => F15_2 k m v.1.1 v.1.2.1 v.1.2.2.1 v.1.2.2.2.1 v.2.1 v.2.2.1)).right := by kernel_rfl
theorem fr15_2_ok (k : Nat) : FragOK Try.prog lim15 (fr15_2 k) (codeAt (bodyOf Try.f15) [.r, .r, .r, .r, .r, .l, .r, .s, .b, .r, .l, .s, .r, .s, .b, .r, .l, .s, .r, .s]) :=
  frag_cast (by kernel_rfl) (loop_ok (cfg15_ok k) (Eq.mpr (pq15_2 k) (planOK_go _)) (fun m v => F15_2 k m v.1.1 v.1.2.1 v.1.2.2.1 v.1.2.2.2.1 v.2.1 v.2.2.1) k (fun _ => rfl) (fun _ => rfl) fun m v => ⟨ps15_2 k m v, pe15_2 k m v⟩)
def pl15_3 (k : Nat) : Plan := (.seq .go (.seq (.sub (.seq .go (.sub (.frag (fr15_2 k))))) .go))
theorem pq15_3 (k : Nat) : PlanOK Try.prog lim15 (pl15_3 k) (codeAt (bodyOf Try.f15) [.r, .r, .r, .r, .r, .l, .r, .s, .b, .r, .l, .s, .r, .s, .b]) = (PlanOK Try.prog lim15 .go (codeAt (bodyOf Try.f15) [.r, .r, .r, .r, .r, .l, .r, .s, .b, .r, .l, .s, .r, .s, .b, .l]) ∧ ((PlanOK Try.prog lim15 .go (codeAt (bodyOf Try.f15) [.r, .r, .r, .r, .r, .l, .r, .s, .b, .r, .l, .s, .r, .s, .b, .r, .l, .s, .l]) ∧ FragOK Try.prog lim15 (fr15_2 k) (codeAt (bodyOf Try.f15) [.r, .r, .r, .r, .r, .l, .r, .s, .b, .r, .l, .s, .r, .s, .b, .r, .l, .s, .r, .s])) ∧ PlanOK Try.prog lim15 .go (codeAt (bodyOf Try.f15) [.r, .r, .r, .r, .r, .l, .r, .s, .b, .r, .l, .s, .r, .s, .b, .r, .r]))) := by kernel_rfl
theorem ps15_3 (k m : Nat) (v : (fr15_3 k).sh.V) : F15_3 k (m + 1) v.1.1 v.1.2.1 v.1.2.2.1 v.2.1 v.2.2.1 = (body Try.prog (stepper Try.prog (cfg15 k) lim15) (pl15_3 k) (codeAt (bodyOf Try.f15) [.r, .r, .r, .r, .r, .l, .r, .s, .b, .r, .l, .s, .r, .s, .b]) ((fr15_3 k).sh.st v) (loopK (fr15_3 k) fun v => F15_3 k m v.1.1 v.1.2.1 v.1.2.2.1 v.2.1 v.2.2.1)).eval := by kernel_rfl
theorem pe15_3 (k m : Nat) (v : (fr15_3 k).sh.V) : (body Try.prog (stepper Try.prog (cfg15 k) lim15) (pl15_3 k) (codeAt (bodyOf Try.f15) [.r, .r, .r, .r, .r, .l, .r, .s, .b, .r, .l, .s, .r, .s, .b]) ((fr15_3 k).sh.st v) (loopK (fr15_3 k) fun v => F15_3 k m v.1.1 v.1.2.1 v.1.2.2.1 v.2.1 v.2.2.1)).left = (body Try.prog (stepper Try.prog (cfg15 k) lim15) (pl15_3 k) (codeAt (bodyOf Try.f15) [.r, .r, .r, .r, .r, .l, .r, .s, .b, .r, .l, .s, .r, .s, .b]) ((fr15_3 k).sh.st v) (loopK (fr15_3 k) fun v => F15_3 k m v.1.1 v.1.2.1 v.1.2.2.1 v.2.1 v.2.2.1)).right := by kernel_rfl
theorem fr15_3_ok (k : Nat) : FragOK Try.prog lim15 (fr15_3 k) (codeAt (bodyOf Try.f15) [.r, .r, .r, .r, .r, .l, .r, .s, .b, .r, .l, .s, .r, .s]) :=
  frag_cast (by kernel_rfl) (loop_ok (cfg15_ok k) (Eq.mpr (pq15_3 k) ⟨(planOK_go _), ⟨⟨(planOK_go _), (fr15_2_ok k)⟩, (planOK_go _)⟩⟩) (fun m v => F15_3 k m v.1.1 v.1.2.1 v.1.2.2.1 v.2.1 v.2.2.1) k (fun _ => rfl) (fun _ => rfl) fun m v => ⟨ps15_3 k m v, pe15_3 k m v⟩)
def pl15_4 (k : Nat) : Plan := (.seq .go (.seq (.sub (.seq .go (.sub (.frag (fr15_3 k))))) .go))
theorem pq15_4 (k : Nat) : PlanOK Try.prog lim15 (pl15_4 k) (codeAt (bodyOf Try.f15) [.r, .r, .r, .r, .r, .l, .r, .s, .b]) = (PlanOK Try.prog lim15 .go (codeAt (bodyOf Try.f15) [.r, .r, .r, .r, .r, .l, .r, .s, .b, .l]) ∧ ((PlanOK Try.prog lim15 .go (codeAt (bodyOf Try.f15) [.r, .r, .r, .r, .r, .l, .r, .s, .b, .r, .l, .s, .l]) ∧ FragOK Try.prog lim15 (fr15_3 k) (codeAt (bodyOf Try.f15) [.r, .r, .r, .r, .r, .l, .r, .s, .b, .r, .l, .s, .r, .s])) ∧ PlanOK Try.prog lim15 .go (codeAt (bodyOf Try.f15) [.r, .r, .r, .r, .r, .l, .r, .s, .b, .r, .r]))) := by kernel_rfl
theorem ps15_4 (k m : Nat) (v : (fr15_4 k).sh.V) : F15_4 k (m + 1) v.1.1 v.1.2.1 v.2.1 v.2.2.1 = (body Try.prog (stepper Try.prog (cfg15 k) lim15) (pl15_4 k) (codeAt (bodyOf Try.f15) [.r, .r, .r, .r, .r, .l, .r, .s, .b]) ((fr15_4 k).sh.st v) (loopK (fr15_4 k) fun v => F15_4 k m v.1.1 v.1.2.1 v.2.1 v.2.2.1)).eval := by kernel_rfl
theorem pe15_4 (k m : Nat) (v : (fr15_4 k).sh.V) : (body Try.prog (stepper Try.prog (cfg15 k) lim15) (pl15_4 k) (codeAt (bodyOf Try.f15) [.r, .r, .r, .r, .r, .l, .r, .s, .b]) ((fr15_4 k).sh.st v) (loopK (fr15_4 k) fun v => F15_4 k m v.1.1 v.1.2.1 v.2.1 v.2.2.1)).left = (body Try.prog (stepper Try.prog (cfg15 k) lim15) (pl15_4 k) (codeAt (bodyOf Try.f15) [.r, .r, .r, .r, .r, .l, .r, .s, .b]) ((fr15_4 k).sh.st v) (loopK (fr15_4 k) fun v => F15_4 k m v.1.1 v.1.2.1 v.2.1 v.2.2.1)).right := by kernel_rfl
theorem fr15_4_ok (k : Nat) : FragOK Try.prog lim15 (fr15_4 k) (codeAt (bodyOf Try.f15) [.r, .r, .r, .r, .r, .l, .r, .s]) :=
  frag_cast (by kernel_rfl) (loop_ok (cfg15_ok k) (Eq.mpr (pq15_4 k) ⟨(planOK_go _), ⟨⟨(planOK_go _), (fr15_3_ok k)⟩, (planOK_go _)⟩⟩) (fun m v => F15_4 k m v.1.1 v.1.2.1 v.2.1 v.2.2.1) k (fun _ => rfl) (fun _ => rfl) fun m v => ⟨ps15_4 k m v, pe15_4 k m v⟩)
def pl15_5 (k : Nat) : Plan := .go
theorem pq15_5 (k : Nat) : PlanOK Try.prog lim15 (pl15_5 k) (codeAt (bodyOf Try.f15) [.r, .r, .r, .r, .r, .r, .l, .r, .s, .b]) = PlanOK Try.prog lim15 .go (codeAt (bodyOf Try.f15) [.r, .r, .r, .r, .r, .r, .l, .r, .s, .b]) := by kernel_rfl
theorem ps15_5 (k m : Nat) (v : (fr15_5 k).sh.V) : F15_5 k (m + 1) v.1.1 v.2.1 v.2.2.1 = (body Try.prog (stepper Try.prog (cfg15 k) lim15) (pl15_5 k) (codeAt (bodyOf Try.f15) [.r, .r, .r, .r, .r, .r, .l, .r, .s, .b]) ((fr15_5 k).sh.st v) (loopK (fr15_5 k) fun v => F15_5 k m v.1.1 v.2.1 v.2.2.1)).eval := by kernel_rfl
theorem pe15_5 (k m : Nat) (v : (fr15_5 k).sh.V) : (body Try.prog (stepper Try.prog (cfg15 k) lim15) (pl15_5 k) (codeAt (bodyOf Try.f15) [.r, .r, .r, .r, .r, .r, .l, .r, .s, .b]) ((fr15_5 k).sh.st v) (loopK (fr15_5 k) fun v => F15_5 k m v.1.1 v.2.1 v.2.2.1)).left = (body Try.prog (stepper Try.prog (cfg15 k) lim15) (pl15_5 k) (codeAt (bodyOf Try.f15) [.r, .r, .r, .r, .r, .r, .l, .r, .s, .b]) ((fr15_5 k).sh.st v) (loopK (fr15_5 k) fun v => F15_5 k m v.1.1 v.2.1 v.2.2.1)).right := by kernel_rfl
theorem fr15_5_ok (k : Nat) : FragOK Try.prog lim15 (fr15_5 k) (codeAt (bodyOf Try.f15) [.r, .r, .r, .r, .r, .r, .l, .r, .s]) :=
  frag_cast (by kernel_rfl) (loop_ok (cfg15_ok k) (Eq.mpr (pq15_5 k) (planOK_go _)) (fun m v => F15_5 k m v.1.1 v.2.1 v.2.2.1) k (fun _ => rfl) (fun _ => rfl) fun m v => ⟨ps15_5 k m v, pe15_5 k m v⟩)
def pl15 (k : Nat) : Plan := (.seq .go (.seq .go (.seq .go (.seq (.seq .go (.sub (.frag (fr15_0 k)))) (.seq (.seq .go (.sub (.frag (fr15_1 k)))) (.seq (.seq .go (.sub (.frag (fr15_4 k)))) (.seq (.seq .go (.sub (.frag (fr15_5 k)))) .go)))))))
theorem pq15 (k : Nat) : PlanOK Try.prog lim15 (pl15 k) (codeAt (bodyOf Try.f15) []) = (PlanOK Try.prog lim15 .go (codeAt (bodyOf Try.f15) [.l]) ∧ (PlanOK Try.prog lim15 .go (codeAt (bodyOf Try.f15) [.r, .l]) ∧ (PlanOK Try.prog lim15 .go (codeAt (bodyOf Try.f15) [.r, .r, .l]) ∧ ((PlanOK Try.prog lim15 .go (codeAt (bodyOf Try.f15) [.r, .r, .r, .l, .l]) ∧ FragOK Try.prog lim15 (fr15_0 k) (codeAt (bodyOf Try.f15) [.r, .r, .r, .l, .r, .s])) ∧ ((PlanOK Try.prog lim15 .go (codeAt (bodyOf Try.f15) [.r, .r, .r, .r, .l, .l]) ∧ FragOK Try.prog lim15 (fr15_1 k) (codeAt (bodyOf Try.f15) [.r, .r, .r, .r, .l, .r, .s])) ∧ ((PlanOK Try.prog lim15 .go (codeAt (bodyOf Try.f15) [.r, .r, .r, .r, .r, .l, .l]) ∧ FragOK Try.prog lim15 (fr15_4 k) (codeAt (bodyOf Try.f15) [.r, .r, .r, .r, .r, .l, .r, .s])) ∧ ((PlanOK Try.prog lim15 .go (codeAt (bodyOf Try.f15) [.r, .r, .r, .r, .r, .r, .l, .l]) ∧ FragOK Try.prog lim15 (fr15_5 k) (codeAt (bodyOf Try.f15) [.r, .r, .r, .r, .r, .r, .l, .r, .s])) ∧ PlanOK Try.prog lim15 .go (codeAt (bodyOf Try.f15) [.r, .r, .r, .r, .r, .r, .r])))))))) := by kernel_rfl
theorem ev15 (k : Nat) (x : AT (sp15 k).ps) : (sp15 k).impl x = (fnT Try.prog (cfg15 k) lim15 Try.f15 (bodyOf Try.f15) (pl15 k) (sp15 k) x).eval := by kernel_rfl
theorem eq15 (k : Nat) (x : AT (sp15 k).ps) : (fnT Try.prog (cfg15 k) lim15 Try.f15 (bodyOf Try.f15) (pl15 k) (sp15 k) x).left = (fnT Try.prog (cfg15 k) lim15 Try.f15 (bodyOf Try.f15) (pl15 k) (sp15 k) x).right := by kernel_rfl
theorem v15 (k : Nat) : Callable Try.prog 15 ∧ Valid Try.prog 15 (sp15 k) :=
  fn_ok (cfg15_ok k) (f := 15) (fn := Try.f15) (by kernel_rfl) (c := bodyOf Try.f15) (by kernel_rfl) (by kernel_rfl) rfl rfl (Nat.le_of_ble_eq_true rfl) (Nat.le_of_ble_eq_true rfl) (p := pl15 k) (Eq.mpr (pq15 k) ⟨(planOK_go _), ⟨(planOK_go _), ⟨(planOK_go _), ⟨⟨(planOK_go _), (fr15_0_ok k)⟩, ⟨⟨(planOK_go _), (fr15_1_ok k)⟩, ⟨⟨(planOK_go _), (fr15_4_ok k)⟩, ⟨⟨(planOK_go _), (fr15_5_ok k)⟩, (planOK_go _)⟩⟩⟩⟩⟩⟩⟩) fun x => ⟨ev15 k x, eq15 k x⟩
/-! f36 hyphen/hyphenref8.cost -/
def F36_0 (k : Nat) : Nat → Int → Int → Int → ((List Int) × ((List Int) × ((List Int) × ((List (Int × (Int × (Int × Unit)))) × (Int × Unit))))) → Option ((Unit × Unit) ⊕ ((Int × Bool × Unit) × Unit))
  | 0, _, _, _, _ => none
  | n + 1, t1, t2, t8, c3 =>
    let x5 := (decide (t8 < ((List.length c3.2.2.2.1 : Nat) : Int)))
    bif x5 then
      if 0 ≤ t8 ∧ t8 < ((List.length c3.2.2.2.1 : Nat) : Int) then
        let x6 := (List.getD c3.2.2.2.1 (Int.toNat t8) ((0 : Int), ((0 : Int), ((0 : Int), ()))))
        bif (x6.1 == t1) then
          if 0 ≤ t8 ∧ t8 < ((List.length c3.2.2.2.1 : Nat) : Int) then
            let x7 := (List.getD c3.2.2.2.1 (Int.toNat t8) ((0 : Int), ((0 : Int), ((0 : Int), ()))))
            bif (x7.2.1 == t2) then
              if 0 ≤ t8 ∧ t8 < ((List.length c3.2.2.2.1 : Nat) : Int) then
                let x8 := (List.getD c3.2.2.2.1 (Int.toNat t8) ((0 : Int), ((0 : Int), ((0 : Int), ()))))
                some (.inr ((x8.2.2.1, true, ()), ()))
              else none
            else
              (F36_0 k n t1 t2 (IntKind.wrap .i64 (t8 + (1 : Int))) c3).bind some
          else none
        else
          (F36_0 k n t1 t2 (IntKind.wrap .i64 (t8 + (1 : Int))) c3).bind some
      else none
    else
      some (.inl ((), ()))
def fr36_0 (k : Nat) : Frag := ⟨⟨[], [(1, .val (.int .i64)), (2, .val (.int .i64)), (3, .ptr 3 []), (8, .val (.int .i64))], [(3, some 28, (.pair (.sl false 3 (.int .i64) none) (.pair (.sl false 3 (.int .i64) none) (.pair (.sl false 3 (.int .i64) none) (.pair (.sl false 43 (.pair (.int .i64) (.pair (.int .i64) (.pair (.int .i64) .unit))) none) (.pair (.int .i64) .unit))))))]⟩, [(.exit 0, ⟨[], [], []⟩), (.ret, ⟨[], [(6, .val (.int .i64)), (7, .val .bool)], []⟩)], fun v => F36_0 k k v.1.1 v.1.2.1 v.1.2.2.1 v.2.1⟩
def F36 (k : Nat) (a0 : ((List Int) × ((List Int) × ((List Int) × ((List (Int × (Int × (Int × Unit)))) × (Int × Unit)))))) (a1 : Int) (a2 : Int) : Option ((Int × Bool × Unit) × Unit) :=
  (F36_0 k k a1 a2 (0 : Int) a0).bind fun r9 =>
  match r9 with
  | .inl r10 =>
    some (((0 : Int), false, ()), ())
  | .inr r10 =>
    let y11 := r10.1.1
    let y12 := r10.1.2.1
    some ((y11, y12, ()), ())
def sp36 (k : Nat) : Spec := ⟨[.val (.pair (.sl false 3 (.int .i64) none) (.pair (.sl false 3 (.int .i64) none) (.pair (.sl false 3 (.int .i64) none) (.pair (.sl false 43 (.pair (.int .i64) (.pair (.int .i64) (.pair (.int .i64) .unit))) none) (.pair (.int .i64) .unit))))), .val (.int .i64), .val (.int .i64)], [.val (.int .i64), .val .bool], fun x => F36 k x.1 x.2.1 x.2.2.1⟩
def lim36 : Lim := ⟨40, 3, false, false, []⟩
def cfg36 (k : Nat) : Nat → Option Spec := cfgL []
theorem cfg36_ok (k : Nat) : CfgOK Try.prog (cfg36 k) := cfgL_nil
def pl36_0 (k : Nat) : Plan := .go
theorem pq36_0 (k : Nat) : PlanOK Try.prog lim36 (pl36_0 k) (codeAt (bodyOf Try.f36) [.r, .l, .r, .s, .b]) = PlanOK Try.prog lim36 .go (codeAt (bodyOf Try.f36) [.r, .l, .r, .s, .b]) := by kernel_rfl
theorem ps36_0 (k m : Nat) (v : (fr36_0 k).sh.V) : F36_0 k (m + 1) v.1.1 v.1.2.1 v.1.2.2.1 v.2.1 = (body Try.prog (stepper Try.prog (cfg36 k) lim36) (pl36_0 k) (codeAt (bodyOf Try.f36) [.r, .l, .r, .s, .b]) ((fr36_0 k).sh.st v) (loopK (fr36_0 k) fun v => F36_0 k m v.1.1 v.1.2.1 v.1.2.2.1 v.2.1)).eval := by kernel_rfl
theorem pe36_0 (k m : Nat) (v : (fr36_0 k).sh.V) : (body Try.prog (stepper Try.prog (cfg36 k) lim36) (pl36_0 k) (codeAt (bodyOf Try.f36) [.r, .l, .r, .s, .b]) ((fr36_0 k).sh.st v) (loopK (fr36_0 k) fun v => F36_0 k m v.1.1 v.1.2.1 v.1.2.2.1 v.2.1)).left = (body Try.prog (stepper Try.prog (cfg36 k) lim36) (pl36_0 k) (codeAt (bodyOf Try.f36) [.r, .l, .r, .s, .b]) ((fr36_0 k).sh.st v) (loopK (fr36_0 k) fun v => F36_0 k m v.1.1 v.1.2.1 v.1.2.2.1 v.2.1)).right := by kernel_rfl
theorem fr36_0_ok (k : Nat) : FragOK Try.prog lim36 (fr36_0 k) (codeAt (bodyOf Try.f36) [.r, .l, .r, .s]) :=
  frag_cast (by kernel_rfl) (loop_ok (cfg36_ok k) (Eq.mpr (pq36_0 k) (planOK_go _)) (fun m v => F36_0 k m v.1.1 v.1.2.1 v.1.2.2.1 v.2.1) k (fun _ => rfl) (fun _ => rfl) fun m v => ⟨ps36_0 k m v, pe36_0 k m v⟩)
def pl36 (k : Nat) : Plan := (.seq .go (.seq (.seq .go (.sub (.frag (fr36_0 k)))) .go))
theorem pq36 (k : Nat) : PlanOK Try.prog lim36 (pl36 k) (codeAt (bodyOf Try.f36) []) = (PlanOK Try.prog lim36 .go (codeAt (bodyOf Try.f36) [.l]) ∧ ((PlanOK Try.prog lim36 .go (codeAt (bodyOf Try.f36) [.r, .l, .l]) ∧ FragOK Try.prog lim36 (fr36_0 k) (codeAt (bodyOf Try.f36) [.r, .l, .r, .s])) ∧ PlanOK Try.prog lim36 .go (codeAt (bodyOf Try.f36) [.r, .r]))) := by kernel_rfl
theorem ev36 (k : Nat) (x : AT (sp36 k).ps) : (sp36 k).impl x = (fnT Try.prog (cfg36 k) lim36 Try.f36 (bodyOf Try.f36) (pl36 k) (sp36 k) x).eval := by kernel_rfl
theorem eq36 (k : Nat) (x : AT (sp36 k).ps) : (fnT Try.prog (cfg36 k) lim36 Try.f36 (bodyOf Try.f36) (pl36 k) (sp36 k) x).left = (fnT Try.prog (cfg36 k) lim36 Try.f36 (bodyOf Try.f36) (pl36 k) (sp36 k) x).right := by kernel_rfl
theorem v36 (k : Nat) : Callable Try.prog 36 ∧ Valid Try.prog 36 (sp36 k) :=
  fn_ok (cfg36_ok k) (f := 36) (fn := Try.f36) (by kernel_rfl) (c := bodyOf Try.f36) (by kernel_rfl) (by kernel_rfl) rfl rfl (Nat.le_of_ble_eq_true rfl) (Nat.le_of_ble_eq_true rfl) (p := pl36 k) (Eq.mpr (pq36 k) ⟨(planOK_go _), ⟨⟨(planOK_go _), (fr36_0_ok k)⟩, (planOK_go _)⟩⟩) fun x => ⟨ev36 k x, eq36 k x⟩
/-! f37 hyphen/hyphenref1.Add -/
def F37 (k : Nat) (a0 : Int) (a1 : Int) : Option ((Int × Unit) × Unit) :=
  let x1 := (minI (IntKind.wrap .i64 (a0 + a1)) (1152921504606846976 : Int))
  some ((x1, ()), ())
def sp37 (k : Nat) : Spec := ⟨[.val (.int .i64), .val (.int .i64)], [.val (.int .i64)], fun x => F37 k x.1 x.2.1⟩
def lim37 : Lim := ⟨9, 2, false, false, []⟩
def cfg37 (k : Nat) : Nat → Option Spec := cfgL []
theorem cfg37_ok (k : Nat) : CfgOK Try.prog (cfg37 k) := cfgL_nil
def pl37 (k : Nat) : Plan := .go
theorem pq37 (k : Nat) : PlanOK Try.prog lim37 (pl37 k) (codeAt (bodyOf Try.f37) []) = PlanOK Try.prog lim37 .go (codeAt (bodyOf Try.f37) []) := by kernel_rfl
theorem ev37 (k : Nat) (x : AT (sp37 k).ps) : (sp37 k).impl x = (fnT Try.prog (cfg37 k) lim37 Try.f37 (bodyOf Try.f37) (pl37 k) (sp37 k) x).eval := by kernel_rfl
theorem eq37 (k : Nat) (x : AT (sp37 k).ps) : (fnT Try.prog (cfg37 k) lim37 Try.f37 (bodyOf Try.f37) (pl37 k) (sp37 k) x).left = (fnT Try.prog (cfg37 k) lim37 Try.f37 (bodyOf Try.f37) (pl37 k) (sp37 k) x).right := by kernel_rfl
theorem v37 (k : Nat) : Callable Try.prog 37 ∧ Valid Try.prog 37 (sp37 k) :=
  fn_ok (cfg37_ok k) (f := 37) (fn := Try.f37) (by kernel_rfl) (c := bodyOf Try.f37) (by kernel_rfl) (by kernel_rfl) rfl rfl (Nat.le_of_ble_eq_true rfl) (Nat.le_of_ble_eq_true rfl) (p := pl37 k) (Eq.mpr (pq37 k) (planOK_go _)) fun x => ⟨ev37 k x, eq37 k x⟩
/-! f16 hyphen/hyphenref8.Check -/
def F16_0 (k : Nat) : Nat → (List Int) → Int → Int → ((List Int) × ((List Int) × ((List Int) × ((List (Int × (Int × (Int × Unit)))) × (Int × Unit))))) → Option ((((List Int) × Int × Unit) × Unit) ⊕ ((Int × Bool × Unit) × Unit))
  | 0, _, _, _, _ => none
  | n + 1, t1, t6, t7, c2 =>
    let x5 := (decide (t7 < ((List.length t1 : Nat) : Int)))
    bif x5 then
      if 0 ≤ t7 ∧ t7 < ((List.length t1 : Nat) : Int) then
        if ((List.length t1 : Nat) : Int) ≠ 0 then
          let x6 := (Int.tmod (IntKind.wrap .i64 (t7 + (1 : Int))) ((List.length t1 : Nat) : Int))
          if 0 ≤ x6 ∧ x6 < ((List.length t1 : Nat) : Int) then
            (F36 k c2 (List.getD t1 (Int.toNat t7) (0 : Int)) (List.getD t1 (Int.toNat x6) (0 : Int))).bind fun r7 =>
            bif (!r7.1.2.1) then
              some (.inr (((0 : Int), false, ()), ()))
            else
              (F37 k t6 r7.1.1).bind fun r8 =>
              (F16_0 k n t1 r8.1.1 (IntKind.wrap .i64 (t7 + (1 : Int))) c2).bind some
          else none
        else none
      else none
    else
      some (.inl ((t1, t6, ()), ()))
def fr16_0 (k : Nat) : Frag := ⟨⟨[], [(1, .val (.sl false 3 (.int .i64) none)), (2, .ptr 2 []), (6, .val (.int .i64)), (7, .val (.int .i64))], [(2, some 28, (.pair (.sl false 3 (.int .i64) none) (.pair (.sl false 3 (.int .i64) none) (.pair (.sl false 3 (.int .i64) none) (.pair (.sl false 43 (.pair (.int .i64) (.pair (.int .i64) (.pair (.int .i64) .unit))) none) (.pair (.int .i64) .unit))))))]⟩, [(.exit 0, ⟨[], [(1, .val (.sl false 3 (.int .i64) none)), (6, .val (.int .i64))], []⟩), (.ret, ⟨[], [(4, .val (.int .i64)), (5, .val .bool)], []⟩)], fun v => F16_0 k k v.1.1 v.1.2.1 v.1.2.2.1 v.2.1⟩
def F16 (k : Nat) (a0 : ((List Int) × ((List Int) × ((List Int) × ((List (Int × (Int × (Int × Unit)))) × (Int × Unit)))))) (a1 : (List Int)) : Option ((Int × Bool × Unit) × Unit) :=
  (F16_0 k k a1 (0 : Int) (0 : Int) a0).bind fun r9 =>
  match r9 with
  | .inl r10 =>
    let y11 := r10.1.1
    let y12 := r10.1.2.1
    let x13 := (decide (((List.length y11 : Nat) : Int) > (0 : Int)))
    some ((y12, x13, ()), ())
  | .inr r10 =>
    let y14 := r10.1.1
    let y15 := r10.1.2.1
    some ((y14, y15, ()), ())
def sp16 (k : Nat) : Spec := ⟨[.val (.pair (.sl false 3 (.int .i64) none) (.pair (.sl false 3 (.int .i64) none) (.pair (.sl false 3 (.int .i64) none) (.pair (.sl false 43 (.pair (.int .i64) (.pair (.int .i64) (.pair (.int .i64) .unit))) none) (.pair (.int .i64) .unit))))), .val (.sl false 3 (.int .i64) none)], [.val (.int .i64), .val .bool], fun x => F16 k x.1 x.2.1⟩
def lim16 : Lim := ⟨42, 2, false, false, []⟩
def cfg16 (k : Nat) : Nat → Option Spec := cfgL [(36, sp36 k), (37, sp37 k)]
theorem cfg16_ok (k : Nat) : CfgOK Try.prog (cfg16 k) := cfgL_cons (v36 k) (cfgL_cons (v37 k) (cfgL_nil))
def pl16_0 (k : Nat) : Plan := .go
theorem pq16_0 (k : Nat) : PlanOK Try.prog lim16 (pl16_0 k) (codeAt (bodyOf Try.f16) [.r, .r, .l, .r, .s, .b]) = PlanOK Try.prog lim16 .go (codeAt (bodyOf Try.f16) [.r, .r, .l, .r, .s, .b]) := by kernel_rfl
theorem ps16_0 (k m : Nat) (v : (fr16_0 k).sh.V) : F16_0 k (m + 1) v.1.1 v.1.2.1 v.1.2.2.1 v.2.1 = (body Try.prog (stepper Try.prog (cfg16 k) lim16) (pl16_0 k) (codeAt (bodyOf Try.f16) [.r, .r, .l, .r, .s, .b]) ((fr16_0 k).sh.st v) (loopK (fr16_0 k) fun v => F16_0 k m v.1.1 v.1.2.1 v.1.2.2.1 v.2.1)).eval := by kernel_rfl
theorem pe16_0 (k m : Nat) (v : (fr16_0 k).sh.V) : (body Try.prog (stepper Try.prog (cfg16 k) lim16) (pl16_0 k) (codeAt (bodyOf Try.f16) [.r, .r, .l, .r, .s, .b]) ((fr16_0 k).sh.st v) (loopK (fr16_0 k) fun v => F16_0 k m v.1.1 v.1.2.1 v.1.2.2.1 v.2.1)).left = (body Try.prog (stepper Try.prog (cfg16 k) lim16) (pl16_0 k) (codeAt (bodyOf Try.f16) [.r, .r, .l, .r, .s, .b]) ((fr16_0 k).sh.st v) (loopK (fr16_0 k) fun v => F16_0 k m v.1.1 v.1.2.1 v.1.2.2.1 v.2.1)).right := by kernel_rfl
theorem fr16_0_ok (k : Nat) : FragOK Try.prog lim16 (fr16_0 k) (codeAt (bodyOf Try.f16) [.r, .r, .l, .r, .s]) :=
  frag_cast (by kernel_rfl) (loop_ok (cfg16_ok k) (Eq.mpr (pq16_0 k) (planOK_go _)) (fun m v => F16_0 k m v.1.1 v.1.2.1 v.1.2.2.1 v.2.1) k (fun _ => rfl) (fun _ => rfl) fun m v => ⟨ps16_0 k m v, pe16_0 k m v⟩)
def pl16 (k : Nat) : Plan := (.seq .go (.seq .go (.seq (.seq .go (.sub (.frag (fr16_0 k)))) .go)))
theorem pq16 (k : Nat) : PlanOK Try.prog lim16 (pl16 k) (codeAt (bodyOf Try.f16) []) = (PlanOK Try.prog lim16 .go (codeAt (bodyOf Try.f16) [.l]) ∧ (PlanOK Try.prog lim16 .go (codeAt (bodyOf Try.f16) [.r, .l]) ∧ ((PlanOK Try.prog lim16 .go (codeAt (bodyOf Try.f16) [.r, .r, .l, .l]) ∧ FragOK Try.prog lim16 (fr16_0 k) (codeAt (bodyOf Try.f16) [.r, .r, .l, .r, .s])) ∧ PlanOK Try.prog lim16 .go (codeAt (bodyOf Try.f16) [.r, .r, .r])))) := by kernel_rfl
theorem ev16 (k : Nat) (x : AT (sp16 k).ps) : (sp16 k).impl x = (fnT Try.prog (cfg16 k) lim16 Try.f16 (bodyOf Try.f16) (pl16 k) (sp16 k) x).eval := by kernel_rfl
theorem eq16 (k : Nat) (x : AT (sp16 k).ps) : (fnT Try.prog (cfg16 k) lim16 Try.f16 (bodyOf Try.f16) (pl16 k) (sp16 k) x).left = (fnT Try.prog (cfg16 k) lim16 Try.f16 (bodyOf Try.f16) (pl16 k) (sp16 k) x).right := by kernel_rfl
theorem v16 (k : Nat) : Callable Try.prog 16 ∧ Valid Try.prog 16 (sp16 k) :=
  fn_ok (cfg16_ok k) (f := 16) (fn := Try.f16) (by kernel_rfl) (c := bodyOf Try.f16) (by kernel_rfl) (by kernel_rfl) rfl rfl (Nat.le_of_ble_eq_true rfl) (Nat.le_of_ble_eq_true rfl) (p := pl16 k) (Eq.mpr (pq16 k) ⟨(planOK_go _), ⟨(planOK_go _), ⟨⟨(planOK_go _), (fr16_0_ok k)⟩, (planOK_go _)⟩⟩⟩) fun x => ⟨ev16 k x, eq16 k x⟩
/-! f7 hyphen/hyphenlaw8.TwinRings -/
def F7_0 (k : Nat) : Nat → Bool → Int → Bool → Int → Int → (List Int) → Option (((Bool × Int × Bool × Int × Unit) × ((List Int) × Unit)) ⊕ ((Bool × Unit) × Unit))
  | 0, _, _, _, _, _, _ => none
  | n + 1, t9, t10, t11, t12, t13, c1000352 =>
    bif (decide (t13 < t12)) then
      if 0 ≤ t12 ∧ t12 < ((List.length c1000352 : Nat) : Int) then
        let x9 := (List.getD c1000352 (Int.toNat t12) (0 : Int))
        if 0 ≤ t13 ∧ t13 < ((List.length c1000352 : Nat) : Int) then
          let x10 := (List.getD c1000352 (Int.toNat t13) (0 : Int))
          bif (x9 == x10) then
            some (.inr ((false, ()), ()))
          else
            (F7_0 k n t9 t10 t11 t12 (IntKind.wrap .i64 (t13 + (1 : Int))) c1000352).bind some
        else none
      else none
    else
      some (.inl ((t9, t10, t11, t12, ()), (c1000352, ())))
def fr7_0 (k : Nat) : Frag := ⟨⟨[], [(8, .at 1000352 []), (9, .val .bool), (10, .val (.int .i64)), (11, .val .bool), (12, .val (.int .i64)), (13, .val (.int .i64))], [(1000352, none, (.sl true 3 (.int .i64) none))]⟩, [(.exit 2, ⟨[], [(8, .at 1000352 []), (9, .val .bool), (10, .val (.int .i64)), (11, .val .bool), (12, .val (.int .i64))], [(1000352, none, (.sl true 3 (.int .i64) none))]⟩), (.ret, ⟨[], [(6, .val .bool)], []⟩)], fun v => F7_0 k k v.1.1 v.1.2.1 v.1.2.2.1 v.1.2.2.2.1 v.1.2.2.2.2.1 v.2.1⟩
def F7_1 (k : Nat) : Nat → Bool → Int → Bool → Int → (List Int) → Option (((Bool × Int × Bool × Unit) × Unit) ⊕ ((Bool × Unit) × Unit))
  | 0, _, _, _, _, _ => none
  | n + 1, t9, t10, t11, t12, c1000352 =>
    let x19 := (decide (t12 < ((List.length c1000352 : Nat) : Int)))
    bif x19 then
      (F7_0 k k t9 t10 t11 t12 (0 : Int) c1000352).bind fun r20 =>
      match r20 with
      | .inl r21 =>
        let y22 := r21.1.1
        let y23 := r21.1.2.1
        let y24 := r21.1.2.2.1
        let y25 := r21.1.2.2.2.1
        let y26 := r21.2.1
        (F7_1 k n y22 y23 y24 (IntKind.wrap .i64 (y25 + (1 : Int))) y26).bind some
      | .inr r21 =>
        let y27 := r21.1.1
        some (.inr ((y27, ()), ()))
    else
      some (.inl ((t9, t10, t11, ()), ()))
def fr7_1 (k : Nat) : Frag := ⟨⟨[], [(8, .at 1000352 []), (9, .val .bool), (10, .val (.int .i64)), (11, .val .bool), (12, .val (.int .i64))], [(1000352, none, (.sl true 3 (.int .i64) none))]⟩, [(.exit 0, ⟨[], [(9, .val .bool), (10, .val (.int .i64)), (11, .val .bool)], []⟩), (.ret, ⟨[], [(6, .val .bool)], []⟩)], fun v => F7_1 k k v.1.1 v.1.2.1 v.1.2.2.1 v.1.2.2.2.1 v.2.1⟩
def F7 (k : Nat) (a0 : Int) (a1 : (List Int)) (a2 : (List Int)) : Option ((Bool × Unit) × Unit) :=
  (F11 k).bind fun r1 =>
  bif (!r1.1.1) then
    some ((false, ()), ())
  else
    (F23 k a0 a1 a2).bind fun r2 =>
    (F14 k r2.1.1).bind fun r3 =>
    (F15 k r2.1.1).bind fun r4 =>
    bif (!(r3.1.2.1 == r4.1.1)) then
      some ((false, ()), ())
    else
      (F16 k r2.1.1 r3.1.1).bind fun r5 =>
      (F7_1 k k r3.1.2.1 r5.1.1 r5.1.2.1 (0 : Int) r3.1.1).bind fun r28 =>
      match r28 with
      | .inl r29 =>
        let y30 := r29.1.1
        let y31 := r29.1.2.1
        let y32 := r29.1.2.2.1
        bif (y30 == y32) then
          bif (!y30) then
            some ((true, ()), ())
          else
            some (((decide (y31 > (0 : Int))), ()), ())
        else
          some ((false, ()), ())
      | .inr r29 =>
        let y33 := r29.1.1
        some ((y33, ()), ())
def sp7 (k : Nat) : Spec := ⟨[.val (.int .i64), .val (.sl false 3 (.int .i64) none), .val (.sl false 3 (.int .i64) none)], [.val .bool], fun x => F7 k x.1 x.2.1 x.2.2.1⟩
def lim7 : Lim := ⟨66, 3, false, false, []⟩
def cfg7 (k : Nat) : Nat → Option Spec := cfgL [(11, sp11 k), (14, sp14 k), (15, sp15 k), (16, sp16 k), (23, sp23 k)]
theorem cfg7_ok (k : Nat) : CfgOK Try.prog (cfg7 k) := cfgL_cons (v11 k) (cfgL_cons (v14 k) (cfgL_cons (v15 k) (cfgL_cons (v16 k) (cfgL_cons (v23 k) (cfgL_nil)))))
def pl7_0 (k : Nat) : Plan := .go
theorem pq7_0 (k : Nat) : PlanOK Try.prog lim7 (pl7_0 k) (codeAt (bodyOf Try.f7) [.r, .r, .r, .r, .r, .r, .l, .r, .s, .b, .r, .l, .s, .r, .s, .b]) = PlanOK Try.prog lim7 .go (codeAt (bodyOf Try.f7) [.r, .r, .r, .r, .r, .r, .l, .r, .s, .b, .r, .l, .s, .r, .s, .b]) := by kernel_rfl
theorem ps7_0 (k m : Nat) (v : (fr7_0 k).sh.V) : F7_0 k (m + 1) v.1.1 v.1.2.1 v.1.2.2.1 v.1.2.2.2.1 v.1.2.2.2.2.1 v.2.1 = (body Try.prog (stepper Try.prog (cfg7 k) lim7) (pl7_0 k) (codeAt (bodyOf Try.f7) [.r, .r, .r, .r, .r, .r, .l, .r, .s, .b, .r, .l, .s, .r, .s, .b]) ((fr7_0 k).sh.st v) (loopK (fr7_0 k) fun v => F7_0 k m v.1.1 v.1.2.1 v.1.2.2.1 v.1.2.2.2.1 v.1.2.2.2.2.1 v.2.1)).eval := by kernel_rfl
theorem pe7_0 (k m : Nat) (v : (fr7_0 k).sh.V) : (body Try.prog (stepper Try.prog (cfg7 k) lim7) (pl7_0 k) (codeAt (bodyOf Try.f7) [.r, .r, .r, .r, .r, .r, .l, .r, .s, .b, .r, .l, .s, .r, .s, .b]) ((fr7_0 k).sh.st v) (loopK (fr7_0 k) fun v => F7_0 k m v.1.1 v.1.2.1 v.1.2.2.1 v.1.2.2.2.1 v.1.2.2.2.2.1 v.2.1)).left = (body Try.prog (stepper Try.prog (cfg7 k) lim7) (pl7_0 k) (codeAt (bodyOf Try.f7) [.r, .r, .r, .r, .r, .r, .l, .r, .s, .b, .r, .l, .s, .r, .s, .b]) ((fr7_0 k).sh.st v) (loopK (fr7_0 k) fun v => F7_0 k m v.1.1 v.1.2.1 v.1.2.2.1 v.1.2.2.2.1 v.1.2.2.2.2.1 v.2.1)).right := by kernel_rfl
theorem fr7_0_ok (k : Nat) : FragOK Try.prog lim7 (fr7_0 k) (codeAt (bodyOf Try.f7) [.r, .r, .r, .r, .r, .r, .l, .r, .s, .b, .r, .l, .s, .r, .s]) :=
  frag_cast (by kernel_rfl) (loop_ok (cfg7_ok k) (Eq.mpr (pq7_0 k) (planOK_go _)) (fun m v => F7_0 k m v.1.1 v.1.2.1 v.1.2.2.1 v.1.2.2.2.1 v.1.2.2.2.2.1 v.2.1) k (fun _ => rfl) (fun _ => rfl) fun m v => ⟨ps7_0 k m v, pe7_0 k m v⟩)
def pl7_1 (k : Nat) : Plan := (.seq .go (.seq (.sub (.seq .go (.sub (.frag (fr7_0 k))))) .go))
theorem pq7_1 (k : Nat) : PlanOK Try.prog lim7 (pl7_1 k) (codeAt (bodyOf Try.f7) [.r, .r, .r, .r, .r, .r, .l, .r, .s, .b]) = (PlanOK Try.prog lim7 .go (codeAt (bodyOf Try.f7) [.r, .r, .r, .r, .r, .r, .l, .r, .s, .b, .l]) ∧ ((PlanOK Try.prog lim7 .go (codeAt (bodyOf Try.f7) [.r, .r, .r, .r, .r, .r, .l, .r, .s, .b, .r, .l, .s, .l]) ∧ FragOK Try.prog lim7 (fr7_0 k) (codeAt (bodyOf Try.f7) [.r, .r, .r, .r, .r, .r, .l, .r, .s, .b, .r, .l, .s, .r, .s])) ∧ PlanOK Try.prog lim7 .go (codeAt (bodyOf Try.f7) [.r, .r, .r, .r, .r, .r, .l, .r, .s, .b, .r, .r]))) := by kernel_rfl
theorem ps7_1 (k m : Nat) (v : (fr7_1 k).sh.V) : F7_1 k (m + 1) v.1.1 v.1.2.1 v.1.2.2.1 v.1.2.2.2.1 v.2.1 = (body Try.prog (stepper Try.prog (cfg7 k) lim7) (pl7_1 k) (codeAt (bodyOf Try.f7) [.r, .r, .r, .r, .r, .r, .l, .r, .s, .b]) ((fr7_1 k).sh.st v) (loopK (fr7_1 k) fun v => F7_1 k m v.1.1 v.1.2.1 v.1.2.2.1 v.1.2.2.2.1 v.2.1)).eval := by kernel_rfl
theorem pe7_1 (k m : Nat) (v : (fr7_1 k).sh.V) : (body Try.prog (stepper Try.prog (cfg7 k) lim7) (pl7_1 k) (codeAt (bodyOf Try.f7) [.r, .r, .r, .r, .r, .r, .l, .r, .s, .b]) ((fr7_1 k).sh.st v) (loopK (fr7_1 k) fun v => F7_1 k m v.1.1 v.1.2.1 v.1.2.2.1 v.1.2.2.2.1 v.2.1)).left = (body Try.prog (stepper Try.prog (cfg7 k) lim7) (pl7_1 k) (codeAt (bodyOf Try.f7) [.r, .r, .r, .r, .r, .r, .l, .r, .s, .b]) ((fr7_1 k).sh.st v) (loopK (fr7_1 k) fun v => F7_1 k m v.1.1 v.1.2.1 v.1.2.2.1 v.1.2.2.2.1 v.2.1)).right := by kernel_rfl
theorem fr7_1_ok (k : Nat) : FragOK Try.prog lim7 (fr7_1 k) (codeAt (bodyOf Try.f7) [.r, .r, .r, .r, .r, .r, .l, .r, .s]) :=
  frag_cast (by kernel_rfl) (loop_ok (cfg7_ok k) (Eq.mpr (pq7_1 k) ⟨(planOK_go _), ⟨⟨(planOK_go _), (fr7_0_ok k)⟩, (planOK_go _)⟩⟩) (fun m v => F7_1 k m v.1.1 v.1.2.1 v.1.2.2.1 v.1.2.2.2.1 v.2.1) k (fun _ => rfl) (fun _ => rfl) fun m v => ⟨ps7_1 k m v, pe7_1 k m v⟩)
def pl7 (k : Nat) : Plan := (.seq .go (.seq .go (.seq .go (.seq .go (.seq .go (.seq .go (.seq (.seq .go (.sub (.frag (fr7_1 k)))) .go)))))))
theorem pq7 (k : Nat) : PlanOK Try.prog lim7 (pl7 k) (codeAt (bodyOf Try.f7) []) = (PlanOK Try.prog lim7 .go (codeAt (bodyOf Try.f7) [.l]) ∧ (PlanOK Try.prog lim7 .go (codeAt (bodyOf Try.f7) [.r, .l]) ∧ (PlanOK Try.prog lim7 .go (codeAt (bodyOf Try.f7) [.r, .r, .l]) ∧ (PlanOK Try.prog lim7 .go (codeAt (bodyOf Try.f7) [.r, .r, .r, .l]) ∧ (PlanOK Try.prog lim7 .go (codeAt (bodyOf Try.f7) [.r, .r, .r, .r, .l]) ∧ (PlanOK Try.prog lim7 .go (codeAt (bodyOf Try.f7) [.r, .r, .r, .r, .r, .l]) ∧ ((PlanOK Try.prog lim7 .go (codeAt (bodyOf Try.f7) [.r, .r, .r, .r, .r, .r, .l, .l]) ∧ FragOK Try.prog lim7 (fr7_1 k) (codeAt (bodyOf Try.f7) [.r, .r, .r, .r, .r, .r, .l, .r, .s])) ∧ PlanOK Try.prog lim7 .go (codeAt (bodyOf Try.f7) [.r, .r, .r, .r, .r, .r, .r])))))))) := by kernel_rfl
theorem ev7 (k : Nat) (x : AT (sp7 k).ps) : (sp7 k).impl x = (fnT Try.prog (cfg7 k) lim7 Try.f7 (bodyOf Try.f7) (pl7 k) (sp7 k) x).eval := by kernel_rfl
theorem eq7 (k : Nat) (x : AT (sp7 k).ps) : (fnT Try.prog (cfg7 k) lim7 Try.f7 (bodyOf Try.f7) (pl7 k) (sp7 k) x).left = (fnT Try.prog (cfg7 k) lim7 Try.f7 (bodyOf Try.f7) (pl7 k) (sp7 k) x).right := by kernel_rfl
theorem v7 (k : Nat) : Callable Try.prog 7 ∧ Valid Try.prog 7 (sp7 k) :=
  fn_ok (cfg7_ok k) (f := 7) (fn := Try.f7) (by kernel_rfl) (c := bodyOf Try.f7) (by kernel_rfl) (by kernel_rfl) rfl rfl (Nat.le_of_ble_eq_true rfl) (Nat.le_of_ble_eq_true rfl) (p := pl7 k) (Eq.mpr (pq7 k) ⟨(planOK_go _), ⟨(planOK_go _), ⟨(planOK_go _), ⟨(planOK_go _), ⟨(planOK_go _), ⟨(planOK_go _), ⟨⟨(planOK_go _), (fr7_1_ok k)⟩, (planOK_go _)⟩⟩⟩⟩⟩⟩⟩) fun x => ⟨ev7 k x, eq7 k x⟩
/-! f8 hyphen/hyphenlaw8.TwinTurned -/
def F8 (k : Nat) (a0 : Int) (a1 : (List Int)) (a2 : (List Int)) (a3 : Int) : Option ((Bool × Unit) × Unit) :=
  (F11 k).bind fun r1 =>
  bif (!r1.1.1) then
    some ((false, ()), ())
  else
    let x2 := (IntKind.wrap .i64 ((8 : Int) + (Int.tmod a0 (8 : Int))))
    (F23 k x2 a1 a2).bind fun r3 =>
    (F14 k r3.1.1).bind fun r4 =>
    bif (!r4.1.2.1) then
      let x5 := (((List.length r4.1.1 : Nat) : Int) == (0 : Int))
      some ((x5, ()), ())
    else
      let x6 := (maxI (1 : Int) ((List.length r4.1.1 : Nat) : Int))
      (F18 k a3 x6).bind fun r7 =>
      (F17 k r3.1.1 r4.1.1).bind fun r8 =>
      if 0 ≤ r7.1.1 ∧ r7.1.1 ≤ ((List.length r4.1.1 : Nat) : Int) ∧ ((List.length r4.1.1 : Nat) : Int) ≤ ((List.length r4.1.1 : Nat) : Int) then
        let x9 := (Int.toNat ((List.length r4.1.1 : Nat) : Int) - Int.toNat r7.1.1)
        if 0 ≤ (0 : Int) ∧ (0 : Int) ≤ r7.1.1 ∧ r7.1.1 ≤ ((List.length r4.1.1 : Nat) : Int) then
          let x10 := (Int.toNat r7.1.1 - Int.toNat (0 : Int))
          if (List.length (List.replicate 0 (0 : Int)) + List.length (List.take x9 (List.drop (Int.toNat r7.1.1) r4.1.1))) * (8 * 2) ≤ 281474976710656 ∧ List.length (List.replicate 0 (0 : Int)) + List.length (List.take x9 (List.drop (Int.toNat r7.1.1) r4.1.1)) ≤ 9223372036854775807 then
            let x11 := ((List.replicate 0 (0 : Int)) ++ (List.take x9 (List.drop (Int.toNat r7.1.1) r4.1.1)))
            if (List.length x11 + List.length (List.take x10 (List.drop (Int.toNat (0 : Int)) r4.1.1))) * (8 * 2) ≤ 281474976710656 ∧ List.length x11 + List.length (List.take x10 (List.drop (Int.toNat (0 : Int)) r4.1.1)) ≤ 9223372036854775807 then
              let x12 := (x11 ++ (List.take x10 (List.drop (Int.toNat (0 : Int)) r4.1.1)))
              (F17 k r3.1.1 x12).bind fun r13 =>
              bif r8.1.2.1 then
                bif r13.1.2.1 then
                  bif (r8.1.1 == r13.1.1) then
                    some (((decide (r8.1.1 > (0 : Int))), ()), ())
                  else
                    some ((false, ()), ())
                else
                  some ((false, ()), ())
              else
                some ((false, ()), ())
            else none
          else none
        else none
      else none
def sp8 (k : Nat) : Spec := ⟨[.val (.int .i64), .val (.sl false 3 (.int .i64) none), .val (.sl false 3 (.int .i64) none), .val (.int .i64)], [.val .bool], fun x => F8 k x.1 x.2.1 x.2.2.1 x.2.2.2.1⟩
def lim8 : Lim := ⟨73, 4, false, false, []⟩
def cfg8 (k : Nat) : Nat → Option Spec := cfgL [(11, sp11 k), (14, sp14 k), (17, sp17 k), (18, sp18 k), (23, sp23 k)]
theorem cfg8_ok (k : Nat) : CfgOK Try.prog (cfg8 k) := cfgL_cons (v11 k) (cfgL_cons (v14 k) (cfgL_cons (v17 k) (cfgL_cons (v18 k) (cfgL_cons (v23 k) (cfgL_nil)))))
def pl8 (k : Nat) : Plan := .go
theorem pq8 (k : Nat) : PlanOK Try.prog lim8 (pl8 k) (codeAt (bodyOf Try.f8) []) = PlanOK Try.prog lim8 .go (codeAt (bodyOf Try.f8) []) := by kernel_rfl
theorem ev8 (k : Nat) (x : AT (sp8 k).ps) : (sp8 k).impl x = (fnT Try.prog (cfg8 k) lim8 Try.f8 (bodyOf Try.f8) (pl8 k) (sp8 k) x).eval := by kernel_rfl
theorem eq8 (k : Nat) (x : AT (sp8 k).ps) : (fnT Try.prog (cfg8 k) lim8 Try.f8 (bodyOf Try.f8) (pl8 k) (sp8 k) x).left = (fnT Try.prog (cfg8 k) lim8 Try.f8 (bodyOf Try.f8) (pl8 k) (sp8 k) x).right := by kernel_rfl
theorem v8 (k : Nat) : Callable Try.prog 8 ∧ Valid Try.prog 8 (sp8 k) :=
  fn_ok (cfg8_ok k) (f := 8) (fn := Try.f8) (by kernel_rfl) (c := bodyOf Try.f8) (by kernel_rfl) (by kernel_rfl) rfl rfl (Nat.le_of_ble_eq_true rfl) (Nat.le_of_ble_eq_true rfl) (p := pl8 k) (Eq.mpr (pq8 k) (planOK_go _)) fun x => ⟨ev8 k x, eq8 k x⟩
/-! f9 hyphen/hyphenlaw8.TwinNone -/
def F9_0 (k : Nat) : Nat → Int → Bool → Int → ((List Int) × ((List Int) × ((List Int) × ((List (Int × (Int × (Int × Unit)))) × (Int × Unit))))) → (List (List Bool)) → Option (((Int × Bool × Unit) × (((List Int) × ((List Int) × ((List Int) × ((List (Int × (Int × (Int × Unit)))) × (Int × Unit))))) × (List (List Bool)) × Unit)))
  | 0, _, _, _, _, _ => none
  | n + 1, t2, t10, t12, c7, c11 =>
    let x10 := (decide (t12 < ((List.length c7.2.2.2.1 : Nat) : Int)))
    bif x10 then
      (F18 k t2 (50 : Int)).bind fun r11 =>
      if 0 ≤ t12 ∧ t12 < ((List.length c7.2.2.2.1 : Nat) : Int) then
        let x12 := (List.set c7.2.2.2.1 (Int.toNat t12) ((List.getD c7.2.2.2.1 (Int.toNat t12) ((0 : Int), ((0 : Int), ((0 : Int), ())))).1, ((List.getD c7.2.2.2.1 (Int.toNat t12) ((0 : Int), ((0 : Int), ((0 : Int), ())))).2.1, ((IntKind.wrap .i64 ((1 : Int) + r11.1.1)), (List.getD c7.2.2.2.1 (Int.toNat t12) ((0 : Int), ((0 : Int), ((0 : Int), ())))).2.2.2))))
        if 0 ≤ t12 ∧ t12 < ((List.length x12 : Nat) : Int) then
          let x13 := (List.getD x12 (Int.toNat t12) ((0 : Int), ((0 : Int), ((0 : Int), ())))).1
          if 0 ≤ t12 ∧ t12 < ((List.length x12 : Nat) : Int) then
            let x14 := (List.getD x12 (Int.toNat t12) ((0 : Int), ((0 : Int), ((0 : Int), ())))).2.1
            if 0 ≤ x13 ∧ x13 < ((8 : Nat) : Int) then
              if 0 ≤ x14 ∧ x14 < ((8 : Nat) : Int) then
                let x15 := (List.set c11 (Int.toNat x13) (List.set (List.getD c11 (Int.toNat x13) ([] : (List Bool))) (Int.toNat x14) true))
                (F9_0 k n t2 t10 (IntKind.wrap .i64 (t12 + (1 : Int))) (c7.1, (c7.2.1, (c7.2.2.1, (x12, c7.2.2.2.2)))) x15).bind some
              else none
            else none
          else none
        else none
      else none
    else
      some ((t2, t10, ()), (c7, c11, ()))
def fr9_0 (k : Nat) : Frag := ⟨⟨[], [(2, .val (.int .i64)), (7, .ptr 7 []), (10, .val .bool), (11, .ptr 11 []), (12, .val (.int .i64))], [(7, some 28, (.pair (.sl true 3 (.int .i64) none) (.pair (.sl true 3 (.int .i64) none) (.pair (.sl true 3 (.int .i64) none) (.pair (.sl true 43 (.pair (.int .i64) (.pair (.int .i64) (.pair (.int .i64) .unit))) none) (.pair (.int .i64) .unit)))))), (11, some 61, (.arr 8 (.arr 8 .bool)))]⟩, [(.exit 0, ⟨[], [(2, .val (.int .i64)), (7, .ptr 7 []), (10, .val .bool), (11, .ptr 11 [])], [(7, some 28, (.pair (.sl true 3 (.int .i64) none) (.pair (.sl true 3 (.int .i64) none) (.pair (.sl true 3 (.int .i64) none) (.pair (.sl true 43 (.pair (.int .i64) (.pair (.int .i64) (.pair (.int .i64) .unit))) none) (.pair (.int .i64) .unit)))))), (11, some 61, (.arr 8 (.arr 8 .bool)))]⟩)], fun v => F9_0 k k v.1.1 v.1.2.1 v.1.2.2.1 v.2.1 v.2.2.1⟩
def F9_1 (k : Nat) : Nat → Int → Bool → Int → Int → Int → ((List Int) × ((List Int) × ((List Int) × ((List (Int × (Int × (Int × Unit)))) × (Int × Unit))))) → (List (List Bool)) → Option (((Int × Bool × Int × Int × Unit) × (((List Int) × ((List Int) × ((List Int) × ((List (Int × (Int × (Int × Unit)))) × (Int × Unit))))) × (List (List Bool)) × Unit)))
  | 0, _, _, _, _, _, _, _ => none
  | n + 1, t2, t10, t13, t14, t15, c7, c11 =>
    bif (decide (t15 < (8 : Int))) then
      if 0 ≤ t14 ∧ t14 < ((8 : Nat) : Int) then
        if 0 ≤ t15 ∧ t15 < ((8 : Nat) : Int) then
          let x27 := (List.getD (List.getD c11 (Int.toNat t14) ([] : (List Bool))) (Int.toNat t15) false)
          bif x27 then
            if 0 ≤ t14 ∧ t14 < ((8 : Nat) : Int) then
              if 0 ≤ t15 ∧ t15 < ((8 : Nat) : Int) then
                let x28 := (List.set c11 (Int.toNat t14) (List.set (List.getD c11 (Int.toNat t14) ([] : (List Bool))) (Int.toNat t15) true))
                (F9_1 k n t2 t10 t13 t14 (IntKind.wrap .i64 (t15 + (1 : Int))) c7 x28).bind some
              else none
            else none
          else
            if 0 ≤ t14 ∧ t14 < ((8 : Nat) : Int) then
              if 0 ≤ t13 ∧ t13 < ((8 : Nat) : Int) then
                let x29 := (List.getD (List.getD c11 (Int.toNat t14) ([] : (List Bool))) (Int.toNat t13) false)
                bif x29 then
                  if 0 ≤ t13 ∧ t13 < ((8 : Nat) : Int) then
                    if 0 ≤ t15 ∧ t15 < ((8 : Nat) : Int) then
                      let x30 := (List.getD (List.getD c11 (Int.toNat t13) ([] : (List Bool))) (Int.toNat t15) false)
                      if 0 ≤ t14 ∧ t14 < ((8 : Nat) : Int) then
                        if 0 ≤ t15 ∧ t15 < ((8 : Nat) : Int) then
                          let x31 := (List.set c11 (Int.toNat t14) (List.set (List.getD c11 (Int.toNat t14) ([] : (List Bool))) (Int.toNat t15) x30))
                          (F9_1 k n t2 t10 t13 t14 (IntKind.wrap .i64 (t15 + (1 : Int))) c7 x31).bind some
                        else none
                      else none
                    else none
                  else none
                else
                  if 0 ≤ t14 ∧ t14 < ((8 : Nat) : Int) then
                    if 0 ≤ t15 ∧ t15 < ((8 : Nat) : Int) then
                      let x32 := (List.set c11 (Int.toNat t14) (List.set (List.getD c11 (Int.toNat t14) ([] : (List Bool))) (Int.toNat t15) false))
                      (F9_1 k n t2 t10 t13 t14 (IntKind.wrap .i64 (t15 + (1 : Int))) c7 x32).bind some
                    else none
                  else none
              else none
            else none
        else none
      else none
    else
      some ((t2, t10, t13, t14, ()), (c7, c11, ()))
def fr9_1 (k : Nat) : Frag := ⟨⟨[], [(2, .val (.int .i64)), (7, .ptr 7 []), (10, .val .bool), (11, .ptr 11 []), (13, .val (.int .i64)), (14, .val (.int .i64)), (15, .val (.int .i64))], [(7, some 28, (.pair (.sl true 3 (.int .i64) none) (.pair (.sl true 3 (.int .i64) none) (.pair (.sl true 3 (.int .i64) none) (.pair (.sl true 43 (.pair (.int .i64) (.pair (.int .i64) (.pair (.int .i64) .unit))) none) (.pair (.int .i64) .unit)))))), (11, some 61, (.arr 8 (.arr 8 .bool)))]⟩, [(.exit 6, ⟨[], [(2, .val (.int .i64)), (7, .ptr 7 []), (10, .val .bool), (11, .ptr 11 []), (13, .val (.int .i64)), (14, .val (.int .i64))], [(7, some 28, (.pair (.sl true 3 (.int .i64) none) (.pair (.sl true 3 (.int .i64) none) (.pair (.sl true 3 (.int .i64) none) (.pair (.sl true 43 (.pair (.int .i64) (.pair (.int .i64) (.pair (.int .i64) .unit))) none) (.pair (.int .i64) .unit)))))), (11, some 61, (.arr 8 (.arr 8 .bool)))]⟩)], fun v => F9_1 k k v.1.1 v.1.2.1 v.1.2.2.1 v.1.2.2.2.1 v.1.2.2.2.2.1 v.2.1 v.2.2.1⟩
def F9_2 (k : Nat) : Nat → Int → Bool → Int → Int → ((List Int) × ((List Int) × ((List Int) × ((List (Int × (Int × (Int × Unit)))) × (Int × Unit))))) → (List (List Bool)) → Option (((Int × Bool × Int × Unit) × (((List Int) × ((List Int) × ((List Int) × ((List (Int × (Int × (Int × Unit)))) × (Int × Unit))))) × (List (List Bool)) × Unit)))
  | 0, _, _, _, _, _, _ => none
  | n + 1, t2, t10, t13, t14, c7, c11 =>
    bif (decide (t14 < (8 : Int))) then
      (F9_1 k k t2 t10 t13 t14 (0 : Int) c7 c11).bind fun r40 =>
      let y41 := r40.1.1
      let y42 := r40.1.2.1
      let y43 := r40.1.2.2.1
      let y44 := r40.1.2.2.2.1
      let y45 := r40.2.1
      let y46 := r40.2.2.1
      (F9_2 k n y41 y42 y43 (IntKind.wrap .i64 (y44 + (1 : Int))) y45 y46).bind some
    else
      some ((t2, t10, t13, ()), (c7, c11, ()))
def fr9_2 (k : Nat) : Frag := ⟨⟨[], [(2, .val (.int .i64)), (7, .ptr 7 []), (10, .val .bool), (11, .ptr 11 []), (13, .val (.int .i64)), (14, .val (.int .i64))], [(7, some 28, (.pair (.sl true 3 (.int .i64) none) (.pair (.sl true 3 (.int .i64) none) (.pair (.sl true 3 (.int .i64) none) (.pair (.sl true 43 (.pair (.int .i64) (.pair (.int .i64) (.pair (.int .i64) .unit))) none) (.pair (.int .i64) .unit)))))), (11, some 61, (.arr 8 (.arr 8 .bool)))]⟩, [(.exit 4, ⟨[], [(2, .val (.int .i64)), (7, .ptr 7 []), (10, .val .bool), (11, .ptr 11 []), (13, .val (.int .i64))], [(7, some 28, (.pair (.sl true 3 (.int .i64) none) (.pair (.sl true 3 (.int .i64) none) (.pair (.sl true 3 (.int .i64) none) (.pair (.sl true 43 (.pair (.int .i64) (.pair (.int .i64) (.pair (.int .i64) .unit))) none) (.pair (.int .i64) .unit)))))), (11, some 61, (.arr 8 (.arr 8 .bool)))]⟩)], fun v => F9_2 k k v.1.1 v.1.2.1 v.1.2.2.1 v.1.2.2.2.1 v.2.1 v.2.2.1⟩
def F9_3 (k : Nat) : Nat → Int → Bool → Int → ((List Int) × ((List Int) × ((List Int) × ((List (Int × (Int × (Int × Unit)))) × (Int × Unit))))) → (List (List Bool)) → Option (((Int × Bool × Unit) × (((List Int) × ((List Int) × ((List Int) × ((List (Int × (Int × (Int × Unit)))) × (Int × Unit))))) × (List (List Bool)) × Unit)))
  | 0, _, _, _, _, _ => none
  | n + 1, t2, t10, t13, c7, c11 =>
    bif (decide (t13 < (8 : Int))) then
      (F9_2 k k t2 t10 t13 (0 : Int) c7 c11).bind fun r53 =>
      let y54 := r53.1.1
      let y55 := r53.1.2.1
      let y56 := r53.1.2.2.1
      let y57 := r53.2.1
      let y58 := r53.2.2.1
      (F9_3 k n y54 y55 (IntKind.wrap .i64 (y56 + (1 : Int))) y57 y58).bind some
    else
      some ((t2, t10, ()), (c7, c11, ()))
def fr9_3 (k : Nat) : Frag := ⟨⟨[], [(2, .val (.int .i64)), (7, .ptr 7 []), (10, .val .bool), (11, .ptr 11 []), (13, .val (.int .i64))], [(7, some 28, (.pair (.sl true 3 (.int .i64) none) (.pair (.sl true 3 (.int .i64) none) (.pair (.sl true 3 (.int .i64) none) (.pair (.sl true 43 (.pair (.int .i64) (.pair (.int .i64) (.pair (.int .i64) .unit))) none) (.pair (.int .i64) .unit)))))), (11, some 61, (.arr 8 (.arr 8 .bool)))]⟩, [(.exit 2, ⟨[], [(2, .val (.int .i64)), (7, .ptr 7 []), (10, .val .bool), (11, .ptr 11 [])], [(7, some 28, (.pair (.sl true 3 (.int .i64) none) (.pair (.sl true 3 (.int .i64) none) (.pair (.sl true 3 (.int .i64) none) (.pair (.sl true 43 (.pair (.int .i64) (.pair (.int .i64) (.pair (.int .i64) .unit))) none) (.pair (.int .i64) .unit)))))), (11, some 61, (.arr 8 (.arr 8 .bool)))]⟩)], fun v => F9_3 k k v.1.1 v.1.2.1 v.1.2.2.1 v.2.1 v.2.2.1⟩
def F9_4 (k : Nat) : Nat → Int → Bool → Int → ((List Int) × ((List Int) × ((List Int) × ((List (Int × (Int × (Int × Unit)))) × (Int × Unit))))) → (List (List Bool)) → Option (((Int × Bool × Unit) × (((List Int) × ((List Int) × ((List Int) × ((List (Int × (Int × (Int × Unit)))) × (Int × Unit))))) × Unit)))
  | 0, _, _, _, _, _ => none
  | n + 1, t2, t10, t16, c7, c11 =>
    bif (decide (t16 < (8 : Int))) then
      bif t10 then
        (F9_4 k n t2 true (IntKind.wrap .i64 (t16 + (1 : Int))) c7 c11).bind some
      else
        if 0 ≤ t16 ∧ t16 < ((8 : Nat) : Int) then
          if 0 ≤ t16 ∧ t16 < ((8 : Nat) : Int) then
            let x65 := (List.getD (List.getD c11 (Int.toNat t16) ([] : (List Bool))) (Int.toNat t16) false)
            (F9_4 k n t2 x65 (IntKind.wrap .i64 (t16 + (1 : Int))) c7 c11).bind some
          else none
        else none
    else
      some ((t2, t10, ()), (c7, ()))
def fr9_4 (k : Nat) : Frag := ⟨⟨[], [(2, .val (.int .i64)), (7, .ptr 7 []), (10, .val .bool), (11, .ptr 11 []), (16, .val (.int .i64))], [(7, some 28, (.pair (.sl true 3 (.int .i64) none) (.pair (.sl true 3 (.int .i64) none) (.pair (.sl true 3 (.int .i64) none) (.pair (.sl true 43 (.pair (.int .i64) (.pair (.int .i64) (.pair (.int .i64) .unit))) none) (.pair (.int .i64) .unit)))))), (11, some 61, (.arr 8 (.arr 8 .bool)))]⟩, [(.exit 8, ⟨[], [(2, .val (.int .i64)), (7, .ptr 7 []), (10, .val .bool)], [(7, some 28, (.pair (.sl true 3 (.int .i64) none) (.pair (.sl true 3 (.int .i64) none) (.pair (.sl true 3 (.int .i64) none) (.pair (.sl true 43 (.pair (.int .i64) (.pair (.int .i64) (.pair (.int .i64) .unit))) none) (.pair (.int .i64) .unit))))))]⟩)], fun v => F9_4 k k v.1.1 v.1.2.1 v.1.2.2.1 v.2.1 v.2.2.1⟩
def F9 (k : Nat) (a0 : Int) (a1 : (List Int)) (a2 : Int) : Option ((Bool × Unit) × Unit) :=
  (F11 k).bind fun r1 =>
  bif (!r1.1.1) then
    some ((false, ()), ())
  else
    (F23 k a0 a1 []).bind fun r2 =>
    (F14 k r2.1.1).bind fun r3 =>
    bif r3.1.2.1 then
      some ((false, ()), ())
    else
      (F9_0 k k a2 false (0 : Int) r2.1.1 (List.replicate 8 (List.replicate 8 false))).bind fun r16 =>
      let y17 := r16.1.1
      let y18 := r16.1.2.1
      let y19 := r16.2.1
      let y20 := r16.2.2.1
      (F9_3 k k y17 y18 (0 : Int) y19 y20).bind fun r59 =>
      let y60 := r59.1.1
      let y61 := r59.1.2.1
      let y62 := r59.2.1
      let y63 := r59.2.2.1
      (F9_4 k k y60 y61 (0 : Int) y62 y63).bind fun r66 =>
      let y67 := r66.1.1
      let y68 := r66.1.2.1
      let y69 := r66.2.1
      (F14 k y69).bind fun r70 =>
      (F17 k y69 r70.1.1).bind fun r71 =>
      bif (r70.1.2.1 == y68) then
        bif (!r70.1.2.1) then
          some ((true, ()), ())
        else
          (F18 k y67 (50 : Int)).bind fun r72 =>
          let x73 := (IntKind.wrap .i64 (((List.length r70.1.1 : Nat) : Int) * (IntKind.wrap .i64 ((1 : Int) + r72.1.1))))
          some (((r71.1.1 == x73), ()), ())
      else
        some ((false, ()), ())
def sp9 (k : Nat) : Spec := ⟨[.val (.int .i64), .val (.sl false 3 (.int .i64) none), .val (.int .i64)], [.val .bool], fun x => F9 k x.1 x.2.1 x.2.2.1⟩
def lim9 : Lim := ⟨136, 3, false, false, []⟩
def cfg9 (k : Nat) : Nat → Option Spec := cfgL [(11, sp11 k), (14, sp14 k), (17, sp17 k), (18, sp18 k), (23, sp23 k)]
theorem cfg9_ok (k : Nat) : CfgOK Try.prog (cfg9 k) := cfgL_cons (v11 k) (cfgL_cons (v14 k) (cfgL_cons (v17 k) (cfgL_cons (v18 k) (cfgL_cons (v23 k) (cfgL_nil)))))
def pl9_0 (k : Nat) : Plan := .go
theorem pq9_0 (k : Nat) : PlanOK Try.prog lim9 (pl9_0 k) (codeAt (bodyOf Try.f9) [.r, .r, .r, .r, .r, .r, .r, .l, .r, .s, .b]) = PlanOK Try.prog lim9 .go (codeAt (bodyOf Try.f9) [.r, .r, .r, .r, .r, .r, .r, .l, .r, .s, .b]) := by kernel_rfl
theorem ps9_0 (k m : Nat) (v : (fr9_0 k).sh.V) : F9_0 k (m + 1) v.1.1 v.1.2.1 v.1.2.2.1 v.2.1 v.2.2.1 = (body Try.prog (stepper Try.prog (cfg9 k) lim9) (pl9_0 k) (codeAt (bodyOf Try.f9) [.r, .r, .r, .r, .r, .r, .r, .l, .r, .s, .b]) ((fr9_0 k).sh.st v) (loopK (fr9_0 k) fun v => F9_0 k m v.1.1 v.1.2.1 v.1.2.2.1 v.2.1 v.2.2.1)).eval := by kernel_rfl
theorem pe9_0 (k m : Nat) (v : (fr9_0 k).sh.V) : (body Try.prog (stepper Try.prog (cfg9 k) lim9) (pl9_0 k) (codeAt (bodyOf Try.f9) [.r, .r, .r, .r, .r, .r, .r, .l, .r, .s, .b]) ((fr9_0 k).sh.st v) (loopK (fr9_0 k) fun v => F9_0 k m v.1.1 v.1.2.1 v.1.2.2.1 v.2.1 v.2.2.1)).left = (body Try.prog (stepper Try.prog (cfg9 k) lim9) (pl9_0 k) (codeAt (bodyOf Try.f9) [.r, .r, .r, .r, .r, .r, .r, .l, .r, .s, .b]) ((fr9_0 k).sh.st v) (loopK (fr9_0 k) fun v => F9_0 k m v.1.1 v.1.2.1 v.1.2.2.1 v.2.1 v.2.2.1)).right := by kernel_rfl
theorem fr9_0_ok (k : Nat) : FragOK Try.prog lim9 (fr9_0 k) (codeAt (bodyOf Try.f9) [.r, .r, .r, .r, .r, .r, .r, .l, .r, .s]) :=
  frag_cast (by kernel_rfl) (loop_ok (cfg9_ok k) (Eq.mpr (pq9_0 k) (planOK_go _)) (fun m v => F9_0 k m v.1.1 v.1.2.1 v.1.2.2.1 v.2.1 v.2.2.1) k (fun _ => rfl) (fun _ => rfl) fun m v => ⟨ps9_0 k m v, pe9_0 k m v⟩)
def pl9_1 (k : Nat) : Plan := .go
theorem pq9_1 (k : Nat) : PlanOK Try.prog lim9 (pl9_1 k) (codeAt (bodyOf Try.f9) [.r, .r, .r, .r, .r, .r, .r, .r, .l, .r, .s, .b, .r, .l, .s, .r, .s, .b, .r, .l, .s, .r, .s, .b]) = PlanOK Try.prog lim9 .go (codeAt (bodyOf Try.f9) [.r, .r, .r, .r, .r, .r, .r, .r, .l, .r, .s, .b, .r, .l, .s, .r, .s, .b, .r, .l, .s, .r, .s, .b]) := by kernel_rfl
theorem ps9_1 (k m : Nat) (v : (fr9_1 k).sh.V) : F9_1 k (m + 1) v.1.1 v.1.2.1 v.1.2.2.1 v.1.2.2.2.1 v.1.2.2.2.2.1 v.2.1 v.2.2.1 = (body Try.prog (stepper Try.prog (cfg9 k) lim9) (pl9_1 k) (codeAt (bodyOf Try.f9) [.r, .r, .r, .r, .r, .r, .r, .r, .l, .r, .s, .b, .r, .l, .s, .r, .s, .b, .r, .l, .s, .r, .s, .b]) ((fr9_1 k).sh.st v) (loopK (fr9_1 k) fun v => F9_1 k m v.1.1 v.1.2.1 v.1.2.2.1 v.1.2.2.2.1 v.1.2.2.2.2.1 v.2.1 v.2.2.1)).eval := by kernel_rfl
theorem pe9_1 (k m : Nat) (v : (fr9_1 k).sh.V) : (body Try.prog (stepper Try.prog (cfg9 k) lim9) (pl9_1 k) (codeAt (bodyOf Try.f9) [.r, .r, .r, .r, .r, .r, .r, .r, .l, .r, .s, .b, .r, .l, .s, .r, .s, .b, .r, .l, .s, .r, .s, .b]) ((fr9_1 k).sh.st v) (loopK (fr9_1 k) fun v => F9_1 k m v.1.1 v.1.2.1 v.1.2.2.1 v.1.2.2.2.1 v.1.2.2.2.2.1 v.2.1 v.2.2.1)).left = (body Try.prog (stepper Try.prog (cfg9 k) lim9) (pl9_1 k) (codeAt (bodyOf Try.f9) [.r, .r, .r, .r, .r, .r, .r, .r, .l, .r, .s, .b, .r, .l, .s, .r, .s, .b, .r, .l, .s, .r, .s, .b]) ((fr9_1 k).sh.st v) (loopK (fr9_1 k) fun v => F9_1 k m v.1.1 v.1.2.1 v.1.2.2.1 v.1.2.2.2.1 v.1.2.2.2.2.1 v.2.1 v.2.2.1)).right := by kernel_rfl
theorem fr9_1_ok (k : Nat) : FragOK Try.prog lim9 (fr9_1 k) (codeAt (bodyOf Try.f9) [.r, .r, .r, .r, .r, .r, .r, .r, .l, .r, .s, .b, .r, .l, .s, .r, .s, .b, .r, .l, .s, .r, .s]) :=
  frag_cast (by kernel_rfl) (loop_ok (cfg9_ok k) (Eq.mpr (pq9_1 k) (planOK_go _)) (fun m v => F9_1 k m v.1.1 v.1.2.1 v.1.2.2.1 v.1.2.2.2.1 v.1.2.2.2.2.1 v.2.1 v.2.2.1) k (fun _ => rfl) (fun _ => rfl) fun m v => ⟨ps9_1 k m v, pe9_1 k m v⟩)
def pl9_2 (k : Nat) : Plan := (.seq .go (.seq (.sub (.seq .go (.sub (.frag (fr9_1 k))))) .go))
theorem pq9_2 (k : Nat) : PlanOK Try.prog lim9 (pl9_2 k) (codeAt (bodyOf Try.f9) [.r, .r, .r, .r, .r, .r, .r, .r, .l, .r, .s, .b, .r, .l, .s, .r, .s, .b]) = (PlanOK Try.prog lim9 .go (codeAt (bodyOf Try.f9) [.r, .r, .r, .r, .r, .r, .r, .r, .l, .r, .s, .b, .r, .l, .s, .r, .s, .b, .l]) ∧ ((PlanOK Try.prog lim9 .go (codeAt (bodyOf Try.f9) [.r, .r, .r, .r, .r, .r, .r, .r, .l, .r, .s, .b, .r, .l, .s, .r, .s, .b, .r, .l, .s, .l]) ∧ FragOK Try.prog lim9 (fr9_1 k) (codeAt (bodyOf Try.f9) [.r, .r, .r, .r, .r, .r, .r, .r, .l, .r, .s, .b, .r, .l, .s, .r, .s, .b, .r, .l, .s, .r, .s])) ∧ PlanOK Try.prog lim9 .go (codeAt (bodyOf Try.f9) [.r, .r, .r, .r, .r, .r, .r, .r, .l, .r, .s, .b, .r, .l, .s, .r, .s, .b, .r, .r]))) := by kernel_rfl
theorem ps9_2 (k m : Nat) (v : (fr9_2 k).sh.V) : F9_2 k (m + 1) v.1.1 v.1.2.1 v.1.2.2.1 v.1.2.2.2.1 v.2.1 v.2.2.1 = (body Try.prog (stepper Try.prog (cfg9 k) lim9) (pl9_2 k) (codeAt (bodyOf Try.f9) [.r, .r, .r, .r, .r, .r, .r, .r, .l, .r, .s, .b, .r, .l, .s, .r, .s, .b]) ((fr9_2 k).sh.st v) (loopK (fr9_2 k) fun v => F9_2 k m v.1.1 v.1.2.1 v.1.2.2.1 v.1.2.2.2.1 v.2.1 v.2.2.1)).eval := by kernel_rfl
theorem pe9_2 (k m : Nat) (v : (fr9_2 k).sh.V) : (body Try.prog (stepper Try.prog (cfg9 k) lim9) (pl9_2 k) (codeAt (bodyOf Try.f9) [.r, .r, .r, .r, .r, .r, .r, .r, .l, .r, .s, .b, .r, .l, .s, .r, .s, .b]) ((fr9_2 k).sh.st v) (loopK (fr9_2 k) fun v => F9_2 k m v.1.1 v.1.2.1 v.1.2.2.1 v.1.2.2.2.1 v.2.1 v.2.2.1)).left = (body Try.prog (stepper Try.prog (cfg9 k) lim9) (pl9_2 k) (codeAt (bodyOf Try.f9) [.r, .r, .r, .r, .r, .r, .r, .r, .l, .r, .s, .b, .r, .l, .s, .r, .s, .b]) ((fr9_2 k).sh.st v) (loopK (fr9_2 k) fun v => F9_2 k m v.1.1 v.1.2.1 v.1.2.2.1 v.1.2.2.2.1 v.2.1 v.2.2.1)).right := by kernel_rfl
theorem fr9_2_ok (k : Nat) : FragOK Try.prog lim9 (fr9_2 k) (codeAt (bodyOf Try.f9) [.r, .r, .r, .r, .r, .r, .r, .r, .l, .r, .s, .b, .r, .l, .s, .r, .s]) :=
  frag_cast (by kernel_rfl) (loop_ok (cfg9_ok k) (Eq.mpr (pq9_2 k) ⟨(planOK_go _), ⟨⟨(planOK_go _), (fr9_1_ok k)⟩, (planOK_go _)⟩⟩) (fun m v => F9_2 k m v.1.1 v.1.2.1 v.1.2.2.1 v.1.2.2.2.1 v.2.1 v.2.2.1) k (fun _ => rfl) (fun _ => rfl) fun m v => ⟨ps9_2 k m v, pe9_2 k m v⟩)
def pl9_3 (k : Nat) : Plan := (.seq .go (.seq (.sub (.seq .go (.sub (.frag (fr9_2 k))))) .go))
theorem pq9_3 (k : Nat) : PlanOK Try.prog lim9 (pl9_3 k) (codeAt (bodyOf Try.f9) [.r, .r, .r, .r, .r, .r, .r, .r, .l, .r, .s, .b]) = (PlanOK Try.prog lim9 .go (codeAt (bodyOf Try.f9) [.r, .r, .r, .r, .r, .r, .r, .r, .l, .r, .s, .b, .l]) ∧ ((PlanOK Try.prog lim9 .go (codeAt (bodyOf Try.f9) [.r, .r, .r, .r, .r, .r, .r, .r, .l, .r, .s, .b, .r, .l, .s, .l]) ∧ FragOK Try.prog lim9 (fr9_2 k) (codeAt (bodyOf Try.f9) [.r, .r, .r, .r, .r, .r, .r, .r, .l, .r, .s, .b, .r, .l, .s, .r, .s])) ∧ PlanOK Try.prog lim9 .go (codeAt (bodyOf Try.f9) [.r, .r, .r, .r, .r, .r, .r, .r, .l, .r, .s, .b, .r, .r]))) := by kernel_rfl
theorem ps9_3 (k m : Nat) (v : (fr9_3 k).sh.V) : F9_3 k (m + 1) v.1.1 v.1.2.1 v.1.2.2.1 v.2.1 v.2.2.1 = (body Try.prog (stepper Try.prog (cfg9 k) lim9) (pl9_3 k) (codeAt (bodyOf Try.f9) [.r, .r, .r, .r, .r, .r, .r, .r, .l, .r, .s, .b]) ((fr9_3 k).sh.st v) (loopK (fr9_3 k) fun v => F9_3 k m v.1.1 v.1.2.1 v.1.2.2.1 v.2.1 v.2.2.1)).eval := by kernel_rfl
theorem pe9_3 (k m : Nat) (v : (fr9_3 k).sh.V) : (body Try.prog (stepper Try.prog (cfg9 k) lim9) (pl9_3 k) (codeAt (bodyOf Try.f9) [.r, .r, .r, .r, .r, .r, .r, .r, .l, .r, .s, .b]) ((fr9_3 k).sh.st v) (loopK (fr9_3 k) fun v => F9_3 k m v.1.1 v.1.2.1 v.1.2.2.1 v.2.1 v.2.2.1)).left = (body Try.prog (stepper Try.prog (cfg9 k) lim9) (pl9_3 k) (codeAt (bodyOf Try.f9) [.r, .r, .r, .r, .r, .r, .r, .r, .l, .r, .s, .b]) ((fr9_3 k).sh.st v) (loopK (fr9_3 k) fun v => F9_3 k m v.1.1 v.1.2.1 v.1.2.2.1 v.2.1 v.2.2.1)).right := by kernel_rfl
theorem fr9_3_ok (k : Nat) : FragOK Try.prog lim9 (fr9_3 k) (codeAt (bodyOf Try.f9) [.r, .r, .r, .r, .r, .r, .r, .r, .l, .r, .s]) :=
  frag_cast (by kernel_rfl) (loop_ok (cfg9_ok k) (Eq.mpr (pq9_3 k) ⟨(planOK_go _), ⟨⟨(planOK_go _), (fr9_2_ok k)⟩, (planOK_go _)⟩⟩) (fun m v => F9_3 k m v.1.1 v.1.2.1 v.1.2.2.1 v.2.1 v.2.2.1) k (fun _ => rfl) (fun _ => rfl) fun m v => ⟨ps9_3 k m v, pe9_3 k m v⟩)
def pl9_4 (k : Nat) : Plan := .go
theorem pq9_4 (k : Nat) : PlanOK Try.prog lim9 (pl9_4 k) (codeAt (bodyOf Try.f9) [.r, .r, .r, .r, .r, .r, .r, .r, .r, .l, .r, .s, .b]) = PlanOK Try.prog lim9 .go (codeAt (bodyOf Try.f9) [.r, .r, .r, .r, .r, .r, .r, .r, .r, .l, .r, .s, .b]) := by kernel_rfl
theorem ps9_4 (k m : Nat) (v : (fr9_4 k).sh.V) : F9_4 k (m + 1) v.1.1 v.1.2.1 v.1.2.2.1 v.2.1 v.2.2.1 = (body Try.prog (stepper Try.prog (cfg9 k) lim9) (pl9_4 k) (codeAt (bodyOf Try.f9) [.r, .r, .r, .r, .r, .r, .r, .r, .r, .l, .r, .s, .b]) ((fr9_4 k).sh.st v) (loopK (fr9_4 k) fun v => F9_4 k m v.1.1 v.1.2.1 v.1.2.2.1 v.2.1 v.2.2.1)).eval := by kernel_rfl
theorem pe9_4 (k m : Nat) (v : (fr9_4 k).sh.V) : (body Try.prog (stepper Try.prog (cfg9 k) lim9) (pl9_4 k) (codeAt (bodyOf Try.f9) [.r, .r, .r, .r, .r, .r, .r, .r, .r, .l, .r, .s, .b]) ((fr9_4 k).sh.st v) (loopK (fr9_4 k) fun v => F9_4 k m v.1.1 v.1.2.1 v.1.2.2.1 v.2.1 v.2.2.1)).left = (body Try.prog (stepper Try.prog (cfg9 k) lim9) (pl9_4 k) (codeAt (bodyOf Try.f9) [.r, .r, .r, .r, .r, .r, .r, .r, .r, .l, .r, .s, .b]) ((fr9_4 k).sh.st v) (loopK (fr9_4 k) fun v => F9_4 k m v.1.1 v.1.2.1 v.1.2.2.1 v.2.1 v.2.2.1)).right := by kernel_rfl
theorem fr9_4_ok (k : Nat) : FragOK Try.prog lim9 (fr9_4 k) (codeAt (bodyOf Try.f9) [.r, .r, .r, .r, .r, .r, .r, .r, .r, .l, .r, .s]) :=
  frag_cast (by kernel_rfl) (loop_ok (cfg9_ok k) (Eq.mpr (pq9_4 k) (planOK_go _)) (fun m v => F9_4 k m v.1.1 v.1.2.1 v.1.2.2.1 v.2.1 v.2.2.1) k (fun _ => rfl) (fun _ => rfl) fun m v => ⟨ps9_4 k m v, pe9_4 k m v⟩)
def pl9 (k : Nat) : Plan := (.seq .go (.seq .go (.seq .go (.seq .go (.seq .go (.seq .go (.seq .go (.seq (.seq .go (.sub (.frag (fr9_0 k)))) (.seq (.seq .go (.sub (.frag (fr9_3 k)))) (.seq (.seq .go (.sub (.frag (fr9_4 k)))) .go))))))))))
theorem pq9 (k : Nat) : PlanOK Try.prog lim9 (pl9 k) (codeAt (bodyOf Try.f9) []) = (PlanOK Try.prog lim9 .go (codeAt (bodyOf Try.f9) [.l]) ∧ (PlanOK Try.prog lim9 .go (codeAt (bodyOf Try.f9) [.r, .l]) ∧ (PlanOK Try.prog lim9 .go (codeAt (bodyOf Try.f9) [.r, .r, .l]) ∧ (PlanOK Try.prog lim9 .go (codeAt (bodyOf Try.f9) [.r, .r, .r, .l]) ∧ (PlanOK Try.prog lim9 .go (codeAt (bodyOf Try.f9) [.r, .r, .r, .r, .l]) ∧ (PlanOK Try.prog lim9 .go (codeAt (bodyOf Try.f9) [.r, .r, .r, .r, .r, .l]) ∧ (PlanOK Try.prog lim9 .go (codeAt (bodyOf Try.f9) [.r, .r, .r, .r, .r, .r, .l]) ∧ ((PlanOK Try.prog lim9 .go (codeAt (bodyOf Try.f9) [.r, .r, .r, .r, .r, .r, .r, .l, .l]) ∧ FragOK Try.prog lim9 (fr9_0 k) (codeAt (bodyOf Try.f9) [.r, .r, .r, .r, .r, .r, .r, .l, .r, .s])) ∧ ((PlanOK Try.prog lim9 .go (codeAt (bodyOf Try.f9) [.r, .r, .r, .r, .r, .r, .r, .r, .l, .l]) ∧ FragOK Try.prog lim9 (fr9_3 k) (codeAt (bodyOf Try.f9) [.r, .r, .r, .r, .r, .r, .r, .r, .l, .r, .s])) ∧ ((PlanOK Try.prog lim9 .go (codeAt (bodyOf Try.f9) [.r, .r, .r, .r, .r, .r, .r, .r, .r, .l, .l]) ∧ FragOK Try.prog lim9 (fr9_4 k) (codeAt (bodyOf Try.f9) [.r, .r, .r, .r, .r, .r, .r, .r, .r, .l, .r, .s])) ∧ PlanOK Try.prog lim9 .go (codeAt (bodyOf Try.f9) [.r, .r, .r, .r, .r, .r, .r, .r, .r, .r]))))))))))) := by kernel_rfl
theorem ev9 (k : Nat) (x : AT (sp9 k).ps) : (sp9 k).impl x = (fnT Try.prog (cfg9 k) lim9 Try.f9 (bodyOf Try.f9) (pl9 k) (sp9 k) x).eval := by kernel_rfl
theorem eq9 (k : Nat) (x : AT (sp9 k).ps) : (fnT Try.prog (cfg9 k) lim9 Try.f9 (bodyOf Try.f9) (pl9 k) (sp9 k) x).left = (fnT Try.prog (cfg9 k) lim9 Try.f9 (bodyOf Try.f9) (pl9 k) (sp9 k) x).right := by kernel_rfl
theorem v9 (k : Nat) : Callable Try.prog 9 ∧ Valid Try.prog 9 (sp9 k) :=
  fn_ok (cfg9_ok k) (f := 9) (fn := Try.f9) (by kernel_rfl) (c := bodyOf Try.f9) (by kernel_rfl) (by kernel_rfl) rfl rfl (Nat.le_of_ble_eq_true rfl) (Nat.le_of_ble_eq_true rfl) (p := pl9 k) (Eq.mpr (pq9 k) ⟨(planOK_go _), ⟨(planOK_go _), ⟨(planOK_go _), ⟨(planOK_go _), ⟨(planOK_go _), ⟨(planOK_go _), ⟨(planOK_go _), ⟨⟨(planOK_go _), (fr9_0_ok k)⟩, ⟨⟨(planOK_go _), (fr9_3_ok k)⟩, ⟨⟨(planOK_go _), (fr9_4_ok k)⟩, (planOK_go _)⟩⟩⟩⟩⟩⟩⟩⟩⟩⟩) fun x => ⟨ev9 k x, eq9 k x⟩
end Go.Proofs.YtgojfdimbciaiaaE
