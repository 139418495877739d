/- Functions of the program, as Lean functions, with their contracts; printed by gen.py. Conditions: none. -/
import Derived.Test.YtgojfdimbciaiaaE36
import Derived.Test.YtgojfdimbciaiaaProg
set_option linter.unusedVariables false
namespace Go.Proofs.YtgojfdimbciaiaaE
open Kd
set_option maxRecDepth 20000
abbrev TY57 : Type := (List Int) × Unit
abbrev TY56 : Type := (Int × Unit) × Unit
abbrev TY55 : Type := (Bool × Unit) × Unit
abbrev KD54 : Kd := .sl true 4 .bool none
abbrev TY53 : Type := (List (List Int)) × Unit
abbrev TY52 : Type := List (Int × (Int × Unit))
abbrev TY51 : Type := Tree (Int × (Int × Unit))
abbrev TY50 : Type := Int × (Int × (Int × Unit))
abbrev KD49 : Kd := .sl true 3 (.int .i64) none
abbrev KD48 : Kd := .sl false 3 (.int .i64) none
abbrev TY47 : Type := List TY52
abbrev TY46 : Type := List TY51
abbrev TY45 : Type := List TY50
abbrev TY44 : Type := TY52 × Unit
abbrev KD43 : Kd := .sl true 82 KD54 none
abbrev KD42 : Kd := .sl false 82 (.sl false 4 .bool none) none
abbrev TY41 : Type := TY44 × Unit
abbrev TY40 : Type := Tree (Int × (Int × (Int × (ByteArray × Unit))))
abbrev KD39 : Kd := .tl 32 (.pair (.int .i64) (.pair (.int .i64) .unit))
abbrev KD38 : Kd := .tree 32 (.pair (.int .i64) (.pair (.int .i64) .unit))
abbrev TY37 : Type := Tree (Int × (Int × (Int × (Int × (ByteArray × Unit)))))
abbrev KD36 : Kd := .pair (.sl true 23 KD49 none) .unit
abbrev KD35 : Kd := .sl true 113 (.pair (.int .i64) (.pair (.int .i64) .unit)) none
abbrev TY34 : Type := TY53 × ((List Int) × TY57)
abbrev KD33 : Kd := .pair (.int .i64) (.pair (.int .i64) (.pair (.int .i64) .unit))
abbrev KD32 : Kd := .sl false 113 (.pair (.int .i64) (.pair (.int .i64) .unit)) none
abbrev TY31 : Type := TY47 × Int × Int × Int × Int × Unit
abbrev TY30 : Type := TY34 × Unit
abbrev TY29 : Type := (TY37 × Unit) × Unit
abbrev TY28 : Type := List (ByteArray × (TY40 × Unit))
abbrev TY27 : Type := TY44 × (TY47 × Unit)
abbrev KD26 : Kd := .sl true 43 KD33 none
abbrev KD25 : Kd := .sl true 96 KD32 none
abbrev KD24 : Kd := .sl false 43 KD33 none
abbrev KD23 : Kd := .sl false 96 KD32 none
abbrev TY22 : Type := TY28 × Unit
abbrev KD21 : Kd := .tree 86 (.pair (.int .i64) (.pair (.int .i64) (.pair (.int .i64) (.pair .str .unit))))
abbrev TY20 : Type := (List Int) × ((List Int) × ((List Int) × (TY45 × (Int × Unit))))
abbrev TY19 : Type := TY57 × TY30
abbrev TY18 : Type := Int × (Int × (Int × (ByteArray × ((List TY40) × Unit))))
abbrev KD17 : Kd := .tree 49 (.pair (.int .i64) (.pair (.int .i64) (.pair (.int .i64) (.pair (.int .i64) (.pair .str .unit)))))
abbrev TY16 : Type := (TY20 × Unit) × Unit
abbrev TY15 : Type := Int × (Int × (Int × (Int × (ByteArray × ((List TY37) × Unit)))))
abbrev TY14 : Type := (TY20 × Bool × Unit) × Unit
abbrev KD13 : Kd := .sl true 89 (.pair .str (.pair KD21 .unit)) none
abbrev TY12 : Type := (TY40 × Unit) × TY22
abbrev KD11 : Kd := .pair (.pair (.sl false 23 KD48 none) .unit) (.pair KD49 (.pair KD49 .unit))
abbrev KD10 : Kd := .pair (.int .i64) (.pair (.int .i64) (.pair (.int .i64) (.pair .str (.pair (.tl 86 (.pair (.int .i64) (.pair (.int .i64) (.pair (.int .i64) (.pair .str .unit))))) .unit))))
abbrev KD9 : Kd := .pair (.int .i64) (.pair (.int .i64) (.pair (.int .i64) (.pair (.int .i64) (.pair .str (.pair (.tl 49 (.pair (.int .i64) (.pair (.int .i64) (.pair (.int .i64) (.pair (.int .i64) (.pair .str .unit)))))) .unit)))))
abbrev TY8 : Type := (Unit × (TY20 × TY20 × Unit))
abbrev TY7 : Type := TY20 × TY20 × (List Int) × Unit
abbrev KD6 : Kd := .pair KD49 (.pair KD49 (.pair KD49 (.pair KD26 (.pair (.int .i64) .unit))))
abbrev KD5 : Kd := .pair KD48 (.pair KD48 (.pair KD48 (.pair KD24 (.pair (.int .i64) .unit))))
abbrev TY4 : Type := TY20 × TY20 × TY45 × Unit
abbrev TY3 : Type := TY28 × ((List (Int × (Int × (TY37 × (TY37 × Unit))))) × Unit)
abbrev TY2 : Type := TY20 × TY20 × (List Bool) × (List Bool) × (List Bool) × Unit
abbrev TY1 : Type := ((Int × Unit) × (TY20 × TY20 × TY20 × TY20 × Unit))
abbrev KD0 : Kd := .pair (.sl false 89 (.pair .str (.pair KD21 .unit)) none) (.pair (.sl false 133 (.pair (.int .i64) (.pair (.int .i64) (.pair KD17 (.pair KD17 .unit)))) none) .unit)
/-! f32 hyphen/twin.drawn -/
def F32_0 (k : Nat) : Nat → TY45 → Int → Int → TY53 → TY53 → Option ((Unit × (TY53 × TY53 × Unit)))
  | 0, _, _, _, _, _ => none
  | n + 1, t12, t13, t14, c2, c3 =>
    bif (decide (t14 < t13)) then
      if 0 ≤ t14 ∧ t14 < ((List.length t12 : Nat) : Int) then
        let x5 := (List.getD t12 (Int.toNat t14) ((0 : Int), ((0 : Int), ((0 : Int), ()))))
        if 0 ≤ x5.1 ∧ x5.1 < ((List.length c3.1 : Nat) : Int) then
          let x6 := (List.set (List.replicate 1 (0 : Int)) 0 x5.2.1)
          let x7 := (List.getD c3.1 (Int.toNat x5.1) ([] : (List Int)))
          if (List.length x7 + List.length x6) * (8 * 2) ≤ 281474976710656 ∧ List.length x7 + List.length x6 ≤ 9223372036854775807 then
            if 0 ≤ x5.1 ∧ x5.1 < ((List.length c3.1 : Nat) : Int) then
              if (Int.toNat x5.1) = (Int.toNat x5.1) then
                (F32_0 k n t12 t13 (IntKind.wrap .i64 (t14 + (1 : Int))) c2 ((List.set c3.1 (Int.toNat x5.1) (x7 ++ x6)), c3.2)).bind some
              else none
            else none
          else none
        else none
      else none
    else
      some ((), (c2, c3, ()))
def fr32_0 (k : Nat) : Frag := ⟨⟨[], [(2, .ptr 2 []), (3, .ptr 3 []), (12, .val KD24), (13, .val (.int .i64)), (14, .val (.int .i64))], [(2, some 76, KD36), (3, some 76, KD36)]⟩, [(.exit 0, ⟨[], [(2, .ptr 2 []), (3, .ptr 3 [])], [(2, some 76, KD36), (3, some 76, KD36)]⟩)], fun v => F32_0 k k v.1.1 v.1.2.1 v.1.2.2.1 v.2.1 v.2.2.1⟩
def F32 (k : Nat) (a0 : TY20) : Option ((TY53 × Unit) × Unit) :=
  if (0 ≤ ((List.length a0.1 : Nat) : Int) ∧ ((List.length a0.1 : Nat) : Int) < ((List.length a0.1 : Nat) : Int) + 1) ∧ ((List.length a0.1 : Nat) : Int) ≤ 9223372036854775807 ∧ ((24 : Nat) : Int) * ((List.length a0.1 : Nat) : Int) ≤ 281474976710656 then
    let x1 := (List.replicate (Int.toNat ((List.length a0.1 : Nat) : Int)) ([] : (List Int)))
    (F32_0 k k a0.2.2.2.1 ((List.length a0.2.2.2.1 : Nat) : Int) (0 : Int) (([] : (List (List Int))), ()) (x1, ())).bind fun r8 =>
    let y10 := r8.2.2.1
    some ((y10, ()), ())
  else none
def sp32 (k : Nat) : Spec := ⟨[.val KD5], [.own KD36], fun x => F32 k x.1⟩
def lim32 : Lim := ⟨35, 1, false, false, []⟩
def cfg32 (k : Nat) : Nat → Option Spec := cfgL []
theorem cfg32_ok (k : Nat) : CfgOK Try.prog (cfg32 k) := cfgL_nil
def pl32_0 (k : Nat) : Plan := .go
theorem pq32_0 (k : Nat) : PlanOK Try.prog lim32 (pl32_0 k) (codeAt (bodyOf Try.f32) [.r, .r, .l, .r, .s, .b]) = PlanOK Try.prog lim32 .go (codeAt (bodyOf Try.f32) [.r, .r, .l, .r, .s, .b]) := by kernel_rfl
theorem ps32_0 (k m : Nat) (v : (fr32_0 k).sh.V) : F32_0 k (m + 1) v.1.1 v.1.2.1 v.1.2.2.1 v.2.1 v.2.2.1 = (body Try.prog (stepper Try.prog (cfg32 k) lim32) (pl32_0 k) (codeAt (bodyOf Try.f32) [.r, .r, .l, .r, .s, .b]) ((fr32_0 k).sh.st v) (loopK (fr32_0 k) fun v => F32_0 k m v.1.1 v.1.2.1 v.1.2.2.1 v.2.1 v.2.2.1)).eval := by kernel_rfl
theorem pe32_0 (k m : Nat) (v : (fr32_0 k).sh.V) : (body Try.prog (stepper Try.prog (cfg32 k) lim32) (pl32_0 k) (codeAt (bodyOf Try.f32) [.r, .r, .l, .r, .s, .b]) ((fr32_0 k).sh.st v) (loopK (fr32_0 k) fun v => F32_0 k m v.1.1 v.1.2.1 v.1.2.2.1 v.2.1 v.2.2.1)).left = (body Try.prog (stepper Try.prog (cfg32 k) lim32) (pl32_0 k) (codeAt (bodyOf Try.f32) [.r, .r, .l, .r, .s, .b]) ((fr32_0 k).sh.st v) (loopK (fr32_0 k) fun v => F32_0 k m v.1.1 v.1.2.1 v.1.2.2.1 v.2.1 v.2.2.1)).right := by kernel_rfl
theorem fr32_0_ok (k : Nat) : FragOK Try.prog lim32 (fr32_0 k) (codeAt (bodyOf Try.f32) [.r, .r, .l, .r, .s]) :=
  frag_cast (by kernel_rfl) (loop_ok (cfg32_ok k) (Eq.mpr (pq32_0 k) (planOK_go _)) (fun m v => F32_0 k m v.1.1 v.1.2.1 v.1.2.2.1 v.2.1 v.2.2.1) k (fun _ => rfl) (fun _ => rfl) fun m v => ⟨ps32_0 k m v, pe32_0 k m v⟩)
def pl32 (k : Nat) : Plan := (.seq .go (.seq .go (.seq (.seq .go (.sub (.frag (fr32_0 k)))) .go)))
theorem pq32 (k : Nat) : PlanOK Try.prog lim32 (pl32 k) (codeAt (bodyOf Try.f32) []) = (PlanOK Try.prog lim32 .go (codeAt (bodyOf Try.f32) [.l]) ∧ (PlanOK Try.prog lim32 .go (codeAt (bodyOf Try.f32) [.r, .l]) ∧ ((PlanOK Try.prog lim32 .go (codeAt (bodyOf Try.f32) [.r, .r, .l, .l]) ∧ FragOK Try.prog lim32 (fr32_0 k) (codeAt (bodyOf Try.f32) [.r, .r, .l, .r, .s])) ∧ PlanOK Try.prog lim32 .go (codeAt (bodyOf Try.f32) [.r, .r, .r])))) := by kernel_rfl
theorem ev32 (k : Nat) (x : AT (sp32 k).ps) : (sp32 k).impl x = (fnT Try.prog (cfg32 k) lim32 Try.f32 (bodyOf Try.f32) (pl32 k) (sp32 k) x).eval := by kernel_rfl
theorem eq32 (k : Nat) (x : AT (sp32 k).ps) : (fnT Try.prog (cfg32 k) lim32 Try.f32 (bodyOf Try.f32) (pl32 k) (sp32 k) x).left = (fnT Try.prog (cfg32 k) lim32 Try.f32 (bodyOf Try.f32) (pl32 k) (sp32 k) x).right := by kernel_rfl
theorem v32 (k : Nat) : Callable Try.prog 32 ∧ Valid Try.prog 32 (sp32 k) :=
  fn_ok (cfg32_ok k) (f := 32) (fn := Try.f32) (by kernel_rfl) (c := bodyOf Try.f32) (by kernel_rfl) (by kernel_rfl) rfl rfl (Nat.le_of_ble_eq_true rfl) (Nat.le_of_ble_eq_true rfl) (p := pl32 k) (Eq.mpr (pq32 k) ⟨(planOK_go _), ⟨(planOK_go _), ⟨⟨(planOK_go _), (fr32_0_ok k)⟩, (planOK_go _)⟩⟩⟩) fun x => ⟨ev32 k x, eq32 k x⟩
/-! f33 hyphen/twin.begin -/
def F33_0 (k : Nat) : Nat → (List Int) → Int → Int → TY34 → Option (TY19)
  | 0, _, _, _, _ => none
  | n + 1, t1, t20, t21, c15 =>
    bif (decide (t21 < t20)) then
      if 0 ≤ t21 ∧ t21 < ((List.length c15.2.1 : Nat) : Int) then
        let x3 := (List.set c15.2.1 (Int.toNat t21) (-1 : Int))
        (F33_0 k n t1 t20 (IntKind.wrap .i64 (t21 + (1 : Int))) (c15.1, (x3, c15.2.2))).bind some
      else none
    else
      some ((t1, ()), (c15, ()))
def fr33_0 (k : Nat) : Frag := ⟨⟨[], [(1, .val KD48), (5, .ptr 15 []), (20, .val (.int .i64)), (21, .val (.int .i64))], [(15, some 104, KD11)]⟩, [(.exit 0, ⟨[], [(1, .val KD48), (5, .ptr 15 [])], [(15, some 104, KD11)]⟩)], fun v => F33_0 k k v.1.1 v.1.2.1 v.1.2.2.1 v.2.1⟩
def F33_1 (k : Nat) : Nat → (List Int) → Int → Int → TY34 → Option ((Unit × TY30))
  | 0, _, _, _, _ => none
  | n + 1, t31, t32, t33, c15 =>
    bif (decide (t33 < t32)) then
      if 0 ≤ t33 ∧ t33 < ((List.length t31 : Nat) : Int) then
        if 0 ≤ (List.getD t31 (Int.toNat t33) (0 : Int)) ∧ (List.getD t31 (Int.toNat t33) (0 : Int)) < ((List.length c15.2.1 : Nat) : Int) then
          let x10 := (Int.toNat (List.getD t31 (Int.toNat t33) (0 : Int)))
          let x11 := (List.set c15.2.1 x10 (List.getD t31 (Int.toNat t33) (0 : Int)))
          let x12 := (List.set (List.replicate 1 (0 : Int)) 0 (List.getD t31 (Int.toNat t33) (0 : Int)))
          if (List.length c15.2.2.1 + List.length x12) * (8 * 2) ≤ 281474976710656 ∧ List.length c15.2.2.1 + List.length x12 ≤ 9223372036854775807 then
            (F33_1 k n t31 t32 (IntKind.wrap .i64 (t33 + (1 : Int))) (c15.1, (x11, ((c15.2.2.1 ++ x12), c15.2.2.2)))).bind some
          else none
        else none
      else none
    else
      some ((), (c15, ()))
def fr33_1 (k : Nat) : Frag := ⟨⟨[], [(5, .ptr 15 []), (31, .val KD48), (32, .val (.int .i64)), (33, .val (.int .i64))], [(15, some 104, KD11)]⟩, [(.exit 2, ⟨[], [(5, .ptr 15 [])], [(15, some 104, KD11)]⟩)], fun v => F33_1 k k v.1.1 v.1.2.1 v.1.2.2.1 v.2.1⟩
def F33 (k : Nat) (a0 : TY53) (a1 : (List Int)) : Option (TY30 × Unit) :=
  if (0 ≤ ((List.length a0.1 : Nat) : Int) ∧ ((List.length a0.1 : Nat) : Int) < ((List.length a0.1 : Nat) : Int) + 1) ∧ ((List.length a0.1 : Nat) : Int) ≤ 9223372036854775807 ∧ ((8 : Nat) : Int) * ((List.length a0.1 : Nat) : Int) ≤ 281474976710656 then
    let x1 := (List.replicate (Int.toNat ((List.length a0.1 : Nat) : Int)) (0 : Int))
    (F33_0 k k a1 ((List.length x1 : Nat) : Int) (0 : Int) (a0, (x1, (([] : (List Int)), ())))).bind fun r4 =>
    let y5 := r4.1.1
    let y6 := r4.2.1
    (F33_1 k k y5 ((List.length y5 : Nat) : Int) (0 : Int) y6).bind fun r13 =>
    let y14 := r13.2.1
    some ((y14, ()), ())
  else none
def sp33 (k : Nat) : Spec := ⟨[.val (.pair (.sl false 23 KD48 none) .unit), .val KD48], [.box 104 KD11], fun x => F33 k x.1 x.2.1⟩
def lim33 : Lim := ⟨56, 2, false, false, []⟩
def cfg33 (k : Nat) : Nat → Option Spec := cfgL []
theorem cfg33_ok (k : Nat) : CfgOK Try.prog (cfg33 k) := cfgL_nil
def pl33_0 (k : Nat) : Plan := .go
theorem pq33_0 (k : Nat) : PlanOK Try.prog lim33 (pl33_0 k) (codeAt (bodyOf Try.f33) [.r, .r, .l, .r, .s, .b]) = PlanOK Try.prog lim33 .go (codeAt (bodyOf Try.f33) [.r, .r, .l, .r, .s, .b]) := by kernel_rfl
theorem ps33_0 (k m : Nat) (v : (fr33_0 k).sh.V) : F33_0 k (m + 1) v.1.1 v.1.2.1 v.1.2.2.1 v.2.1 = (body Try.prog (stepper Try.prog (cfg33 k) lim33) (pl33_0 k) (codeAt (bodyOf Try.f33) [.r, .r, .l, .r, .s, .b]) ((fr33_0 k).sh.st v) (loopK (fr33_0 k) fun v => F33_0 k m v.1.1 v.1.2.1 v.1.2.2.1 v.2.1)).eval := by kernel_rfl
theorem pe33_0 (k m : Nat) (v : (fr33_0 k).sh.V) : (body Try.prog (stepper Try.prog (cfg33 k) lim33) (pl33_0 k) (codeAt (bodyOf Try.f33) [.r, .r, .l, .r, .s, .b]) ((fr33_0 k).sh.st v) (loopK (fr33_0 k) fun v => F33_0 k m v.1.1 v.1.2.1 v.1.2.2.1 v.2.1)).left = (body Try.prog (stepper Try.prog (cfg33 k) lim33) (pl33_0 k) (codeAt (bodyOf Try.f33) [.r, .r, .l, .r, .s, .b]) ((fr33_0 k).sh.st v) (loopK (fr33_0 k) fun v => F33_0 k m v.1.1 v.1.2.1 v.1.2.2.1 v.2.1)).right := by kernel_rfl
theorem fr33_0_ok (k : Nat) : FragOK Try.prog lim33 (fr33_0 k) (codeAt (bodyOf Try.f33) [.r, .r, .l, .r, .s]) :=
  frag_cast (by kernel_rfl) (loop_ok (cfg33_ok k) (Eq.mpr (pq33_0 k) (planOK_go _)) (fun m v => F33_0 k m v.1.1 v.1.2.1 v.1.2.2.1 v.2.1) k (fun _ => rfl) (fun _ => rfl) fun m v => ⟨ps33_0 k m v, pe33_0 k m v⟩)
def pl33_1 (k : Nat) : Plan := .go
theorem pq33_1 (k : Nat) : PlanOK Try.prog lim33 (pl33_1 k) (codeAt (bodyOf Try.f33) [.r, .r, .r, .l, .r, .s, .b]) = PlanOK Try.prog lim33 .go (codeAt (bodyOf Try.f33) [.r, .r, .r, .l, .r, .s, .b]) := by kernel_rfl
theorem ps33_1 (k m : Nat) (v : (fr33_1 k).sh.V) : F33_1 k (m + 1) v.1.1 v.1.2.1 v.1.2.2.1 v.2.1 = (body Try.prog (stepper Try.prog (cfg33 k) lim33) (pl33_1 k) (codeAt (bodyOf Try.f33) [.r, .r, .r, .l, .r, .s, .b]) ((fr33_1 k).sh.st v) (loopK (fr33_1 k) fun v => F33_1 k m v.1.1 v.1.2.1 v.1.2.2.1 v.2.1)).eval := by kernel_rfl
theorem pe33_1 (k m : Nat) (v : (fr33_1 k).sh.V) : (body Try.prog (stepper Try.prog (cfg33 k) lim33) (pl33_1 k) (codeAt (bodyOf Try.f33) [.r, .r, .r, .l, .r, .s, .b]) ((fr33_1 k).sh.st v) (loopK (fr33_1 k) fun v => F33_1 k m v.1.1 v.1.2.1 v.1.2.2.1 v.2.1)).left = (body Try.prog (stepper Try.prog (cfg33 k) lim33) (pl33_1 k) (codeAt (bodyOf Try.f33) [.r, .r, .r, .l, .r, .s, .b]) ((fr33_1 k).sh.st v) (loopK (fr33_1 k) fun v => F33_1 k m v.1.1 v.1.2.1 v.1.2.2.1 v.2.1)).right := by kernel_rfl
theorem fr33_1_ok (k : Nat) : FragOK Try.prog lim33 (fr33_1 k) (codeAt (bodyOf Try.f33) [.r, .r, .r, .l, .r, .s]) :=
  frag_cast (by kernel_rfl) (loop_ok (cfg33_ok k) (Eq.mpr (pq33_1 k) (planOK_go _)) (fun m v => F33_1 k m v.1.1 v.1.2.1 v.1.2.2.1 v.2.1) k (fun _ => rfl) (fun _ => rfl) fun m v => ⟨ps33_1 k m v, pe33_1 k m v⟩)
def pl33 (k : Nat) : Plan := (.seq .go (.seq .go (.seq (.seq .go (.sub (.frag (fr33_0 k)))) (.seq (.seq .go (.sub (.frag (fr33_1 k)))) .go))))
theorem pq33 (k : Nat) : PlanOK Try.prog lim33 (pl33 k) (codeAt (bodyOf Try.f33) []) = (PlanOK Try.prog lim33 .go (codeAt (bodyOf Try.f33) [.l]) ∧ (PlanOK Try.prog lim33 .go (codeAt (bodyOf Try.f33) [.r, .l]) ∧ ((PlanOK Try.prog lim33 .go (codeAt (bodyOf Try.f33) [.r, .r, .l, .l]) ∧ FragOK Try.prog lim33 (fr33_0 k) (codeAt (bodyOf Try.f33) [.r, .r, .l, .r, .s])) ∧ ((PlanOK Try.prog lim33 .go (codeAt (bodyOf Try.f33) [.r, .r, .r, .l, .l]) ∧ FragOK Try.prog lim33 (fr33_1 k) (codeAt (bodyOf Try.f33) [.r, .r, .r, .l, .r, .s])) ∧ PlanOK Try.prog lim33 .go (codeAt (bodyOf Try.f33) [.r, .r, .r, .r]))))) := by kernel_rfl
theorem ev33 (k : Nat) (x : AT (sp33 k).ps) : (sp33 k).impl x = (fnT Try.prog (cfg33 k) lim33 Try.f33 (bodyOf Try.f33) (pl33 k) (sp33 k) x).eval := by kernel_rfl
theorem eq33 (k : Nat) (x : AT (sp33 k).ps) : (fnT Try.prog (cfg33 k) lim33 Try.f33 (bodyOf Try.f33) (pl33 k) (sp33 k) x).left = (fnT Try.prog (cfg33 k) lim33 Try.f33 (bodyOf Try.f33) (pl33 k) (sp33 k) x).right := by kernel_rfl
theorem v33 (k : Nat) : Callable Try.prog 33 ∧ Valid Try.prog 33 (sp33 k) :=
  fn_ok (cfg33_ok k) (f := 33) (fn := Try.f33) (by kernel_rfl) (c := bodyOf Try.f33) (by kernel_rfl) (by kernel_rfl) rfl rfl (Nat.le_of_ble_eq_true rfl) (Nat.le_of_ble_eq_true rfl) (p := pl33 k) (Eq.mpr (pq33 k) ⟨(planOK_go _), ⟨(planOK_go _), ⟨⟨(planOK_go _), (fr33_0_ok k)⟩, ⟨⟨(planOK_go _), (fr33_1_ok k)⟩, (planOK_go _)⟩⟩⟩⟩) fun x => ⟨ev33 k x, eq33 k x⟩
/-! f52 slices.Reverse[[]int,int] -/
def F52_0 (k : Nat) : Nat → Int → Int → (List Int) → Option ((Unit × TY57))
  | 0, _, _, _ => none
  | n + 1, t2, t3, c0 =>
    bif (decide (t2 < t3)) then
      if 0 ≤ t3 ∧ t3 < ((List.length c0 : Nat) : Int) then
        if 0 ≤ t2 ∧ t2 < ((List.length c0 : Nat) : Int) then
          if 0 ≤ t2 ∧ t2 < ((List.length c0 : Nat) : Int) then
            let x4 := (List.set c0 (Int.toNat t2) (List.getD c0 (Int.toNat t3) (0 : Int)))
            if 0 ≤ t3 ∧ t3 < ((List.length x4 : Nat) : Int) then
              let x5 := (List.set x4 (Int.toNat t3) (List.getD c0 (Int.toNat t2) (0 : Int)))
              (F52_0 k n (IntKind.wrap .i64 (t2 + (1 : Int))) (IntKind.wrap .i64 (t3 - (1 : Int))) x5).bind some
            else none
          else none
        else none
      else none
    else
      some ((), (c0, ()))
def fr52_0 (k : Nat) : Frag := ⟨⟨[], [(0, .at 0 []), (2, .val (.int .i64)), (3, .val (.int .i64))], [(0, none, KD49)]⟩, [(.exit 0, ⟨[], [], [(0, none, KD49)]⟩)], fun v => F52_0 k k v.1.1 v.1.2.1 v.2.1⟩
def F52 (k : Nat) (a0 : (List Int)) : Option (Unit × TY57) :=
  let x1 := (IntKind.wrap .i64 (((List.length a0 : Nat) : Int) - (1 : Int)))
  (F52_0 k k (0 : Int) x1 a0).bind fun r6 =>
  let y7 := r6.2.1
  some ((), (y7, ()))
def sp52 (k : Nat) : Spec := ⟨[.mut KD49], [], fun x => F52 k x.1⟩
def lim52 : Lim := ⟨28, 1, false, false, []⟩
def cfg52 (k : Nat) : Nat → Option Spec := cfgL []
theorem cfg52_ok (k : Nat) : CfgOK Try.prog (cfg52 k) := cfgL_nil
def pl52_0 (k : Nat) : Plan := .go
theorem pq52_0 (k : Nat) : PlanOK Try.prog lim52 (pl52_0 k) (codeAt (bodyOf Try.f52) [.r, .s, .b]) = PlanOK Try.prog lim52 .go (codeAt (bodyOf Try.f52) [.r, .s, .b]) := by kernel_rfl
theorem ps52_0 (k m : Nat) (v : (fr52_0 k).sh.V) : F52_0 k (m + 1) v.1.1 v.1.2.1 v.2.1 = (body Try.prog (stepper Try.prog (cfg52 k) lim52) (pl52_0 k) (codeAt (bodyOf Try.f52) [.r, .s, .b]) ((fr52_0 k).sh.st v) (loopK (fr52_0 k) fun v => F52_0 k m v.1.1 v.1.2.1 v.2.1)).eval := by kernel_rfl
theorem pe52_0 (k m : Nat) (v : (fr52_0 k).sh.V) : (body Try.prog (stepper Try.prog (cfg52 k) lim52) (pl52_0 k) (codeAt (bodyOf Try.f52) [.r, .s, .b]) ((fr52_0 k).sh.st v) (loopK (fr52_0 k) fun v => F52_0 k m v.1.1 v.1.2.1 v.2.1)).left = (body Try.prog (stepper Try.prog (cfg52 k) lim52) (pl52_0 k) (codeAt (bodyOf Try.f52) [.r, .s, .b]) ((fr52_0 k).sh.st v) (loopK (fr52_0 k) fun v => F52_0 k m v.1.1 v.1.2.1 v.2.1)).right := by kernel_rfl
theorem fr52_0_ok (k : Nat) : FragOK Try.prog lim52 (fr52_0 k) (codeAt (bodyOf Try.f52) [.r, .s]) :=
  frag_cast (by kernel_rfl) (loop_ok (cfg52_ok k) (Eq.mpr (pq52_0 k) (planOK_go _)) (fun m v => F52_0 k m v.1.1 v.1.2.1 v.2.1) k (fun _ => rfl) (fun _ => rfl) fun m v => ⟨ps52_0 k m v, pe52_0 k m v⟩)
def pl52 (k : Nat) : Plan := (.seq .go (.sub (.frag (fr52_0 k))))
theorem pq52 (k : Nat) : PlanOK Try.prog lim52 (pl52 k) (codeAt (bodyOf Try.f52) []) = (PlanOK Try.prog lim52 .go (codeAt (bodyOf Try.f52) [.l]) ∧ FragOK Try.prog lim52 (fr52_0 k) (codeAt (bodyOf Try.f52) [.r, .s])) := by kernel_rfl
theorem ev52 (k : Nat) (x : AT (sp52 k).ps) : (sp52 k).impl x = (fnT Try.prog (cfg52 k) lim52 Try.f52 (bodyOf Try.f52) (pl52 k) (sp52 k) x).eval := by kernel_rfl
theorem eq52 (k : Nat) (x : AT (sp52 k).ps) : (fnT Try.prog (cfg52 k) lim52 Try.f52 (bodyOf Try.f52) (pl52 k) (sp52 k) x).left = (fnT Try.prog (cfg52 k) lim52 Try.f52 (bodyOf Try.f52) (pl52 k) (sp52 k) x).right := by kernel_rfl
theorem v52 (k : Nat) : Callable Try.prog 52 ∧ Valid Try.prog 52 (sp52 k) :=
  fn_ok (cfg52_ok k) (f := 52) (fn := Try.f52) (by kernel_rfl) (c := bodyOf Try.f52) (by kernel_rfl) (by kernel_rfl) rfl rfl (Nat.le_of_ble_eq_true rfl) (Nat.le_of_ble_eq_true rfl) (p := pl52 k) (Eq.mpr (pq52 k) ⟨(planOK_go _), (fr52_0_ok k)⟩) fun x => ⟨ev52 k x, eq52 k x⟩
/-! f34 (*hyphen/twin.walk).to -/
def F34_0 (k : Nat) : Nat → Int → Int → Int → Int → Bool → (List Int) → Int → Int → TY34 → Option (((Int × Int × Int × Bool × Unit) × TY30))
  | 0, _, _, _, _, _, _, _, _, _ => none
  | n + 1, t1, t5, t21, t23, t24, t47, t48, t49, c0 =>
    bif (decide (t49 < t48)) then
      if 0 ≤ t49 ∧ t49 < ((List.length t47 : Nat) : Int) then
        if 0 ≤ (List.getD t47 (Int.toNat t49) (0 : Int)) ∧ (List.getD t47 (Int.toNat t49) (0 : Int)) < ((List.length c0.2.1 : Nat) : Int) then
          let x7 := (Int.toNat (List.getD t47 (Int.toNat t49) (0 : Int)))
          let x8 := (decide ((List.getD c0.2.1 x7 (0 : Int)) < (0 : Int)))
          bif x8 then
            if 0 ≤ (List.getD t47 (Int.toNat t49) (0 : Int)) ∧ (List.getD t47 (Int.toNat t49) (0 : Int)) < ((List.length c0.2.1 : Nat) : Int) then
              let x9 := (Int.toNat (List.getD t47 (Int.toNat t49) (0 : Int)))
              let x10 := (List.set (List.replicate 1 (0 : Int)) 0 (List.getD t47 (Int.toNat t49) (0 : Int)))
              if (List.length c0.2.2.1 + List.length x10) * (8 * 2) ≤ 281474976710656 ∧ List.length c0.2.2.1 + List.length x10 ≤ 9223372036854775807 then
                (F34_0 k n t1 t5 t21 t23 t24 t47 t48 (IntKind.wrap .i64 (t49 + (1 : Int))) (c0.1, ((List.set c0.2.1 x9 t5), ((c0.2.2.1 ++ x10), c0.2.2.2)))).bind some
              else none
            else none
          else
            (F34_0 k n t1 t5 t21 t23 t24 t47 t48 (IntKind.wrap .i64 (t49 + (1 : Int))) c0).bind some
        else none
      else none
    else
      some ((t1, t21, t23, t24, ()), (c0, ()))
def fr34_0 (k : Nat) : Frag := ⟨⟨[], [(0, .ptr 0 []), (1, .val (.int .i64)), (5, .val (.int .i64)), (17, .ptr 0 []), (18, .ptr 0 []), (19, .ptr 0 [.snd, .fst]), (20, .at 0 [.snd, .fst]), (21, .val (.int .i64)), (23, .val (.int .i64)), (24, .val .bool), (47, .val KD48), (48, .val (.int .i64)), (49, .val (.int .i64))], [(0, some 104, KD11)]⟩, [(.exit 2, ⟨[], [(0, .ptr 0 []), (1, .val (.int .i64)), (17, .ptr 0 []), (18, .ptr 0 []), (19, .ptr 0 [.snd, .fst]), (20, .at 0 [.snd, .fst]), (21, .val (.int .i64)), (23, .val (.int .i64)), (24, .val .bool)], [(0, some 104, KD11)]⟩)], fun v => F34_0 k k v.1.1 v.1.2.1 v.1.2.2.1 v.1.2.2.2.1 v.1.2.2.2.2.1 v.1.2.2.2.2.2.1 v.1.2.2.2.2.2.2.1 v.1.2.2.2.2.2.2.2.1 v.2.1⟩
def F34_1 (k : Nat) : Nat → Int → TY34 → Option (((Int × Unit) × TY30))
  | 0, _, _ => none
  | n + 1, t1, c0 =>
    let x1 := (decide (((List.length c0.2.2.1 : Nat) : Int) > (0 : Int)))
    bif x1 then
      if 0 ≤ t1 ∧ t1 < ((List.length c0.2.1 : Nat) : Int) then
        let x2 := (decide ((List.getD c0.2.1 (Int.toNat t1) (0 : Int)) < (0 : Int)))
        bif x2 then
          if 0 ≤ (0 : Int) ∧ (0 : Int) < ((List.length c0.2.2.1 : Nat) : Int) then
            let x3 := (List.getD c0.2.2.1 (Int.toNat (0 : Int)) (0 : Int))
            if 0 ≤ (1 : Int) ∧ (1 : Int) ≤ ((List.length c0.2.2.1 : Nat) : Int) ∧ ((List.length c0.2.2.1 : Nat) : Int) ≤ ((List.length c0.2.2.1 : Nat) : Int) then
              let x4 := (Int.toNat ((List.length c0.2.2.1 : Nat) : Int) - Int.toNat (1 : Int))
              let x5 := (List.take x4 (List.drop (Int.toNat (1 : Int)) c0.2.2.1))
              if 0 ≤ x3 ∧ x3 < ((List.length c0.1.1 : Nat) : Int) then
                let x6 := (List.getD c0.1.1 (Int.toNat x3) ([] : (List Int)))
                (F34_0 k k t1 x3 t1 (List.getD c0.2.1 (Int.toNat t1) (0 : Int)) x2 x6 ((List.length x6 : Nat) : Int) (0 : Int) (c0.1, (c0.2.1, (x5, c0.2.2.2)))).bind fun r11 =>
                let y12 := r11.1.1
                let y16 := r11.2.1
                (F34_1 k n y12 y16).bind some
              else none
            else none
          else none
        else
          some ((t1, ()), (c0, ()))
      else none
    else
      some ((t1, ()), (c0, ()))
def fr34_1 (k : Nat) : Frag := ⟨⟨[], [(0, .ptr 0 []), (1, .val (.int .i64))], [(0, some 104, KD11)]⟩, [(.exit 0, ⟨[], [(0, .ptr 0 []), (1, .val (.int .i64))], [(0, some 104, KD11)]⟩)], fun v => F34_1 k k v.1.1 v.2.1⟩
def F34_2 (k : Nat) : Nat → Int → TY34 → (List Int) → Option ((Unit × (TY34 × (List Int) × Unit)))
  | 0, _, _, _ => none
  | n + 1, t9, c0, c2000008 =>
    if 0 ≤ t9 ∧ t9 < ((List.length c0.2.1 : Nat) : Int) then
      let x22 := ((List.getD c0.2.1 (Int.toNat t9) (0 : Int)) != t9)
      bif x22 then
        if 0 ≤ t9 ∧ t9 < ((List.length c0.2.1 : Nat) : Int) then
          let x23 := (List.set (List.replicate 1 (0 : Int)) 0 (List.getD c0.2.1 (Int.toNat t9) (0 : Int)))
          if (List.length c2000008 + List.length x23) * (8 * 2) ≤ 281474976710656 ∧ List.length c2000008 + List.length x23 ≤ 9223372036854775807 then
            if 0 ≤ t9 ∧ t9 < ((List.length c0.2.1 : Nat) : Int) then
              (F34_2 k n (List.getD c0.2.1 (Int.toNat t9) (0 : Int)) c0 (c2000008 ++ x23)).bind some
            else none
          else none
        else none
      else
        some ((), (c0, c2000008, ()))
    else none
def fr34_2 (k : Nat) : Frag := ⟨⟨[(8, KD49)], [(0, .ptr 0 []), (8, .at 2000008 []), (9, .val (.int .i64))], [(0, some 104, KD11), (2000008, none, KD49)]⟩, [(.exit 4, ⟨[(8, KD49)], [(8, .at 2000008 [])], [(0, some 104, KD11), (2000008, none, KD49)]⟩)], fun v => F34_2 k k v.1.1 v.2.1 v.2.2.1⟩
def F34 (k : Nat) (a0 : TY34) (a1 : Int) : Option TY19 :=
  (F34_1 k k a1 a0).bind fun r17 =>
  let y18 := r17.1.1
  let y19 := r17.2.1
  if 0 ≤ y18 ∧ y18 < ((List.length y19.2.1 : Nat) : Int) then
    let x20 := (List.getD y19.2.1 (Int.toNat y18) (0 : Int))
    bif (decide (x20 < (0 : Int))) then
      some (([], ()), (y19, ()))
    else
      let x21 := (List.set (List.replicate 1 (0 : Int)) 0 y18)
      (F34_2 k k y18 y19 x21).bind fun r24 =>
      let y25 := r24.2.1
      let y26 := r24.2.2.1
      (F52 k y26).bind fun r27 =>
      if (!(List.isEmpty r27.2.1)) = true then
        some ((r27.2.1, ()), (y25, ()))
      else none
  else none
def sp34 (k : Nat) : Spec := ⟨[.ptr 104 KD11 [], .val (.int .i64)], [.ownN KD49], fun x => F34 k x.1 x.2.1⟩
def lim34 : Lim := ⟨119, 2, false, false, []⟩
def cfg34 (k : Nat) : Nat → Option Spec := cfgL [(52, sp52 k)]
theorem cfg34_ok (k : Nat) : CfgOK Try.prog (cfg34 k) := cfgL_cons (v52 k) (cfgL_nil)
def pl34_0 (k : Nat) : Plan := .go
theorem pq34_0 (k : Nat) : PlanOK Try.prog lim34 (pl34_0 k) (codeAt (bodyOf Try.f34) [.r, .l, .s, .b, .r, .s, .r, .r, .r, .s, .b]) = PlanOK Try.prog lim34 .go (codeAt (bodyOf Try.f34) [.r, .l, .s, .b, .r, .s, .r, .r, .r, .s, .b]) := by kernel_rfl
theorem ps34_0 (k m : Nat) (v : (fr34_0 k).sh.V) : F34_0 k (m + 1) v.1.1 v.1.2.1 v.1.2.2.1 v.1.2.2.2.1 v.1.2.2.2.2.1 v.1.2.2.2.2.2.1 v.1.2.2.2.2.2.2.1 v.1.2.2.2.2.2.2.2.1 v.2.1 = (body Try.prog (stepper Try.prog (cfg34 k) lim34) (pl34_0 k) (codeAt (bodyOf Try.f34) [.r, .l, .s, .b, .r, .s, .r, .r, .r, .s, .b]) ((fr34_0 k).sh.st v) (loopK (fr34_0 k) fun v => F34_0 k m v.1.1 v.1.2.1 v.1.2.2.1 v.1.2.2.2.1 v.1.2.2.2.2.1 v.1.2.2.2.2.2.1 v.1.2.2.2.2.2.2.1 v.1.2.2.2.2.2.2.2.1 v.2.1)).eval := by kernel_rfl
theorem pe34_0 (k m : Nat) (v : (fr34_0 k).sh.V) : (body Try.prog (stepper Try.prog (cfg34 k) lim34) (pl34_0 k) (codeAt (bodyOf Try.f34) [.r, .l, .s, .b, .r, .s, .r, .r, .r, .s, .b]) ((fr34_0 k).sh.st v) (loopK (fr34_0 k) fun v => F34_0 k m v.1.1 v.1.2.1 v.1.2.2.1 v.1.2.2.2.1 v.1.2.2.2.2.1 v.1.2.2.2.2.2.1 v.1.2.2.2.2.2.2.1 v.1.2.2.2.2.2.2.2.1 v.2.1)).left = (body Try.prog (stepper Try.prog (cfg34 k) lim34) (pl34_0 k) (codeAt (bodyOf Try.f34) [.r, .l, .s, .b, .r, .s, .r, .r, .r, .s, .b]) ((fr34_0 k).sh.st v) (loopK (fr34_0 k) fun v => F34_0 k m v.1.1 v.1.2.1 v.1.2.2.1 v.1.2.2.2.1 v.1.2.2.2.2.1 v.1.2.2.2.2.2.1 v.1.2.2.2.2.2.2.1 v.1.2.2.2.2.2.2.2.1 v.2.1)).right := by kernel_rfl
theorem fr34_0_ok (k : Nat) : FragOK Try.prog lim34 (fr34_0 k) (codeAt (bodyOf Try.f34) [.r, .l, .s, .b, .r, .s, .r, .r, .r, .s]) :=
  frag_cast (by kernel_rfl) (loop_ok (cfg34_ok k) (Eq.mpr (pq34_0 k) (planOK_go _)) (fun m v => F34_0 k m v.1.1 v.1.2.1 v.1.2.2.1 v.1.2.2.2.1 v.1.2.2.2.2.1 v.1.2.2.2.2.2.1 v.1.2.2.2.2.2.2.1 v.1.2.2.2.2.2.2.2.1 v.2.1) k (fun _ => rfl) (fun _ => rfl) fun m v => ⟨ps34_0 k m v, pe34_0 k m v⟩)
def pl34_1 (k : Nat) : Plan := (.seq .go (.sub (.seq .go (.seq .go (.seq .go (.sub (.frag (fr34_0 k))))))))
theorem pq34_1 (k : Nat) : PlanOK Try.prog lim34 (pl34_1 k) (codeAt (bodyOf Try.f34) [.r, .l, .s, .b]) = (PlanOK Try.prog lim34 .go (codeAt (bodyOf Try.f34) [.r, .l, .s, .b, .l]) ∧ (PlanOK Try.prog lim34 .go (codeAt (bodyOf Try.f34) [.r, .l, .s, .b, .r, .s, .l]) ∧ (PlanOK Try.prog lim34 .go (codeAt (bodyOf Try.f34) [.r, .l, .s, .b, .r, .s, .r, .l]) ∧ (PlanOK Try.prog lim34 .go (codeAt (bodyOf Try.f34) [.r, .l, .s, .b, .r, .s, .r, .r, .l]) ∧ FragOK Try.prog lim34 (fr34_0 k) (codeAt (bodyOf Try.f34) [.r, .l, .s, .b, .r, .s, .r, .r, .r, .s]))))) := by kernel_rfl
theorem ps34_1 (k m : Nat) (v : (fr34_1 k).sh.V) : F34_1 k (m + 1) v.1.1 v.2.1 = (body Try.prog (stepper Try.prog (cfg34 k) lim34) (pl34_1 k) (codeAt (bodyOf Try.f34) [.r, .l, .s, .b]) ((fr34_1 k).sh.st v) (loopK (fr34_1 k) fun v => F34_1 k m v.1.1 v.2.1)).eval := by kernel_rfl
theorem pe34_1 (k m : Nat) (v : (fr34_1 k).sh.V) : (body Try.prog (stepper Try.prog (cfg34 k) lim34) (pl34_1 k) (codeAt (bodyOf Try.f34) [.r, .l, .s, .b]) ((fr34_1 k).sh.st v) (loopK (fr34_1 k) fun v => F34_1 k m v.1.1 v.2.1)).left = (body Try.prog (stepper Try.prog (cfg34 k) lim34) (pl34_1 k) (codeAt (bodyOf Try.f34) [.r, .l, .s, .b]) ((fr34_1 k).sh.st v) (loopK (fr34_1 k) fun v => F34_1 k m v.1.1 v.2.1)).right := by kernel_rfl
theorem fr34_1_ok (k : Nat) : FragOK Try.prog lim34 (fr34_1 k) (codeAt (bodyOf Try.f34) [.r, .l, .s]) :=
  frag_cast (by kernel_rfl) (loop_ok (cfg34_ok k) (Eq.mpr (pq34_1 k) ⟨(planOK_go _), ⟨(planOK_go _), ⟨(planOK_go _), ⟨(planOK_go _), (fr34_0_ok k)⟩⟩⟩⟩) (fun m v => F34_1 k m v.1.1 v.2.1) k (fun _ => rfl) (fun _ => rfl) fun m v => ⟨ps34_1 k m v, pe34_1 k m v⟩)
def pl34_2 (k : Nat) : Plan := .go
theorem pq34_2 (k : Nat) : PlanOK Try.prog lim34 (pl34_2 k) (codeAt (bodyOf Try.f34) [.r, .r, .r, .r, .l, .r, .s, .b]) = PlanOK Try.prog lim34 .go (codeAt (bodyOf Try.f34) [.r, .r, .r, .r, .l, .r, .s, .b]) := by kernel_rfl
theorem ps34_2 (k m : Nat) (v : (fr34_2 k).sh.V) : F34_2 k (m + 1) v.1.1 v.2.1 v.2.2.1 = (body Try.prog (stepper Try.prog (cfg34 k) lim34) (pl34_2 k) (codeAt (bodyOf Try.f34) [.r, .r, .r, .r, .l, .r, .s, .b]) ((fr34_2 k).sh.st v) (loopK (fr34_2 k) fun v => F34_2 k m v.1.1 v.2.1 v.2.2.1)).eval := by kernel_rfl
theorem pe34_2 (k m : Nat) (v : (fr34_2 k).sh.V) : (body Try.prog (stepper Try.prog (cfg34 k) lim34) (pl34_2 k) (codeAt (bodyOf Try.f34) [.r, .r, .r, .r, .l, .r, .s, .b]) ((fr34_2 k).sh.st v) (loopK (fr34_2 k) fun v => F34_2 k m v.1.1 v.2.1 v.2.2.1)).left = (body Try.prog (stepper Try.prog (cfg34 k) lim34) (pl34_2 k) (codeAt (bodyOf Try.f34) [.r, .r, .r, .r, .l, .r, .s, .b]) ((fr34_2 k).sh.st v) (loopK (fr34_2 k) fun v => F34_2 k m v.1.1 v.2.1 v.2.2.1)).right := by kernel_rfl
theorem fr34_2_ok (k : Nat) : FragOK Try.prog lim34 (fr34_2 k) (codeAt (bodyOf Try.f34) [.r, .r, .r, .r, .l, .r, .s]) :=
  frag_cast (by kernel_rfl) (loop_ok (cfg34_ok k) (Eq.mpr (pq34_2 k) (planOK_go _)) (fun m v => F34_2 k m v.1.1 v.2.1 v.2.2.1) k (fun _ => rfl) (fun _ => rfl) fun m v => ⟨ps34_2 k m v, pe34_2 k m v⟩)
def pl34 (k : Nat) : Plan := (.seq .go (.seq (.sub (.frag (fr34_1 k))) (.seq .go (.seq .go (.seq (.seq .go (.sub (.frag (fr34_2 k)))) .go)))))
theorem pq34 (k : Nat) : PlanOK Try.prog lim34 (pl34 k) (codeAt (bodyOf Try.f34) []) = (PlanOK Try.prog lim34 .go (codeAt (bodyOf Try.f34) [.l]) ∧ (FragOK Try.prog lim34 (fr34_1 k) (codeAt (bodyOf Try.f34) [.r, .l, .s]) ∧ (PlanOK Try.prog lim34 .go (codeAt (bodyOf Try.f34) [.r, .r, .l]) ∧ (PlanOK Try.prog lim34 .go (codeAt (bodyOf Try.f34) [.r, .r, .r, .l]) ∧ ((PlanOK Try.prog lim34 .go (codeAt (bodyOf Try.f34) [.r, .r, .r, .r, .l, .l]) ∧ FragOK Try.prog lim34 (fr34_2 k) (codeAt (bodyOf Try.f34) [.r, .r, .r, .r, .l, .r, .s])) ∧ PlanOK Try.prog lim34 .go (codeAt (bodyOf Try.f34) [.r, .r, .r, .r, .r])))))) := by kernel_rfl
theorem ev34 (k : Nat) (x : AT (sp34 k).ps) : (sp34 k).impl x = (fnT Try.prog (cfg34 k) lim34 Try.f34 (bodyOf Try.f34) (pl34 k) (sp34 k) x).eval := by kernel_rfl
theorem eq34 (k : Nat) (x : AT (sp34 k).ps) : (fnT Try.prog (cfg34 k) lim34 Try.f34 (bodyOf Try.f34) (pl34 k) (sp34 k) x).left = (fnT Try.prog (cfg34 k) lim34 Try.f34 (bodyOf Try.f34) (pl34 k) (sp34 k) x).right := by kernel_rfl
theorem v34 (k : Nat) : Callable Try.prog 34 ∧ Valid Try.prog 34 (sp34 k) :=
  fn_ok (cfg34_ok k) (f := 34) (fn := Try.f34) (by kernel_rfl) (c := bodyOf Try.f34) (by kernel_rfl) (by kernel_rfl) rfl rfl (Nat.le_of_ble_eq_true rfl) (Nat.le_of_ble_eq_true rfl) (p := pl34 k) (Eq.mpr (pq34 k) ⟨(planOK_go _), ⟨(fr34_1_ok k), ⟨(planOK_go _), ⟨(planOK_go _), ⟨⟨(planOK_go _), (fr34_2_ok k)⟩, (planOK_go _)⟩⟩⟩⟩⟩) fun x => ⟨ev34 k x, eq34 k x⟩
/-! f35 slices.Clone[[]int,int] -/
def F35 (k : Nat) (a0 : (List Int)) : Option (TY57 × Unit) :=
  bif (((List.length a0 : Nat) : Int) == 0) then
    some (([], ()), ())
  else
    if (List.length (List.replicate 0 (0 : Int)) + List.length a0) * (8 * 2) ≤ 281474976710656 ∧ List.length (List.replicate 0 (0 : Int)) + List.length a0 ≤ 9223372036854775807 then
      some ((((List.replicate 0 (0 : Int)) ++ a0), ()), ())
    else none
def sp35 (k : Nat) : Spec := ⟨[.val KD48], [.own KD49], fun x => F35 k x.1⟩
def lim35 : Lim := ⟨8, 1, true, false, []⟩
def cfg35 (k : Nat) : Nat → Option Spec := cfgL []
theorem cfg35_ok (k : Nat) : CfgOK Try.prog (cfg35 k) := cfgL_nil
def pl35 (k : Nat) : Plan := .go
theorem pq35 (k : Nat) : PlanOK Try.prog lim35 (pl35 k) (codeAt (bodyOf Try.f35) []) = PlanOK Try.prog lim35 .go (codeAt (bodyOf Try.f35) []) := by kernel_rfl
theorem ev35 (k : Nat) (x : AT (sp35 k).ps) : (sp35 k).impl x = (fnT Try.prog (cfg35 k) lim35 Try.f35 (bodyOf Try.f35) (pl35 k) (sp35 k) x).eval := by kernel_rfl
theorem tr35 (k : Nat) (x : AT (sp35 k).ps) : (fnT Try.prog (cfg35 k) lim35 Try.f35 (bodyOf Try.f35) (pl35 k) (sp35 k) x) = (Tr.split (((List.length x.1 : Nat) : Int) == 0) (.both (.split true (.leaf (([], ()), ())) (.need ((List.length (List.replicate 0 (0 : Int)) + List.length x.1) * (8 * 2) ≤ 281474976710656 ∧ List.length (List.replicate 0 (0 : Int)) + List.length x.1 ≤ 9223372036854775807) (.leaf (([] ++ x.1, ()), ())))) (.split false (.leaf (([], ()), ())) (.need ((List.length (List.replicate 0 (0 : Int)) + List.length x.1) * (8 * 2) ≤ 281474976710656 ∧ List.length (List.replicate 0 (0 : Int)) + List.length x.1 ≤ 9223372036854775807) (.leaf (([] ++ x.1, ()), ()))))) (.split false (.leaf (([], ()), ())) (.need ((List.length (List.replicate 0 (0 : Int)) + List.length x.1) * (8 * 2) ≤ 281474976710656 ∧ List.length (List.replicate 0 (0 : Int)) + List.length x.1 ≤ 9223372036854775807) (.leaf (([] ++ x.1, ()), ()))))) := by kernel_rfl
theorem sa35 (k : Nat) (x : AT (sp35 k).ps) (r) (h : (sp35 k).impl x = some r) : (fnT Try.prog (cfg35 k) lim35 Try.f35 (bodyOf Try.f35) (pl35 k) (sp35 k) x).sat (· = r) := sat_of_eq (tr35 k x) (clone_sat (a := x.1) (p := (List.length (List.replicate 0 (0 : Int)) + List.length x.1) * (8 * 2) ≤ 281474976710656 ∧ List.length (List.replicate 0 (0 : Int)) + List.length x.1 ≤ 9223372036854775807) (fun e => by rw [e]; simp) h)
theorem v35 (k : Nat) : Callable Try.prog 35 ∧ Valid Try.prog 35 (sp35 k) :=
  fn_sat (cfg35_ok k) (f := 35) (fn := Try.f35) (by kernel_rfl) (c := bodyOf Try.f35) (by kernel_rfl) (by kernel_rfl) rfl rfl (Nat.le_of_ble_eq_true rfl) (Nat.le_of_ble_eq_true rfl) (p := pl35 k) (Eq.mpr (pq35 k) (planOK_go _)) fun x r h => sa35 k x r h
/-! f14 hyphen/twin.Round -/
def F14_0 (k : Nat) : Nat → TY45 → Int → Int → TY53 → Option ((Unit × Unit) ⊕ ((Bool × Unit) × TY57))
  | 0, _, _, _, _ => none
  | n + 1, t11, t12, t13, c4 =>
    bif (decide (t13 < t12)) then
      if 0 ≤ t13 ∧ t13 < ((List.length t11 : Nat) : Int) then
        let x7 := (List.getD t11 (Int.toNat t13) ((0 : Int), ((0 : Int), ((0 : Int), ()))))
        bif (decide (x7.2.2.1 ≤ (0 : Int))) then
          (F14_0 k n t11 t12 (IntKind.wrap .i64 (t13 + (1 : Int))) c4).bind some
        else
          let x8 := (List.set (List.replicate 1 (0 : Int)) 0 x7.2.1)
          (F33 k c4 x8).bind fun r9 =>
          (F34 k r9.1.1 x7.1).bind fun r10 =>
          bif (!(List.isEmpty r10.1.1)) then
            if ((List.length r10.1.1 : Nat) : Int) ≠ 0 then
              (F35 k r10.1.1).bind fun r11 =>
              some (.inr ((true, ()), (r11.1.1, ())))
            else none
          else
            (F14_0 k n t11 t12 (IntKind.wrap .i64 (t13 + (1 : Int))) c4).bind some
      else none
    else
      some (.inl ((), ()))
def fr14_0 (k : Nat) : Frag := ⟨⟨[], [(4, .ptr 4 []), (11, .val KD24), (12, .val (.int .i64)), (13, .val (.int .i64))], [(4, some 76, (.pair (.sl false 23 KD48 none) .unit))]⟩, [(.exit 0, ⟨[], [], []⟩), (.ret, ⟨[], [(2, .at 1000496 []), (3, .val .bool)], [(1000496, none, KD49)]⟩)], fun v => F14_0 k k v.1.1 v.1.2.1 v.1.2.2.1 v.2.1⟩
def F14 (k : Nat) (a0 : TY20) : Option (((List Int) × Bool × Unit) × Unit) :=
  (F32 k a0).bind fun r1 =>
  (F14_0 k k a0.2.2.2.1 ((List.length a0.2.2.2.1 : Nat) : Int) (0 : Int) r1.1.1).bind fun r12 =>
  match r12 with
  | .inl r13 =>
    some (([], false, ()), ())
  | .inr r13 =>
    let y14 := r13.1.1
    let y15 := r13.2.1
    some ((y15, y14, ()), ())
def sp14 (k : Nat) : Spec := ⟨[.val KD5], [.own KD49, .val .bool], fun x => F14 k x.1⟩
def lim14 : Lim := ⟨33, 1, false, false, [9, 23]⟩
def cfg14 (k : Nat) : Nat → Option Spec := cfgL [(32, sp32 k), (33, sp33 k), (34, sp34 k), (35, sp35 k)]
theorem cfg14_ok (k : Nat) : CfgOK Try.prog (cfg14 k) := cfgL_cons (v32 k) (cfgL_cons (v33 k) (cfgL_cons (v34 k) (cfgL_cons (v35 k) (cfgL_nil))))
def pl14_0 (k : Nat) : Plan := .go
theorem pq14_0 (k : Nat) : PlanOK Try.prog lim14 (pl14_0 k) (codeAt (bodyOf Try.f14) [.r, .r, .l, .r, .s, .b]) = PlanOK Try.prog lim14 .go (codeAt (bodyOf Try.f14) [.r, .r, .l, .r, .s, .b]) := by kernel_rfl
theorem ps14_0 (k m : Nat) (v : (fr14_0 k).sh.V) : F14_0 k (m + 1) v.1.1 v.1.2.1 v.1.2.2.1 v.2.1 = (body Try.prog (stepper Try.prog (cfg14 k) lim14) (pl14_0 k) (codeAt (bodyOf Try.f14) [.r, .r, .l, .r, .s, .b]) ((fr14_0 k).sh.st v) (loopK (fr14_0 k) fun v => F14_0 k m v.1.1 v.1.2.1 v.1.2.2.1 v.2.1)).eval := by kernel_rfl
theorem pe14_0 (k m : Nat) (v : (fr14_0 k).sh.V) : (body Try.prog (stepper Try.prog (cfg14 k) lim14) (pl14_0 k) (codeAt (bodyOf Try.f14) [.r, .r, .l, .r, .s, .b]) ((fr14_0 k).sh.st v) (loopK (fr14_0 k) fun v => F14_0 k m v.1.1 v.1.2.1 v.1.2.2.1 v.2.1)).left = (body Try.prog (stepper Try.prog (cfg14 k) lim14) (pl14_0 k) (codeAt (bodyOf Try.f14) [.r, .r, .l, .r, .s, .b]) ((fr14_0 k).sh.st v) (loopK (fr14_0 k) fun v => F14_0 k m v.1.1 v.1.2.1 v.1.2.2.1 v.2.1)).right := by kernel_rfl
theorem fr14_0_ok (k : Nat) : FragOK Try.prog lim14 (fr14_0 k) (codeAt (bodyOf Try.f14) [.r, .r, .l, .r, .s]) :=
  frag_cast (by kernel_rfl) (loop_ok (cfg14_ok k) (Eq.mpr (pq14_0 k) (planOK_go _)) (fun m v => F14_0 k m v.1.1 v.1.2.1 v.1.2.2.1 v.2.1) k (fun _ => rfl) (fun _ => rfl) fun m v => ⟨ps14_0 k m v, pe14_0 k m v⟩)
def pl14 (k : Nat) : Plan := (.seq .go (.seq .go (.seq (.seq .go (.sub (.frag (fr14_0 k)))) .go)))
theorem pq14 (k : Nat) : PlanOK Try.prog lim14 (pl14 k) (codeAt (bodyOf Try.f14) []) = (PlanOK Try.prog lim14 .go (codeAt (bodyOf Try.f14) [.l]) ∧ (PlanOK Try.prog lim14 .go (codeAt (bodyOf Try.f14) [.r, .l]) ∧ ((PlanOK Try.prog lim14 .go (codeAt (bodyOf Try.f14) [.r, .r, .l, .l]) ∧ FragOK Try.prog lim14 (fr14_0 k) (codeAt (bodyOf Try.f14) [.r, .r, .l, .r, .s])) ∧ PlanOK Try.prog lim14 .go (codeAt (bodyOf Try.f14) [.r, .r, .r])))) := by kernel_rfl
theorem ev14 (k : Nat) (x : AT (sp14 k).ps) : (sp14 k).impl x = (fnT Try.prog (cfg14 k) lim14 Try.f14 (bodyOf Try.f14) (pl14 k) (sp14 k) x).eval := by kernel_rfl
theorem eq14 (k : Nat) (x : AT (sp14 k).ps) : (fnT Try.prog (cfg14 k) lim14 Try.f14 (bodyOf Try.f14) (pl14 k) (sp14 k) x).left = (fnT Try.prog (cfg14 k) lim14 Try.f14 (bodyOf Try.f14) (pl14 k) (sp14 k) x).right := by kernel_rfl
theorem v14 (k : Nat) : Callable Try.prog 14 ∧ Valid Try.prog 14 (sp14 k) :=
  fn_ok (cfg14_ok k) (f := 14) (fn := Try.f14) (by kernel_rfl) (c := bodyOf Try.f14) (by kernel_rfl) (by kernel_rfl) rfl rfl (Nat.le_of_ble_eq_true rfl) (Nat.le_of_ble_eq_true rfl) (p := pl14 k) (Eq.mpr (pq14 k) ⟨(planOK_go _), ⟨(planOK_go _), ⟨⟨(planOK_go _), (fr14_0_ok k)⟩, (planOK_go _)⟩⟩⟩) fun x => ⟨ev14 k x, eq14 k x⟩
/-! f19 hyphen/twin.Way -/
def F19_0 (k : Nat) : Nat → Int → (List Int) → Int → Int → TY20 → (List Int) → Option (((Int × Unit) × (TY20 × (List Int) × Unit)))
  | 0, _, _, _, _, _, _ => none
  | n + 1, t1, t19, t20, t21, c2, c2000006 =>
    bif (decide (t21 < t20)) then
      if 0 ≤ t21 ∧ t21 < ((List.length t19 : Nat) : Int) then
        let x2 := (decide ((List.getD t19 (Int.toNat t21) (0 : Int)) < (1152921504606846976 : Int)))
        bif x2 then
          let x3 := (List.set (List.replicate 1 (0 : Int)) 0 t21)
          if (List.length c2000006 + List.length x3) * (8 * 2) ≤ 281474976710656 ∧ List.length c2000006 + List.length x3 ≤ 9223372036854775807 then
            (F19_0 k n t1 t19 t20 (IntKind.wrap .i64 (t21 + (1 : Int))) c2 (c2000006 ++ x3)).bind some
          else none
        else
          (F19_0 k n t1 t19 t20 (IntKind.wrap .i64 (t21 + (1 : Int))) c2 c2000006).bind some
      else none
    else
      some ((t1, ()), (c2, c2000006, ()))
def fr19_0 (k : Nat) : Frag := ⟨⟨[(6, KD49)], [(1, .val (.int .i64)), (2, .ptr 2 []), (6, .at 2000006 []), (19, .val KD48), (20, .val (.int .i64)), (21, .val (.int .i64))], [(2, some 28, KD5), (2000006, none, KD49)]⟩, [(.exit 0, ⟨[(6, KD49)], [(1, .val (.int .i64)), (2, .ptr 2 []), (6, .at 2000006 [])], [(2, some 28, KD5), (2000006, none, KD49)]⟩)], fun v => F19_0 k k v.1.1 v.1.2.1 v.1.2.2.1 v.1.2.2.2.1 v.2.1 v.2.2.1⟩
def F19 (k : Nat) (a0 : TY20) (a1 : Int) : Option (((List Int) × Bool × Unit) × Unit) :=
  bif (decide (a1 < (0 : Int))) then
    some (([], false, ()), ())
  else
    let x1 := (decide (a1 ≥ ((List.length a0.1 : Nat) : Int)))
    bif x1 then
      some (([], false, ()), ())
    else
      (F19_0 k k a1 a0.2.1 ((List.length a0.2.1 : Nat) : Int) (0 : Int) a0 []).bind fun r4 =>
      let y5 := r4.1.1
      let y6 := r4.2.1
      let y7 := r4.2.2.1
      (F32 k y6).bind fun r8 =>
      (F33 k r8.1.1 y7).bind fun r9 =>
      (F34 k r9.1.1 y5).bind fun r10 =>
      bif (!(List.isEmpty r10.1.1)) then
        (F35 k r10.1.1).bind fun r11 =>
        if ((List.length r10.1.1 : Nat) : Int) ≠ 0 then
          some ((r11.1.1, true, ()), ())
        else none
      else
        (F35 k []).bind fun r12 =>
        some ((r12.1.1, false, ()), ())
def sp19 (k : Nat) : Spec := ⟨[.val KD5, .val (.int .i64)], [.own KD49, .val .bool], fun x => F19 k x.1 x.2.1⟩
def lim19 : Lim := ⟨43, 2, false, false, [34, 35]⟩
def cfg19 (k : Nat) : Nat → Option Spec := cfgL [(32, sp32 k), (33, sp33 k), (34, sp34 k), (35, sp35 k)]
theorem cfg19_ok (k : Nat) : CfgOK Try.prog (cfg19 k) := cfgL_cons (v32 k) (cfgL_cons (v33 k) (cfgL_cons (v34 k) (cfgL_cons (v35 k) (cfgL_nil))))
def pl19_0 (k : Nat) : Plan := .go
theorem pq19_0 (k : Nat) : PlanOK Try.prog lim19 (pl19_0 k) (codeAt (bodyOf Try.f19) [.r, .r, .r, .l, .r, .s, .b]) = PlanOK Try.prog lim19 .go (codeAt (bodyOf Try.f19) [.r, .r, .r, .l, .r, .s, .b]) := by kernel_rfl
theorem ps19_0 (k m : Nat) (v : (fr19_0 k).sh.V) : F19_0 k (m + 1) v.1.1 v.1.2.1 v.1.2.2.1 v.1.2.2.2.1 v.2.1 v.2.2.1 = (body Try.prog (stepper Try.prog (cfg19 k) lim19) (pl19_0 k) (codeAt (bodyOf Try.f19) [.r, .r, .r, .l, .r, .s, .b]) ((fr19_0 k).sh.st v) (loopK (fr19_0 k) fun v => F19_0 k m v.1.1 v.1.2.1 v.1.2.2.1 v.1.2.2.2.1 v.2.1 v.2.2.1)).eval := by kernel_rfl
theorem pe19_0 (k m : Nat) (v : (fr19_0 k).sh.V) : (body Try.prog (stepper Try.prog (cfg19 k) lim19) (pl19_0 k) (codeAt (bodyOf Try.f19) [.r, .r, .r, .l, .r, .s, .b]) ((fr19_0 k).sh.st v) (loopK (fr19_0 k) fun v => F19_0 k m v.1.1 v.1.2.1 v.1.2.2.1 v.1.2.2.2.1 v.2.1 v.2.2.1)).left = (body Try.prog (stepper Try.prog (cfg19 k) lim19) (pl19_0 k) (codeAt (bodyOf Try.f19) [.r, .r, .r, .l, .r, .s, .b]) ((fr19_0 k).sh.st v) (loopK (fr19_0 k) fun v => F19_0 k m v.1.1 v.1.2.1 v.1.2.2.1 v.1.2.2.2.1 v.2.1 v.2.2.1)).right := by kernel_rfl
theorem fr19_0_ok (k : Nat) : FragOK Try.prog lim19 (fr19_0 k) (codeAt (bodyOf Try.f19) [.r, .r, .r, .l, .r, .s]) :=
  frag_cast (by kernel_rfl) (loop_ok (cfg19_ok k) (Eq.mpr (pq19_0 k) (planOK_go _)) (fun m v => F19_0 k m v.1.1 v.1.2.1 v.1.2.2.1 v.1.2.2.2.1 v.2.1 v.2.2.1) k (fun _ => rfl) (fun _ => rfl) fun m v => ⟨ps19_0 k m v, pe19_0 k m v⟩)
def pl19 (k : Nat) : Plan := (.seq .go (.seq .go (.seq .go (.seq (.seq .go (.sub (.frag (fr19_0 k)))) .go))))
theorem pq19 (k : Nat) : PlanOK Try.prog lim19 (pl19 k) (codeAt (bodyOf Try.f19) []) = (PlanOK Try.prog lim19 .go (codeAt (bodyOf Try.f19) [.l]) ∧ (PlanOK Try.prog lim19 .go (codeAt (bodyOf Try.f19) [.r, .l]) ∧ (PlanOK Try.prog lim19 .go (codeAt (bodyOf Try.f19) [.r, .r, .l]) ∧ ((PlanOK Try.prog lim19 .go (codeAt (bodyOf Try.f19) [.r, .r, .r, .l, .l]) ∧ FragOK Try.prog lim19 (fr19_0 k) (codeAt (bodyOf Try.f19) [.r, .r, .r, .l, .r, .s])) ∧ PlanOK Try.prog lim19 .go (codeAt (bodyOf Try.f19) [.r, .r, .r, .r]))))) := by kernel_rfl
theorem ev19 (k : Nat) (x : AT (sp19 k).ps) : (sp19 k).impl x = (fnT Try.prog (cfg19 k) lim19 Try.f19 (bodyOf Try.f19) (pl19 k) (sp19 k) x).eval := by kernel_rfl
theorem eq19 (k : Nat) (x : AT (sp19 k).ps) : (fnT Try.prog (cfg19 k) lim19 Try.f19 (bodyOf Try.f19) (pl19 k) (sp19 k) x).left = (fnT Try.prog (cfg19 k) lim19 Try.f19 (bodyOf Try.f19) (pl19 k) (sp19 k) x).right := by kernel_rfl
theorem v19 (k : Nat) : Callable Try.prog 19 ∧ Valid Try.prog 19 (sp19 k) :=
  fn_ok (cfg19_ok k) (f := 19) (fn := Try.f19) (by kernel_rfl) (c := bodyOf Try.f19) (by kernel_rfl) (by kernel_rfl) rfl rfl (Nat.le_of_ble_eq_true rfl) (Nat.le_of_ble_eq_true rfl) (p := pl19 k) (Eq.mpr (pq19 k) ⟨(planOK_go _), ⟨(planOK_go _), ⟨(planOK_go _), ⟨⟨(planOK_go _), (fr19_0_ok k)⟩, (planOK_go _)⟩⟩⟩⟩) fun x => ⟨ev19 k x, eq19 k x⟩
/-! f38 hyphen/trop.Add -/
def F38 (k : Nat) (a0 : Int) (a1 : Int) : Option TY56 :=
  let x1 := (IntKind.wrap .i64 ((minI a0 (1152921504606846976 : Int)) + (minI a1 (1152921504606846976 : Int))))
  some (((minI x1 (1152921504606846976 : Int)), ()), ())
def sp38 (k : Nat) : Spec := ⟨[.val (.int .i64), .val (.int .i64)], [.val (.int .i64)], fun x => F38 k x.1 x.2.1⟩
def lim38 : Lim := ⟨11, 2, false, false, []⟩
def cfg38 (k : Nat) : Nat → Option Spec := cfgL []
theorem cfg38_ok (k : Nat) : CfgOK Try.prog (cfg38 k) := cfgL_nil
def pl38 (k : Nat) : Plan := .go
theorem pq38 (k : Nat) : PlanOK Try.prog lim38 (pl38 k) (codeAt (bodyOf Try.f38) []) = PlanOK Try.prog lim38 .go (codeAt (bodyOf Try.f38) []) := by kernel_rfl
theorem ev38 (k : Nat) (x : AT (sp38 k).ps) : (sp38 k).impl x = (fnT Try.prog (cfg38 k) lim38 Try.f38 (bodyOf Try.f38) (pl38 k) (sp38 k) x).eval := by kernel_rfl
theorem eq38 (k : Nat) (x : AT (sp38 k).ps) : (fnT Try.prog (cfg38 k) lim38 Try.f38 (bodyOf Try.f38) (pl38 k) (sp38 k) x).left = (fnT Try.prog (cfg38 k) lim38 Try.f38 (bodyOf Try.f38) (pl38 k) (sp38 k) x).right := by kernel_rfl
theorem v38 (k : Nat) : Callable Try.prog 38 ∧ Valid Try.prog 38 (sp38 k) :=
  fn_ok (cfg38_ok k) (f := 38) (fn := Try.f38) (by kernel_rfl) (c := bodyOf Try.f38) (by kernel_rfl) (by kernel_rfl) rfl rfl (Nat.le_of_ble_eq_true rfl) (Nat.le_of_ble_eq_true rfl) (p := pl38 k) (Eq.mpr (pq38 k) (planOK_go _)) fun x => ⟨ev38 k x, eq38 k x⟩
/-! f17 hyphen/twin.Check -/
def F17_0 (k : Nat) : Nat → (List Int) → Int → Int → Int → (List Int) → Int → Int → TY45 → Int → Int → TY20 → Option ((((List Int) × Int × (List Int) × Int × Int × Int × Int × Bool × Unit) × (TY20 × TY50 × Unit)) ⊕ (Unit × Unit))
  | 0, _, _, _, _, _, _, _, _, _, _, _ => none
  | n + 1, t1, t6, t8, t9, t12, t13, t14, t28, t29, t30, c2 =>
    bif (decide (t30 < t29)) then
      if 0 ≤ t30 ∧ t30 < ((List.length t28 : Nat) : Int) then
        let x4 := (List.getD t28 (Int.toNat t30) ((0 : Int), ((0 : Int), ((0 : Int), ()))))
        bif (x4.1 == t8) then
          bif (x4.2.1 == t9) then
            (F38 k t6 x4.2.2.1).bind fun r5 =>
            some (.inl ((t1, r5.1.1, t12, t13, t14, x4.2.1, t9, (x4.2.1 == t9), ()), (c2, x4, ())))
          else
            (F17_0 k n t1 t6 t8 t9 t12 t13 t14 t28 t29 (IntKind.wrap .i64 (t30 + (1 : Int))) c2).bind some
        else
          (F17_0 k n t1 t6 t8 t9 t12 t13 t14 t28 t29 (IntKind.wrap .i64 (t30 + (1 : Int))) c2).bind some
      else none
    else
      some (.inr ((), ()))
def fr17_0 (k : Nat) : Frag := ⟨⟨[], [(1, .val KD48), (2, .ptr 2 []), (6, .val (.int .i64)), (8, .val (.int .i64)), (9, .val (.int .i64)), (12, .val KD48), (13, .val (.int .i64)), (14, .val (.int .i64)), (28, .val KD24), (29, .val (.int .i64)), (30, .val (.int .i64))], [(2, some 28, KD5)]⟩, [(.exit 1, ⟨[], [(1, .val KD48), (2, .ptr 2 []), (6, .val (.int .i64)), (12, .val KD48), (13, .val (.int .i64)), (14, .val (.int .i64)), (39, .ptr 11 [.snd, .fst]), (40, .val (.int .i64)), (41, .val (.int .i64)), (42, .val .bool)], [(2, some 28, KD5), (11, some 43, KD33)]⟩), (.exit 2, ⟨[], [], []⟩)], fun v => F17_0 k k v.1.1 v.1.2.1 v.1.2.2.1 v.1.2.2.2.1 v.1.2.2.2.2.1 v.1.2.2.2.2.2.1 v.1.2.2.2.2.2.2.1 v.1.2.2.2.2.2.2.2.1 v.1.2.2.2.2.2.2.2.2.1 v.1.2.2.2.2.2.2.2.2.2.1 v.2.1⟩
def F17_1 (k : Nat) : Nat → (List Int) → Int → (List Int) → Int → Int → TY20 → Option ((((List Int) × Int × Unit) × Unit) ⊕ ((Int × Bool × Unit) × Unit))
  | 0, _, _, _, _, _, _ => none
  | n + 1, t1, t6, t12, t13, t14, c2 =>
    bif (decide (t14 < t13)) then
      if 0 ≤ t14 ∧ t14 < ((List.length t12 : Nat) : Int) then
        if ((List.length t1 : Nat) : Int) ≠ 0 then
          let x18 := (Int.tmod (IntKind.wrap .i64 (t14 + (1 : Int))) ((List.length t1 : Nat) : Int))
          if 0 ≤ x18 ∧ x18 < ((List.length t1 : Nat) : Int) then
            (F17_0 k k t1 t6 (List.getD t12 (Int.toNat t14) (0 : Int)) (List.getD t1 (Int.toNat x18) (0 : Int)) t12 t13 t14 c2.2.2.2.1 ((List.length c2.2.2.2.1 : Nat) : Int) (0 : Int) c2).bind fun r19 =>
            match r19 with
            | .inl r20 =>
              let y21 := r20.1.1
              let y22 := r20.1.2.1
              let y23 := r20.1.2.2.1
              let y24 := r20.1.2.2.2.1
              let y25 := r20.1.2.2.2.2.1
              let y29 := r20.2.1
              (F17_1 k n y21 y22 y23 y24 (IntKind.wrap .i64 (y25 + (1 : Int))) y29).bind some
            | .inr r20 =>
              some (.inr (((0 : Int), false, ()), ()))
          else none
        else none
      else none
    else
      some (.inl ((t1, t6, ()), ()))
def fr17_1 (k : Nat) : Frag := ⟨⟨[], [(1, .val KD48), (2, .ptr 2 []), (6, .val (.int .i64)), (12, .val KD48), (13, .val (.int .i64)), (14, .val (.int .i64))], [(2, some 28, KD5)]⟩, [(.exit 0, ⟨[], [(1, .val KD48), (6, .val (.int .i64))], []⟩), (.ret, ⟨[], [(4, .val (.int .i64)), (5, .val .bool)], []⟩)], fun v => F17_1 k k v.1.1 v.1.2.1 v.1.2.2.1 v.1.2.2.2.1 v.1.2.2.2.2.1 v.2.1⟩
def F17 (k : Nat) (a0 : TY20) (a1 : (List Int)) : Option ((Int × Bool × Unit) × Unit) :=
  (F17_1 k k a1 (0 : Int) a1 ((List.length a1 : Nat) : Int) (0 : Int) a0).bind fun r31 =>
  match r31 with
  | .inl r32 =>
    let y33 := r32.1.1
    let y34 := r32.1.2.1
    let x35 := (decide (((List.length y33 : Nat) : Int) > (0 : Int)))
    some ((y34, x35, ()), ())
  | .inr r32 =>
    let y36 := r32.1.1
    let y37 := r32.1.2.1
    some ((y36, y37, ()), ())
def sp17 (k : Nat) : Spec := ⟨[.val KD5, .val KD48], [.val (.int .i64), .val .bool], fun x => F17 k x.1 x.2.1⟩
def lim17 : Lim := ⟨54, 2, false, false, []⟩
def cfg17 (k : Nat) : Nat → Option Spec := cfgL [(38, sp38 k)]
theorem cfg17_ok (k : Nat) : CfgOK Try.prog (cfg17 k) := cfgL_cons (v38 k) (cfgL_nil)
def pl17_0 (k : Nat) : Plan := .go
theorem pq17_0 (k : Nat) : PlanOK Try.prog lim17 (pl17_0 k) (codeAt (bodyOf Try.f17) [.r, .s, .r, .r, .l, .r, .s, .b, .r, .r, .l, .s, .r, .r, .l, .r, .s, .b]) = PlanOK Try.prog lim17 .go (codeAt (bodyOf Try.f17) [.r, .s, .r, .r, .l, .r, .s, .b, .r, .r, .l, .s, .r, .r, .l, .r, .s, .b]) := by kernel_rfl
theorem ps17_0 (k m : Nat) (v : (fr17_0 k).sh.V) : F17_0 k (m + 1) v.1.1 v.1.2.1 v.1.2.2.1 v.1.2.2.2.1 v.1.2.2.2.2.1 v.1.2.2.2.2.2.1 v.1.2.2.2.2.2.2.1 v.1.2.2.2.2.2.2.2.1 v.1.2.2.2.2.2.2.2.2.1 v.1.2.2.2.2.2.2.2.2.2.1 v.2.1 = (body Try.prog (stepper Try.prog (cfg17 k) lim17) (pl17_0 k) (codeAt (bodyOf Try.f17) [.r, .s, .r, .r, .l, .r, .s, .b, .r, .r, .l, .s, .r, .r, .l, .r, .s, .b]) ((fr17_0 k).sh.st v) (loopK (fr17_0 k) fun v => F17_0 k m v.1.1 v.1.2.1 v.1.2.2.1 v.1.2.2.2.1 v.1.2.2.2.2.1 v.1.2.2.2.2.2.1 v.1.2.2.2.2.2.2.1 v.1.2.2.2.2.2.2.2.1 v.1.2.2.2.2.2.2.2.2.1 v.1.2.2.2.2.2.2.2.2.2.1 v.2.1)).eval := by kernel_rfl
theorem pe17_0 (k m : Nat) (v : (fr17_0 k).sh.V) : (body Try.prog (stepper Try.prog (cfg17 k) lim17) (pl17_0 k) (codeAt (bodyOf Try.f17) [.r, .s, .r, .r, .l, .r, .s, .b, .r, .r, .l, .s, .r, .r, .l, .r, .s, .b]) ((fr17_0 k).sh.st v) (loopK (fr17_0 k) fun v => F17_0 k m v.1.1 v.1.2.1 v.1.2.2.1 v.1.2.2.2.1 v.1.2.2.2.2.1 v.1.2.2.2.2.2.1 v.1.2.2.2.2.2.2.1 v.1.2.2.2.2.2.2.2.1 v.1.2.2.2.2.2.2.2.2.1 v.1.2.2.2.2.2.2.2.2.2.1 v.2.1)).left = (body Try.prog (stepper Try.prog (cfg17 k) lim17) (pl17_0 k) (codeAt (bodyOf Try.f17) [.r, .s, .r, .r, .l, .r, .s, .b, .r, .r, .l, .s, .r, .r, .l, .r, .s, .b]) ((fr17_0 k).sh.st v) (loopK (fr17_0 k) fun v => F17_0 k m v.1.1 v.1.2.1 v.1.2.2.1 v.1.2.2.2.1 v.1.2.2.2.2.1 v.1.2.2.2.2.2.1 v.1.2.2.2.2.2.2.1 v.1.2.2.2.2.2.2.2.1 v.1.2.2.2.2.2.2.2.2.1 v.1.2.2.2.2.2.2.2.2.2.1 v.2.1)).right := by kernel_rfl
theorem fr17_0_ok (k : Nat) : FragOK Try.prog lim17 (fr17_0 k) (codeAt (bodyOf Try.f17) [.r, .s, .r, .r, .l, .r, .s, .b, .r, .r, .l, .s, .r, .r, .l, .r, .s]) :=
  frag_cast (by kernel_rfl) (loop_ok (cfg17_ok k) (Eq.mpr (pq17_0 k) (planOK_go _)) (fun m v => F17_0 k m v.1.1 v.1.2.1 v.1.2.2.1 v.1.2.2.2.1 v.1.2.2.2.2.1 v.1.2.2.2.2.2.1 v.1.2.2.2.2.2.2.1 v.1.2.2.2.2.2.2.2.1 v.1.2.2.2.2.2.2.2.2.1 v.1.2.2.2.2.2.2.2.2.2.1 v.2.1) k (fun _ => rfl) (fun _ => rfl) fun m v => ⟨ps17_0 k m v, pe17_0 k m v⟩)
def pl17_1 (k : Nat) : Plan := (.seq .go (.seq .go (.seq (.sub (.seq .go (.seq .go (.seq (.seq .go (.sub (.frag (fr17_0 k)))) .go)))) .go)))
theorem pq17_1 (k : Nat) : PlanOK Try.prog lim17 (pl17_1 k) (codeAt (bodyOf Try.f17) [.r, .s, .r, .r, .l, .r, .s, .b]) = (PlanOK Try.prog lim17 .go (codeAt (bodyOf Try.f17) [.r, .s, .r, .r, .l, .r, .s, .b, .l]) ∧ (PlanOK Try.prog lim17 .go (codeAt (bodyOf Try.f17) [.r, .s, .r, .r, .l, .r, .s, .b, .r, .l]) ∧ ((PlanOK Try.prog lim17 .go (codeAt (bodyOf Try.f17) [.r, .s, .r, .r, .l, .r, .s, .b, .r, .r, .l, .s, .l]) ∧ (PlanOK Try.prog lim17 .go (codeAt (bodyOf Try.f17) [.r, .s, .r, .r, .l, .r, .s, .b, .r, .r, .l, .s, .r, .l]) ∧ ((PlanOK Try.prog lim17 .go (codeAt (bodyOf Try.f17) [.r, .s, .r, .r, .l, .r, .s, .b, .r, .r, .l, .s, .r, .r, .l, .l]) ∧ FragOK Try.prog lim17 (fr17_0 k) (codeAt (bodyOf Try.f17) [.r, .s, .r, .r, .l, .r, .s, .b, .r, .r, .l, .s, .r, .r, .l, .r, .s])) ∧ PlanOK Try.prog lim17 .go (codeAt (bodyOf Try.f17) [.r, .s, .r, .r, .l, .r, .s, .b, .r, .r, .l, .s, .r, .r, .r])))) ∧ PlanOK Try.prog lim17 .go (codeAt (bodyOf Try.f17) [.r, .s, .r, .r, .l, .r, .s, .b, .r, .r, .r])))) := by kernel_rfl
theorem ps17_1 (k m : Nat) (v : (fr17_1 k).sh.V) : F17_1 k (m + 1) v.1.1 v.1.2.1 v.1.2.2.1 v.1.2.2.2.1 v.1.2.2.2.2.1 v.2.1 = (body Try.prog (stepper Try.prog (cfg17 k) lim17) (pl17_1 k) (codeAt (bodyOf Try.f17) [.r, .s, .r, .r, .l, .r, .s, .b]) ((fr17_1 k).sh.st v) (loopK (fr17_1 k) fun v => F17_1 k m v.1.1 v.1.2.1 v.1.2.2.1 v.1.2.2.2.1 v.1.2.2.2.2.1 v.2.1)).eval := by kernel_rfl
theorem pe17_1 (k m : Nat) (v : (fr17_1 k).sh.V) : (body Try.prog (stepper Try.prog (cfg17 k) lim17) (pl17_1 k) (codeAt (bodyOf Try.f17) [.r, .s, .r, .r, .l, .r, .s, .b]) ((fr17_1 k).sh.st v) (loopK (fr17_1 k) fun v => F17_1 k m v.1.1 v.1.2.1 v.1.2.2.1 v.1.2.2.2.1 v.1.2.2.2.2.1 v.2.1)).left = (body Try.prog (stepper Try.prog (cfg17 k) lim17) (pl17_1 k) (codeAt (bodyOf Try.f17) [.r, .s, .r, .r, .l, .r, .s, .b]) ((fr17_1 k).sh.st v) (loopK (fr17_1 k) fun v => F17_1 k m v.1.1 v.1.2.1 v.1.2.2.1 v.1.2.2.2.1 v.1.2.2.2.2.1 v.2.1)).right := by kernel_rfl
theorem fr17_1_ok (k : Nat) : FragOK Try.prog lim17 (fr17_1 k) (codeAt (bodyOf Try.f17) [.r, .s, .r, .r, .l, .r, .s]) :=
  frag_cast (by kernel_rfl) (loop_ok (cfg17_ok k) (Eq.mpr (pq17_1 k) ⟨(planOK_go _), ⟨(planOK_go _), ⟨⟨(planOK_go _), ⟨(planOK_go _), ⟨⟨(planOK_go _), (fr17_0_ok k)⟩, (planOK_go _)⟩⟩⟩, (planOK_go _)⟩⟩⟩) (fun m v => F17_1 k m v.1.1 v.1.2.1 v.1.2.2.1 v.1.2.2.2.1 v.1.2.2.2.2.1 v.2.1) k (fun _ => rfl) (fun _ => rfl) fun m v => ⟨ps17_1 k m v, pe17_1 k m v⟩)
def pl17 (k : Nat) : Plan := (.seq .go (.sub (.seq .go (.seq .go (.seq (.seq .go (.sub (.frag (fr17_1 k)))) .go)))))
theorem pq17 (k : Nat) : PlanOK Try.prog lim17 (pl17 k) (codeAt (bodyOf Try.f17) []) = (PlanOK Try.prog lim17 .go (codeAt (bodyOf Try.f17) [.l]) ∧ (PlanOK Try.prog lim17 .go (codeAt (bodyOf Try.f17) [.r, .s, .l]) ∧ (PlanOK Try.prog lim17 .go (codeAt (bodyOf Try.f17) [.r, .s, .r, .l]) ∧ ((PlanOK Try.prog lim17 .go (codeAt (bodyOf Try.f17) [.r, .s, .r, .r, .l, .l]) ∧ FragOK Try.prog lim17 (fr17_1 k) (codeAt (bodyOf Try.f17) [.r, .s, .r, .r, .l, .r, .s])) ∧ PlanOK Try.prog lim17 .go (codeAt (bodyOf Try.f17) [.r, .s, .r, .r, .r]))))) := by kernel_rfl
theorem ev17 (k : Nat) (x : AT (sp17 k).ps) : (sp17 k).impl x = (fnT Try.prog (cfg17 k) lim17 Try.f17 (bodyOf Try.f17) (pl17 k) (sp17 k) x).eval := by kernel_rfl
theorem eq17 (k : Nat) (x : AT (sp17 k).ps) : (fnT Try.prog (cfg17 k) lim17 Try.f17 (bodyOf Try.f17) (pl17 k) (sp17 k) x).left = (fnT Try.prog (cfg17 k) lim17 Try.f17 (bodyOf Try.f17) (pl17 k) (sp17 k) x).right := by kernel_rfl
theorem v17 (k : Nat) : Callable Try.prog 17 ∧ Valid Try.prog 17 (sp17 k) :=
  fn_ok (cfg17_ok k) (f := 17) (fn := Try.f17) (by kernel_rfl) (c := bodyOf Try.f17) (by kernel_rfl) (by kernel_rfl) rfl rfl (Nat.le_of_ble_eq_true rfl) (Nat.le_of_ble_eq_true rfl) (p := pl17 k) (Eq.mpr (pq17 k) ⟨(planOK_go _), ⟨(planOK_go _), ⟨(planOK_go _), ⟨⟨(planOK_go _), (fr17_1_ok k)⟩, (planOK_go _)⟩⟩⟩⟩) fun x => ⟨ev17 k x, eq17 k x⟩
/-! f11 hyphen/hyphenlaw8.known -/
def F11 (k : Nat) : Option TY55 :=
  (F14 k (([] : (List Int)), (([] : (List Int)), (([] : (List Int)), (([] : TY45), ((1152921504606846976 : Int), ())))))).bind fun r1 =>
  let x2 := (List.set (List.set (List.replicate 2 (0 : Int)) 0 (-1 : Int)) 1 (-1 : Int))
  let x3 := (List.set (List.set (List.replicate 2 (0 : Int)) 0 (0 : Int)) 1 (1152921504606846976 : Int))
  let x4 := (List.set (List.set (List.replicate 2 (0 : Int)) 0 (1152921504606846976 : Int)) 1 (0 : Int))
  let x5 := (List.set (List.set (List.replicate 2 ((0 : Int), ((0 : Int), ((0 : Int), ())))) 0 ((0 : Int), ((1 : Int), ((0 : Int), ())))) 1 ((1 : Int), ((1 : Int), ((2 : Int), ()))))
  (F14 k (x2, (x3, (x4, (x5, ((1152921504606846976 : Int), ())))))).bind fun r6 =>
  (F19 k (x2, (x3, (x4, (x5, ((1152921504606846976 : Int), ()))))) (1 : Int)).bind fun r7 =>
  let x8 := (List.set (List.replicate 1 (0 : Int)) 0 (1 : Int))
  (F17 k (x2, (x3, (x4, (x5, ((1152921504606846976 : Int), ()))))) x8).bind fun r9 =>
  bif (!r1.1.2.1) then
    bif r6.1.2.1 then
      let x10 := (((List.length r6.1.1 : Nat) : Int) == (1 : Int))
      bif x10 then
        if 0 ≤ (0 : Int) ∧ (0 : Int) < ((List.length r6.1.1 : Nat) : Int) then
          let x11 := (List.getD r6.1.1 (Int.toNat (0 : Int)) (0 : Int))
          bif (x11 == (1 : Int)) then
            bif r7.1.2.1 then
              let x12 := (((List.length r7.1.1 : Nat) : Int) == (2 : Int))
              bif x12 then
                if 0 ≤ (0 : Int) ∧ (0 : Int) < ((List.length r7.1.1 : Nat) : Int) then
                  let x13 := (List.getD r7.1.1 (Int.toNat (0 : Int)) (0 : Int))
                  bif (x13 == (0 : Int)) then
                    bif r9.1.2.1 then
                      some (((r9.1.1 == (2 : Int)), ()), ())
                    else
                      some ((false, ()), ())
                  else
                    some ((false, ()), ())
                else none
              else
                some ((false, ()), ())
            else
              some ((false, ()), ())
          else
            some ((false, ()), ())
        else none
      else
        some ((false, ()), ())
    else
      some ((false, ()), ())
  else
    some ((false, ()), ())
def sp11 (k : Nat) : Spec := ⟨[], [.val .bool], fun x => F11 k⟩
def lim11 : Lim := ⟨75, 0, false, false, []⟩
def cfg11 (k : Nat) : Nat → Option Spec := cfgL [(14, sp14 k), (17, sp17 k), (19, sp19 k)]
theorem cfg11_ok (k : Nat) : CfgOK Try.prog (cfg11 k) := cfgL_cons (v14 k) (cfgL_cons (v17 k) (cfgL_cons (v19 k) (cfgL_nil)))
def pl11 (k : Nat) : Plan := .go
theorem pq11 (k : Nat) : PlanOK Try.prog lim11 (pl11 k) (codeAt (bodyOf Try.f11) []) = PlanOK Try.prog lim11 .go (codeAt (bodyOf Try.f11) []) := by kernel_rfl
theorem ev11 (k : Nat) (x : AT (sp11 k).ps) : (sp11 k).impl x = (fnT Try.prog (cfg11 k) lim11 Try.f11 (bodyOf Try.f11) (pl11 k) (sp11 k) x).eval := by kernel_rfl
theorem eq11 (k : Nat) (x : AT (sp11 k).ps) : (fnT Try.prog (cfg11 k) lim11 Try.f11 (bodyOf Try.f11) (pl11 k) (sp11 k) x).left = (fnT Try.prog (cfg11 k) lim11 Try.f11 (bodyOf Try.f11) (pl11 k) (sp11 k) x).right := by kernel_rfl
theorem v11 (k : Nat) : Callable Try.prog 11 ∧ Valid Try.prog 11 (sp11 k) :=
  fn_ok (cfg11_ok k) (f := 11) (fn := Try.f11) (by kernel_rfl) (c := bodyOf Try.f11) (by kernel_rfl) (by kernel_rfl) rfl rfl (Nat.le_of_ble_eq_true rfl) (Nat.le_of_ble_eq_true rfl) (p := pl11 k) (Eq.mpr (pq11 k) (planOK_go _)) fun x => ⟨ev11 k x, eq11 k x⟩
/-! f26: f26 -/
def rs26 (f26 : (TY46 → Int → Option TY56)) : Spec := ⟨[.val KD39, .val (.int .i64)], [.val (.int .i64)], fun x => f26 x.1 x.2.1⟩
/-! f26 hyphen/hyphenlaw5.size -/
def F26_0 (k : Nat) (f26 : (TY46 → Int → Option TY56)) : Nat → TY46 → Int → Int → Int → Option (TY56)
  | 0, _, _, _, _ => none
  | n + 1, t0, t1, t5, t6 =>
    let x5 := (decide (t6 < ((List.length t0 : Nat) : Int)))
    bif x5 then
      bif (decide (t5 ≤ (30 : Int))) then
        if 0 ≤ t6 ∧ t6 < ((List.length t0 : Nat) : Int) then
          let x6 := (List.getD t0 (Int.toNat t6) (Tree.mk ((0 : Int), ((0 : Int), ())) []))
          (f26 (Tree.l x6) (IntKind.wrap .i64 (t1 + (1 : Int)))).bind fun r7 =>
          let x8 := (IntKind.wrap .i64 ((IntKind.wrap .i64 (t5 + (1 : Int))) + r7.1.1))
          (F26_0 k f26 n t0 t1 x8 (IntKind.wrap .i64 (t6 + (1 : Int)))).bind some
        else none
      else
        some ((t5, ()), ())
    else
      some ((t5, ()), ())
def fr26_0 (k : Nat) (f26 : (TY46 → Int → Option TY56)) : Frag := ⟨⟨[], [(0, .val KD39), (1, .val (.int .i64)), (5, .val (.int .i64)), (6, .val (.int .i64))], []⟩, [(.exit 0, ⟨[], [(5, .val (.int .i64))], []⟩)], fun v => F26_0 k f26 k v.1.1 v.1.2.1 v.1.2.2.1 v.1.2.2.2.1⟩
def B26 (k : Nat) (f26 : (TY46 → Int → Option TY56)) (a0 : TY46) (a1 : Int) : Option TY56 :=
  bif (decide (a1 > (5 : Int))) then
    some (((1000 : Int), ()), ())
  else
    (F26_0 k f26 k a0 a1 (0 : Int) (0 : Int)).bind fun r9 =>
    let y10 := r9.1.1
    some ((y10, ()), ())
def sb26 (k : Nat) (f26 : (TY46 → Int → Option TY56)) : Spec := rs26 (B26 k f26)
def lim26 : Lim := ⟨31, 2, false, false, []⟩
def cfg26 (k : Nat) (f26 : (TY46 → Int → Option TY56)) : Nat → Option Spec := cfgL [(26, rs26 f26)]
theorem cfg26_ok (k : Nat) (f26 : (TY46 → Int → Option TY56)) (h26 : Callable Try.prog 26 ∧ Valid Try.prog 26 (rs26 f26)) : CfgOK Try.prog (cfg26 k f26) := cfgL_cons h26 (cfgL_nil)
def pl26_0 (k : Nat) (f26 : (TY46 → Int → Option TY56)) : Plan := .go
theorem pq26_0 (k : Nat) (f26 : (TY46 → Int → Option TY56)) : PlanOK Try.prog lim26 (pl26_0 k f26) (codeAt (bodyOf Try.f26) [.r, .r, .r, .l, .r, .s, .b]) = PlanOK Try.prog lim26 .go (codeAt (bodyOf Try.f26) [.r, .r, .r, .l, .r, .s, .b]) := by kernel_rfl
theorem ps26_0 (k : Nat) (f26 : (TY46 → Int → Option TY56)) (m : Nat) (v : (fr26_0 k f26).sh.V) : F26_0 k f26 (m + 1) v.1.1 v.1.2.1 v.1.2.2.1 v.1.2.2.2.1 = (body Try.prog (stepper Try.prog (cfg26 k f26) lim26) (pl26_0 k f26) (codeAt (bodyOf Try.f26) [.r, .r, .r, .l, .r, .s, .b]) ((fr26_0 k f26).sh.st v) (loopK (fr26_0 k f26) fun v => F26_0 k f26 m v.1.1 v.1.2.1 v.1.2.2.1 v.1.2.2.2.1)).eval := by kernel_rfl
theorem pe26_0 (k : Nat) (f26 : (TY46 → Int → Option TY56)) (m : Nat) (v : (fr26_0 k f26).sh.V) : (body Try.prog (stepper Try.prog (cfg26 k f26) lim26) (pl26_0 k f26) (codeAt (bodyOf Try.f26) [.r, .r, .r, .l, .r, .s, .b]) ((fr26_0 k f26).sh.st v) (loopK (fr26_0 k f26) fun v => F26_0 k f26 m v.1.1 v.1.2.1 v.1.2.2.1 v.1.2.2.2.1)).left = (body Try.prog (stepper Try.prog (cfg26 k f26) lim26) (pl26_0 k f26) (codeAt (bodyOf Try.f26) [.r, .r, .r, .l, .r, .s, .b]) ((fr26_0 k f26).sh.st v) (loopK (fr26_0 k f26) fun v => F26_0 k f26 m v.1.1 v.1.2.1 v.1.2.2.1 v.1.2.2.2.1)).right := by kernel_rfl
theorem fr26_0_ok (k : Nat) (f26 : (TY46 → Int → Option TY56)) (h26 : Callable Try.prog 26 ∧ Valid Try.prog 26 (rs26 f26)) : FragOK Try.prog lim26 (fr26_0 k f26) (codeAt (bodyOf Try.f26) [.r, .r, .r, .l, .r, .s]) :=
  frag_cast (by kernel_rfl) (loop_ok (cfg26_ok k f26 h26) (Eq.mpr (pq26_0 k f26) (planOK_go _)) (fun m v => F26_0 k f26 m v.1.1 v.1.2.1 v.1.2.2.1 v.1.2.2.2.1) k (fun _ => rfl) (fun _ => rfl) fun m v => ⟨ps26_0 k f26 m v, pe26_0 k f26 m v⟩)
def pl26 (k : Nat) (f26 : (TY46 → Int → Option TY56)) : Plan := (.seq .go (.seq .go (.seq .go (.seq (.seq .go (.sub (.frag (fr26_0 k f26)))) .go))))
theorem pq26 (k : Nat) (f26 : (TY46 → Int → Option TY56)) : PlanOK Try.prog lim26 (pl26 k f26) (codeAt (bodyOf Try.f26) []) = (PlanOK Try.prog lim26 .go (codeAt (bodyOf Try.f26) [.l]) ∧ (PlanOK Try.prog lim26 .go (codeAt (bodyOf Try.f26) [.r, .l]) ∧ (PlanOK Try.prog lim26 .go (codeAt (bodyOf Try.f26) [.r, .r, .l]) ∧ ((PlanOK Try.prog lim26 .go (codeAt (bodyOf Try.f26) [.r, .r, .r, .l, .l]) ∧ FragOK Try.prog lim26 (fr26_0 k f26) (codeAt (bodyOf Try.f26) [.r, .r, .r, .l, .r, .s])) ∧ PlanOK Try.prog lim26 .go (codeAt (bodyOf Try.f26) [.r, .r, .r, .r]))))) := by kernel_rfl
theorem ev26 (k : Nat) (f26 : (TY46 → Int → Option TY56)) (x : AT (sb26 k f26).ps) : (sb26 k f26).impl x = (fnT Try.prog (cfg26 k f26) lim26 Try.f26 (bodyOf Try.f26) (pl26 k f26) (sb26 k f26) x).eval := by kernel_rfl
theorem eq26 (k : Nat) (f26 : (TY46 → Int → Option TY56)) (x : AT (sb26 k f26).ps) : (fnT Try.prog (cfg26 k f26) lim26 Try.f26 (bodyOf Try.f26) (pl26 k f26) (sb26 k f26) x).left = (fnT Try.prog (cfg26 k f26) lim26 Try.f26 (bodyOf Try.f26) (pl26 k f26) (sb26 k f26) x).right := by kernel_rfl
theorem b26 (k : Nat) (f26 : (TY46 → Int → Option TY56)) (h26 : Callable Try.prog 26 ∧ Valid Try.prog 26 (rs26 f26)) : Callable Try.prog 26 ∧ Valid Try.prog 26 (sb26 k f26) :=
  fn_ok (cfg26_ok k f26 h26) (f := 26) (fn := Try.f26) (by kernel_rfl) (c := bodyOf Try.f26) (by kernel_rfl) (by kernel_rfl) rfl rfl (Nat.le_of_ble_eq_true rfl) (Nat.le_of_ble_eq_true rfl) (p := pl26 k f26) (Eq.mpr (pq26 k f26) ⟨(planOK_go _), ⟨(planOK_go _), ⟨(planOK_go _), ⟨⟨(planOK_go _), (fr26_0_ok k f26 h26)⟩, (planOK_go _)⟩⟩⟩⟩) fun x => ⟨ev26 k f26 x, eq26 k f26 x⟩
def R26 : Nat → (TY46 → Int → Option TY56)
  | 0 => fun _ _ => none
  | k + 1 => B26 k (R26 k)
def F26 (k : Nat) (a0_ : TY46) (a1_ : Int) : Option TY56 := (R26 k) a0_ a1_
def sp26 (k : Nat) : Spec := ⟨[.val KD39, .val (.int .i64)], [.val (.int .i64)], fun x => F26 k x.1 x.2.1⟩
theorem r26 (k : Nat) : (Callable Try.prog 26 ∧ Valid Try.prog 26 (rs26 (R26 k))) := by
  induction k with
  | zero => exact ⟨⟨Try.f26, by kernel_rfl, by kernel_rfl, by kernel_rfl⟩, fun x r h => by cases (show (none : Option _) = some r from h)⟩
  | succ k ih => exact b26 k (R26 k) ih
theorem v26 (k : Nat) : Callable Try.prog 26 ∧ Valid Try.prog 26 (sp26 k) := (r26 k)
/-! f12 hyphen/hyphenlaw5.Few -/
def F12 (k : Nat) (a0 : TY46) : Option TY55 :=
  (F26 k a0 (0 : Int)).bind fun r1 =>
  some (((decide (r1.1.1 ≤ (30 : Int))), ()), ())
def sp12 (k : Nat) : Spec := ⟨[.val KD39], [.val .bool], fun x => F12 k x.1⟩
def lim12 : Lim := ⟨6, 1, false, false, []⟩
def cfg12 (k : Nat) : Nat → Option Spec := cfgL [(26, sp26 k)]
theorem cfg12_ok (k : Nat) : CfgOK Try.prog (cfg12 k) := cfgL_cons (v26 k) (cfgL_nil)
def pl12 (k : Nat) : Plan := .go
theorem pq12 (k : Nat) : PlanOK Try.prog lim12 (pl12 k) (codeAt (bodyOf Try.f12) []) = PlanOK Try.prog lim12 .go (codeAt (bodyOf Try.f12) []) := by kernel_rfl
theorem ev12 (k : Nat) (x : AT (sp12 k).ps) : (sp12 k).impl x = (fnT Try.prog (cfg12 k) lim12 Try.f12 (bodyOf Try.f12) (pl12 k) (sp12 k) x).eval := by kernel_rfl
theorem eq12 (k : Nat) (x : AT (sp12 k).ps) : (fnT Try.prog (cfg12 k) lim12 Try.f12 (bodyOf Try.f12) (pl12 k) (sp12 k) x).left = (fnT Try.prog (cfg12 k) lim12 Try.f12 (bodyOf Try.f12) (pl12 k) (sp12 k) x).right := by kernel_rfl
theorem v12 (k : Nat) : Callable Try.prog 12 ∧ Valid Try.prog 12 (sp12 k) :=
  fn_ok (cfg12_ok k) (f := 12) (fn := Try.f12) (by kernel_rfl) (c := bodyOf Try.f12) (by kernel_rfl) (by kernel_rfl) rfl rfl (Nat.le_of_ble_eq_true rfl) (Nat.le_of_ble_eq_true rfl) (p := pl12 k) (Eq.mpr (pq12 k) (planOK_go _)) fun x => ⟨ev12 k x, eq12 k x⟩
/-! f39 hyphen/hyphenlaw5.ranged -/
def F39 (k : Nat) (a0 : Int) (a1 : Int) : Option ((TY40 × Unit) × Unit) :=
  let x6 := (Tree.a (Tree.mk ((0 : Int), ((0 : Int), ((0 : Int), (ByteArray.empty, ())))) [])).2.2.2.1
  let x7 := (Tree.l (Tree.mk ((0 : Int), ((0 : Int), ((0 : Int), (ByteArray.empty, ())))) []))
  let x8 := (Tree.mk ((1 : Int), (a0, (a1, (x6, ())))) x7)
  some ((x8, ()), ())
def sp39 (k : Nat) : Spec := ⟨[.val (.int .i64), .val (.int .i64)], [.val KD21], fun x => F39 k x.1 x.2.1⟩
def lim39 : Lim := ⟨8, 2, false, false, []⟩
def cfg39 (k : Nat) : Nat → Option Spec := cfgL []
theorem cfg39_ok (k : Nat) : CfgOK Try.prog (cfg39 k) := cfgL_nil
def pl39 (k : Nat) : Plan := .go
theorem pq39 (k : Nat) : PlanOK Try.prog lim39 (pl39 k) (codeAt (bodyOf Try.f39) []) = PlanOK Try.prog lim39 .go (codeAt (bodyOf Try.f39) []) := by kernel_rfl
theorem ev39 (k : Nat) (x : AT (sp39 k).ps) : (sp39 k).impl x = (fnT Try.prog (cfg39 k) lim39 Try.f39 (bodyOf Try.f39) (pl39 k) (sp39 k) x).eval := by kernel_rfl
theorem eq39 (k : Nat) (x : AT (sp39 k).ps) : (fnT Try.prog (cfg39 k) lim39 Try.f39 (bodyOf Try.f39) (pl39 k) (sp39 k) x).left = (fnT Try.prog (cfg39 k) lim39 Try.f39 (bodyOf Try.f39) (pl39 k) (sp39 k) x).right := by kernel_rfl
theorem v39 (k : Nat) : Callable Try.prog 39 ∧ Valid Try.prog 39 (sp39 k) :=
  fn_ok (cfg39_ok k) (f := 39) (fn := Try.f39) (by kernel_rfl) (c := bodyOf Try.f39) (by kernel_rfl) (by kernel_rfl) rfl rfl (Nat.le_of_ble_eq_true rfl) (Nat.le_of_ble_eq_true rfl) (p := pl39 k) (Eq.mpr (pq39 k) (planOK_go _)) fun x => ⟨ev39 k x, eq39 k x⟩
/-! f40 hyphen/hyphenlaw5.names -/
def F40 (k : Nat) : Option (((List ByteArray) × Unit) × Unit) :=
  let x1 := (List.set (List.set (List.set (List.set (List.set (List.set (List.replicate 6 ByteArray.empty) 0 (⟨#[97]⟩ : ByteArray)) 1 (⟨#[118]⟩ : ByteArray)) 2 (⟨#[100]⟩ : ByteArray)) 3 (⟨#[115]⟩ : ByteArray)) 4 (⟨#[119, 49]⟩ : ByteArray)) 5 (⟨#[111, 116, 104, 101, 114]⟩ : ByteArray))
  some ((x1, ()), ())
def sp40 (k : Nat) : Spec := ⟨[], [.own (.sl true 9 .str none)], fun x => F40 k⟩
def lim40 : Lim := ⟨2, 0, false, false, []⟩
def cfg40 (k : Nat) : Nat → Option Spec := cfgL []
theorem cfg40_ok (k : Nat) : CfgOK Try.prog (cfg40 k) := cfgL_nil
def pl40 (k : Nat) : Plan := .go
theorem pq40 (k : Nat) : PlanOK Try.prog lim40 (pl40 k) (codeAt (bodyOf Try.f40) []) = PlanOK Try.prog lim40 .go (codeAt (bodyOf Try.f40) []) := by kernel_rfl
theorem ev40 (k : Nat) (x : AT (sp40 k).ps) : (sp40 k).impl x = (fnT Try.prog (cfg40 k) lim40 Try.f40 (bodyOf Try.f40) (pl40 k) (sp40 k) x).eval := by kernel_rfl
theorem eq40 (k : Nat) (x : AT (sp40 k).ps) : (fnT Try.prog (cfg40 k) lim40 Try.f40 (bodyOf Try.f40) (pl40 k) (sp40 k) x).left = (fnT Try.prog (cfg40 k) lim40 Try.f40 (bodyOf Try.f40) (pl40 k) (sp40 k) x).right := by kernel_rfl
theorem v40 (k : Nat) : Callable Try.prog 40 ∧ Valid Try.prog 40 (sp40 k) :=
  fn_ok (cfg40_ok k) (f := 40) (fn := Try.f40) (by kernel_rfl) (c := bodyOf Try.f40) (by kernel_rfl) (by kernel_rfl) rfl rfl (Nat.le_of_ble_eq_true rfl) (Nat.le_of_ble_eq_true rfl) (p := pl40 k) (Eq.mpr (pq40 k) (planOK_go _)) fun x => ⟨ev40 k x, eq40 k x⟩
/-! f42 hyphen/hyphenlaw5.within -/
def F42 (k : Nat) (a0 : Int) (a1 : Int) : Option TY56 :=
  if a1 ≠ 0 then
    bif (decide ((Int.tmod a0 a1) < (0 : Int))) then
      some (((IntKind.wrap .i64 ((Int.tmod a0 a1) + a1)), ()), ())
    else
      some (((Int.tmod a0 a1), ()), ())
  else none
def sp42 (k : Nat) : Spec := ⟨[.val (.int .i64), .val (.int .i64)], [.val (.int .i64)], fun x => F42 k x.1 x.2.1⟩
def lim42 : Lim := ⟨15, 2, false, false, []⟩
def cfg42 (k : Nat) : Nat → Option Spec := cfgL []
theorem cfg42_ok (k : Nat) : CfgOK Try.prog (cfg42 k) := cfgL_nil
def pl42 (k : Nat) : Plan := .go
theorem pq42 (k : Nat) : PlanOK Try.prog lim42 (pl42 k) (codeAt (bodyOf Try.f42) []) = PlanOK Try.prog lim42 .go (codeAt (bodyOf Try.f42) []) := by kernel_rfl
theorem ev42 (k : Nat) (x : AT (sp42 k).ps) : (sp42 k).impl x = (fnT Try.prog (cfg42 k) lim42 Try.f42 (bodyOf Try.f42) (pl42 k) (sp42 k) x).eval := by kernel_rfl
theorem eq42 (k : Nat) (x : AT (sp42 k).ps) : (fnT Try.prog (cfg42 k) lim42 Try.f42 (bodyOf Try.f42) (pl42 k) (sp42 k) x).left = (fnT Try.prog (cfg42 k) lim42 Try.f42 (bodyOf Try.f42) (pl42 k) (sp42 k) x).right := by kernel_rfl
theorem v42 (k : Nat) : Callable Try.prog 42 ∧ Valid Try.prog 42 (sp42 k) :=
  fn_ok (cfg42_ok k) (f := 42) (fn := Try.f42) (by kernel_rfl) (c := bodyOf Try.f42) (by kernel_rfl) (by kernel_rfl) rfl rfl (Nat.le_of_ble_eq_true rfl) (Nat.le_of_ble_eq_true rfl) (p := pl42 k) (Eq.mpr (pq42 k) (planOK_go _)) fun x => ⟨ev42 k x, eq42 k x⟩
/-! f41: f41 -/
def rs41 (f41 : (Int → TY28 → Int → Option TY12)) : Spec := ⟨[.val (.int .i64), .mut KD13, .val (.int .i64)], [.val KD21], fun x => f41 x.1 x.2.1 x.2.2.1⟩
/-! f41 hyphen/hyphenlaw5.class -/
def B41 (k : Nat) (f41 : (Int → TY28 → Int → Option TY12)) (a0 : Int) (a1 : TY28) (a2 : Int) : Option TY12 :=
  (F42 k a0 (16 : Int)).bind fun r6 =>
  bif (decide (r6.1.1 < (5 : Int))) then
    (F42 k (IntKind.wrap .i64 (Int.tdiv a0 (16 : Int))) (50 : Int)).bind fun r7 =>
    let x8 := (Int.tmod (IntKind.wrap .i64 (Int.tdiv a0 (16 : Int))) (5 : Int))
    let x9 := (IntKind.wrap .i64 ((IntKind.wrap .i64 (r7.1.1 + (40 : Int))) + x8))
    let x10 := (Tree.a (Tree.mk ((0 : Int), ((0 : Int), ((0 : Int), (ByteArray.empty, ())))) [])).2.2.2.1
    let x11 := (Tree.l (Tree.mk ((0 : Int), ((0 : Int), ((0 : Int), (ByteArray.empty, ())))) []))
    let x12 := (Tree.mk ((1 : Int), ((IntKind.wrap .i64 (r7.1.1 + (40 : Int))), (x9, (x10, ())))) x11)
    some ((x12, ()), (a1, ()))
  else
    bif (decide (a2 > (3 : Int))) then
      (F42 k (IntKind.wrap .i64 (Int.tdiv a0 (16 : Int))) (50 : Int)).bind fun r13 =>
      let x14 := (Int.tmod (IntKind.wrap .i64 (Int.tdiv a0 (16 : Int))) (5 : Int))
      let x15 := (IntKind.wrap .i64 ((IntKind.wrap .i64 (r13.1.1 + (40 : Int))) + x14))
      let x16 := (Tree.a (Tree.mk ((0 : Int), ((0 : Int), ((0 : Int), (ByteArray.empty, ())))) [])).2.2.2.1
      let x17 := (Tree.l (Tree.mk ((0 : Int), ((0 : Int), ((0 : Int), (ByteArray.empty, ())))) []))
      let x18 := (Tree.mk ((1 : Int), ((IntKind.wrap .i64 (r13.1.1 + (40 : Int))), (x15, (x16, ())))) x17)
      some ((x18, ()), (a1, ()))
    else
      bif (decide (r6.1.1 < (6 : Int))) then
        (F42 k (IntKind.wrap .i64 (Int.tdiv a0 (16 : Int))) (1114112 : Int)).bind fun r19 =>
        let x20 := (Int.tmod (IntKind.wrap .i64 (Int.tdiv a0 (16 : Int))) (9 : Int))
        let x21 := (minI (IntKind.wrap .i64 (r19.1.1 + x20)) (1114111 : Int))
        let x22 := (Tree.a (Tree.mk ((0 : Int), ((0 : Int), ((0 : Int), (ByteArray.empty, ())))) [])).2.2.2.1
        let x23 := (Tree.l (Tree.mk ((0 : Int), ((0 : Int), ((0 : Int), (ByteArray.empty, ())))) []))
        let x24 := (Tree.mk ((1 : Int), (r19.1.1, (x21, (x22, ())))) x23)
        some ((x24, ()), (a1, ()))
      else
        bif (decide (r6.1.1 < (8 : Int))) then
          let x25 := (decide (((List.length a1 : Nat) : Int) > (0 : Int)))
          bif x25 then
            (F42 k (IntKind.wrap .i64 (Int.tdiv a0 (16 : Int))) ((List.length a1 : Nat) : Int)).bind fun r26 =>
            if 0 ≤ r26.1.1 ∧ r26.1.1 < ((List.length a1 : Nat) : Int) then
              let x27 := (List.getD a1 (Int.toNat r26.1.1) (ByteArray.empty, ((Tree.mk ((0 : Int), ((0 : Int), ((0 : Int), (ByteArray.empty, ())))) []), ()))).1
              let x28 := (Tree.a (Tree.mk ((0 : Int), ((0 : Int), ((0 : Int), (ByteArray.empty, ())))) [])).2.1
              let x29 := (Tree.a (Tree.mk ((0 : Int), ((0 : Int), ((0 : Int), (ByteArray.empty, ())))) [])).2.2.1
              let x30 := (Tree.l (Tree.mk ((0 : Int), ((0 : Int), ((0 : Int), (ByteArray.empty, ())))) []))
              let x31 := (Tree.mk ((2 : Int), (x28, (x29, (x27, ())))) x30)
              some ((x31, ()), (a1, ()))
            else none
          else
            bif (decide (r6.1.1 < (9 : Int))) then
              let x32 := (Tree.a (Tree.mk ((0 : Int), ((0 : Int), ((0 : Int), (ByteArray.empty, ())))) [])).2.1
              let x33 := (Tree.a (Tree.mk ((0 : Int), ((0 : Int), ((0 : Int), (ByteArray.empty, ())))) [])).2.2.1
              let x34 := (Tree.a (Tree.mk ((0 : Int), ((0 : Int), ((0 : Int), (ByteArray.empty, ())))) [])).2.2.2.1
              let x35 := (Tree.l (Tree.mk ((0 : Int), ((0 : Int), ((0 : Int), (ByteArray.empty, ())))) []))
              let x36 := (Tree.mk ((3 : Int), (x32, (x33, (x34, ())))) x35)
              some ((x36, ()), (a1, ()))
            else
              bif (decide (r6.1.1 < (10 : Int))) then
                (f41 (IntKind.wrap .i64 (Int.tdiv a0 (16 : Int))) a1 (IntKind.wrap .i64 (a2 + (1 : Int)))).bind fun r37 =>
                let x38 := (List.set (List.replicate 1 (Tree.mk ((0 : Int), ((0 : Int), ((0 : Int), (ByteArray.empty, ())))) [])) 0 r37.1.1)
                let x39 := (Tree.a (Tree.mk ((0 : Int), ((0 : Int), ((0 : Int), (ByteArray.empty, ())))) [])).2.1
                let x40 := (Tree.a (Tree.mk ((0 : Int), ((0 : Int), ((0 : Int), (ByteArray.empty, ())))) [])).2.2.1
                let x41 := (Tree.a (Tree.mk ((0 : Int), ((0 : Int), ((0 : Int), (ByteArray.empty, ())))) [])).2.2.2.1
                let x42 := (Tree.mk ((4 : Int), (x39, (x40, (x41, ())))) x38)
                some ((x42, ()), (r37.2.1, ()))
              else
                let x43 := (Int.tmod (IntKind.wrap .i64 (Int.tdiv a0 (16 : Int))) (3 : Int))
                let x44 := (IntKind.wrap .i64 (Int.tdiv (IntKind.wrap .i64 (Int.tdiv a0 (16 : Int))) (3 : Int)))
                (f41 x44 a1 (IntKind.wrap .i64 (a2 + (1 : Int)))).bind fun r45 =>
                let x46 := (IntKind.wrap .i64 (Int.tdiv (IntKind.wrap .i64 (Int.tdiv a0 (16 : Int))) (48 : Int)))
                (f41 x46 r45.2.1 (IntKind.wrap .i64 (a2 + (1 : Int)))).bind fun r47 =>
                let x48 := (List.set (List.set (List.replicate 2 (Tree.mk ((0 : Int), ((0 : Int), ((0 : Int), (ByteArray.empty, ())))) [])) 0 r45.1.1) 1 r47.1.1)
                let x49 := (Tree.a (Tree.mk ((0 : Int), ((0 : Int), ((0 : Int), (ByteArray.empty, ())))) [])).2.1
                let x50 := (Tree.a (Tree.mk ((0 : Int), ((0 : Int), ((0 : Int), (ByteArray.empty, ())))) [])).2.2.1
                let x51 := (Tree.a (Tree.mk ((0 : Int), ((0 : Int), ((0 : Int), (ByteArray.empty, ())))) [])).2.2.2.1
                let x52 := (Tree.mk ((IntKind.wrap .i64 ((5 : Int) + x43)), (x49, (x50, (x51, ())))) x48)
                some ((x52, ()), (r47.2.1, ()))
        else
          bif (decide (r6.1.1 < (9 : Int))) then
            let x53 := (Tree.a (Tree.mk ((0 : Int), ((0 : Int), ((0 : Int), (ByteArray.empty, ())))) [])).2.1
            let x54 := (Tree.a (Tree.mk ((0 : Int), ((0 : Int), ((0 : Int), (ByteArray.empty, ())))) [])).2.2.1
            let x55 := (Tree.a (Tree.mk ((0 : Int), ((0 : Int), ((0 : Int), (ByteArray.empty, ())))) [])).2.2.2.1
            let x56 := (Tree.l (Tree.mk ((0 : Int), ((0 : Int), ((0 : Int), (ByteArray.empty, ())))) []))
            let x57 := (Tree.mk ((3 : Int), (x53, (x54, (x55, ())))) x56)
            some ((x57, ()), (a1, ()))
          else
            bif (decide (r6.1.1 < (10 : Int))) then
              (f41 (IntKind.wrap .i64 (Int.tdiv a0 (16 : Int))) a1 (IntKind.wrap .i64 (a2 + (1 : Int)))).bind fun r58 =>
              let x59 := (List.set (List.replicate 1 (Tree.mk ((0 : Int), ((0 : Int), ((0 : Int), (ByteArray.empty, ())))) [])) 0 r58.1.1)
              let x60 := (Tree.a (Tree.mk ((0 : Int), ((0 : Int), ((0 : Int), (ByteArray.empty, ())))) [])).2.1
              let x61 := (Tree.a (Tree.mk ((0 : Int), ((0 : Int), ((0 : Int), (ByteArray.empty, ())))) [])).2.2.1
              let x62 := (Tree.a (Tree.mk ((0 : Int), ((0 : Int), ((0 : Int), (ByteArray.empty, ())))) [])).2.2.2.1
              let x63 := (Tree.mk ((4 : Int), (x60, (x61, (x62, ())))) x59)
              some ((x63, ()), (r58.2.1, ()))
            else
              let x64 := (Int.tmod (IntKind.wrap .i64 (Int.tdiv a0 (16 : Int))) (3 : Int))
              let x65 := (IntKind.wrap .i64 (Int.tdiv (IntKind.wrap .i64 (Int.tdiv a0 (16 : Int))) (3 : Int)))
              (f41 x65 a1 (IntKind.wrap .i64 (a2 + (1 : Int)))).bind fun r66 =>
              let x67 := (IntKind.wrap .i64 (Int.tdiv (IntKind.wrap .i64 (Int.tdiv a0 (16 : Int))) (48 : Int)))
              (f41 x67 r66.2.1 (IntKind.wrap .i64 (a2 + (1 : Int)))).bind fun r68 =>
              let x69 := (List.set (List.set (List.replicate 2 (Tree.mk ((0 : Int), ((0 : Int), ((0 : Int), (ByteArray.empty, ())))) [])) 0 r66.1.1) 1 r68.1.1)
              let x70 := (Tree.a (Tree.mk ((0 : Int), ((0 : Int), ((0 : Int), (ByteArray.empty, ())))) [])).2.1
              let x71 := (Tree.a (Tree.mk ((0 : Int), ((0 : Int), ((0 : Int), (ByteArray.empty, ())))) [])).2.2.1
              let x72 := (Tree.a (Tree.mk ((0 : Int), ((0 : Int), ((0 : Int), (ByteArray.empty, ())))) [])).2.2.2.1
              let x73 := (Tree.mk ((IntKind.wrap .i64 ((5 : Int) + x64)), (x70, (x71, (x72, ())))) x69)
              some ((x73, ()), (r68.2.1, ()))
def sb41 (k : Nat) (f41 : (Int → TY28 → Int → Option TY12)) : Spec := rs41 (B41 k f41)
def lim41 : Lim := ⟨91, 3, false, false, []⟩
def cfg41 (k : Nat) (f41 : (Int → TY28 → Int → Option TY12)) : Nat → Option Spec := cfgL [(41, rs41 f41), (42, sp42 k)]
theorem cfg41_ok (k : Nat) (f41 : (Int → TY28 → Int → Option TY12)) (h41 : Callable Try.prog 41 ∧ Valid Try.prog 41 (rs41 f41)) : CfgOK Try.prog (cfg41 k f41) := cfgL_cons h41 (cfgL_cons (v42 k) (cfgL_nil))
def pl41 (k : Nat) (f41 : (Int → TY28 → Int → Option TY12)) : Plan := .go
theorem pq41 (k : Nat) (f41 : (Int → TY28 → Int → Option TY12)) : PlanOK Try.prog lim41 (pl41 k f41) (codeAt (bodyOf Try.f41) []) = PlanOK Try.prog lim41 .go (codeAt (bodyOf Try.f41) []) := by kernel_rfl
theorem ev41 (k : Nat) (f41 : (Int → TY28 → Int → Option TY12)) (x : AT (sb41 k f41).ps) : (sb41 k f41).impl x = (fnT Try.prog (cfg41 k f41) lim41 Try.f41 (bodyOf Try.f41) (pl41 k f41) (sb41 k f41) x).eval := by kernel_rfl
theorem eq41 (k : Nat) (f41 : (Int → TY28 → Int → Option TY12)) (x : AT (sb41 k f41).ps) : (fnT Try.prog (cfg41 k f41) lim41 Try.f41 (bodyOf Try.f41) (pl41 k f41) (sb41 k f41) x).left = (fnT Try.prog (cfg41 k f41) lim41 Try.f41 (bodyOf Try.f41) (pl41 k f41) (sb41 k f41) x).right := by kernel_rfl
theorem b41 (k : Nat) (f41 : (Int → TY28 → Int → Option TY12)) (h41 : Callable Try.prog 41 ∧ Valid Try.prog 41 (rs41 f41)) : Callable Try.prog 41 ∧ Valid Try.prog 41 (sb41 k f41) :=
  fn_ok (cfg41_ok k f41 h41) (f := 41) (fn := Try.f41) (by kernel_rfl) (c := bodyOf Try.f41) (by kernel_rfl) (by kernel_rfl) rfl rfl (Nat.le_of_ble_eq_true rfl) (Nat.le_of_ble_eq_true rfl) (p := pl41 k f41) (Eq.mpr (pq41 k f41) (planOK_go _)) fun x => ⟨ev41 k f41 x, eq41 k f41 x⟩
def R41 : Nat → (Int → TY28 → Int → Option TY12)
  | 0 => fun _ _ _ => none
  | k + 1 => B41 k (R41 k)
def F41 (k : Nat) (a0_ : Int) (a1_ : TY28) (a2_ : Int) : Option TY12 := (R41 k) a0_ a1_ a2_
def sp41 (k : Nat) : Spec := ⟨[.val (.int .i64), .mut KD13, .val (.int .i64)], [.val KD21], fun x => F41 k x.1 x.2.1 x.2.2.1⟩
theorem r41 (k : Nat) : (Callable Try.prog 41 ∧ Valid Try.prog 41 (rs41 (R41 k))) := by
  induction k with
  | zero => exact ⟨⟨Try.f41, by kernel_rfl, by kernel_rfl, by kernel_rfl⟩, fun x r h => by cases (show (none : Option _) = some r from h)⟩
  | succ k ih => exact b41 k (R41 k) ih
theorem v41 (k : Nat) : Callable Try.prog 41 ∧ Valid Try.prog 41 (sp41 k) := (r41 k)
/-! f21 hyphen/hyphenlaw5.Defs -/
def F21_0 (k : Nat) : Nat → (List Int) → Int → TY28 → Option ((Unit × TY22))
  | 0, _, _, _ => none
  | n + 1, t0, t4, c2000003 =>
    let x23 := (decide (t4 < ((List.length t0 : Nat) : Int)))
    bif x23 then
      bif (decide (t4 < (2 : Int))) then
        if 0 ≤ t4 ∧ t4 < ((List.length t0 : Nat) : Int) then
          (F40 k).bind fun r24 =>
          if 0 ≤ (IntKind.wrap .i64 ((4 : Int) + t4)) ∧ (IntKind.wrap .i64 ((4 : Int) + t4)) < ((List.length r24.1.1 : Nat) : Int) then
            let x25 := (Int.toNat (IntKind.wrap .i64 ((4 : Int) + t4)))
            (F42 k (List.getD t0 (Int.toNat t4) (0 : Int)) (1099511627776 : Int)).bind fun r26 =>
            (F41 k r26.1.1 c2000003 (0 : Int)).bind fun r27 =>
            let x28 := (List.set (List.replicate 1 (ByteArray.empty, ((Tree.mk ((0 : Int), ((0 : Int), ((0 : Int), (ByteArray.empty, ())))) []), ()))) 0 ((List.getD r24.1.1 x25 ByteArray.empty), (r27.1.1, ())))
            if (List.length r27.2.1 + List.length x28) * (80 * 2) ≤ 281474976710656 ∧ List.length r27.2.1 + List.length x28 ≤ 9223372036854775807 then
              (F21_0 k n t0 (IntKind.wrap .i64 (t4 + (1 : Int))) (r27.2.1 ++ x28)).bind some
            else none
          else none
        else none
      else
        some ((), (c2000003, ()))
    else
      some ((), (c2000003, ()))
def fr21_0 (k : Nat) : Frag := ⟨⟨[(3, KD13)], [(0, .val KD48), (3, .at 2000003 []), (4, .val (.int .i64))], [(2000003, none, KD13)]⟩, [(.exit 0, ⟨[(3, KD13)], [(3, .at 2000003 [])], [(2000003, none, KD13)]⟩)], fun v => F21_0 k k v.1.1 v.1.2.1 v.2.1⟩
def F21 (k : Nat) (a0 : (List Int)) : Option (TY22 × Unit) :=
  (F39 k (97 : Int) (97 : Int)).bind fun r1 =>
  (F39 k (97 : Int) (99 : Int)).bind fun r2 =>
  (F39 k (48 : Int) (57 : Int)).bind fun r3 =>
  (F39 k (19968 : Int) (20223 : Int)).bind fun r4 =>
  let x5 := (List.set (List.set (List.replicate 2 (Tree.mk ((0 : Int), ((0 : Int), ((0 : Int), (ByteArray.empty, ())))) [])) 0 r3.1.1) 1 r4.1.1)
  let x6 := (Tree.a (Tree.mk ((0 : Int), ((0 : Int), ((0 : Int), (ByteArray.empty, ())))) [])).2.1
  let x7 := (Tree.a (Tree.mk ((0 : Int), ((0 : Int), ((0 : Int), (ByteArray.empty, ())))) [])).2.2.1
  let x8 := (Tree.a (Tree.mk ((0 : Int), ((0 : Int), ((0 : Int), (ByteArray.empty, ())))) [])).2.2.2.1
  let x9 := (Tree.mk ((5 : Int), (x6, (x7, (x8, ())))) x5)
  let x10 := (Tree.a (Tree.mk ((0 : Int), ((0 : Int), ((0 : Int), (ByteArray.empty, ())))) [])).2.1
  let x11 := (Tree.a (Tree.mk ((0 : Int), ((0 : Int), ((0 : Int), (ByteArray.empty, ())))) [])).2.2.1
  let x12 := (Tree.a (Tree.mk ((0 : Int), ((0 : Int), ((0 : Int), (ByteArray.empty, ())))) [])).2.2.2.1
  let x13 := (Tree.l (Tree.mk ((0 : Int), ((0 : Int), ((0 : Int), (ByteArray.empty, ())))) []))
  let x14 := (Tree.a (Tree.mk ((0 : Int), ((0 : Int), ((0 : Int), (ByteArray.empty, ())))) [])).2.1
  let x15 := (Tree.a (Tree.mk ((0 : Int), ((0 : Int), ((0 : Int), (ByteArray.empty, ())))) [])).2.2.1
  let x16 := (Tree.l (Tree.mk ((0 : Int), ((0 : Int), ((0 : Int), (ByteArray.empty, ())))) []))
  let x17 := (List.set (List.set (List.replicate 2 (Tree.mk ((0 : Int), ((0 : Int), ((0 : Int), (ByteArray.empty, ())))) [])) 0 (Tree.mk ((3 : Int), (x10, (x11, (x12, ())))) x13)) 1 (Tree.mk ((2 : Int), (x14, (x15, ((⟨#[118]⟩ : ByteArray), ())))) x16))
  let x18 := (Tree.a (Tree.mk ((0 : Int), ((0 : Int), ((0 : Int), (ByteArray.empty, ())))) [])).2.1
  let x19 := (Tree.a (Tree.mk ((0 : Int), ((0 : Int), ((0 : Int), (ByteArray.empty, ())))) [])).2.2.1
  let x20 := (Tree.a (Tree.mk ((0 : Int), ((0 : Int), ((0 : Int), (ByteArray.empty, ())))) [])).2.2.2.1
  let x21 := (Tree.mk ((7 : Int), (x18, (x19, (x20, ())))) x17)
  let x22 := (List.set (List.set (List.set (List.set (List.replicate 4 (ByteArray.empty, ((Tree.mk ((0 : Int), ((0 : Int), ((0 : Int), (ByteArray.empty, ())))) []), ()))) 0 ((⟨#[97]⟩ : ByteArray), (r1.1.1, ()))) 1 ((⟨#[118]⟩ : ByteArray), (r2.1.1, ()))) 2 ((⟨#[100]⟩ : ByteArray), (x9, ()))) 3 ((⟨#[115]⟩ : ByteArray), (x21, ())))
  (F21_0 k k a0 (0 : Int) x22).bind fun r29 =>
  let y30 := r29.2.1
  some ((y30, ()), ())
def sp21 (k : Nat) : Spec := ⟨[.val KD48], [.own KD13], fun x => F21 k x.1⟩
def lim21 : Lim := ⟨47, 1, false, true, []⟩
def cfg21 (k : Nat) : Nat → Option Spec := cfgL [(39, sp39 k), (40, sp40 k), (41, sp41 k), (42, sp42 k)]
theorem cfg21_ok (k : Nat) : CfgOK Try.prog (cfg21 k) := cfgL_cons (v39 k) (cfgL_cons (v40 k) (cfgL_cons (v41 k) (cfgL_cons (v42 k) (cfgL_nil))))
def pl21_0 (k : Nat) : Plan := .go
theorem pq21_0 (k : Nat) : PlanOK Try.prog lim21 (pl21_0 k) (codeAt (bodyOf Try.f21) [.r, .r, .l, .r, .s, .b]) = PlanOK Try.prog lim21 .go (codeAt (bodyOf Try.f21) [.r, .r, .l, .r, .s, .b]) := by kernel_rfl
theorem ps21_0 (k m : Nat) (v : (fr21_0 k).sh.V) : F21_0 k (m + 1) v.1.1 v.1.2.1 v.2.1 = (body Try.prog (stepper Try.prog (cfg21 k) lim21) (pl21_0 k) (codeAt (bodyOf Try.f21) [.r, .r, .l, .r, .s, .b]) ((fr21_0 k).sh.st v) (loopK (fr21_0 k) fun v => F21_0 k m v.1.1 v.1.2.1 v.2.1)).eval := by kernel_rfl
theorem pe21_0 (k m : Nat) (v : (fr21_0 k).sh.V) : (body Try.prog (stepper Try.prog (cfg21 k) lim21) (pl21_0 k) (codeAt (bodyOf Try.f21) [.r, .r, .l, .r, .s, .b]) ((fr21_0 k).sh.st v) (loopK (fr21_0 k) fun v => F21_0 k m v.1.1 v.1.2.1 v.2.1)).left = (body Try.prog (stepper Try.prog (cfg21 k) lim21) (pl21_0 k) (codeAt (bodyOf Try.f21) [.r, .r, .l, .r, .s, .b]) ((fr21_0 k).sh.st v) (loopK (fr21_0 k) fun v => F21_0 k m v.1.1 v.1.2.1 v.2.1)).right := by kernel_rfl
theorem fr21_0_ok (k : Nat) : FragOK Try.prog lim21 (fr21_0 k) (codeAt (bodyOf Try.f21) [.r, .r, .l, .r, .s]) :=
  frag_cast (by kernel_rfl) (loop_ok (cfg21_ok k) (Eq.mpr (pq21_0 k) (planOK_go _)) (fun m v => F21_0 k m v.1.1 v.1.2.1 v.2.1) k (fun _ => rfl) (fun _ => rfl) fun m v => ⟨ps21_0 k m v, pe21_0 k m v⟩)
def pl21 (k : Nat) : Plan := (.seq .go (.seq .go (.seq (.seq .go (.sub (.frag (fr21_0 k)))) .go)))
theorem pq21 (k : Nat) : PlanOK Try.prog lim21 (pl21 k) (codeAt (bodyOf Try.f21) []) = (PlanOK Try.prog lim21 .go (codeAt (bodyOf Try.f21) [.l]) ∧ (PlanOK Try.prog lim21 .go (codeAt (bodyOf Try.f21) [.r, .l]) ∧ ((PlanOK Try.prog lim21 .go (codeAt (bodyOf Try.f21) [.r, .r, .l, .l]) ∧ FragOK Try.prog lim21 (fr21_0 k) (codeAt (bodyOf Try.f21) [.r, .r, .l, .r, .s])) ∧ PlanOK Try.prog lim21 .go (codeAt (bodyOf Try.f21) [.r, .r, .r])))) := by kernel_rfl
theorem ev21 (k : Nat) (x : AT (sp21 k).ps) : (sp21 k).impl x = (fnT Try.prog (cfg21 k) lim21 Try.f21 (bodyOf Try.f21) (pl21 k) (sp21 k) x).eval := by kernel_rfl
theorem eq21 (k : Nat) (x : AT (sp21 k).ps) : (fnT Try.prog (cfg21 k) lim21 Try.f21 (bodyOf Try.f21) (pl21 k) (sp21 k) x).left = (fnT Try.prog (cfg21 k) lim21 Try.f21 (bodyOf Try.f21) (pl21 k) (sp21 k) x).right := by kernel_rfl
theorem v21 (k : Nat) : Callable Try.prog 21 ∧ Valid Try.prog 21 (sp21 k) :=
  fn_ok (cfg21_ok k) (f := 21) (fn := Try.f21) (by kernel_rfl) (c := bodyOf Try.f21) (by kernel_rfl) (by kernel_rfl) rfl rfl (Nat.le_of_ble_eq_true rfl) (Nat.le_of_ble_eq_true rfl) (p := pl21 k) (Eq.mpr (pq21 k) ⟨(planOK_go _), ⟨(planOK_go _), ⟨⟨(planOK_go _), (fr21_0_ok k)⟩, (planOK_go _)⟩⟩⟩) fun x => ⟨ev21 k x, eq21 k x⟩
/-! f27: f27, f45 -/
def rs27 (f27 : (TY51 → Bool → Option TY29)) : Spec := ⟨[.val KD38, .val .bool], [.val KD17], fun x => f27 x.1 x.2.1⟩
def rs45 (f45 : (TY51 → Int → Bool → Option TY29)) : Spec := ⟨[.val KD38, .val (.int .i64), .val .bool], [.val KD17], fun x => f45 x.1 x.2.1 x.2.2.1⟩
/-! f27 (hyphen/hyphenlaw5.Raw).Make -/
def B27 (k : Nat) (f27 : (TY51 → Bool → Option TY29)) (f45 : (TY51 → Int → Bool → Option TY29)) (a0 : TY51) (a1 : Bool) : Option TY29 :=
  (F42 k (Tree.a a0).1 (20 : Int)).bind fun r7 =>
  bif (decide (r7.1.1 < (1 : Int))) then
    let x8 := (Tree.a (Tree.mk ((0 : Int), ((0 : Int), ((0 : Int), ((0 : Int), (ByteArray.empty, ()))))) [])).2.1
    let x9 := (Tree.a (Tree.mk ((0 : Int), ((0 : Int), ((0 : Int), ((0 : Int), (ByteArray.empty, ()))))) [])).2.2.1
    let x10 := (Tree.a (Tree.mk ((0 : Int), ((0 : Int), ((0 : Int), ((0 : Int), (ByteArray.empty, ()))))) [])).2.2.2.1
    let x11 := (Tree.a (Tree.mk ((0 : Int), ((0 : Int), ((0 : Int), ((0 : Int), (ByteArray.empty, ()))))) [])).2.2.2.2.1
    let x12 := (Tree.l (Tree.mk ((0 : Int), ((0 : Int), ((0 : Int), ((0 : Int), (ByteArray.empty, ()))))) []))
    let x13 := (Tree.mk ((1 : Int), (x8, (x9, (x10, (x11, ()))))) x12)
    some ((x13, ()), ())
  else
    bif (decide (r7.1.1 < (6 : Int))) then
      (F40 k).bind fun r14 =>
      (F42 k (Tree.a a0).2.1 (4 : Int)).bind fun r15 =>
      if 0 ≤ r15.1.1 ∧ r15.1.1 < ((List.length r14.1.1 : Nat) : Int) then
        let x16 := (List.getD r14.1.1 (Int.toNat r15.1.1) ByteArray.empty)
        let x17 := (Tree.a (Tree.mk ((0 : Int), ((0 : Int), ((0 : Int), ((0 : Int), (ByteArray.empty, ()))))) [])).2.1
        let x18 := (Tree.a (Tree.mk ((0 : Int), ((0 : Int), ((0 : Int), ((0 : Int), (ByteArray.empty, ()))))) [])).2.2.1
        let x19 := (Tree.a (Tree.mk ((0 : Int), ((0 : Int), ((0 : Int), ((0 : Int), (ByteArray.empty, ()))))) [])).2.2.2.1
        let x20 := (Tree.l (Tree.mk ((0 : Int), ((0 : Int), ((0 : Int), ((0 : Int), (ByteArray.empty, ()))))) []))
        let x21 := (Tree.mk ((2 : Int), (x17, (x18, (x19, (x16, ()))))) x20)
        some ((x21, ()), ())
      else none
    else
      bif (decide (r7.1.1 < (8 : Int))) then
        let x22 := (Tree.a (Tree.mk ((0 : Int), ((0 : Int), ((0 : Int), ((0 : Int), (ByteArray.empty, ()))))) [])).2.1
        let x23 := (Tree.a (Tree.mk ((0 : Int), ((0 : Int), ((0 : Int), ((0 : Int), (ByteArray.empty, ()))))) [])).2.2.1
        let x24 := (Tree.a (Tree.mk ((0 : Int), ((0 : Int), ((0 : Int), ((0 : Int), (ByteArray.empty, ()))))) [])).2.2.2.1
        let x25 := (Tree.a (Tree.mk ((0 : Int), ((0 : Int), ((0 : Int), ((0 : Int), (ByteArray.empty, ()))))) [])).2.2.2.2.1
        let x26 := (Tree.l (Tree.mk ((0 : Int), ((0 : Int), ((0 : Int), ((0 : Int), (ByteArray.empty, ()))))) []))
        let x27 := (Tree.mk ((3 : Int), (x22, (x23, (x24, (x25, ()))))) x26)
        some ((x27, ()), ())
      else
        bif (decide (r7.1.1 < (13 : Int))) then
          let x28 := (Tree.mk ((Tree.a a0).1, ((Tree.a a0).2.1, ())) (Tree.l a0))
          let x29 := (Tree.mk ((Tree.a a0).1, ((Tree.a a0).2.1, ())) (Tree.l a0))
          (f45 x28 (0 : Int) a1).bind fun r30 =>
          (f45 x29 (1 : Int) a1).bind fun r31 =>
          let x32 := (List.set (List.set (List.replicate 2 (Tree.mk ((0 : Int), ((0 : Int), ((0 : Int), ((0 : Int), (ByteArray.empty, ()))))) [])) 0 r30.1.1) 1 r31.1.1)
          let x33 := (Tree.a (Tree.mk ((0 : Int), ((0 : Int), ((0 : Int), ((0 : Int), (ByteArray.empty, ()))))) [])).2.1
          let x34 := (Tree.a (Tree.mk ((0 : Int), ((0 : Int), ((0 : Int), ((0 : Int), (ByteArray.empty, ()))))) [])).2.2.1
          let x35 := (Tree.a (Tree.mk ((0 : Int), ((0 : Int), ((0 : Int), ((0 : Int), (ByteArray.empty, ()))))) [])).2.2.2.1
          let x36 := (Tree.a (Tree.mk ((0 : Int), ((0 : Int), ((0 : Int), ((0 : Int), (ByteArray.empty, ()))))) [])).2.2.2.2.1
          let x37 := (Tree.mk ((4 : Int), (x33, (x34, (x35, (x36, ()))))) x32)
          some ((x37, ()), ())
        else
          bif (decide (r7.1.1 < (15 : Int))) then
            let x38 := (Tree.mk ((Tree.a a0).1, ((Tree.a a0).2.1, ())) (Tree.l a0))
            let x39 := (Tree.mk ((Tree.a a0).1, ((Tree.a a0).2.1, ())) (Tree.l a0))
            (f45 x38 (0 : Int) a1).bind fun r40 =>
            (f45 x39 (1 : Int) a1).bind fun r41 =>
            let x42 := (List.set (List.set (List.replicate 2 (Tree.mk ((0 : Int), ((0 : Int), ((0 : Int), ((0 : Int), (ByteArray.empty, ()))))) [])) 0 r40.1.1) 1 r41.1.1)
            let x43 := (Tree.a (Tree.mk ((0 : Int), ((0 : Int), ((0 : Int), ((0 : Int), (ByteArray.empty, ()))))) [])).2.1
            let x44 := (Tree.a (Tree.mk ((0 : Int), ((0 : Int), ((0 : Int), ((0 : Int), (ByteArray.empty, ()))))) [])).2.2.1
            let x45 := (Tree.a (Tree.mk ((0 : Int), ((0 : Int), ((0 : Int), ((0 : Int), (ByteArray.empty, ()))))) [])).2.2.2.1
            let x46 := (Tree.a (Tree.mk ((0 : Int), ((0 : Int), ((0 : Int), ((0 : Int), (ByteArray.empty, ()))))) [])).2.2.2.2.1
            let x47 := (Tree.mk ((5 : Int), (x43, (x44, (x45, (x46, ()))))) x42)
            some ((x47, ()), ())
          else
            bif (decide (r7.1.1 < (16 : Int))) then
              let x48 := (Tree.mk ((Tree.a a0).1, ((Tree.a a0).2.1, ())) (Tree.l a0))
              (f45 x48 (0 : Int) a1).bind fun r49 =>
              let x50 := (List.set (List.replicate 1 (Tree.mk ((0 : Int), ((0 : Int), ((0 : Int), ((0 : Int), (ByteArray.empty, ()))))) [])) 0 r49.1.1)
              let x51 := (Tree.a (Tree.mk ((0 : Int), ((0 : Int), ((0 : Int), ((0 : Int), (ByteArray.empty, ()))))) [])).2.1
              let x52 := (Tree.a (Tree.mk ((0 : Int), ((0 : Int), ((0 : Int), ((0 : Int), (ByteArray.empty, ()))))) [])).2.2.1
              let x53 := (Tree.a (Tree.mk ((0 : Int), ((0 : Int), ((0 : Int), ((0 : Int), (ByteArray.empty, ()))))) [])).2.2.2.1
              let x54 := (Tree.a (Tree.mk ((0 : Int), ((0 : Int), ((0 : Int), ((0 : Int), (ByteArray.empty, ()))))) [])).2.2.2.2.1
              let x55 := (Tree.mk ((6 : Int), (x51, (x52, (x53, (x54, ()))))) x50)
              some ((x55, ()), ())
            else
              bif (decide (r7.1.1 < (18 : Int))) then
                (F42 k (Tree.a a0).2.1 (3 : Int)).bind fun r56 =>
                let x57 := (Tree.mk ((Tree.a a0).1, ((Tree.a a0).2.1, ())) (Tree.l a0))
                let x58 := (IntKind.wrap .i64 (Int.tdiv (Tree.a a0).2.1 (3 : Int)))
                (f45 x57 (0 : Int) a1).bind fun r59 =>
                let x60 := (List.set (List.replicate 1 (Tree.mk ((0 : Int), ((0 : Int), ((0 : Int), ((0 : Int), (ByteArray.empty, ()))))) [])) 0 r59.1.1)
                (F42 k x58 (3 : Int)).bind fun r61 =>
                let x62 := (Tree.a (Tree.mk ((0 : Int), ((0 : Int), ((0 : Int), ((0 : Int), (ByteArray.empty, ()))))) [])).2.2.2.1
                let x63 := (Tree.a (Tree.mk ((0 : Int), ((0 : Int), ((0 : Int), ((0 : Int), (ByteArray.empty, ()))))) [])).2.2.2.2.1
                let x64 := (Tree.mk ((7 : Int), (r56.1.1, ((IntKind.wrap .i64 (r56.1.1 + r61.1.1)), (x62, (x63, ()))))) x60)
                some ((x64, ()), ())
              else
                bif a1 then
                  let x65 := (Tree.mk ((Tree.a a0).1, ((Tree.a a0).2.1, ())) (Tree.l a0))
                  (f45 x65 (0 : Int) a1).bind fun r66 =>
                  some ((r66.1.1, ()), ())
                else
                  let x67 := (Tree.mk ((Tree.a a0).1, ((Tree.a a0).2.1, ())) (Tree.l a0))
                  (f45 x67 (0 : Int) a1).bind fun r68 =>
                  let x69 := (List.set (List.replicate 1 (Tree.mk ((0 : Int), ((0 : Int), ((0 : Int), ((0 : Int), (ByteArray.empty, ()))))) [])) 0 r68.1.1)
                  (F42 k (Tree.a a0).2.1 (7 : Int)).bind fun r70 =>
                  let x71 := (Tree.a (Tree.mk ((0 : Int), ((0 : Int), ((0 : Int), ((0 : Int), (ByteArray.empty, ()))))) [])).2.1
                  let x72 := (Tree.a (Tree.mk ((0 : Int), ((0 : Int), ((0 : Int), ((0 : Int), (ByteArray.empty, ()))))) [])).2.2.1
                  let x73 := (Tree.a (Tree.mk ((0 : Int), ((0 : Int), ((0 : Int), ((0 : Int), (ByteArray.empty, ()))))) [])).2.2.2.2.1
                  let x74 := (Tree.mk ((8 : Int), (x71, (x72, (r70.1.1, (x73, ()))))) x69)
                  some ((x74, ()), ())
def sb27 (k : Nat) (f27 : (TY51 → Bool → Option TY29)) (f45 : (TY51 → Int → Bool → Option TY29)) : Spec := rs27 (B27 k f27 f45)
def lim27 : Lim := ⟨88, 2, false, false, []⟩
def cfg27 (k : Nat) (f27 : (TY51 → Bool → Option TY29)) (f45 : (TY51 → Int → Bool → Option TY29)) : Nat → Option Spec := cfgL [(40, sp40 k), (42, sp42 k), (45, rs45 f45)]
theorem cfg27_ok (k : Nat) (f27 : (TY51 → Bool → Option TY29)) (f45 : (TY51 → Int → Bool → Option TY29)) (h27 : Callable Try.prog 27 ∧ Valid Try.prog 27 (rs27 f27)) (h45 : Callable Try.prog 45 ∧ Valid Try.prog 45 (rs45 f45)) : CfgOK Try.prog (cfg27 k f27 f45) := cfgL_cons (v40 k) (cfgL_cons (v42 k) (cfgL_cons h45 (cfgL_nil)))
def pl27 (k : Nat) (f27 : (TY51 → Bool → Option TY29)) (f45 : (TY51 → Int → Bool → Option TY29)) : Plan := .go
theorem pq27 (k : Nat) (f27 : (TY51 → Bool → Option TY29)) (f45 : (TY51 → Int → Bool → Option TY29)) : PlanOK Try.prog lim27 (pl27 k f27 f45) (codeAt (bodyOf Try.f27) []) = PlanOK Try.prog lim27 .go (codeAt (bodyOf Try.f27) []) := by kernel_rfl
theorem ev27 (k : Nat) (f27 : (TY51 → Bool → Option TY29)) (f45 : (TY51 → Int → Bool → Option TY29)) (x : AT (sb27 k f27 f45).ps) : (sb27 k f27 f45).impl x = (fnT Try.prog (cfg27 k f27 f45) lim27 Try.f27 (bodyOf Try.f27) (pl27 k f27 f45) (sb27 k f27 f45) x).eval := by kernel_rfl
theorem eq27 (k : Nat) (f27 : (TY51 → Bool → Option TY29)) (f45 : (TY51 → Int → Bool → Option TY29)) (x : AT (sb27 k f27 f45).ps) : (fnT Try.prog (cfg27 k f27 f45) lim27 Try.f27 (bodyOf Try.f27) (pl27 k f27 f45) (sb27 k f27 f45) x).left = (fnT Try.prog (cfg27 k f27 f45) lim27 Try.f27 (bodyOf Try.f27) (pl27 k f27 f45) (sb27 k f27 f45) x).right := by kernel_rfl
theorem b27 (k : Nat) (f27 : (TY51 → Bool → Option TY29)) (f45 : (TY51 → Int → Bool → Option TY29)) (h27 : Callable Try.prog 27 ∧ Valid Try.prog 27 (rs27 f27)) (h45 : Callable Try.prog 45 ∧ Valid Try.prog 45 (rs45 f45)) : Callable Try.prog 27 ∧ Valid Try.prog 27 (sb27 k f27 f45) :=
  fn_ok (cfg27_ok k f27 f45 h27 h45) (f := 27) (fn := Try.f27) (by kernel_rfl) (c := bodyOf Try.f27) (by kernel_rfl) (by kernel_rfl) rfl rfl (Nat.le_of_ble_eq_true rfl) (Nat.le_of_ble_eq_true rfl) (p := pl27 k f27 f45) (Eq.mpr (pq27 k f27 f45) (planOK_go _)) fun x => ⟨ev27 k f27 f45 x, eq27 k f27 f45 x⟩
/-! f45 (hyphen/hyphenlaw5.Raw).part -/
def B45 (k : Nat) (f27 : (TY51 → Bool → Option TY29)) (f45 : (TY51 → Int → Bool → Option TY29)) (a0 : TY51) (a1 : Int) (a2 : Bool) : Option TY29 :=
  let x7 := (decide (a1 < ((List.length (Tree.l a0) : Nat) : Int)))
  bif x7 then
    if 0 ≤ a1 ∧ a1 < ((List.length (Tree.l a0) : Nat) : Int) then
      let x8 := (List.getD (Tree.l a0) (Int.toNat a1) (Tree.mk ((0 : Int), ((0 : Int), ())) []))
      (f27 x8 a2).bind fun r9 =>
      some ((r9.1.1, ()), ())
    else none
  else
    (F40 k).bind fun r10 =>
    (F42 k (IntKind.wrap .i64 ((Tree.a a0).2.1 + a1)) (4 : Int)).bind fun r11 =>
    if 0 ≤ r11.1.1 ∧ r11.1.1 < ((List.length r10.1.1 : Nat) : Int) then
      let x12 := (List.getD r10.1.1 (Int.toNat r11.1.1) ByteArray.empty)
      let x13 := (Tree.a (Tree.mk ((0 : Int), ((0 : Int), ((0 : Int), ((0 : Int), (ByteArray.empty, ()))))) [])).2.1
      let x14 := (Tree.a (Tree.mk ((0 : Int), ((0 : Int), ((0 : Int), ((0 : Int), (ByteArray.empty, ()))))) [])).2.2.1
      let x15 := (Tree.a (Tree.mk ((0 : Int), ((0 : Int), ((0 : Int), ((0 : Int), (ByteArray.empty, ()))))) [])).2.2.2.1
      let x16 := (Tree.l (Tree.mk ((0 : Int), ((0 : Int), ((0 : Int), ((0 : Int), (ByteArray.empty, ()))))) []))
      let x17 := (Tree.mk ((2 : Int), (x13, (x14, (x15, (x12, ()))))) x16)
      some ((x17, ()), ())
    else none
def sb45 (k : Nat) (f27 : (TY51 → Bool → Option TY29)) (f45 : (TY51 → Int → Bool → Option TY29)) : Spec := rs45 (B45 k f27 f45)
def lim45 : Lim := ⟨28, 3, false, false, []⟩
def cfg45 (k : Nat) (f27 : (TY51 → Bool → Option TY29)) (f45 : (TY51 → Int → Bool → Option TY29)) : Nat → Option Spec := cfgL [(27, rs27 f27), (40, sp40 k), (42, sp42 k)]
theorem cfg45_ok (k : Nat) (f27 : (TY51 → Bool → Option TY29)) (f45 : (TY51 → Int → Bool → Option TY29)) (h27 : Callable Try.prog 27 ∧ Valid Try.prog 27 (rs27 f27)) (h45 : Callable Try.prog 45 ∧ Valid Try.prog 45 (rs45 f45)) : CfgOK Try.prog (cfg45 k f27 f45) := cfgL_cons h27 (cfgL_cons (v40 k) (cfgL_cons (v42 k) (cfgL_nil)))
def pl45 (k : Nat) (f27 : (TY51 → Bool → Option TY29)) (f45 : (TY51 → Int → Bool → Option TY29)) : Plan := .go
theorem pq45 (k : Nat) (f27 : (TY51 → Bool → Option TY29)) (f45 : (TY51 → Int → Bool → Option TY29)) : PlanOK Try.prog lim45 (pl45 k f27 f45) (codeAt (bodyOf Try.f45) []) = PlanOK Try.prog lim45 .go (codeAt (bodyOf Try.f45) []) := by kernel_rfl
theorem ev45 (k : Nat) (f27 : (TY51 → Bool → Option TY29)) (f45 : (TY51 → Int → Bool → Option TY29)) (x : AT (sb45 k f27 f45).ps) : (sb45 k f27 f45).impl x = (fnT Try.prog (cfg45 k f27 f45) lim45 Try.f45 (bodyOf Try.f45) (pl45 k f27 f45) (sb45 k f27 f45) x).eval := by kernel_rfl
theorem eq45 (k : Nat) (f27 : (TY51 → Bool → Option TY29)) (f45 : (TY51 → Int → Bool → Option TY29)) (x : AT (sb45 k f27 f45).ps) : (fnT Try.prog (cfg45 k f27 f45) lim45 Try.f45 (bodyOf Try.f45) (pl45 k f27 f45) (sb45 k f27 f45) x).left = (fnT Try.prog (cfg45 k f27 f45) lim45 Try.f45 (bodyOf Try.f45) (pl45 k f27 f45) (sb45 k f27 f45) x).right := by kernel_rfl
theorem b45 (k : Nat) (f27 : (TY51 → Bool → Option TY29)) (f45 : (TY51 → Int → Bool → Option TY29)) (h27 : Callable Try.prog 27 ∧ Valid Try.prog 27 (rs27 f27)) (h45 : Callable Try.prog 45 ∧ Valid Try.prog 45 (rs45 f45)) : Callable Try.prog 45 ∧ Valid Try.prog 45 (sb45 k f27 f45) :=
  fn_ok (cfg45_ok k f27 f45 h27 h45) (f := 45) (fn := Try.f45) (by kernel_rfl) (c := bodyOf Try.f45) (by kernel_rfl) (by kernel_rfl) rfl rfl (Nat.le_of_ble_eq_true rfl) (Nat.le_of_ble_eq_true rfl) (p := pl45 k f27 f45) (Eq.mpr (pq45 k f27 f45) (planOK_go _)) fun x => ⟨ev45 k f27 f45 x, eq45 k f27 f45 x⟩
def R27 : Nat → (TY51 → Bool → Option TY29) × (TY51 → Int → Bool → Option TY29)
  | 0 => (fun _ _ => none, fun _ _ _ => none)
  | k + 1 => (B27 k (R27 k).1 (R27 k).2, B45 k (R27 k).1 (R27 k).2)
def F27 (k : Nat) (a0_ : TY51) (a1_ : Bool) : Option TY29 := (R27 k).1 a0_ a1_
def sp27 (k : Nat) : Spec := ⟨[.val KD38, .val .bool], [.val KD17], fun x => F27 k x.1 x.2.1⟩
def F45 (k : Nat) (a0_ : TY51) (a1_ : Int) (a2_ : Bool) : Option TY29 := (R27 k).2 a0_ a1_ a2_
def sp45 (k : Nat) : Spec := ⟨[.val KD38, .val (.int .i64), .val .bool], [.val KD17], fun x => F45 k x.1 x.2.1 x.2.2.1⟩
theorem r27 (k : Nat) : (Callable Try.prog 27 ∧ Valid Try.prog 27 (rs27 (R27 k).1)) ∧ (Callable Try.prog 45 ∧ Valid Try.prog 45 (rs45 (R27 k).2)) := by
  induction k with
  | zero => exact ⟨⟨⟨Try.f27, by kernel_rfl, by kernel_rfl, by kernel_rfl⟩, fun x r h => by cases (show (none : Option _) = some r from h)⟩, ⟨⟨Try.f45, by kernel_rfl, by kernel_rfl, by kernel_rfl⟩, fun x r h => by cases (show (none : Option _) = some r from h)⟩⟩
  | succ k ih => exact ⟨b27 k (R27 k).1 (R27 k).2 ih.1 ih.2, b45 k (R27 k).1 (R27 k).2 ih.1 ih.2⟩
theorem v27 (k : Nat) : Callable Try.prog 27 ∧ Valid Try.prog 27 (sp27 k) := (r27 k).1
theorem v45 (k : Nat) : Callable Try.prog 45 ∧ Valid Try.prog 45 (sp45 k) := (r27 k).2
/-! f43: f43 -/
def rs43 (f43 : (TY37 → Option TY56)) : Spec := ⟨[.val KD17], [.val (.int .i64)], fun x => f43 x.1⟩
/-! f43 hyphen/hyphenref7.Size -/
def F43_0 (k : Nat) (f43 : (TY37 → Option TY56)) : Nat → Int → Int → TY15 → Option (((Int × Unit) × (TY15 × Unit)))
  | 0, _, _, _ => none
  | n + 1, t3, t4, c1 =>
    let x5 := (decide (t4 < ((List.length c1.2.2.2.2.2.1 : Nat) : Int)))
    bif x5 then
      if 0 ≤ t4 ∧ t4 < ((List.length c1.2.2.2.2.2.1 : Nat) : Int) then
        let x6 := (List.getD c1.2.2.2.2.2.1 (Int.toNat t4) (Tree.mk ((0 : Int), ((0 : Int), ((0 : Int), ((0 : Int), (ByteArray.empty, ()))))) []))
        (f43 x6).bind fun r7 =>
        let x8 := (minI (IntKind.wrap .i64 (t3 + r7.1.1)) (1000000000 : Int))
        (F43_0 k f43 n x8 (IntKind.wrap .i64 (t4 + (1 : Int))) c1).bind some
      else none
    else
      some ((t3, ()), (c1, ()))
def fr43_0 (k : Nat) (f43 : (TY37 → Option TY56)) : Frag := ⟨⟨[], [(1, .ptr 1 []), (3, .val (.int .i64)), (4, .val (.int .i64))], [(1, some 49, KD9)]⟩, [(.exit 1, ⟨[], [(1, .ptr 1 []), (3, .val (.int .i64))], [(1, some 49, KD9)]⟩)], fun v => F43_0 k f43 k v.1.1 v.1.2.1 v.2.1⟩
def B43 (k : Nat) (f43 : (TY37 → Option TY56)) (a0 : TY37) : Option TY56 :=
  bif ((Tree.a a0).1 == (1 : Int)) then
    some (((0 : Int), ()), ())
  else
    bif ((Tree.a a0).1 == (2 : Int)) then
      some (((1 : Int), ()), ())
    else
      bif ((Tree.a a0).1 == (3 : Int)) then
        some (((1 : Int), ()), ())
      else
        (F43_0 k f43 k (0 : Int) (0 : Int) ((Tree.a a0).1, ((Tree.a a0).2.1, ((Tree.a a0).2.2.1, ((Tree.a a0).2.2.2.1, ((Tree.a a0).2.2.2.2.1, ((Tree.l a0), ()))))))).bind fun r9 =>
        let y10 := r9.1.1
        let y11 := r9.2.1
        bif (y11.1 == (7 : Int)) then
          let x12 := (minI (IntKind.wrap .i64 (y10 * y11.2.2.1)) (1000000000 : Int))
          some ((x12, ()), ())
        else
          some ((y10, ()), ())
def sb43 (k : Nat) (f43 : (TY37 → Option TY56)) : Spec := rs43 (B43 k f43)
def lim43 : Lim := ⟨37, 1, false, false, []⟩
def cfg43 (k : Nat) (f43 : (TY37 → Option TY56)) : Nat → Option Spec := cfgL [(43, rs43 f43)]
theorem cfg43_ok (k : Nat) (f43 : (TY37 → Option TY56)) (h43 : Callable Try.prog 43 ∧ Valid Try.prog 43 (rs43 f43)) : CfgOK Try.prog (cfg43 k f43) := cfgL_cons h43 (cfgL_nil)
def pl43_0 (k : Nat) (f43 : (TY37 → Option TY56)) : Plan := .go
theorem pq43_0 (k : Nat) (f43 : (TY37 → Option TY56)) : PlanOK Try.prog lim43 (pl43_0 k f43) (codeAt (bodyOf Try.f43) [.r, .r, .r, .l, .r, .s, .b]) = PlanOK Try.prog lim43 .go (codeAt (bodyOf Try.f43) [.r, .r, .r, .l, .r, .s, .b]) := by kernel_rfl
theorem ps43_0 (k : Nat) (f43 : (TY37 → Option TY56)) (m : Nat) (v : (fr43_0 k f43).sh.V) : F43_0 k f43 (m + 1) v.1.1 v.1.2.1 v.2.1 = (body Try.prog (stepper Try.prog (cfg43 k f43) lim43) (pl43_0 k f43) (codeAt (bodyOf Try.f43) [.r, .r, .r, .l, .r, .s, .b]) ((fr43_0 k f43).sh.st v) (loopK (fr43_0 k f43) fun v => F43_0 k f43 m v.1.1 v.1.2.1 v.2.1)).eval := by kernel_rfl
theorem pe43_0 (k : Nat) (f43 : (TY37 → Option TY56)) (m : Nat) (v : (fr43_0 k f43).sh.V) : (body Try.prog (stepper Try.prog (cfg43 k f43) lim43) (pl43_0 k f43) (codeAt (bodyOf Try.f43) [.r, .r, .r, .l, .r, .s, .b]) ((fr43_0 k f43).sh.st v) (loopK (fr43_0 k f43) fun v => F43_0 k f43 m v.1.1 v.1.2.1 v.2.1)).left = (body Try.prog (stepper Try.prog (cfg43 k f43) lim43) (pl43_0 k f43) (codeAt (bodyOf Try.f43) [.r, .r, .r, .l, .r, .s, .b]) ((fr43_0 k f43).sh.st v) (loopK (fr43_0 k f43) fun v => F43_0 k f43 m v.1.1 v.1.2.1 v.2.1)).right := by kernel_rfl
theorem fr43_0_ok (k : Nat) (f43 : (TY37 → Option TY56)) (h43 : Callable Try.prog 43 ∧ Valid Try.prog 43 (rs43 f43)) : FragOK Try.prog lim43 (fr43_0 k f43) (codeAt (bodyOf Try.f43) [.r, .r, .r, .l, .r, .s]) :=
  frag_cast (by kernel_rfl) (loop_ok (cfg43_ok k f43 h43) (Eq.mpr (pq43_0 k f43) (planOK_go _)) (fun m v => F43_0 k f43 m v.1.1 v.1.2.1 v.2.1) k (fun _ => rfl) (fun _ => rfl) fun m v => ⟨ps43_0 k f43 m v, pe43_0 k f43 m v⟩)
def pl43 (k : Nat) (f43 : (TY37 → Option TY56)) : Plan := (.seq .go (.seq .go (.seq .go (.seq (.seq .go (.sub (.frag (fr43_0 k f43)))) .go))))
theorem pq43 (k : Nat) (f43 : (TY37 → Option TY56)) : PlanOK Try.prog lim43 (pl43 k f43) (codeAt (bodyOf Try.f43) []) = (PlanOK Try.prog lim43 .go (codeAt (bodyOf Try.f43) [.l]) ∧ (PlanOK Try.prog lim43 .go (codeAt (bodyOf Try.f43) [.r, .l]) ∧ (PlanOK Try.prog lim43 .go (codeAt (bodyOf Try.f43) [.r, .r, .l]) ∧ ((PlanOK Try.prog lim43 .go (codeAt (bodyOf Try.f43) [.r, .r, .r, .l, .l]) ∧ FragOK Try.prog lim43 (fr43_0 k f43) (codeAt (bodyOf Try.f43) [.r, .r, .r, .l, .r, .s])) ∧ PlanOK Try.prog lim43 .go (codeAt (bodyOf Try.f43) [.r, .r, .r, .r]))))) := by kernel_rfl
theorem ev43 (k : Nat) (f43 : (TY37 → Option TY56)) (x : AT (sb43 k f43).ps) : (sb43 k f43).impl x = (fnT Try.prog (cfg43 k f43) lim43 Try.f43 (bodyOf Try.f43) (pl43 k f43) (sb43 k f43) x).eval := by kernel_rfl
theorem eq43 (k : Nat) (f43 : (TY37 → Option TY56)) (x : AT (sb43 k f43).ps) : (fnT Try.prog (cfg43 k f43) lim43 Try.f43 (bodyOf Try.f43) (pl43 k f43) (sb43 k f43) x).left = (fnT Try.prog (cfg43 k f43) lim43 Try.f43 (bodyOf Try.f43) (pl43 k f43) (sb43 k f43) x).right := by kernel_rfl
theorem b43 (k : Nat) (f43 : (TY37 → Option TY56)) (h43 : Callable Try.prog 43 ∧ Valid Try.prog 43 (rs43 f43)) : Callable Try.prog 43 ∧ Valid Try.prog 43 (sb43 k f43) :=
  fn_ok (cfg43_ok k f43 h43) (f := 43) (fn := Try.f43) (by kernel_rfl) (c := bodyOf Try.f43) (by kernel_rfl) (by kernel_rfl) rfl rfl (Nat.le_of_ble_eq_true rfl) (Nat.le_of_ble_eq_true rfl) (p := pl43 k f43) (Eq.mpr (pq43 k f43) ⟨(planOK_go _), ⟨(planOK_go _), ⟨(planOK_go _), ⟨⟨(planOK_go _), (fr43_0_ok k f43 h43)⟩, (planOK_go _)⟩⟩⟩⟩) fun x => ⟨ev43 k f43 x, eq43 k f43 x⟩
def R43 : Nat → (TY37 → Option TY56)
  | 0 => fun _ => none
  | k + 1 => B43 k (R43 k)
def F43 (k : Nat) (a0_ : TY37) : Option TY56 := (R43 k) a0_
def sp43 (k : Nat) : Spec := ⟨[.val KD17], [.val (.int .i64)], fun x => F43 k x.1⟩
theorem r43 (k : Nat) : (Callable Try.prog 43 ∧ Valid Try.prog 43 (rs43 (R43 k))) := by
  induction k with
  | zero => exact ⟨⟨Try.f43, by kernel_rfl, by kernel_rfl, by kernel_rfl⟩, fun x r h => by cases (show (none : Option _) = some r from h)⟩
  | succ k ih => exact b43 k (R43 k) ih
theorem v43 (k : Nat) : Callable Try.prog 43 ∧ Valid Try.prog 43 (sp43 k) := (r43 k)
/-! f54 hyphen/hyphenref7.empty -/
def F54_0 (k : Nat) : Nat → Int → Int → TY20 → TY20 → Option TY8
  | 0, _, _, _, _ => none
  | n + 1, t0, t4, c2, c3 =>
    bif (decide (t4 < t0)) then
      let x4 := (List.set (List.replicate 1 (0 : Int)) 0 (0 : Int))
      if (List.length c3.1 + List.length x4) * (8 * 2) ≤ 281474976710656 ∧ List.length c3.1 + List.length x4 ≤ 9223372036854775807 then
        let x5 := (List.set (List.replicate 1 (0 : Int)) 0 (1152921504606846976 : Int))
        if (List.length c3.2.1 + List.length x5) * (8 * 2) ≤ 281474976710656 ∧ List.length c3.2.1 + List.length x5 ≤ 9223372036854775807 then
          let x6 := (List.set (List.replicate 1 (0 : Int)) 0 (1152921504606846976 : Int))
          if (List.length c3.2.2.1 + List.length x6) * (8 * 2) ≤ 281474976710656 ∧ List.length c3.2.2.1 + List.length x6 ≤ 9223372036854775807 then
            (F54_0 k n t0 (IntKind.wrap .i64 (t4 + (1 : Int))) c2 ((c3.1 ++ x4), ((c3.2.1 ++ x5), ((c3.2.2.1 ++ x6), c3.2.2.2)))).bind some
          else none
        else none
      else none
    else
      some ((), (c2, c3, ()))
def fr54_0 (k : Nat) : Frag := ⟨⟨[], [(0, .val (.int .i64)), (2, .ptr 2 []), (3, .ptr 3 []), (4, .val (.int .i64))], [(2, some 28, KD6), (3, some 28, KD6)]⟩, [(.exit 0, ⟨[], [(2, .ptr 2 []), (3, .ptr 3 [])], [(2, some 28, KD6), (3, some 28, KD6)]⟩)], fun v => F54_0 k k v.1.1 v.1.2.1 v.2.1 v.2.2.1⟩
def F54 (k : Nat) (a0 : Int) : Option TY16 :=
  (F54_0 k k a0 (0 : Int) (([] : (List Int)), (([] : (List Int)), (([] : (List Int)), (([] : TY45), ((0 : Int), ()))))) (([] : (List Int)), (([] : (List Int)), (([] : (List Int)), (([] : TY45), ((1152921504606846976 : Int), ())))))).bind fun r7 =>
  let y9 := r7.2.2.1
  some ((y9, ()), ())
def sp54 (k : Nat) : Spec := ⟨[.val (.int .i64)], [.own KD6], fun x => F54 k x.1⟩
def lim54 : Lim := ⟨27, 1, false, false, []⟩
def cfg54 (k : Nat) : Nat → Option Spec := cfgL []
theorem cfg54_ok (k : Nat) : CfgOK Try.prog (cfg54 k) := cfgL_nil
def pl54_0 (k : Nat) : Plan := .go
theorem pq54_0 (k : Nat) : PlanOK Try.prog lim54 (pl54_0 k) (codeAt (bodyOf Try.f54) [.r, .r, .l, .r, .s, .b]) = PlanOK Try.prog lim54 .go (codeAt (bodyOf Try.f54) [.r, .r, .l, .r, .s, .b]) := by kernel_rfl
theorem ps54_0 (k m : Nat) (v : (fr54_0 k).sh.V) : F54_0 k (m + 1) v.1.1 v.1.2.1 v.2.1 v.2.2.1 = (body Try.prog (stepper Try.prog (cfg54 k) lim54) (pl54_0 k) (codeAt (bodyOf Try.f54) [.r, .r, .l, .r, .s, .b]) ((fr54_0 k).sh.st v) (loopK (fr54_0 k) fun v => F54_0 k m v.1.1 v.1.2.1 v.2.1 v.2.2.1)).eval := by kernel_rfl
theorem pe54_0 (k m : Nat) (v : (fr54_0 k).sh.V) : (body Try.prog (stepper Try.prog (cfg54 k) lim54) (pl54_0 k) (codeAt (bodyOf Try.f54) [.r, .r, .l, .r, .s, .b]) ((fr54_0 k).sh.st v) (loopK (fr54_0 k) fun v => F54_0 k m v.1.1 v.1.2.1 v.2.1 v.2.2.1)).left = (body Try.prog (stepper Try.prog (cfg54 k) lim54) (pl54_0 k) (codeAt (bodyOf Try.f54) [.r, .r, .l, .r, .s, .b]) ((fr54_0 k).sh.st v) (loopK (fr54_0 k) fun v => F54_0 k m v.1.1 v.1.2.1 v.2.1 v.2.2.1)).right := by kernel_rfl
theorem fr54_0_ok (k : Nat) : FragOK Try.prog lim54 (fr54_0 k) (codeAt (bodyOf Try.f54) [.r, .r, .l, .r, .s]) :=
  frag_cast (by kernel_rfl) (loop_ok (cfg54_ok k) (Eq.mpr (pq54_0 k) (planOK_go _)) (fun m v => F54_0 k m v.1.1 v.1.2.1 v.2.1 v.2.2.1) k (fun _ => rfl) (fun _ => rfl) fun m v => ⟨ps54_0 k m v, pe54_0 k m v⟩)
def pl54 (k : Nat) : Plan := (.seq .go (.seq .go (.seq (.seq .go (.sub (.frag (fr54_0 k)))) .go)))
theorem pq54 (k : Nat) : PlanOK Try.prog lim54 (pl54 k) (codeAt (bodyOf Try.f54) []) = (PlanOK Try.prog lim54 .go (codeAt (bodyOf Try.f54) [.l]) ∧ (PlanOK Try.prog lim54 .go (codeAt (bodyOf Try.f54) [.r, .l]) ∧ ((PlanOK Try.prog lim54 .go (codeAt (bodyOf Try.f54) [.r, .r, .l, .l]) ∧ FragOK Try.prog lim54 (fr54_0 k) (codeAt (bodyOf Try.f54) [.r, .r, .l, .r, .s])) ∧ PlanOK Try.prog lim54 .go (codeAt (bodyOf Try.f54) [.r, .r, .r])))) := by kernel_rfl
theorem ev54 (k : Nat) (x : AT (sp54 k).ps) : (sp54 k).impl x = (fnT Try.prog (cfg54 k) lim54 Try.f54 (bodyOf Try.f54) (pl54 k) (sp54 k) x).eval := by kernel_rfl
theorem eq54 (k : Nat) (x : AT (sp54 k).ps) : (fnT Try.prog (cfg54 k) lim54 Try.f54 (bodyOf Try.f54) (pl54 k) (sp54 k) x).left = (fnT Try.prog (cfg54 k) lim54 Try.f54 (bodyOf Try.f54) (pl54 k) (sp54 k) x).right := by kernel_rfl
theorem v54 (k : Nat) : Callable Try.prog 54 ∧ Valid Try.prog 54 (sp54 k) :=
  fn_ok (cfg54_ok k) (f := 54) (fn := Try.f54) (by kernel_rfl) (c := bodyOf Try.f54) (by kernel_rfl) (by kernel_rfl) rfl rfl (Nat.le_of_ble_eq_true rfl) (Nat.le_of_ble_eq_true rfl) (p := pl54 k) (Eq.mpr (pq54 k) ⟨(planOK_go _), ⟨(planOK_go _), ⟨⟨(planOK_go _), (fr54_0_ok k)⟩, (planOK_go _)⟩⟩⟩) fun x => ⟨ev54 k x, eq54 k x⟩
/-! f53 hyphen/hyphenref7.nothing -/
def F53 (k : Nat) : Option TY16 :=
  (F54 k (0 : Int)).bind fun r1 =>
  some (((r1.1.1.1, (r1.1.1.2.1, (r1.1.1.2.2.1, (r1.1.1.2.2.2.1, ((0 : Int), r1.1.1.2.2.2.2.2))))), ()), ())
def sp53 (k : Nat) : Spec := ⟨[], [.own KD6], fun x => F53 k⟩
def lim53 : Lim := ⟨5, 0, false, false, []⟩
def cfg53 (k : Nat) : Nat → Option Spec := cfgL [(54, sp54 k)]
theorem cfg53_ok (k : Nat) : CfgOK Try.prog (cfg53 k) := cfgL_cons (v54 k) (cfgL_nil)
def pl53 (k : Nat) : Plan := .go
theorem pq53 (k : Nat) : PlanOK Try.prog lim53 (pl53 k) (codeAt (bodyOf Try.f53) []) = PlanOK Try.prog lim53 .go (codeAt (bodyOf Try.f53) []) := by kernel_rfl
theorem ev53 (k : Nat) (x : AT (sp53 k).ps) : (sp53 k).impl x = (fnT Try.prog (cfg53 k) lim53 Try.f53 (bodyOf Try.f53) (pl53 k) (sp53 k) x).eval := by kernel_rfl
theorem eq53 (k : Nat) (x : AT (sp53 k).ps) : (fnT Try.prog (cfg53 k) lim53 Try.f53 (bodyOf Try.f53) (pl53 k) (sp53 k) x).left = (fnT Try.prog (cfg53 k) lim53 Try.f53 (bodyOf Try.f53) (pl53 k) (sp53 k) x).right := by kernel_rfl
theorem v53 (k : Nat) : Callable Try.prog 53 ∧ Valid Try.prog 53 (sp53 k) :=
  fn_ok (cfg53_ok k) (f := 53) (fn := Try.f53) (by kernel_rfl) (c := bodyOf Try.f53) (by kernel_rfl) (by kernel_rfl) rfl rfl (Nat.le_of_ble_eq_true rfl) (Nat.le_of_ble_eq_true rfl) (p := pl53 k) (Eq.mpr (pq53 k) (planOK_go _)) fun x => ⟨ev53 k x, eq53 k x⟩
/-! f55 hyphen/hyphenref5.Find -/
def F55_0 (k : Nat) : Nat → ByteArray → Int → TY3 → Option ((Unit × Unit) ⊕ TY56)
  | 0, _, _, _ => none
  | n + 1, t1, t5, c2 =>
    let x4 := (decide (t5 < ((List.length c2.1 : Nat) : Int)))
    bif x4 then
      if 0 ≤ t5 ∧ t5 < ((List.length c2.1 : Nat) : Int) then
        let x5 := (List.getD c2.1 (Int.toNat t5) (ByteArray.empty, ((Tree.mk ((0 : Int), ((0 : Int), ((0 : Int), (ByteArray.empty, ())))) []), ())))
        let x6 := (ByteArray.toList x5.1 == ByteArray.toList t1)
        bif x6 then
          some (.inr ((t5, ()), ()))
        else
          (F55_0 k n t1 (IntKind.wrap .i64 (t5 + (1 : Int))) c2).bind some
      else none
    else
      some (.inl ((), ()))
def fr55_0 (k : Nat) : Frag := ⟨⟨[], [(1, .val .str), (2, .ptr 2 []), (5, .val (.int .i64))], [(2, some 54, KD0)]⟩, [(.exit 0, ⟨[], [], []⟩), (.ret, ⟨[], [(4, .val (.int .i64))], []⟩)], fun v => F55_0 k k v.1.1 v.1.2.1 v.2.1⟩
def F55 (k : Nat) (a0 : TY3) (a1 : ByteArray) : Option TY56 :=
  (F55_0 k k a1 (0 : Int) a0).bind fun r7 =>
  match r7 with
  | .inl r8 =>
    some (((-1 : Int), ()), ())
  | .inr r8 =>
    let y9 := r8.1.1
    some ((y9, ()), ())
def sp55 (k : Nat) : Spec := ⟨[.val KD0, .val .str], [.val (.int .i64)], fun x => F55 k x.1 x.2.1⟩
def lim55 : Lim := ⟨22, 2, false, false, []⟩
def cfg55 (k : Nat) : Nat → Option Spec := cfgL []
theorem cfg55_ok (k : Nat) : CfgOK Try.prog (cfg55 k) := cfgL_nil
def pl55_0 (k : Nat) : Plan := .go
theorem pq55_0 (k : Nat) : PlanOK Try.prog lim55 (pl55_0 k) (codeAt (bodyOf Try.f55) [.r, .l, .r, .s, .b]) = PlanOK Try.prog lim55 .go (codeAt (bodyOf Try.f55) [.r, .l, .r, .s, .b]) := by kernel_rfl
theorem ps55_0 (k m : Nat) (v : (fr55_0 k).sh.V) : F55_0 k (m + 1) v.1.1 v.1.2.1 v.2.1 = (body Try.prog (stepper Try.prog (cfg55 k) lim55) (pl55_0 k) (codeAt (bodyOf Try.f55) [.r, .l, .r, .s, .b]) ((fr55_0 k).sh.st v) (loopK (fr55_0 k) fun v => F55_0 k m v.1.1 v.1.2.1 v.2.1)).eval := by kernel_rfl
theorem pe55_0 (k m : Nat) (v : (fr55_0 k).sh.V) : (body Try.prog (stepper Try.prog (cfg55 k) lim55) (pl55_0 k) (codeAt (bodyOf Try.f55) [.r, .l, .r, .s, .b]) ((fr55_0 k).sh.st v) (loopK (fr55_0 k) fun v => F55_0 k m v.1.1 v.1.2.1 v.2.1)).left = (body Try.prog (stepper Try.prog (cfg55 k) lim55) (pl55_0 k) (codeAt (bodyOf Try.f55) [.r, .l, .r, .s, .b]) ((fr55_0 k).sh.st v) (loopK (fr55_0 k) fun v => F55_0 k m v.1.1 v.1.2.1 v.2.1)).right := by kernel_rfl
theorem fr55_0_ok (k : Nat) : FragOK Try.prog lim55 (fr55_0 k) (codeAt (bodyOf Try.f55) [.r, .l, .r, .s]) :=
  frag_cast (by kernel_rfl) (loop_ok (cfg55_ok k) (Eq.mpr (pq55_0 k) (planOK_go _)) (fun m v => F55_0 k m v.1.1 v.1.2.1 v.2.1) k (fun _ => rfl) (fun _ => rfl) fun m v => ⟨ps55_0 k m v, pe55_0 k m v⟩)
def pl55 (k : Nat) : Plan := (.seq .go (.seq (.seq .go (.sub (.frag (fr55_0 k)))) .go))
theorem pq55 (k : Nat) : PlanOK Try.prog lim55 (pl55 k) (codeAt (bodyOf Try.f55) []) = (PlanOK Try.prog lim55 .go (codeAt (bodyOf Try.f55) [.l]) ∧ ((PlanOK Try.prog lim55 .go (codeAt (bodyOf Try.f55) [.r, .l, .l]) ∧ FragOK Try.prog lim55 (fr55_0 k) (codeAt (bodyOf Try.f55) [.r, .l, .r, .s])) ∧ PlanOK Try.prog lim55 .go (codeAt (bodyOf Try.f55) [.r, .r]))) := by kernel_rfl
theorem ev55 (k : Nat) (x : AT (sp55 k).ps) : (sp55 k).impl x = (fnT Try.prog (cfg55 k) lim55 Try.f55 (bodyOf Try.f55) (pl55 k) (sp55 k) x).eval := by kernel_rfl
theorem eq55 (k : Nat) (x : AT (sp55 k).ps) : (fnT Try.prog (cfg55 k) lim55 Try.f55 (bodyOf Try.f55) (pl55 k) (sp55 k) x).left = (fnT Try.prog (cfg55 k) lim55 Try.f55 (bodyOf Try.f55) (pl55 k) (sp55 k) x).right := by kernel_rfl
theorem v55 (k : Nat) : Callable Try.prog 55 ∧ Valid Try.prog 55 (sp55 k) :=
  fn_ok (cfg55_ok k) (f := 55) (fn := Try.f55) (by kernel_rfl) (c := bodyOf Try.f55) (by kernel_rfl) (by kernel_rfl) rfl rfl (Nat.le_of_ble_eq_true rfl) (Nat.le_of_ble_eq_true rfl) (p := pl55 k) (Eq.mpr (pq55 k) ⟨(planOK_go _), ⟨⟨(planOK_go _), (fr55_0_ok k)⟩, (planOK_go _)⟩⟩) fun x => ⟨ev55 k x, eq55 k x⟩
/-! f64 hyphen/hyphenref7.joined -/
def F64_0 (k : Nat) : Nat → Int → Int → TY20 → TY20 → TY20 → TY20 → Option TY1
  | 0, _, _, _, _, _, _ => none
  | n + 1, t5, t7, c2, c3, c4, c6 =>
    bif (decide (t7 < t5)) then
      if 0 ≤ t7 ∧ t7 < ((List.length c2.1 : Nat) : Int) then
        if 0 ≤ t7 ∧ t7 < ((List.length c6.1 : Nat) : Int) then
          let x4 := (List.set c6.1 (Int.toNat t7) (List.getD c2.1 (Int.toNat t7) (0 : Int)))
          (F64_0 k n t5 (IntKind.wrap .i64 (t7 + (1 : Int))) c2 c3 c4 (x4, c6.2)).bind some
        else none
      else none
    else
      some ((t5, ()), (c2, c3, c4, c6, ()))
def fr64_0 (k : Nat) : Frag := ⟨⟨[], [(2, .ptr 2 []), (3, .ptr 3 []), (4, .ptr 4 []), (5, .val (.int .i64)), (6, .ptr 6 []), (7, .val (.int .i64))], [(2, some 28, KD5), (3, some 28, KD5), (4, some 28, KD6), (6, some 28, KD6)]⟩, [(.exit 0, ⟨[], [(2, .ptr 2 []), (3, .ptr 3 []), (4, .ptr 4 []), (5, .val (.int .i64)), (6, .ptr 6 [])], [(2, some 28, KD5), (3, some 28, KD5), (4, some 28, KD6), (6, some 28, KD6)]⟩)], fun v => F64_0 k k v.1.1 v.1.2.1 v.2.1 v.2.2.1 v.2.2.2.1 v.2.2.2.2.1⟩
def F64_1 (k : Nat) : Nat → Int → Int → TY20 → TY20 → TY20 → TY20 → Option TY1
  | 0, _, _, _, _, _, _ => none
  | n + 1, t5, t8, c2, c3, c4, c6 =>
    let x14 := (decide (t8 < ((List.length c3.1 : Nat) : Int)))
    bif x14 then
      if 0 ≤ t8 ∧ t8 < ((List.length c3.1 : Nat) : Int) then
        if 0 ≤ (IntKind.wrap .i64 (t5 + t8)) ∧ (IntKind.wrap .i64 (t5 + t8)) < ((List.length c6.1 : Nat) : Int) then
          let x15 := (Int.toNat (IntKind.wrap .i64 (t5 + t8)))
          let x16 := (List.set c6.1 x15 (List.getD c3.1 (Int.toNat t8) (0 : Int)))
          (F64_1 k n t5 (IntKind.wrap .i64 (t8 + (1 : Int))) c2 c3 c4 (x16, c6.2)).bind some
        else none
      else none
    else
      some ((t5, ()), (c2, c3, c4, c6, ()))
def fr64_1 (k : Nat) : Frag := ⟨⟨[], [(2, .ptr 2 []), (3, .ptr 3 []), (4, .ptr 4 []), (5, .val (.int .i64)), (6, .ptr 6 []), (8, .val (.int .i64))], [(2, some 28, KD5), (3, some 28, KD5), (4, some 28, KD6), (6, some 28, KD6)]⟩, [(.exit 2, ⟨[], [(2, .ptr 2 []), (3, .ptr 3 []), (4, .ptr 4 []), (5, .val (.int .i64)), (6, .ptr 6 [])], [(2, some 28, KD5), (3, some 28, KD5), (4, some 28, KD6), (6, some 28, KD6)]⟩)], fun v => F64_1 k k v.1.1 v.1.2.1 v.2.1 v.2.2.1 v.2.2.2.1 v.2.2.2.2.1⟩
def F64_2 (k : Nat) : Nat → Int → Int → TY20 → TY20 → TY20 → Option TY8
  | 0, _, _, _, _, _ => none
  | n + 1, t5, t9, c3, c4, c6 =>
    let x28 := (decide (t9 < ((List.length c3.2.2.2.1 : Nat) : Int)))
    bif x28 then
      if 0 ≤ t9 ∧ t9 < ((List.length c3.2.2.2.1 : Nat) : Int) then
        let x29 := (List.getD c3.2.2.2.1 (Int.toNat t9) ((0 : Int), ((0 : Int), ((0 : Int), ()))))
        if 0 ≤ t9 ∧ t9 < ((List.length c3.2.2.2.1 : Nat) : Int) then
          let x30 := (List.getD c3.2.2.2.1 (Int.toNat t9) ((0 : Int), ((0 : Int), ((0 : Int), ()))))
          if 0 ≤ t9 ∧ t9 < ((List.length c3.2.2.2.1 : Nat) : Int) then
            let x31 := (List.getD c3.2.2.2.1 (Int.toNat t9) ((0 : Int), ((0 : Int), ((0 : Int), ()))))
            let x32 := (List.set (List.replicate 1 ((0 : Int), ((0 : Int), ((0 : Int), ())))) 0 ((IntKind.wrap .i64 (x29.1 + t5)), ((IntKind.wrap .i64 (x30.2.1 + t5)), (x31.2.2.1, ()))))
            if (List.length c6.2.2.2.1 + List.length x32) * (24 * 2) ≤ 281474976710656 ∧ List.length c6.2.2.2.1 + List.length x32 ≤ 9223372036854775807 then
              (F64_2 k n t5 (IntKind.wrap .i64 (t9 + (1 : Int))) c3 c4 (c6.1, (c6.2.1, (c6.2.2.1, ((c6.2.2.2.1 ++ x32), c6.2.2.2.2))))).bind some
            else none
          else none
        else none
      else none
    else
      some ((), (c4, c6, ()))
def fr64_2 (k : Nat) : Frag := ⟨⟨[], [(3, .ptr 3 []), (4, .ptr 4 []), (5, .val (.int .i64)), (6, .ptr 6 []), (9, .val (.int .i64))], [(3, some 28, KD5), (4, some 28, KD6), (6, some 28, KD6)]⟩, [(.exit 4, ⟨[], [(4, .ptr 4 []), (6, .ptr 6 [])], [(4, some 28, KD6), (6, some 28, KD6)]⟩)], fun v => F64_2 k k v.1.1 v.1.2.1 v.2.1 v.2.2.1 v.2.2.2.1⟩
def F64 (k : Nat) (a0 : TY20) (a1 : TY20) : Option TY16 :=
  let x1 := (IntKind.wrap .i64 (((List.length a0.1 : Nat) : Int) + ((List.length a1.1 : Nat) : Int)))
  (F54 k x1).bind fun r2 =>
  (F64_0 k k ((List.length a0.1 : Nat) : Int) (0 : Int) a0 a1 (([] : (List Int)), (([] : (List Int)), (([] : (List Int)), (([] : TY45), ((0 : Int), ()))))) r2.1.1).bind fun r5 =>
  let y6 := r5.1.1
  let y7 := r5.2.1
  let y8 := r5.2.2.1
  let y9 := r5.2.2.2.1
  let y10 := r5.2.2.2.2.1
  (F64_1 k k y6 (0 : Int) y7 y8 y9 y10).bind fun r17 =>
  let y18 := r17.1.1
  let y19 := r17.2.1
  let y20 := r17.2.2.1
  let y21 := r17.2.2.2.1
  let y22 := r17.2.2.2.2.1
  if (List.length y22.2.2.2.1 + List.length y19.2.2.2.1) * (24 * 2) ≤ 281474976710656 ∧ List.length y22.2.2.2.1 + List.length y19.2.2.2.1 ≤ 9223372036854775807 then
    (F64_2 k k y18 (0 : Int) y20 y21 (y22.1, (y22.2.1, (y22.2.2.1, ((y22.2.2.2.1 ++ y19.2.2.2.1), y22.2.2.2.2))))).bind fun r33 =>
    let y35 := r33.2.2.1
    some ((y35, ()), ())
  else none
def sp64 (k : Nat) : Spec := ⟨[.val KD5, .val KD5], [.own KD6], fun x => F64 k x.1 x.2.1⟩
def lim64 : Lim := ⟨93, 2, false, false, []⟩
def cfg64 (k : Nat) : Nat → Option Spec := cfgL [(54, sp54 k)]
theorem cfg64_ok (k : Nat) : CfgOK Try.prog (cfg64 k) := cfgL_cons (v54 k) (cfgL_nil)
def pl64_0 (k : Nat) : Plan := .go
theorem pq64_0 (k : Nat) : PlanOK Try.prog lim64 (pl64_0 k) (codeAt (bodyOf Try.f64) [.r, .r, .r, .l, .r, .s, .b]) = PlanOK Try.prog lim64 .go (codeAt (bodyOf Try.f64) [.r, .r, .r, .l, .r, .s, .b]) := by kernel_rfl
theorem ps64_0 (k m : Nat) (v : (fr64_0 k).sh.V) : F64_0 k (m + 1) v.1.1 v.1.2.1 v.2.1 v.2.2.1 v.2.2.2.1 v.2.2.2.2.1 = (body Try.prog (stepper Try.prog (cfg64 k) lim64) (pl64_0 k) (codeAt (bodyOf Try.f64) [.r, .r, .r, .l, .r, .s, .b]) ((fr64_0 k).sh.st v) (loopK (fr64_0 k) fun v => F64_0 k m v.1.1 v.1.2.1 v.2.1 v.2.2.1 v.2.2.2.1 v.2.2.2.2.1)).eval := by kernel_rfl
theorem pe64_0 (k m : Nat) (v : (fr64_0 k).sh.V) : (body Try.prog (stepper Try.prog (cfg64 k) lim64) (pl64_0 k) (codeAt (bodyOf Try.f64) [.r, .r, .r, .l, .r, .s, .b]) ((fr64_0 k).sh.st v) (loopK (fr64_0 k) fun v => F64_0 k m v.1.1 v.1.2.1 v.2.1 v.2.2.1 v.2.2.2.1 v.2.2.2.2.1)).left = (body Try.prog (stepper Try.prog (cfg64 k) lim64) (pl64_0 k) (codeAt (bodyOf Try.f64) [.r, .r, .r, .l, .r, .s, .b]) ((fr64_0 k).sh.st v) (loopK (fr64_0 k) fun v => F64_0 k m v.1.1 v.1.2.1 v.2.1 v.2.2.1 v.2.2.2.1 v.2.2.2.2.1)).right := by kernel_rfl
theorem fr64_0_ok (k : Nat) : FragOK Try.prog lim64 (fr64_0 k) (codeAt (bodyOf Try.f64) [.r, .r, .r, .l, .r, .s]) :=
  frag_cast (by kernel_rfl) (loop_ok (cfg64_ok k) (Eq.mpr (pq64_0 k) (planOK_go _)) (fun m v => F64_0 k m v.1.1 v.1.2.1 v.2.1 v.2.2.1 v.2.2.2.1 v.2.2.2.2.1) k (fun _ => rfl) (fun _ => rfl) fun m v => ⟨ps64_0 k m v, pe64_0 k m v⟩)
def pl64_1 (k : Nat) : Plan := .go
theorem pq64_1 (k : Nat) : PlanOK Try.prog lim64 (pl64_1 k) (codeAt (bodyOf Try.f64) [.r, .r, .r, .r, .l, .r, .s, .b]) = PlanOK Try.prog lim64 .go (codeAt (bodyOf Try.f64) [.r, .r, .r, .r, .l, .r, .s, .b]) := by kernel_rfl
theorem ps64_1 (k m : Nat) (v : (fr64_1 k).sh.V) : F64_1 k (m + 1) v.1.1 v.1.2.1 v.2.1 v.2.2.1 v.2.2.2.1 v.2.2.2.2.1 = (body Try.prog (stepper Try.prog (cfg64 k) lim64) (pl64_1 k) (codeAt (bodyOf Try.f64) [.r, .r, .r, .r, .l, .r, .s, .b]) ((fr64_1 k).sh.st v) (loopK (fr64_1 k) fun v => F64_1 k m v.1.1 v.1.2.1 v.2.1 v.2.2.1 v.2.2.2.1 v.2.2.2.2.1)).eval := by kernel_rfl
theorem pe64_1 (k m : Nat) (v : (fr64_1 k).sh.V) : (body Try.prog (stepper Try.prog (cfg64 k) lim64) (pl64_1 k) (codeAt (bodyOf Try.f64) [.r, .r, .r, .r, .l, .r, .s, .b]) ((fr64_1 k).sh.st v) (loopK (fr64_1 k) fun v => F64_1 k m v.1.1 v.1.2.1 v.2.1 v.2.2.1 v.2.2.2.1 v.2.2.2.2.1)).left = (body Try.prog (stepper Try.prog (cfg64 k) lim64) (pl64_1 k) (codeAt (bodyOf Try.f64) [.r, .r, .r, .r, .l, .r, .s, .b]) ((fr64_1 k).sh.st v) (loopK (fr64_1 k) fun v => F64_1 k m v.1.1 v.1.2.1 v.2.1 v.2.2.1 v.2.2.2.1 v.2.2.2.2.1)).right := by kernel_rfl
theorem fr64_1_ok (k : Nat) : FragOK Try.prog lim64 (fr64_1 k) (codeAt (bodyOf Try.f64) [.r, .r, .r, .r, .l, .r, .s]) :=
  frag_cast (by kernel_rfl) (loop_ok (cfg64_ok k) (Eq.mpr (pq64_1 k) (planOK_go _)) (fun m v => F64_1 k m v.1.1 v.1.2.1 v.2.1 v.2.2.1 v.2.2.2.1 v.2.2.2.2.1) k (fun _ => rfl) (fun _ => rfl) fun m v => ⟨ps64_1 k m v, pe64_1 k m v⟩)
def pl64_2 (k : Nat) : Plan := .go
theorem pq64_2 (k : Nat) : PlanOK Try.prog lim64 (pl64_2 k) (codeAt (bodyOf Try.f64) [.r, .r, .r, .r, .r, .r, .l, .r, .s, .b]) = PlanOK Try.prog lim64 .go (codeAt (bodyOf Try.f64) [.r, .r, .r, .r, .r, .r, .l, .r, .s, .b]) := by kernel_rfl
theorem ps64_2 (k m : Nat) (v : (fr64_2 k).sh.V) : F64_2 k (m + 1) v.1.1 v.1.2.1 v.2.1 v.2.2.1 v.2.2.2.1 = (body Try.prog (stepper Try.prog (cfg64 k) lim64) (pl64_2 k) (codeAt (bodyOf Try.f64) [.r, .r, .r, .r, .r, .r, .l, .r, .s, .b]) ((fr64_2 k).sh.st v) (loopK (fr64_2 k) fun v => F64_2 k m v.1.1 v.1.2.1 v.2.1 v.2.2.1 v.2.2.2.1)).eval := by kernel_rfl
theorem pe64_2 (k m : Nat) (v : (fr64_2 k).sh.V) : (body Try.prog (stepper Try.prog (cfg64 k) lim64) (pl64_2 k) (codeAt (bodyOf Try.f64) [.r, .r, .r, .r, .r, .r, .l, .r, .s, .b]) ((fr64_2 k).sh.st v) (loopK (fr64_2 k) fun v => F64_2 k m v.1.1 v.1.2.1 v.2.1 v.2.2.1 v.2.2.2.1)).left = (body Try.prog (stepper Try.prog (cfg64 k) lim64) (pl64_2 k) (codeAt (bodyOf Try.f64) [.r, .r, .r, .r, .r, .r, .l, .r, .s, .b]) ((fr64_2 k).sh.st v) (loopK (fr64_2 k) fun v => F64_2 k m v.1.1 v.1.2.1 v.2.1 v.2.2.1 v.2.2.2.1)).right := by kernel_rfl
theorem fr64_2_ok (k : Nat) : FragOK Try.prog lim64 (fr64_2 k) (codeAt (bodyOf Try.f64) [.r, .r, .r, .r, .r, .r, .l, .r, .s]) :=
  frag_cast (by kernel_rfl) (loop_ok (cfg64_ok k) (Eq.mpr (pq64_2 k) (planOK_go _)) (fun m v => F64_2 k m v.1.1 v.1.2.1 v.2.1 v.2.2.1 v.2.2.2.1) k (fun _ => rfl) (fun _ => rfl) fun m v => ⟨ps64_2 k m v, pe64_2 k m v⟩)
def pl64 (k : Nat) : Plan := (.seq .go (.seq .go (.seq .go (.seq (.seq .go (.sub (.frag (fr64_0 k)))) (.seq (.seq .go (.sub (.frag (fr64_1 k)))) (.seq .go (.seq (.seq .go (.sub (.frag (fr64_2 k)))) .go)))))))
theorem pq64 (k : Nat) : PlanOK Try.prog lim64 (pl64 k) (codeAt (bodyOf Try.f64) []) = (PlanOK Try.prog lim64 .go (codeAt (bodyOf Try.f64) [.l]) ∧ (PlanOK Try.prog lim64 .go (codeAt (bodyOf Try.f64) [.r, .l]) ∧ (PlanOK Try.prog lim64 .go (codeAt (bodyOf Try.f64) [.r, .r, .l]) ∧ ((PlanOK Try.prog lim64 .go (codeAt (bodyOf Try.f64) [.r, .r, .r, .l, .l]) ∧ FragOK Try.prog lim64 (fr64_0 k) (codeAt (bodyOf Try.f64) [.r, .r, .r, .l, .r, .s])) ∧ ((PlanOK Try.prog lim64 .go (codeAt (bodyOf Try.f64) [.r, .r, .r, .r, .l, .l]) ∧ FragOK Try.prog lim64 (fr64_1 k) (codeAt (bodyOf Try.f64) [.r, .r, .r, .r, .l, .r, .s])) ∧ (PlanOK Try.prog lim64 .go (codeAt (bodyOf Try.f64) [.r, .r, .r, .r, .r, .l]) ∧ ((PlanOK Try.prog lim64 .go (codeAt (bodyOf Try.f64) [.r, .r, .r, .r, .r, .r, .l, .l]) ∧ FragOK Try.prog lim64 (fr64_2 k) (codeAt (bodyOf Try.f64) [.r, .r, .r, .r, .r, .r, .l, .r, .s])) ∧ PlanOK Try.prog lim64 .go (codeAt (bodyOf Try.f64) [.r, .r, .r, .r, .r, .r, .r])))))))) := by kernel_rfl
theorem ev64 (k : Nat) (x : AT (sp64 k).ps) : (sp64 k).impl x = (fnT Try.prog (cfg64 k) lim64 Try.f64 (bodyOf Try.f64) (pl64 k) (sp64 k) x).eval := by kernel_rfl
theorem eq64 (k : Nat) (x : AT (sp64 k).ps) : (fnT Try.prog (cfg64 k) lim64 Try.f64 (bodyOf Try.f64) (pl64 k) (sp64 k) x).left = (fnT Try.prog (cfg64 k) lim64 Try.f64 (bodyOf Try.f64) (pl64 k) (sp64 k) x).right := by kernel_rfl
theorem v64 (k : Nat) : Callable Try.prog 64 ∧ Valid Try.prog 64 (sp64 k) :=
  fn_ok (cfg64_ok k) (f := 64) (fn := Try.f64) (by kernel_rfl) (c := bodyOf Try.f64) (by kernel_rfl) (by kernel_rfl) rfl rfl (Nat.le_of_ble_eq_true rfl) (Nat.le_of_ble_eq_true rfl) (p := pl64 k) (Eq.mpr (pq64 k) ⟨(planOK_go _), ⟨(planOK_go _), ⟨(planOK_go _), ⟨⟨(planOK_go _), (fr64_0_ok k)⟩, ⟨⟨(planOK_go _), (fr64_1_ok k)⟩, ⟨(planOK_go _), ⟨⟨(planOK_go _), (fr64_2_ok k)⟩, (planOK_go _)⟩⟩⟩⟩⟩⟩⟩) fun x => ⟨ev64 k x, eq64 k x⟩
/-! f37 hyphen/hyphenref1.Add -/
def F37 (k : Nat) (a0 : Int) (a1 : Int) : Option TY56 :=
  let x1 := (minI (IntKind.wrap .i64 (a0 + a1)) (1152921504606846976 : Int))
  some ((x1, ()), ())
def sp37 (k : Nat) : Spec := ⟨[.val (.int .i64), .val (.int .i64)], [.val (.int .i64)], fun x => F37 k x.1 x.2.1⟩
def lim37 : Lim := ⟨9, 2, false, false, []⟩
def cfg37 (k : Nat) : Nat → Option Spec := cfgL []
theorem cfg37_ok (k : Nat) : CfgOK Try.prog (cfg37 k) := cfgL_nil
def pl37 (k : Nat) : Plan := .go
theorem pq37 (k : Nat) : PlanOK Try.prog lim37 (pl37 k) (codeAt (bodyOf Try.f37) []) = PlanOK Try.prog lim37 .go (codeAt (bodyOf Try.f37) []) := by kernel_rfl
theorem ev37 (k : Nat) (x : AT (sp37 k).ps) : (sp37 k).impl x = (fnT Try.prog (cfg37 k) lim37 Try.f37 (bodyOf Try.f37) (pl37 k) (sp37 k) x).eval := by kernel_rfl
theorem eq37 (k : Nat) (x : AT (sp37 k).ps) : (fnT Try.prog (cfg37 k) lim37 Try.f37 (bodyOf Try.f37) (pl37 k) (sp37 k) x).left = (fnT Try.prog (cfg37 k) lim37 Try.f37 (bodyOf Try.f37) (pl37 k) (sp37 k) x).right := by kernel_rfl
theorem v37 (k : Nat) : Callable Try.prog 37 ∧ Valid Try.prog 37 (sp37 k) :=
  fn_ok (cfg37_ok k) (f := 37) (fn := Try.f37) (by kernel_rfl) (c := bodyOf Try.f37) (by kernel_rfl) (by kernel_rfl) rfl rfl (Nat.le_of_ble_eq_true rfl) (Nat.le_of_ble_eq_true rfl) (p := pl37 k) (Eq.mpr (pq37 k) (planOK_go _)) fun x => ⟨ev37 k x, eq37 k x⟩
/-! f65 hyphen/hyphenref7.arc -/
def F65_0 (k : Nat) : Nat → Int → TY45 → TY50 → Option (((Int × Unit) × (TY45 × TY50 × Unit)))
  | 0, _, _, _ => none
  | n + 1, t5, c0, c3 =>
    let x6 := (decide (t5 < ((List.length c0 : Nat) : Int)))
    bif x6 then
      if 0 ≤ t5 ∧ t5 < ((List.length c0 : Nat) : Int) then
        let x7 := (List.getD c0 (Int.toNat t5) ((0 : Int), ((0 : Int), ((0 : Int), ())))).1
        bif (decide (x7 < c3.1)) then
          (F65_0 k n (IntKind.wrap .i64 (t5 + (1 : Int))) c0 c3).bind some
        else
          if 0 ≤ t5 ∧ t5 < ((List.length c0 : Nat) : Int) then
            let x8 := (List.getD c0 (Int.toNat t5) ((0 : Int), ((0 : Int), ((0 : Int), ())))).1
            bif (x8 == c3.1) then
              if 0 ≤ t5 ∧ t5 < ((List.length c0 : Nat) : Int) then
                let x9 := (List.getD c0 (Int.toNat t5) ((0 : Int), ((0 : Int), ((0 : Int), ())))).2.1
                bif (decide (x9 < c3.2.1)) then
                  (F65_0 k n (IntKind.wrap .i64 (t5 + (1 : Int))) c0 c3).bind some
                else
                  some ((t5, ()), (c0, c3, ()))
              else none
            else
              some ((t5, ()), (c0, c3, ()))
          else none
      else none
    else
      some ((t5, ()), (c0, c3, ()))
def fr65_0 (k : Nat) : Frag := ⟨⟨[], [(0, .at 0 []), (3, .ptr 3 []), (5, .val (.int .i64))], [(0, none, KD26), (3, some 43, KD33)]⟩, [(.exit 0, ⟨[], [(0, .at 0 []), (3, .ptr 3 []), (5, .val (.int .i64))], [(0, none, KD26), (3, some 43, KD33)]⟩)], fun v => F65_0 k k v.1.1 v.2.1 v.2.2.1⟩
def F65 (k : Nat) (a0 : TY45) (a1 : TY50) : Option ((TY45 × Unit) × Unit) :=
  let x1 := (decide (a1.2.2.1 ≥ (1152921504606846976 : Int)))
  bif x1 then
    some ((a0, ()), ())
  else
    (F65_0 k k (0 : Int) a0 a1).bind fun r10 =>
    let y11 := r10.1.1
    let y12 := r10.2.1
    let y13 := r10.2.2.1
    let x14 := (decide (y11 < ((List.length y12 : Nat) : Int)))
    bif x14 then
      if 0 ≤ y11 ∧ y11 < ((List.length y12 : Nat) : Int) then
        let x15 := (List.getD y12 (Int.toNat y11) ((0 : Int), ((0 : Int), ((0 : Int), ())))).1
        bif (x15 == y13.1) then
          if 0 ≤ y11 ∧ y11 < ((List.length y12 : Nat) : Int) then
            let x16 := (List.getD y12 (Int.toNat y11) ((0 : Int), ((0 : Int), ((0 : Int), ())))).2.1
            bif (x16 == y13.2.1) then
              let x17 := (List.replicate 0 ((0 : Int), ((0 : Int), ((0 : Int), ()))))
              if (List.length x17 + List.length y12) * (24 * 2) ≤ 281474976710656 ∧ List.length x17 + List.length y12 ≤ 9223372036854775807 then
                if 0 ≤ y11 ∧ y11 < ((List.length (x17 ++ y12) : Nat) : Int) then
                  let x18 := (List.getD (x17 ++ y12) (Int.toNat y11) ((0 : Int), ((0 : Int), ((0 : Int), ())))).2.2.1
                  if 0 ≤ y11 ∧ y11 < ((List.length (x17 ++ y12) : Nat) : Int) then
                    let x19 := (List.set (x17 ++ y12) (Int.toNat y11) ((List.getD (x17 ++ y12) (Int.toNat y11) ((0 : Int), ((0 : Int), ((0 : Int), ())))).1, ((List.getD (x17 ++ y12) (Int.toNat y11) ((0 : Int), ((0 : Int), ((0 : Int), ())))).2.1, ((minI x18 y13.2.2.1), (List.getD (x17 ++ y12) (Int.toNat y11) ((0 : Int), ((0 : Int), ((0 : Int), ())))).2.2.2))))
                    some ((x19, ()), ())
                  else none
                else none
              else none
            else
              if 0 ≤ (0 : Int) ∧ (0 : Int) ≤ y11 ∧ y11 ≤ ((List.length y12 : Nat) : Int) then
                let x20 := (Int.toNat y11 - Int.toNat (0 : Int))
                if 0 ≤ y11 ∧ y11 ≤ ((List.length y12 : Nat) : Int) ∧ ((List.length y12 : Nat) : Int) ≤ ((List.length y12 : Nat) : Int) then
                  let x21 := (Int.toNat ((List.length y12 : Nat) : Int) - Int.toNat y11)
                  let x22 := (List.replicate 0 ((0 : Int), ((0 : Int), ((0 : Int), ()))))
                  if (List.length x22 + List.length (List.take x20 (List.drop (Int.toNat (0 : Int)) y12))) * (24 * 2) ≤ 281474976710656 ∧ List.length x22 + List.length (List.take x20 (List.drop (Int.toNat (0 : Int)) y12)) ≤ 9223372036854775807 then
                    let x23 := (x22 ++ (List.take x20 (List.drop (Int.toNat (0 : Int)) y12)))
                    let x24 := (List.set (List.replicate 1 ((0 : Int), ((0 : Int), ((0 : Int), ())))) 0 y13)
                    if (List.length x23 + List.length x24) * (24 * 2) ≤ 281474976710656 ∧ List.length x23 + List.length x24 ≤ 9223372036854775807 then
                      if (List.length (x23 ++ x24) + List.length (List.take x21 (List.drop (Int.toNat y11) y12))) * (24 * 2) ≤ 281474976710656 ∧ List.length (x23 ++ x24) + List.length (List.take x21 (List.drop (Int.toNat y11) y12)) ≤ 9223372036854775807 then
                        let x25 := ((x23 ++ x24) ++ (List.take x21 (List.drop (Int.toNat y11) y12)))
                        some ((x25, ()), ())
                      else none
                    else none
                  else none
                else none
              else none
          else none
        else
          if 0 ≤ (0 : Int) ∧ (0 : Int) ≤ y11 ∧ y11 ≤ ((List.length y12 : Nat) : Int) then
            let x26 := (Int.toNat y11 - Int.toNat (0 : Int))
            if 0 ≤ y11 ∧ y11 ≤ ((List.length y12 : Nat) : Int) ∧ ((List.length y12 : Nat) : Int) ≤ ((List.length y12 : Nat) : Int) then
              let x27 := (Int.toNat ((List.length y12 : Nat) : Int) - Int.toNat y11)
              let x28 := (List.replicate 0 ((0 : Int), ((0 : Int), ((0 : Int), ()))))
              if (List.length x28 + List.length (List.take x26 (List.drop (Int.toNat (0 : Int)) y12))) * (24 * 2) ≤ 281474976710656 ∧ List.length x28 + List.length (List.take x26 (List.drop (Int.toNat (0 : Int)) y12)) ≤ 9223372036854775807 then
                let x29 := (x28 ++ (List.take x26 (List.drop (Int.toNat (0 : Int)) y12)))
                let x30 := (List.set (List.replicate 1 ((0 : Int), ((0 : Int), ((0 : Int), ())))) 0 y13)
                if (List.length x29 + List.length x30) * (24 * 2) ≤ 281474976710656 ∧ List.length x29 + List.length x30 ≤ 9223372036854775807 then
                  if (List.length (x29 ++ x30) + List.length (List.take x27 (List.drop (Int.toNat y11) y12))) * (24 * 2) ≤ 281474976710656 ∧ List.length (x29 ++ x30) + List.length (List.take x27 (List.drop (Int.toNat y11) y12)) ≤ 9223372036854775807 then
                    let x31 := ((x29 ++ x30) ++ (List.take x27 (List.drop (Int.toNat y11) y12)))
                    some ((x31, ()), ())
                  else none
                else none
              else none
            else none
          else none
      else none
    else
      if 0 ≤ (0 : Int) ∧ (0 : Int) ≤ y11 ∧ y11 ≤ ((List.length y12 : Nat) : Int) then
        let x32 := (Int.toNat y11 - Int.toNat (0 : Int))
        if 0 ≤ y11 ∧ y11 ≤ ((List.length y12 : Nat) : Int) ∧ ((List.length y12 : Nat) : Int) ≤ ((List.length y12 : Nat) : Int) then
          let x33 := (Int.toNat ((List.length y12 : Nat) : Int) - Int.toNat y11)
          let x34 := (List.replicate 0 ((0 : Int), ((0 : Int), ((0 : Int), ()))))
          if (List.length x34 + List.length (List.take x32 (List.drop (Int.toNat (0 : Int)) y12))) * (24 * 2) ≤ 281474976710656 ∧ List.length x34 + List.length (List.take x32 (List.drop (Int.toNat (0 : Int)) y12)) ≤ 9223372036854775807 then
            let x35 := (x34 ++ (List.take x32 (List.drop (Int.toNat (0 : Int)) y12)))
            let x36 := (List.set (List.replicate 1 ((0 : Int), ((0 : Int), ((0 : Int), ())))) 0 y13)
            if (List.length x35 + List.length x36) * (24 * 2) ≤ 281474976710656 ∧ List.length x35 + List.length x36 ≤ 9223372036854775807 then
              if (List.length (x35 ++ x36) + List.length (List.take x33 (List.drop (Int.toNat y11) y12))) * (24 * 2) ≤ 281474976710656 ∧ List.length (x35 ++ x36) + List.length (List.take x33 (List.drop (Int.toNat y11) y12)) ≤ 9223372036854775807 then
                let x37 := ((x35 ++ x36) ++ (List.take x33 (List.drop (Int.toNat y11) y12)))
                some ((x37, ()), ())
              else none
            else none
          else none
        else none
      else none
def sp65 (k : Nat) : Spec := ⟨[.own KD26, .val KD33], [.own KD26], fun x => F65 k x.1 x.2.1⟩
def lim65 : Lim := ⟨99, 2, false, false, []⟩
def cfg65 (k : Nat) : Nat → Option Spec := cfgL []
theorem cfg65_ok (k : Nat) : CfgOK Try.prog (cfg65 k) := cfgL_nil
def pl65_0 (k : Nat) : Plan := .go
theorem pq65_0 (k : Nat) : PlanOK Try.prog lim65 (pl65_0 k) (codeAt (bodyOf Try.f65) [.r, .r, .r, .l, .s, .b]) = PlanOK Try.prog lim65 .go (codeAt (bodyOf Try.f65) [.r, .r, .r, .l, .s, .b]) := by kernel_rfl
theorem ps65_0 (k m : Nat) (v : (fr65_0 k).sh.V) : F65_0 k (m + 1) v.1.1 v.2.1 v.2.2.1 = (body Try.prog (stepper Try.prog (cfg65 k) lim65) (pl65_0 k) (codeAt (bodyOf Try.f65) [.r, .r, .r, .l, .s, .b]) ((fr65_0 k).sh.st v) (loopK (fr65_0 k) fun v => F65_0 k m v.1.1 v.2.1 v.2.2.1)).eval := by kernel_rfl
theorem pe65_0 (k m : Nat) (v : (fr65_0 k).sh.V) : (body Try.prog (stepper Try.prog (cfg65 k) lim65) (pl65_0 k) (codeAt (bodyOf Try.f65) [.r, .r, .r, .l, .s, .b]) ((fr65_0 k).sh.st v) (loopK (fr65_0 k) fun v => F65_0 k m v.1.1 v.2.1 v.2.2.1)).left = (body Try.prog (stepper Try.prog (cfg65 k) lim65) (pl65_0 k) (codeAt (bodyOf Try.f65) [.r, .r, .r, .l, .s, .b]) ((fr65_0 k).sh.st v) (loopK (fr65_0 k) fun v => F65_0 k m v.1.1 v.2.1 v.2.2.1)).right := by kernel_rfl
theorem fr65_0_ok (k : Nat) : FragOK Try.prog lim65 (fr65_0 k) (codeAt (bodyOf Try.f65) [.r, .r, .r, .l, .s]) :=
  frag_cast (by kernel_rfl) (loop_ok (cfg65_ok k) (Eq.mpr (pq65_0 k) (planOK_go _)) (fun m v => F65_0 k m v.1.1 v.2.1 v.2.2.1) k (fun _ => rfl) (fun _ => rfl) fun m v => ⟨ps65_0 k m v, pe65_0 k m v⟩)
def pl65 (k : Nat) : Plan := (.seq .go (.seq .go (.seq .go (.seq (.sub (.frag (fr65_0 k))) .go))))
theorem pq65 (k : Nat) : PlanOK Try.prog lim65 (pl65 k) (codeAt (bodyOf Try.f65) []) = (PlanOK Try.prog lim65 .go (codeAt (bodyOf Try.f65) [.l]) ∧ (PlanOK Try.prog lim65 .go (codeAt (bodyOf Try.f65) [.r, .l]) ∧ (PlanOK Try.prog lim65 .go (codeAt (bodyOf Try.f65) [.r, .r, .l]) ∧ (FragOK Try.prog lim65 (fr65_0 k) (codeAt (bodyOf Try.f65) [.r, .r, .r, .l, .s]) ∧ PlanOK Try.prog lim65 .go (codeAt (bodyOf Try.f65) [.r, .r, .r, .r]))))) := by kernel_rfl
theorem ev65 (k : Nat) (x : AT (sp65 k).ps) : (sp65 k).impl x = (fnT Try.prog (cfg65 k) lim65 Try.f65 (bodyOf Try.f65) (pl65 k) (sp65 k) x).eval := by kernel_rfl
theorem eq65 (k : Nat) (x : AT (sp65 k).ps) : (fnT Try.prog (cfg65 k) lim65 Try.f65 (bodyOf Try.f65) (pl65 k) (sp65 k) x).left = (fnT Try.prog (cfg65 k) lim65 Try.f65 (bodyOf Try.f65) (pl65 k) (sp65 k) x).right := by kernel_rfl
theorem v65 (k : Nat) : Callable Try.prog 65 ∧ Valid Try.prog 65 (sp65 k) :=
  fn_ok (cfg65_ok k) (f := 65) (fn := Try.f65) (by kernel_rfl) (c := bodyOf Try.f65) (by kernel_rfl) (by kernel_rfl) rfl rfl (Nat.le_of_ble_eq_true rfl) (Nat.le_of_ble_eq_true rfl) (p := pl65 k) (Eq.mpr (pq65 k) ⟨(planOK_go _), ⟨(planOK_go _), ⟨(planOK_go _), ⟨(fr65_0_ok k), (planOK_go _)⟩⟩⟩⟩) fun x => ⟨ev65 k x, eq65 k x⟩
/-! f56 hyphen/hyphenref7.cat -/
def F56_0 (k : Nat) : Nat → Int → Int → Int → TY20 → TY20 → TY20 → TY20 → Option (((Int × Int × Unit) × (TY20 × TY20 × TY20 × TY20 × Unit)))
  | 0, _, _, _, _, _, _, _ => none
  | n + 1, t5, t7, t8, c2, c3, c4, c6 =>
    let x10 := (decide (t8 < ((List.length c3.1 : Nat) : Int)))
    bif x10 then
      if 0 ≤ t7 ∧ t7 < ((List.length c2.2.2.1 : Nat) : Int) then
        let x11 := (List.getD c2.2.2.1 (Int.toNat t7) (0 : Int))
        if 0 ≤ t8 ∧ t8 < ((List.length c3.2.1 : Nat) : Int) then
          (F37 k x11 (List.getD c3.2.1 (Int.toNat t8) (0 : Int))).bind fun r12 =>
          (F65 k c6.2.2.2.1 (t7, ((IntKind.wrap .i64 (t5 + t8)), (r12.1.1, ())))).bind fun r13 =>
          (F56_0 k n t5 t7 (IntKind.wrap .i64 (t8 + (1 : Int))) c2 c3 c4 (c6.1, (c6.2.1, (c6.2.2.1, (r13.1.1, c6.2.2.2.2))))).bind some
        else none
      else none
    else
      some ((t5, t7, ()), (c2, c3, c4, c6, ()))
def fr56_0 (k : Nat) : Frag := ⟨⟨[], [(2, .ptr 2 []), (3, .ptr 3 []), (4, .ptr 4 []), (5, .val (.int .i64)), (6, .ptr 6 []), (7, .val (.int .i64)), (8, .val (.int .i64))], [(2, some 28, KD5), (3, some 28, KD5), (4, some 28, KD6), (6, some 28, KD6)]⟩, [(.exit 2, ⟨[], [(2, .ptr 2 []), (3, .ptr 3 []), (4, .ptr 4 []), (5, .val (.int .i64)), (6, .ptr 6 []), (7, .val (.int .i64))], [(2, some 28, KD5), (3, some 28, KD5), (4, some 28, KD6), (6, some 28, KD6)]⟩)], fun v => F56_0 k k v.1.1 v.1.2.1 v.1.2.2.1 v.2.1 v.2.2.1 v.2.2.2.1 v.2.2.2.2.1⟩
def F56_1 (k : Nat) : Nat → Int → Int → TY20 → TY20 → TY20 → TY20 → Option TY1
  | 0, _, _, _, _, _, _ => none
  | n + 1, t5, t7, c2, c3, c4, c6 =>
    bif (decide (t7 < t5)) then
      if 0 ≤ t7 ∧ t7 < ((List.length c2.2.1 : Nat) : Int) then
        if 0 ≤ t7 ∧ t7 < ((List.length c2.2.2.1 : Nat) : Int) then
          let x21 := (List.getD c2.2.2.1 (Int.toNat t7) (0 : Int))
          (F37 k x21 c3.2.2.2.2.1).bind fun r22 =>
          if 0 ≤ t7 ∧ t7 < ((List.length c6.2.1 : Nat) : Int) then
            let x23 := (List.set c6.2.1 (Int.toNat t7) (List.getD c2.2.1 (Int.toNat t7) (0 : Int)))
            if 0 ≤ t7 ∧ t7 < ((List.length c6.2.2.1 : Nat) : Int) then
              (F56_0 k k t5 t7 (0 : Int) c2 c3 c4 (c6.1, (x23, ((List.set c6.2.2.1 (Int.toNat t7) r22.1.1), c6.2.2.2)))).bind fun r24 =>
              let y25 := r24.1.1
              let y26 := r24.1.2.1
              let y27 := r24.2.1
              let y28 := r24.2.2.1
              let y29 := r24.2.2.2.1
              let y30 := r24.2.2.2.2.1
              (F56_1 k n y25 (IntKind.wrap .i64 (y26 + (1 : Int))) y27 y28 y29 y30).bind some
            else none
          else none
        else none
      else none
    else
      some ((t5, ()), (c2, c3, c4, c6, ()))
def fr56_1 (k : Nat) : Frag := ⟨⟨[], [(2, .ptr 2 []), (3, .ptr 3 []), (4, .ptr 4 []), (5, .val (.int .i64)), (6, .ptr 6 []), (7, .val (.int .i64))], [(2, some 28, KD5), (3, some 28, KD5), (4, some 28, KD6), (6, some 28, KD6)]⟩, [(.exit 0, ⟨[], [(2, .ptr 2 []), (3, .ptr 3 []), (4, .ptr 4 []), (5, .val (.int .i64)), (6, .ptr 6 [])], [(2, some 28, KD5), (3, some 28, KD5), (4, some 28, KD6), (6, some 28, KD6)]⟩)], fun v => F56_1 k k v.1.1 v.1.2.1 v.2.1 v.2.2.1 v.2.2.2.1 v.2.2.2.2.1⟩
def F56_2 (k : Nat) : Nat → Int → Int → TY20 → TY20 → TY20 → TY20 → Option TY8
  | 0, _, _, _, _, _, _ => none
  | n + 1, t5, t9, c2, c3, c4, c6 =>
    let x42 := (decide (t9 < ((List.length c3.1 : Nat) : Int)))
    bif x42 then
      if 0 ≤ t9 ∧ t9 < ((List.length c3.2.1 : Nat) : Int) then
        if 0 ≤ t9 ∧ t9 < ((List.length c3.2.2.1 : Nat) : Int) then
          let x43 := (List.getD c3.2.2.1 (Int.toNat t9) (0 : Int))
          (F37 k c2.2.2.2.2.1 (List.getD c3.2.1 (Int.toNat t9) (0 : Int))).bind fun r44 =>
          if 0 ≤ (IntKind.wrap .i64 (t5 + t9)) ∧ (IntKind.wrap .i64 (t5 + t9)) < ((List.length c6.2.1 : Nat) : Int) then
            let x45 := (Int.toNat (IntKind.wrap .i64 (t5 + t9)))
            if 0 ≤ (IntKind.wrap .i64 (t5 + t9)) ∧ (IntKind.wrap .i64 (t5 + t9)) < ((List.length c6.2.2.1 : Nat) : Int) then
              let x46 := (Int.toNat (IntKind.wrap .i64 (t5 + t9)))
              (F56_2 k n t5 (IntKind.wrap .i64 (t9 + (1 : Int))) c2 c3 c4 (c6.1, ((List.set c6.2.1 x45 r44.1.1), ((List.set c6.2.2.1 x46 x43), c6.2.2.2)))).bind some
            else none
          else none
        else none
      else none
    else
      some ((), (c4, c6, ()))
def fr56_2 (k : Nat) : Frag := ⟨⟨[], [(2, .ptr 2 []), (3, .ptr 3 []), (4, .ptr 4 []), (5, .val (.int .i64)), (6, .ptr 6 []), (9, .val (.int .i64))], [(2, some 28, KD5), (3, some 28, KD5), (4, some 28, KD6), (6, some 28, KD6)]⟩, [(.exit 4, ⟨[], [(4, .ptr 4 []), (6, .ptr 6 [])], [(4, some 28, KD6), (6, some 28, KD6)]⟩)], fun v => F56_2 k k v.1.1 v.1.2.1 v.2.1 v.2.2.1 v.2.2.2.1 v.2.2.2.2.1⟩
def F56 (k : Nat) (a0 : TY20) (a1 : TY20) : Option TY16 :=
  (F64 k a0 a1).bind fun r1 =>
  (F37 k a0.2.2.2.2.1 a1.2.2.2.2.1).bind fun r2 =>
  (F56_1 k k ((List.length a0.1 : Nat) : Int) (0 : Int) a0 a1 (([] : (List Int)), (([] : (List Int)), (([] : (List Int)), (([] : TY45), ((0 : Int), ()))))) (r1.1.1.1, (r1.1.1.2.1, (r1.1.1.2.2.1, (r1.1.1.2.2.2.1, (r2.1.1, r1.1.1.2.2.2.2.2)))))).bind fun r31 =>
  let y32 := r31.1.1
  let y33 := r31.2.1
  let y34 := r31.2.2.1
  let y35 := r31.2.2.2.1
  let y36 := r31.2.2.2.2.1
  (F56_2 k k y32 (0 : Int) y33 y34 y35 y36).bind fun r47 =>
  let y49 := r47.2.2.1
  some ((y49, ()), ())
def sp56 (k : Nat) : Spec := ⟨[.val KD5, .val KD5], [.own KD6], fun x => F56 k x.1 x.2.1⟩
def lim56 : Lim := ⟨108, 2, false, false, []⟩
def cfg56 (k : Nat) : Nat → Option Spec := cfgL [(37, sp37 k), (64, sp64 k), (65, sp65 k)]
theorem cfg56_ok (k : Nat) : CfgOK Try.prog (cfg56 k) := cfgL_cons (v37 k) (cfgL_cons (v64 k) (cfgL_cons (v65 k) (cfgL_nil)))
def pl56_0 (k : Nat) : Plan := .go
theorem pq56_0 (k : Nat) : PlanOK Try.prog lim56 (pl56_0 k) (codeAt (bodyOf Try.f56) [.r, .r, .r, .r, .l, .r, .s, .b, .r, .l, .s, .r, .r, .s, .b]) = PlanOK Try.prog lim56 .go (codeAt (bodyOf Try.f56) [.r, .r, .r, .r, .l, .r, .s, .b, .r, .l, .s, .r, .r, .s, .b]) := by kernel_rfl
theorem ps56_0 (k m : Nat) (v : (fr56_0 k).sh.V) : F56_0 k (m + 1) v.1.1 v.1.2.1 v.1.2.2.1 v.2.1 v.2.2.1 v.2.2.2.1 v.2.2.2.2.1 = (body Try.prog (stepper Try.prog (cfg56 k) lim56) (pl56_0 k) (codeAt (bodyOf Try.f56) [.r, .r, .r, .r, .l, .r, .s, .b, .r, .l, .s, .r, .r, .s, .b]) ((fr56_0 k).sh.st v) (loopK (fr56_0 k) fun v => F56_0 k m v.1.1 v.1.2.1 v.1.2.2.1 v.2.1 v.2.2.1 v.2.2.2.1 v.2.2.2.2.1)).eval := by kernel_rfl
theorem pe56_0 (k m : Nat) (v : (fr56_0 k).sh.V) : (body Try.prog (stepper Try.prog (cfg56 k) lim56) (pl56_0 k) (codeAt (bodyOf Try.f56) [.r, .r, .r, .r, .l, .r, .s, .b, .r, .l, .s, .r, .r, .s, .b]) ((fr56_0 k).sh.st v) (loopK (fr56_0 k) fun v => F56_0 k m v.1.1 v.1.2.1 v.1.2.2.1 v.2.1 v.2.2.1 v.2.2.2.1 v.2.2.2.2.1)).left = (body Try.prog (stepper Try.prog (cfg56 k) lim56) (pl56_0 k) (codeAt (bodyOf Try.f56) [.r, .r, .r, .r, .l, .r, .s, .b, .r, .l, .s, .r, .r, .s, .b]) ((fr56_0 k).sh.st v) (loopK (fr56_0 k) fun v => F56_0 k m v.1.1 v.1.2.1 v.1.2.2.1 v.2.1 v.2.2.1 v.2.2.2.1 v.2.2.2.2.1)).right := by kernel_rfl
theorem fr56_0_ok (k : Nat) : FragOK Try.prog lim56 (fr56_0 k) (codeAt (bodyOf Try.f56) [.r, .r, .r, .r, .l, .r, .s, .b, .r, .l, .s, .r, .r, .s]) :=
  frag_cast (by kernel_rfl) (loop_ok (cfg56_ok k) (Eq.mpr (pq56_0 k) (planOK_go _)) (fun m v => F56_0 k m v.1.1 v.1.2.1 v.1.2.2.1 v.2.1 v.2.2.1 v.2.2.2.1 v.2.2.2.2.1) k (fun _ => rfl) (fun _ => rfl) fun m v => ⟨ps56_0 k m v, pe56_0 k m v⟩)
def pl56_1 (k : Nat) : Plan := (.seq .go (.seq (.sub (.seq .go (.seq .go (.sub (.frag (fr56_0 k)))))) .go))
theorem pq56_1 (k : Nat) : PlanOK Try.prog lim56 (pl56_1 k) (codeAt (bodyOf Try.f56) [.r, .r, .r, .r, .l, .r, .s, .b]) = (PlanOK Try.prog lim56 .go (codeAt (bodyOf Try.f56) [.r, .r, .r, .r, .l, .r, .s, .b, .l]) ∧ ((PlanOK Try.prog lim56 .go (codeAt (bodyOf Try.f56) [.r, .r, .r, .r, .l, .r, .s, .b, .r, .l, .s, .l]) ∧ (PlanOK Try.prog lim56 .go (codeAt (bodyOf Try.f56) [.r, .r, .r, .r, .l, .r, .s, .b, .r, .l, .s, .r, .l]) ∧ FragOK Try.prog lim56 (fr56_0 k) (codeAt (bodyOf Try.f56) [.r, .r, .r, .r, .l, .r, .s, .b, .r, .l, .s, .r, .r, .s]))) ∧ PlanOK Try.prog lim56 .go (codeAt (bodyOf Try.f56) [.r, .r, .r, .r, .l, .r, .s, .b, .r, .r]))) := by kernel_rfl
theorem ps56_1 (k m : Nat) (v : (fr56_1 k).sh.V) : F56_1 k (m + 1) v.1.1 v.1.2.1 v.2.1 v.2.2.1 v.2.2.2.1 v.2.2.2.2.1 = (body Try.prog (stepper Try.prog (cfg56 k) lim56) (pl56_1 k) (codeAt (bodyOf Try.f56) [.r, .r, .r, .r, .l, .r, .s, .b]) ((fr56_1 k).sh.st v) (loopK (fr56_1 k) fun v => F56_1 k m v.1.1 v.1.2.1 v.2.1 v.2.2.1 v.2.2.2.1 v.2.2.2.2.1)).eval := by kernel_rfl
theorem pe56_1 (k m : Nat) (v : (fr56_1 k).sh.V) : (body Try.prog (stepper Try.prog (cfg56 k) lim56) (pl56_1 k) (codeAt (bodyOf Try.f56) [.r, .r, .r, .r, .l, .r, .s, .b]) ((fr56_1 k).sh.st v) (loopK (fr56_1 k) fun v => F56_1 k m v.1.1 v.1.2.1 v.2.1 v.2.2.1 v.2.2.2.1 v.2.2.2.2.1)).left = (body Try.prog (stepper Try.prog (cfg56 k) lim56) (pl56_1 k) (codeAt (bodyOf Try.f56) [.r, .r, .r, .r, .l, .r, .s, .b]) ((fr56_1 k).sh.st v) (loopK (fr56_1 k) fun v => F56_1 k m v.1.1 v.1.2.1 v.2.1 v.2.2.1 v.2.2.2.1 v.2.2.2.2.1)).right := by kernel_rfl
theorem fr56_1_ok (k : Nat) : FragOK Try.prog lim56 (fr56_1 k) (codeAt (bodyOf Try.f56) [.r, .r, .r, .r, .l, .r, .s]) :=
  frag_cast (by kernel_rfl) (loop_ok (cfg56_ok k) (Eq.mpr (pq56_1 k) ⟨(planOK_go _), ⟨⟨(planOK_go _), ⟨(planOK_go _), (fr56_0_ok k)⟩⟩, (planOK_go _)⟩⟩) (fun m v => F56_1 k m v.1.1 v.1.2.1 v.2.1 v.2.2.1 v.2.2.2.1 v.2.2.2.2.1) k (fun _ => rfl) (fun _ => rfl) fun m v => ⟨ps56_1 k m v, pe56_1 k m v⟩)
def pl56_2 (k : Nat) : Plan := .go
theorem pq56_2 (k : Nat) : PlanOK Try.prog lim56 (pl56_2 k) (codeAt (bodyOf Try.f56) [.r, .r, .r, .r, .r, .l, .r, .s, .b]) = PlanOK Try.prog lim56 .go (codeAt (bodyOf Try.f56) [.r, .r, .r, .r, .r, .l, .r, .s, .b]) := by kernel_rfl
theorem ps56_2 (k m : Nat) (v : (fr56_2 k).sh.V) : F56_2 k (m + 1) v.1.1 v.1.2.1 v.2.1 v.2.2.1 v.2.2.2.1 v.2.2.2.2.1 = (body Try.prog (stepper Try.prog (cfg56 k) lim56) (pl56_2 k) (codeAt (bodyOf Try.f56) [.r, .r, .r, .r, .r, .l, .r, .s, .b]) ((fr56_2 k).sh.st v) (loopK (fr56_2 k) fun v => F56_2 k m v.1.1 v.1.2.1 v.2.1 v.2.2.1 v.2.2.2.1 v.2.2.2.2.1)).eval := by kernel_rfl
theorem pe56_2 (k m : Nat) (v : (fr56_2 k).sh.V) : (body Try.prog (stepper Try.prog (cfg56 k) lim56) (pl56_2 k) (codeAt (bodyOf Try.f56) [.r, .r, .r, .r, .r, .l, .r, .s, .b]) ((fr56_2 k).sh.st v) (loopK (fr56_2 k) fun v => F56_2 k m v.1.1 v.1.2.1 v.2.1 v.2.2.1 v.2.2.2.1 v.2.2.2.2.1)).left = (body Try.prog (stepper Try.prog (cfg56 k) lim56) (pl56_2 k) (codeAt (bodyOf Try.f56) [.r, .r, .r, .r, .r, .l, .r, .s, .b]) ((fr56_2 k).sh.st v) (loopK (fr56_2 k) fun v => F56_2 k m v.1.1 v.1.2.1 v.2.1 v.2.2.1 v.2.2.2.1 v.2.2.2.2.1)).right := by kernel_rfl
theorem fr56_2_ok (k : Nat) : FragOK Try.prog lim56 (fr56_2 k) (codeAt (bodyOf Try.f56) [.r, .r, .r, .r, .r, .l, .r, .s]) :=
  frag_cast (by kernel_rfl) (loop_ok (cfg56_ok k) (Eq.mpr (pq56_2 k) (planOK_go _)) (fun m v => F56_2 k m v.1.1 v.1.2.1 v.2.1 v.2.2.1 v.2.2.2.1 v.2.2.2.2.1) k (fun _ => rfl) (fun _ => rfl) fun m v => ⟨ps56_2 k m v, pe56_2 k m v⟩)
def pl56 (k : Nat) : Plan := (.seq .go (.seq .go (.seq .go (.seq .go (.seq (.seq .go (.sub (.frag (fr56_1 k)))) (.seq (.seq .go (.sub (.frag (fr56_2 k)))) .go))))))
theorem pq56 (k : Nat) : PlanOK Try.prog lim56 (pl56 k) (codeAt (bodyOf Try.f56) []) = (PlanOK Try.prog lim56 .go (codeAt (bodyOf Try.f56) [.l]) ∧ (PlanOK Try.prog lim56 .go (codeAt (bodyOf Try.f56) [.r, .l]) ∧ (PlanOK Try.prog lim56 .go (codeAt (bodyOf Try.f56) [.r, .r, .l]) ∧ (PlanOK Try.prog lim56 .go (codeAt (bodyOf Try.f56) [.r, .r, .r, .l]) ∧ ((PlanOK Try.prog lim56 .go (codeAt (bodyOf Try.f56) [.r, .r, .r, .r, .l, .l]) ∧ FragOK Try.prog lim56 (fr56_1 k) (codeAt (bodyOf Try.f56) [.r, .r, .r, .r, .l, .r, .s])) ∧ ((PlanOK Try.prog lim56 .go (codeAt (bodyOf Try.f56) [.r, .r, .r, .r, .r, .l, .l]) ∧ FragOK Try.prog lim56 (fr56_2 k) (codeAt (bodyOf Try.f56) [.r, .r, .r, .r, .r, .l, .r, .s])) ∧ PlanOK Try.prog lim56 .go (codeAt (bodyOf Try.f56) [.r, .r, .r, .r, .r, .r]))))))) := by kernel_rfl
theorem ev56 (k : Nat) (x : AT (sp56 k).ps) : (sp56 k).impl x = (fnT Try.prog (cfg56 k) lim56 Try.f56 (bodyOf Try.f56) (pl56 k) (sp56 k) x).eval := by kernel_rfl
theorem eq56 (k : Nat) (x : AT (sp56 k).ps) : (fnT Try.prog (cfg56 k) lim56 Try.f56 (bodyOf Try.f56) (pl56 k) (sp56 k) x).left = (fnT Try.prog (cfg56 k) lim56 Try.f56 (bodyOf Try.f56) (pl56 k) (sp56 k) x).right := by kernel_rfl
theorem v56 (k : Nat) : Callable Try.prog 56 ∧ Valid Try.prog 56 (sp56 k) :=
  fn_ok (cfg56_ok k) (f := 56) (fn := Try.f56) (by kernel_rfl) (c := bodyOf Try.f56) (by kernel_rfl) (by kernel_rfl) rfl rfl (Nat.le_of_ble_eq_true rfl) (Nat.le_of_ble_eq_true rfl) (p := pl56 k) (Eq.mpr (pq56 k) ⟨(planOK_go _), ⟨(planOK_go _), ⟨(planOK_go _), ⟨(planOK_go _), ⟨⟨(planOK_go _), (fr56_1_ok k)⟩, ⟨⟨(planOK_go _), (fr56_2_ok k)⟩, (planOK_go _)⟩⟩⟩⟩⟩⟩) fun x => ⟨ev56 k x, eq56 k x⟩
/-! f57 hyphen/hyphenref7.alt -/
def F57_0 (k : Nat) : Nat → Int → Int → TY20 → TY20 → TY20 → TY20 → Option (((Int × Unit) × (TY20 × TY20 × TY20 × Unit)))
  | 0, _, _, _, _, _, _ => none
  | n + 1, t5, t7, c2, c3, c4, c6 =>
    bif (decide (t7 < t5)) then
      if 0 ≤ t7 ∧ t7 < ((List.length c2.2.1 : Nat) : Int) then
        if 0 ≤ t7 ∧ t7 < ((List.length c2.2.2.1 : Nat) : Int) then
          let x4 := (List.getD c2.2.2.1 (Int.toNat t7) (0 : Int))
          if 0 ≤ t7 ∧ t7 < ((List.length c6.2.1 : Nat) : Int) then
            let x5 := (List.set c6.2.1 (Int.toNat t7) (List.getD c2.2.1 (Int.toNat t7) (0 : Int)))
            if 0 ≤ t7 ∧ t7 < ((List.length c6.2.2.1 : Nat) : Int) then
              (F57_0 k n t5 (IntKind.wrap .i64 (t7 + (1 : Int))) c2 c3 c4 (c6.1, (x5, ((List.set c6.2.2.1 (Int.toNat t7) x4), c6.2.2.2)))).bind some
            else none
          else none
        else none
      else none
    else
      some ((t5, ()), (c3, c4, c6, ()))
def fr57_0 (k : Nat) : Frag := ⟨⟨[], [(2, .ptr 2 []), (3, .ptr 3 []), (4, .ptr 4 []), (5, .val (.int .i64)), (6, .ptr 6 []), (7, .val (.int .i64))], [(2, some 28, KD5), (3, some 28, KD5), (4, some 28, KD6), (6, some 28, KD6)]⟩, [(.exit 0, ⟨[], [(3, .ptr 3 []), (4, .ptr 4 []), (5, .val (.int .i64)), (6, .ptr 6 [])], [(3, some 28, KD5), (4, some 28, KD6), (6, some 28, KD6)]⟩)], fun v => F57_0 k k v.1.1 v.1.2.1 v.2.1 v.2.2.1 v.2.2.2.1 v.2.2.2.2.1⟩
def F57_1 (k : Nat) : Nat → Int → Int → TY20 → TY20 → TY20 → Option TY8
  | 0, _, _, _, _, _ => none
  | n + 1, t5, t8, c3, c4, c6 =>
    let x16 := (decide (t8 < ((List.length c3.1 : Nat) : Int)))
    bif x16 then
      if 0 ≤ t8 ∧ t8 < ((List.length c3.2.1 : Nat) : Int) then
        if 0 ≤ t8 ∧ t8 < ((List.length c3.2.2.1 : Nat) : Int) then
          let x17 := (List.getD c3.2.2.1 (Int.toNat t8) (0 : Int))
          if 0 ≤ (IntKind.wrap .i64 (t5 + t8)) ∧ (IntKind.wrap .i64 (t5 + t8)) < ((List.length c6.2.1 : Nat) : Int) then
            let x18 := (Int.toNat (IntKind.wrap .i64 (t5 + t8)))
            let x19 := (List.set c6.2.1 x18 (List.getD c3.2.1 (Int.toNat t8) (0 : Int)))
            if 0 ≤ (IntKind.wrap .i64 (t5 + t8)) ∧ (IntKind.wrap .i64 (t5 + t8)) < ((List.length c6.2.2.1 : Nat) : Int) then
              let x20 := (Int.toNat (IntKind.wrap .i64 (t5 + t8)))
              (F57_1 k n t5 (IntKind.wrap .i64 (t8 + (1 : Int))) c3 c4 (c6.1, (x19, ((List.set c6.2.2.1 x20 x17), c6.2.2.2)))).bind some
            else none
          else none
        else none
      else none
    else
      some ((), (c4, c6, ()))
def fr57_1 (k : Nat) : Frag := ⟨⟨[], [(3, .ptr 3 []), (4, .ptr 4 []), (5, .val (.int .i64)), (6, .ptr 6 []), (8, .val (.int .i64))], [(3, some 28, KD5), (4, some 28, KD6), (6, some 28, KD6)]⟩, [(.exit 2, ⟨[], [(4, .ptr 4 []), (6, .ptr 6 [])], [(4, some 28, KD6), (6, some 28, KD6)]⟩)], fun v => F57_1 k k v.1.1 v.1.2.1 v.2.1 v.2.2.1 v.2.2.2.1⟩
def F57 (k : Nat) (a0 : TY20) (a1 : TY20) : Option TY16 :=
  (F64 k a0 a1).bind fun r1 =>
  (F57_0 k k ((List.length a0.1 : Nat) : Int) (0 : Int) a0 a1 (([] : (List Int)), (([] : (List Int)), (([] : (List Int)), (([] : TY45), ((0 : Int), ()))))) (r1.1.1.1, (r1.1.1.2.1, (r1.1.1.2.2.1, (r1.1.1.2.2.2.1, ((minI a0.2.2.2.2.1 a1.2.2.2.2.1), r1.1.1.2.2.2.2.2)))))).bind fun r6 =>
  let y7 := r6.1.1
  let y8 := r6.2.1
  let y9 := r6.2.2.1
  let y10 := r6.2.2.2.1
  (F57_1 k k y7 (0 : Int) y8 y9 y10).bind fun r21 =>
  let y23 := r21.2.2.1
  some ((y23, ()), ())
def sp57 (k : Nat) : Spec := ⟨[.val KD5, .val KD5], [.own KD6], fun x => F57 k x.1 x.2.1⟩
def lim57 : Lim := ⟨74, 2, false, false, []⟩
def cfg57 (k : Nat) : Nat → Option Spec := cfgL [(64, sp64 k)]
theorem cfg57_ok (k : Nat) : CfgOK Try.prog (cfg57 k) := cfgL_cons (v64 k) (cfgL_nil)
def pl57_0 (k : Nat) : Plan := .go
theorem pq57_0 (k : Nat) : PlanOK Try.prog lim57 (pl57_0 k) (codeAt (bodyOf Try.f57) [.r, .r, .r, .r, .l, .r, .s, .b]) = PlanOK Try.prog lim57 .go (codeAt (bodyOf Try.f57) [.r, .r, .r, .r, .l, .r, .s, .b]) := by kernel_rfl
theorem ps57_0 (k m : Nat) (v : (fr57_0 k).sh.V) : F57_0 k (m + 1) v.1.1 v.1.2.1 v.2.1 v.2.2.1 v.2.2.2.1 v.2.2.2.2.1 = (body Try.prog (stepper Try.prog (cfg57 k) lim57) (pl57_0 k) (codeAt (bodyOf Try.f57) [.r, .r, .r, .r, .l, .r, .s, .b]) ((fr57_0 k).sh.st v) (loopK (fr57_0 k) fun v => F57_0 k m v.1.1 v.1.2.1 v.2.1 v.2.2.1 v.2.2.2.1 v.2.2.2.2.1)).eval := by kernel_rfl
theorem pe57_0 (k m : Nat) (v : (fr57_0 k).sh.V) : (body Try.prog (stepper Try.prog (cfg57 k) lim57) (pl57_0 k) (codeAt (bodyOf Try.f57) [.r, .r, .r, .r, .l, .r, .s, .b]) ((fr57_0 k).sh.st v) (loopK (fr57_0 k) fun v => F57_0 k m v.1.1 v.1.2.1 v.2.1 v.2.2.1 v.2.2.2.1 v.2.2.2.2.1)).left = (body Try.prog (stepper Try.prog (cfg57 k) lim57) (pl57_0 k) (codeAt (bodyOf Try.f57) [.r, .r, .r, .r, .l, .r, .s, .b]) ((fr57_0 k).sh.st v) (loopK (fr57_0 k) fun v => F57_0 k m v.1.1 v.1.2.1 v.2.1 v.2.2.1 v.2.2.2.1 v.2.2.2.2.1)).right := by kernel_rfl
theorem fr57_0_ok (k : Nat) : FragOK Try.prog lim57 (fr57_0 k) (codeAt (bodyOf Try.f57) [.r, .r, .r, .r, .l, .r, .s]) :=
  frag_cast (by kernel_rfl) (loop_ok (cfg57_ok k) (Eq.mpr (pq57_0 k) (planOK_go _)) (fun m v => F57_0 k m v.1.1 v.1.2.1 v.2.1 v.2.2.1 v.2.2.2.1 v.2.2.2.2.1) k (fun _ => rfl) (fun _ => rfl) fun m v => ⟨ps57_0 k m v, pe57_0 k m v⟩)
def pl57_1 (k : Nat) : Plan := .go
theorem pq57_1 (k : Nat) : PlanOK Try.prog lim57 (pl57_1 k) (codeAt (bodyOf Try.f57) [.r, .r, .r, .r, .r, .l, .r, .s, .b]) = PlanOK Try.prog lim57 .go (codeAt (bodyOf Try.f57) [.r, .r, .r, .r, .r, .l, .r, .s, .b]) := by kernel_rfl
theorem ps57_1 (k m : Nat) (v : (fr57_1 k).sh.V) : F57_1 k (m + 1) v.1.1 v.1.2.1 v.2.1 v.2.2.1 v.2.2.2.1 = (body Try.prog (stepper Try.prog (cfg57 k) lim57) (pl57_1 k) (codeAt (bodyOf Try.f57) [.r, .r, .r, .r, .r, .l, .r, .s, .b]) ((fr57_1 k).sh.st v) (loopK (fr57_1 k) fun v => F57_1 k m v.1.1 v.1.2.1 v.2.1 v.2.2.1 v.2.2.2.1)).eval := by kernel_rfl
theorem pe57_1 (k m : Nat) (v : (fr57_1 k).sh.V) : (body Try.prog (stepper Try.prog (cfg57 k) lim57) (pl57_1 k) (codeAt (bodyOf Try.f57) [.r, .r, .r, .r, .r, .l, .r, .s, .b]) ((fr57_1 k).sh.st v) (loopK (fr57_1 k) fun v => F57_1 k m v.1.1 v.1.2.1 v.2.1 v.2.2.1 v.2.2.2.1)).left = (body Try.prog (stepper Try.prog (cfg57 k) lim57) (pl57_1 k) (codeAt (bodyOf Try.f57) [.r, .r, .r, .r, .r, .l, .r, .s, .b]) ((fr57_1 k).sh.st v) (loopK (fr57_1 k) fun v => F57_1 k m v.1.1 v.1.2.1 v.2.1 v.2.2.1 v.2.2.2.1)).right := by kernel_rfl
theorem fr57_1_ok (k : Nat) : FragOK Try.prog lim57 (fr57_1 k) (codeAt (bodyOf Try.f57) [.r, .r, .r, .r, .r, .l, .r, .s]) :=
  frag_cast (by kernel_rfl) (loop_ok (cfg57_ok k) (Eq.mpr (pq57_1 k) (planOK_go _)) (fun m v => F57_1 k m v.1.1 v.1.2.1 v.2.1 v.2.2.1 v.2.2.2.1) k (fun _ => rfl) (fun _ => rfl) fun m v => ⟨ps57_1 k m v, pe57_1 k m v⟩)
def pl57 (k : Nat) : Plan := (.seq .go (.seq .go (.seq .go (.seq .go (.seq (.seq .go (.sub (.frag (fr57_0 k)))) (.seq (.seq .go (.sub (.frag (fr57_1 k)))) .go))))))
theorem pq57 (k : Nat) : PlanOK Try.prog lim57 (pl57 k) (codeAt (bodyOf Try.f57) []) = (PlanOK Try.prog lim57 .go (codeAt (bodyOf Try.f57) [.l]) ∧ (PlanOK Try.prog lim57 .go (codeAt (bodyOf Try.f57) [.r, .l]) ∧ (PlanOK Try.prog lim57 .go (codeAt (bodyOf Try.f57) [.r, .r, .l]) ∧ (PlanOK Try.prog lim57 .go (codeAt (bodyOf Try.f57) [.r, .r, .r, .l]) ∧ ((PlanOK Try.prog lim57 .go (codeAt (bodyOf Try.f57) [.r, .r, .r, .r, .l, .l]) ∧ FragOK Try.prog lim57 (fr57_0 k) (codeAt (bodyOf Try.f57) [.r, .r, .r, .r, .l, .r, .s])) ∧ ((PlanOK Try.prog lim57 .go (codeAt (bodyOf Try.f57) [.r, .r, .r, .r, .r, .l, .l]) ∧ FragOK Try.prog lim57 (fr57_1 k) (codeAt (bodyOf Try.f57) [.r, .r, .r, .r, .r, .l, .r, .s])) ∧ PlanOK Try.prog lim57 .go (codeAt (bodyOf Try.f57) [.r, .r, .r, .r, .r, .r]))))))) := by kernel_rfl
theorem ev57 (k : Nat) (x : AT (sp57 k).ps) : (sp57 k).impl x = (fnT Try.prog (cfg57 k) lim57 Try.f57 (bodyOf Try.f57) (pl57 k) (sp57 k) x).eval := by kernel_rfl
theorem eq57 (k : Nat) (x : AT (sp57 k).ps) : (fnT Try.prog (cfg57 k) lim57 Try.f57 (bodyOf Try.f57) (pl57 k) (sp57 k) x).left = (fnT Try.prog (cfg57 k) lim57 Try.f57 (bodyOf Try.f57) (pl57 k) (sp57 k) x).right := by kernel_rfl
theorem v57 (k : Nat) : Callable Try.prog 57 ∧ Valid Try.prog 57 (sp57 k) :=
  fn_ok (cfg57_ok k) (f := 57) (fn := Try.f57) (by kernel_rfl) (c := bodyOf Try.f57) (by kernel_rfl) (by kernel_rfl) rfl rfl (Nat.le_of_ble_eq_true rfl) (Nat.le_of_ble_eq_true rfl) (p := pl57 k) (Eq.mpr (pq57 k) ⟨(planOK_go _), ⟨(planOK_go _), ⟨(planOK_go _), ⟨(planOK_go _), ⟨⟨(planOK_go _), (fr57_0_ok k)⟩, ⟨⟨(planOK_go _), (fr57_1_ok k)⟩, (planOK_go _)⟩⟩⟩⟩⟩⟩) fun x => ⟨ev57 k x, eq57 k x⟩
/-! f58 hyphen/hyphenref7.star -/
def F58_0 (k : Nat) : Nat → Int → Int → TY20 → TY20 → TY45 → Option (((Int × Unit) × TY4))
  | 0, _, _, _, _, _ => none
  | n + 1, t4, t5, c1, c2, c2000003 =>
    let x3 := (decide (t5 < ((List.length c1.1 : Nat) : Int)))
    bif x3 then
      if 0 ≤ t4 ∧ t4 < ((List.length c1.2.2.1 : Nat) : Int) then
        let x4 := (List.getD c1.2.2.1 (Int.toNat t4) (0 : Int))
        if 0 ≤ t5 ∧ t5 < ((List.length c1.2.1 : Nat) : Int) then
          (F37 k x4 (List.getD c1.2.1 (Int.toNat t5) (0 : Int))).bind fun r5 =>
          (F65 k c2000003 (t4, (t5, (r5.1.1, ())))).bind fun r6 =>
          (F58_0 k n t4 (IntKind.wrap .i64 (t5 + (1 : Int))) c1 c2 r6.1.1).bind some
        else none
      else none
    else
      some ((t4, ()), (c1, c2, c2000003, ()))
def fr58_0 (k : Nat) : Frag := ⟨⟨[(3, KD26)], [(1, .ptr 1 []), (2, .ptr 2 []), (3, .at 2000003 []), (4, .val (.int .i64)), (5, .val (.int .i64))], [(1, some 28, KD6), (2, some 28, KD6), (2000003, none, KD26)]⟩, [(.exit 2, ⟨[(3, KD26)], [(1, .ptr 1 []), (2, .ptr 2 []), (3, .at 2000003 []), (4, .val (.int .i64))], [(1, some 28, KD6), (2, some 28, KD6), (2000003, none, KD26)]⟩)], fun v => F58_0 k k v.1.1 v.1.2.1 v.2.1 v.2.2.1 v.2.2.2.1⟩
def F58_1 (k : Nat) : Nat → Int → TY20 → TY20 → TY45 → Option ((Unit × TY4))
  | 0, _, _, _, _ => none
  | n + 1, t4, c1, c2, c2000003 =>
    let x2 := (decide (t4 < ((List.length c1.1 : Nat) : Int)))
    bif x2 then
      (F58_0 k k t4 (0 : Int) c1 c2 c2000003).bind fun r7 =>
      let y8 := r7.1.1
      let y9 := r7.2.1
      let y10 := r7.2.2.1
      let y11 := r7.2.2.2.1
      (F58_1 k n (IntKind.wrap .i64 (y8 + (1 : Int))) y9 y10 y11).bind some
    else
      some ((), (c1, c2, c2000003, ()))
def fr58_1 (k : Nat) : Frag := ⟨⟨[(3, KD26)], [(1, .ptr 1 []), (2, .ptr 2 []), (3, .at 2000003 []), (4, .val (.int .i64))], [(1, some 28, KD6), (2, some 28, KD6), (2000003, none, KD26)]⟩, [(.exit 0, ⟨[(3, KD26)], [(1, .ptr 1 []), (2, .ptr 2 []), (3, .at 2000003 [])], [(1, some 28, KD6), (2, some 28, KD6), (2000003, none, KD26)]⟩)], fun v => F58_1 k k v.1.1 v.2.1 v.2.2.1 v.2.2.2.1⟩
def F58 (k : Nat) (a0 : TY20) : Option TY16 :=
  let x1 := (List.replicate 0 ((0 : Int), ((0 : Int), ((0 : Int), ()))))
  if (List.length x1 + List.length a0.2.2.2.1) * (24 * 2) ≤ 281474976710656 ∧ List.length x1 + List.length a0.2.2.2.1 ≤ 9223372036854775807 then
    (F58_1 k k (0 : Int) (a0.1, (a0.2.1, (a0.2.2.1, (a0.2.2.2.1, ((0 : Int), a0.2.2.2.2.2))))) (([] : (List Int)), (([] : (List Int)), (([] : (List Int)), (([] : TY45), ((0 : Int), ()))))) (x1 ++ a0.2.2.2.1)).bind fun r12 =>
    let y13 := r12.2.1
    let y15 := r12.2.2.2.1
    some (((y13.1, (y13.2.1, (y13.2.2.1, (y15, y13.2.2.2.2)))), ()), ())
  else none
def sp58 (k : Nat) : Spec := ⟨[.own KD6], [.own KD6], fun x => F58 k x.1⟩
def lim58 : Lim := ⟨44, 1, false, false, []⟩
def cfg58 (k : Nat) : Nat → Option Spec := cfgL [(37, sp37 k), (65, sp65 k)]
theorem cfg58_ok (k : Nat) : CfgOK Try.prog (cfg58 k) := cfgL_cons (v37 k) (cfgL_cons (v65 k) (cfgL_nil))
def pl58_0 (k : Nat) : Plan := .go
theorem pq58_0 (k : Nat) : PlanOK Try.prog lim58 (pl58_0 k) (codeAt (bodyOf Try.f58) [.r, .r, .r, .l, .r, .s, .b, .r, .l, .s, .r, .s, .b]) = PlanOK Try.prog lim58 .go (codeAt (bodyOf Try.f58) [.r, .r, .r, .l, .r, .s, .b, .r, .l, .s, .r, .s, .b]) := by kernel_rfl
theorem ps58_0 (k m : Nat) (v : (fr58_0 k).sh.V) : F58_0 k (m + 1) v.1.1 v.1.2.1 v.2.1 v.2.2.1 v.2.2.2.1 = (body Try.prog (stepper Try.prog (cfg58 k) lim58) (pl58_0 k) (codeAt (bodyOf Try.f58) [.r, .r, .r, .l, .r, .s, .b, .r, .l, .s, .r, .s, .b]) ((fr58_0 k).sh.st v) (loopK (fr58_0 k) fun v => F58_0 k m v.1.1 v.1.2.1 v.2.1 v.2.2.1 v.2.2.2.1)).eval := by kernel_rfl
theorem pe58_0 (k m : Nat) (v : (fr58_0 k).sh.V) : (body Try.prog (stepper Try.prog (cfg58 k) lim58) (pl58_0 k) (codeAt (bodyOf Try.f58) [.r, .r, .r, .l, .r, .s, .b, .r, .l, .s, .r, .s, .b]) ((fr58_0 k).sh.st v) (loopK (fr58_0 k) fun v => F58_0 k m v.1.1 v.1.2.1 v.2.1 v.2.2.1 v.2.2.2.1)).left = (body Try.prog (stepper Try.prog (cfg58 k) lim58) (pl58_0 k) (codeAt (bodyOf Try.f58) [.r, .r, .r, .l, .r, .s, .b, .r, .l, .s, .r, .s, .b]) ((fr58_0 k).sh.st v) (loopK (fr58_0 k) fun v => F58_0 k m v.1.1 v.1.2.1 v.2.1 v.2.2.1 v.2.2.2.1)).right := by kernel_rfl
theorem fr58_0_ok (k : Nat) : FragOK Try.prog lim58 (fr58_0 k) (codeAt (bodyOf Try.f58) [.r, .r, .r, .l, .r, .s, .b, .r, .l, .s, .r, .s]) :=
  frag_cast (by kernel_rfl) (loop_ok (cfg58_ok k) (Eq.mpr (pq58_0 k) (planOK_go _)) (fun m v => F58_0 k m v.1.1 v.1.2.1 v.2.1 v.2.2.1 v.2.2.2.1) k (fun _ => rfl) (fun _ => rfl) fun m v => ⟨ps58_0 k m v, pe58_0 k m v⟩)
def pl58_1 (k : Nat) : Plan := (.seq .go (.seq (.sub (.seq .go (.sub (.frag (fr58_0 k))))) .go))
theorem pq58_1 (k : Nat) : PlanOK Try.prog lim58 (pl58_1 k) (codeAt (bodyOf Try.f58) [.r, .r, .r, .l, .r, .s, .b]) = (PlanOK Try.prog lim58 .go (codeAt (bodyOf Try.f58) [.r, .r, .r, .l, .r, .s, .b, .l]) ∧ ((PlanOK Try.prog lim58 .go (codeAt (bodyOf Try.f58) [.r, .r, .r, .l, .r, .s, .b, .r, .l, .s, .l]) ∧ FragOK Try.prog lim58 (fr58_0 k) (codeAt (bodyOf Try.f58) [.r, .r, .r, .l, .r, .s, .b, .r, .l, .s, .r, .s])) ∧ PlanOK Try.prog lim58 .go (codeAt (bodyOf Try.f58) [.r, .r, .r, .l, .r, .s, .b, .r, .r]))) := by kernel_rfl
theorem ps58_1 (k m : Nat) (v : (fr58_1 k).sh.V) : F58_1 k (m + 1) v.1.1 v.2.1 v.2.2.1 v.2.2.2.1 = (body Try.prog (stepper Try.prog (cfg58 k) lim58) (pl58_1 k) (codeAt (bodyOf Try.f58) [.r, .r, .r, .l, .r, .s, .b]) ((fr58_1 k).sh.st v) (loopK (fr58_1 k) fun v => F58_1 k m v.1.1 v.2.1 v.2.2.1 v.2.2.2.1)).eval := by kernel_rfl
theorem pe58_1 (k m : Nat) (v : (fr58_1 k).sh.V) : (body Try.prog (stepper Try.prog (cfg58 k) lim58) (pl58_1 k) (codeAt (bodyOf Try.f58) [.r, .r, .r, .l, .r, .s, .b]) ((fr58_1 k).sh.st v) (loopK (fr58_1 k) fun v => F58_1 k m v.1.1 v.2.1 v.2.2.1 v.2.2.2.1)).left = (body Try.prog (stepper Try.prog (cfg58 k) lim58) (pl58_1 k) (codeAt (bodyOf Try.f58) [.r, .r, .r, .l, .r, .s, .b]) ((fr58_1 k).sh.st v) (loopK (fr58_1 k) fun v => F58_1 k m v.1.1 v.2.1 v.2.2.1 v.2.2.2.1)).right := by kernel_rfl
theorem fr58_1_ok (k : Nat) : FragOK Try.prog lim58 (fr58_1 k) (codeAt (bodyOf Try.f58) [.r, .r, .r, .l, .r, .s]) :=
  frag_cast (by kernel_rfl) (loop_ok (cfg58_ok k) (Eq.mpr (pq58_1 k) ⟨(planOK_go _), ⟨⟨(planOK_go _), (fr58_0_ok k)⟩, (planOK_go _)⟩⟩) (fun m v => F58_1 k m v.1.1 v.2.1 v.2.2.1 v.2.2.2.1) k (fun _ => rfl) (fun _ => rfl) fun m v => ⟨ps58_1 k m v, pe58_1 k m v⟩)
def pl58 (k : Nat) : Plan := (.seq .go (.seq .go (.seq .go (.seq (.seq .go (.sub (.frag (fr58_1 k)))) .go))))
theorem pq58 (k : Nat) : PlanOK Try.prog lim58 (pl58 k) (codeAt (bodyOf Try.f58) []) = (PlanOK Try.prog lim58 .go (codeAt (bodyOf Try.f58) [.l]) ∧ (PlanOK Try.prog lim58 .go (codeAt (bodyOf Try.f58) [.r, .l]) ∧ (PlanOK Try.prog lim58 .go (codeAt (bodyOf Try.f58) [.r, .r, .l]) ∧ ((PlanOK Try.prog lim58 .go (codeAt (bodyOf Try.f58) [.r, .r, .r, .l, .l]) ∧ FragOK Try.prog lim58 (fr58_1 k) (codeAt (bodyOf Try.f58) [.r, .r, .r, .l, .r, .s])) ∧ PlanOK Try.prog lim58 .go (codeAt (bodyOf Try.f58) [.r, .r, .r, .r]))))) := by kernel_rfl
theorem ev58 (k : Nat) (x : AT (sp58 k).ps) : (sp58 k).impl x = (fnT Try.prog (cfg58 k) lim58 Try.f58 (bodyOf Try.f58) (pl58 k) (sp58 k) x).eval := by kernel_rfl
theorem eq58 (k : Nat) (x : AT (sp58 k).ps) : (fnT Try.prog (cfg58 k) lim58 Try.f58 (bodyOf Try.f58) (pl58 k) (sp58 k) x).left = (fnT Try.prog (cfg58 k) lim58 Try.f58 (bodyOf Try.f58) (pl58 k) (sp58 k) x).right := by kernel_rfl
theorem v58 (k : Nat) : Callable Try.prog 58 ∧ Valid Try.prog 58 (sp58 k) :=
  fn_ok (cfg58_ok k) (f := 58) (fn := Try.f58) (by kernel_rfl) (c := bodyOf Try.f58) (by kernel_rfl) (by kernel_rfl) rfl rfl (Nat.le_of_ble_eq_true rfl) (Nat.le_of_ble_eq_true rfl) (p := pl58 k) (Eq.mpr (pq58 k) ⟨(planOK_go _), ⟨(planOK_go _), ⟨(planOK_go _), ⟨⟨(planOK_go _), (fr58_1_ok k)⟩, (planOK_go _)⟩⟩⟩⟩) fun x => ⟨ev58 k x, eq58 k x⟩
/-! f44: f44 -/
def rs44 (f44 : (TY37 → TY3 → Option TY16)) : Spec := ⟨[.val KD17, .val KD0], [.own KD6], fun x => f44 x.1 x.2.1⟩
/-! f44 hyphen/hyphenref7.side -/
def F44_0 (k : Nat) (f44 : (TY37 → TY3 → Option TY16)) : Nat → Int → TY15 → TY20 → TY20 → Option TY8
  | 0, _, _, _, _ => none
  | n + 1, t7, c2, c4, c6 =>
    let x30 := (decide (t7 < ((List.length c6.2.1 : Nat) : Int)))
    bif x30 then
      if 0 ≤ t7 ∧ t7 < ((List.length c6.2.1 : Nat) : Int) then
        (F37 k (List.getD c6.2.1 (Int.toNat t7) (0 : Int)) c2.2.2.2.1).bind fun r31 =>
        if 0 ≤ t7 ∧ t7 < ((List.length c6.2.1 : Nat) : Int) then
          (F44_0 k f44 n (IntKind.wrap .i64 (t7 + (1 : Int))) c2 c4 (c6.1, ((List.set c6.2.1 (Int.toNat t7) r31.1.1), c6.2.2))).bind some
        else none
      else none
    else
      some ((), (c4, c6, ()))
def fr44_0 (k : Nat) (f44 : (TY37 → TY3 → Option TY16)) : Frag := ⟨⟨[], [(2, .ptr 2 []), (4, .ptr 4 []), (6, .ptr 6 []), (7, .val (.int .i64))], [(2, some 49, KD9), (4, some 28, KD6), (6, some 28, KD6)]⟩, [(.exit 1, ⟨[], [(4, .ptr 4 []), (6, .ptr 6 [])], [(4, some 28, KD6), (6, some 28, KD6)]⟩)], fun v => F44_0 k f44 k v.1.1 v.2.1 v.2.2.1 v.2.2.2.1⟩
def F44_1 (k : Nat) (f44 : (TY37 → TY3 → Option TY16)) : Nat → Int → TY15 → TY20 → TY20 → TY20 → Option TY8
  | 0, _, _, _, _, _ => none
  | n + 1, t10, c2, c4, c8, c9 =>
    bif (decide (t10 ≥ (1 : Int))) then
      (F56 k c9 c8).bind fun r39 =>
      bif (decide (t10 > c2.2.1)) then
        (F44_1 k f44 n (IntKind.wrap .i64 (t10 - (1 : Int))) c2 c4 (r39.1.1.1, (r39.1.1.2.1, (r39.1.1.2.2.1, (r39.1.1.2.2.2.1, ((0 : Int), r39.1.1.2.2.2.2.2))))) c9).bind some
      else
        (F44_1 k f44 n (IntKind.wrap .i64 (t10 - (1 : Int))) c2 c4 r39.1.1 c9).bind some
    else
      some ((), (c4, c8, ()))
def fr44_1 (k : Nat) (f44 : (TY37 → TY3 → Option TY16)) : Frag := ⟨⟨[], [(2, .ptr 2 []), (4, .ptr 4 []), (8, .ptr 8 []), (9, .ptr 9 []), (10, .val (.int .i64))], [(2, some 49, KD9), (4, some 28, KD6), (8, some 28, KD6), (9, some 28, KD6)]⟩, [(.exit 3, ⟨[], [(4, .ptr 4 []), (8, .ptr 8 [])], [(4, some 28, KD6), (8, some 28, KD6)]⟩)], fun v => F44_1 k f44 k v.1.1 v.2.1 v.2.2.1 v.2.2.2.1 v.2.2.2.2.1⟩
def B44 (k : Nat) (f44 : (TY37 → TY3 → Option TY16)) (a0 : TY37) (a1 : TY3) : Option TY16 :=
  bif ((Tree.a a0).1 == (1 : Int)) then
    (F53 k).bind fun r1 =>
    some ((r1.1.1, ()), ())
  else
    bif ((Tree.a a0).1 == (2 : Int)) then
      (F54 k (1 : Int)).bind fun r2 =>
      if 0 ≤ (0 : Int) ∧ (0 : Int) < ((List.length r2.1.1.1 : Nat) : Int) then
        let x3 := (List.set r2.1.1.1 (Int.toNat (0 : Int)) (-1 : Int))
        if 0 ≤ (0 : Int) ∧ (0 : Int) < ((List.length r2.1.1.2.1 : Nat) : Int) then
          let x4 := (List.set r2.1.1.2.1 (Int.toNat (0 : Int)) (0 : Int))
          if 0 ≤ (0 : Int) ∧ (0 : Int) < ((List.length r2.1.1.2.2.1 : Nat) : Int) then
            let x5 := (List.set r2.1.1.2.2.1 (Int.toNat (0 : Int)) (0 : Int))
            bif ((Tree.a a0).1 == (2 : Int)) then
              (F55 k a1 (Tree.a a0).2.2.2.2.1).bind fun r6 =>
              if 0 ≤ (0 : Int) ∧ (0 : Int) < ((List.length x3 : Nat) : Int) then
                some ((((List.set x3 (Int.toNat (0 : Int)) r6.1.1), (x4, (x5, r2.1.1.2.2.2))), ()), ())
              else none
            else
              some (((x3, (x4, (x5, r2.1.1.2.2.2))), ()), ())
          else none
        else none
      else none
    else
      bif ((Tree.a a0).1 == (3 : Int)) then
        (F54 k (1 : Int)).bind fun r7 =>
        if 0 ≤ (0 : Int) ∧ (0 : Int) < ((List.length r7.1.1.1 : Nat) : Int) then
          let x8 := (List.set r7.1.1.1 (Int.toNat (0 : Int)) (-1 : Int))
          if 0 ≤ (0 : Int) ∧ (0 : Int) < ((List.length r7.1.1.2.1 : Nat) : Int) then
            let x9 := (List.set r7.1.1.2.1 (Int.toNat (0 : Int)) (0 : Int))
            if 0 ≤ (0 : Int) ∧ (0 : Int) < ((List.length r7.1.1.2.2.1 : Nat) : Int) then
              let x10 := (List.set r7.1.1.2.2.1 (Int.toNat (0 : Int)) (0 : Int))
              bif ((Tree.a a0).1 == (2 : Int)) then
                (F55 k a1 (Tree.a a0).2.2.2.2.1).bind fun r11 =>
                if 0 ≤ (0 : Int) ∧ (0 : Int) < ((List.length x8 : Nat) : Int) then
                  some ((((List.set x8 (Int.toNat (0 : Int)) r11.1.1), (x9, (x10, r7.1.1.2.2.2))), ()), ())
                else none
              else
                some (((x8, (x9, (x10, r7.1.1.2.2.2))), ()), ())
            else none
          else none
        else none
      else
        bif ((Tree.a a0).1 == (4 : Int)) then
          if 0 ≤ (0 : Int) ∧ (0 : Int) < ((List.length (Tree.l a0) : Nat) : Int) then
            let x12 := (List.getD (Tree.l a0) (Int.toNat (0 : Int)) (Tree.mk ((0 : Int), ((0 : Int), ((0 : Int), ((0 : Int), (ByteArray.empty, ()))))) []))
            if 0 ≤ (1 : Int) ∧ (1 : Int) < ((List.length (Tree.l a0) : Nat) : Int) then
              let x13 := (List.getD (Tree.l a0) (Int.toNat (1 : Int)) (Tree.mk ((0 : Int), ((0 : Int), ((0 : Int), ((0 : Int), (ByteArray.empty, ()))))) []))
              (f44 x12 a1).bind fun r14 =>
              (f44 x13 a1).bind fun r15 =>
              (F56 k r14.1.1 r15.1.1).bind fun r16 =>
              some ((r16.1.1, ()), ())
            else none
          else none
        else
          bif ((Tree.a a0).1 == (5 : Int)) then
            if 0 ≤ (0 : Int) ∧ (0 : Int) < ((List.length (Tree.l a0) : Nat) : Int) then
              let x17 := (List.getD (Tree.l a0) (Int.toNat (0 : Int)) (Tree.mk ((0 : Int), ((0 : Int), ((0 : Int), ((0 : Int), (ByteArray.empty, ()))))) []))
              if 0 ≤ (1 : Int) ∧ (1 : Int) < ((List.length (Tree.l a0) : Nat) : Int) then
                let x18 := (List.getD (Tree.l a0) (Int.toNat (1 : Int)) (Tree.mk ((0 : Int), ((0 : Int), ((0 : Int), ((0 : Int), (ByteArray.empty, ()))))) []))
                (f44 x17 a1).bind fun r19 =>
                (f44 x18 a1).bind fun r20 =>
                (F57 k r19.1.1 r20.1.1).bind fun r21 =>
                some ((r21.1.1, ()), ())
              else none
            else none
          else
            bif ((Tree.a a0).1 == (6 : Int)) then
              if 0 ≤ (0 : Int) ∧ (0 : Int) < ((List.length (Tree.l a0) : Nat) : Int) then
                let x22 := (List.getD (Tree.l a0) (Int.toNat (0 : Int)) (Tree.mk ((0 : Int), ((0 : Int), ((0 : Int), ((0 : Int), (ByteArray.empty, ()))))) []))
                (f44 x22 a1).bind fun r23 =>
                (F58 k r23.1.1).bind fun r24 =>
                some ((r24.1.1, ()), ())
              else none
            else
              bif ((Tree.a a0).1 == (8 : Int)) then
                if 0 ≤ (0 : Int) ∧ (0 : Int) < ((List.length (Tree.l a0) : Nat) : Int) then
                  let x25 := (List.getD (Tree.l a0) (Int.toNat (0 : Int)) (Tree.mk ((0 : Int), ((0 : Int), ((0 : Int), ((0 : Int), (ByteArray.empty, ()))))) []))
                  (f44 x25 a1).bind fun r26 =>
                  (F37 k r26.1.1.2.2.2.2.1 (Tree.a a0).2.2.2.1).bind fun r27 =>
                  (F44_0 k f44 k (0 : Int) ((Tree.a a0).1, ((Tree.a a0).2.1, ((Tree.a a0).2.2.1, ((Tree.a a0).2.2.2.1, ((Tree.a a0).2.2.2.2.1, ((Tree.l a0), ())))))) (([] : (List Int)), (([] : (List Int)), (([] : (List Int)), (([] : TY45), ((0 : Int), ()))))) (r26.1.1.1, (r26.1.1.2.1, (r26.1.1.2.2.1, (r26.1.1.2.2.2.1, (r27.1.1, r26.1.1.2.2.2.2.2)))))).bind fun r32 =>
                  let y34 := r32.2.2.1
                  some ((y34, ()), ())
                else none
              else
                if 0 ≤ (0 : Int) ∧ (0 : Int) < ((List.length (Tree.l a0) : Nat) : Int) then
                  let x35 := (List.getD (Tree.l a0) (Int.toNat (0 : Int)) (Tree.mk ((0 : Int), ((0 : Int), ((0 : Int), ((0 : Int), (ByteArray.empty, ()))))) []))
                  (F53 k).bind fun r36 =>
                  (f44 x35 a1).bind fun r37 =>
                  (F44_1 k f44 k (Tree.a a0).2.2.1 ((Tree.a a0).1, ((Tree.a a0).2.1, ((Tree.a a0).2.2.1, ((Tree.a a0).2.2.2.1, ((Tree.a a0).2.2.2.2.1, ((Tree.l a0), ())))))) (([] : (List Int)), (([] : (List Int)), (([] : (List Int)), (([] : TY45), ((0 : Int), ()))))) r36.1.1 r37.1.1).bind fun r40 =>
                  let y42 := r40.2.2.1
                  some ((y42, ()), ())
                else none
def sb44 (k : Nat) (f44 : (TY37 → TY3 → Option TY16)) : Spec := rs44 (B44 k f44)
def lim44 : Lim := ⟨135, 2, false, false, []⟩
def cfg44 (k : Nat) (f44 : (TY37 → TY3 → Option TY16)) : Nat → Option Spec := cfgL [(37, sp37 k), (44, rs44 f44), (53, sp53 k), (54, sp54 k), (55, sp55 k), (56, sp56 k), (57, sp57 k), (58, sp58 k)]
theorem cfg44_ok (k : Nat) (f44 : (TY37 → TY3 → Option TY16)) (h44 : Callable Try.prog 44 ∧ Valid Try.prog 44 (rs44 f44)) : CfgOK Try.prog (cfg44 k f44) := cfgL_cons (v37 k) (cfgL_cons h44 (cfgL_cons (v53 k) (cfgL_cons (v54 k) (cfgL_cons (v55 k) (cfgL_cons (v56 k) (cfgL_cons (v57 k) (cfgL_cons (v58 k) (cfgL_nil))))))))
def pl44_0 (k : Nat) (f44 : (TY37 → TY3 → Option TY16)) : Plan := .go
theorem pq44_0 (k : Nat) (f44 : (TY37 → TY3 → Option TY16)) : PlanOK Try.prog lim44 (pl44_0 k f44) (codeAt (bodyOf Try.f44) [.r, .l, .r, .s, .r, .r, .r, .r, .r, .r, .r, .r, .r, .r, .r, .l, .r, .r, .l, .r, .s, .b]) = PlanOK Try.prog lim44 .go (codeAt (bodyOf Try.f44) [.r, .l, .r, .s, .r, .r, .r, .r, .r, .r, .r, .r, .r, .r, .r, .l, .r, .r, .l, .r, .s, .b]) := by kernel_rfl
theorem ps44_0 (k : Nat) (f44 : (TY37 → TY3 → Option TY16)) (m : Nat) (v : (fr44_0 k f44).sh.V) : F44_0 k f44 (m + 1) v.1.1 v.2.1 v.2.2.1 v.2.2.2.1 = (body Try.prog (stepper Try.prog (cfg44 k f44) lim44) (pl44_0 k f44) (codeAt (bodyOf Try.f44) [.r, .l, .r, .s, .r, .r, .r, .r, .r, .r, .r, .r, .r, .r, .r, .l, .r, .r, .l, .r, .s, .b]) ((fr44_0 k f44).sh.st v) (loopK (fr44_0 k f44) fun v => F44_0 k f44 m v.1.1 v.2.1 v.2.2.1 v.2.2.2.1)).eval := by kernel_rfl
theorem pe44_0 (k : Nat) (f44 : (TY37 → TY3 → Option TY16)) (m : Nat) (v : (fr44_0 k f44).sh.V) : (body Try.prog (stepper Try.prog (cfg44 k f44) lim44) (pl44_0 k f44) (codeAt (bodyOf Try.f44) [.r, .l, .r, .s, .r, .r, .r, .r, .r, .r, .r, .r, .r, .r, .r, .l, .r, .r, .l, .r, .s, .b]) ((fr44_0 k f44).sh.st v) (loopK (fr44_0 k f44) fun v => F44_0 k f44 m v.1.1 v.2.1 v.2.2.1 v.2.2.2.1)).left = (body Try.prog (stepper Try.prog (cfg44 k f44) lim44) (pl44_0 k f44) (codeAt (bodyOf Try.f44) [.r, .l, .r, .s, .r, .r, .r, .r, .r, .r, .r, .r, .r, .r, .r, .l, .r, .r, .l, .r, .s, .b]) ((fr44_0 k f44).sh.st v) (loopK (fr44_0 k f44) fun v => F44_0 k f44 m v.1.1 v.2.1 v.2.2.1 v.2.2.2.1)).right := by kernel_rfl
theorem fr44_0_ok (k : Nat) (f44 : (TY37 → TY3 → Option TY16)) (h44 : Callable Try.prog 44 ∧ Valid Try.prog 44 (rs44 f44)) : FragOK Try.prog lim44 (fr44_0 k f44) (codeAt (bodyOf Try.f44) [.r, .l, .r, .s, .r, .r, .r, .r, .r, .r, .r, .r, .r, .r, .r, .l, .r, .r, .l, .r, .s]) :=
  frag_cast (by kernel_rfl) (loop_ok (cfg44_ok k f44 h44) (Eq.mpr (pq44_0 k f44) (planOK_go _)) (fun m v => F44_0 k f44 m v.1.1 v.2.1 v.2.2.1 v.2.2.2.1) k (fun _ => rfl) (fun _ => rfl) fun m v => ⟨ps44_0 k f44 m v, pe44_0 k f44 m v⟩)
def pl44_1 (k : Nat) (f44 : (TY37 → TY3 → Option TY16)) : Plan := .go
theorem pq44_1 (k : Nat) (f44 : (TY37 → TY3 → Option TY16)) : PlanOK Try.prog lim44 (pl44_1 k f44) (codeAt (bodyOf Try.f44) [.r, .r, .r, .l, .r, .s, .b]) = PlanOK Try.prog lim44 .go (codeAt (bodyOf Try.f44) [.r, .r, .r, .l, .r, .s, .b]) := by kernel_rfl
theorem ps44_1 (k : Nat) (f44 : (TY37 → TY3 → Option TY16)) (m : Nat) (v : (fr44_1 k f44).sh.V) : F44_1 k f44 (m + 1) v.1.1 v.2.1 v.2.2.1 v.2.2.2.1 v.2.2.2.2.1 = (body Try.prog (stepper Try.prog (cfg44 k f44) lim44) (pl44_1 k f44) (codeAt (bodyOf Try.f44) [.r, .r, .r, .l, .r, .s, .b]) ((fr44_1 k f44).sh.st v) (loopK (fr44_1 k f44) fun v => F44_1 k f44 m v.1.1 v.2.1 v.2.2.1 v.2.2.2.1 v.2.2.2.2.1)).eval := by kernel_rfl
theorem pe44_1 (k : Nat) (f44 : (TY37 → TY3 → Option TY16)) (m : Nat) (v : (fr44_1 k f44).sh.V) : (body Try.prog (stepper Try.prog (cfg44 k f44) lim44) (pl44_1 k f44) (codeAt (bodyOf Try.f44) [.r, .r, .r, .l, .r, .s, .b]) ((fr44_1 k f44).sh.st v) (loopK (fr44_1 k f44) fun v => F44_1 k f44 m v.1.1 v.2.1 v.2.2.1 v.2.2.2.1 v.2.2.2.2.1)).left = (body Try.prog (stepper Try.prog (cfg44 k f44) lim44) (pl44_1 k f44) (codeAt (bodyOf Try.f44) [.r, .r, .r, .l, .r, .s, .b]) ((fr44_1 k f44).sh.st v) (loopK (fr44_1 k f44) fun v => F44_1 k f44 m v.1.1 v.2.1 v.2.2.1 v.2.2.2.1 v.2.2.2.2.1)).right := by kernel_rfl
theorem fr44_1_ok (k : Nat) (f44 : (TY37 → TY3 → Option TY16)) (h44 : Callable Try.prog 44 ∧ Valid Try.prog 44 (rs44 f44)) : FragOK Try.prog lim44 (fr44_1 k f44) (codeAt (bodyOf Try.f44) [.r, .r, .r, .l, .r, .s]) :=
  frag_cast (by kernel_rfl) (loop_ok (cfg44_ok k f44 h44) (Eq.mpr (pq44_1 k f44) (planOK_go _)) (fun m v => F44_1 k f44 m v.1.1 v.2.1 v.2.2.1 v.2.2.2.1 v.2.2.2.2.1) k (fun _ => rfl) (fun _ => rfl) fun m v => ⟨ps44_1 k f44 m v, pe44_1 k f44 m v⟩)
def pl44 (k : Nat) (f44 : (TY37 → TY3 → Option TY16)) : Plan := (.seq .go (.seq (.seq .go (.sub (.seq .go (.seq .go (.seq .go (.seq .go (.seq .go (.seq .go (.seq .go (.seq .go (.seq .go (.seq .go (.seq .go (.seq (.seq .go (.seq .go (.seq (.seq .go (.sub (.frag (fr44_0 k f44)))) .go))) .go)))))))))))))) (.seq .go (.seq (.seq .go (.sub (.frag (fr44_1 k f44)))) .go))))
theorem pq44 (k : Nat) (f44 : (TY37 → TY3 → Option TY16)) : PlanOK Try.prog lim44 (pl44 k f44) (codeAt (bodyOf Try.f44) []) = (PlanOK Try.prog lim44 .go (codeAt (bodyOf Try.f44) [.l]) ∧ ((PlanOK Try.prog lim44 .go (codeAt (bodyOf Try.f44) [.r, .l, .l]) ∧ (PlanOK Try.prog lim44 .go (codeAt (bodyOf Try.f44) [.r, .l, .r, .s, .l]) ∧ (PlanOK Try.prog lim44 .go (codeAt (bodyOf Try.f44) [.r, .l, .r, .s, .r, .l]) ∧ (PlanOK Try.prog lim44 .go (codeAt (bodyOf Try.f44) [.r, .l, .r, .s, .r, .r, .l]) ∧ (PlanOK Try.prog lim44 .go (codeAt (bodyOf Try.f44) [.r, .l, .r, .s, .r, .r, .r, .l]) ∧ (PlanOK Try.prog lim44 .go (codeAt (bodyOf Try.f44) [.r, .l, .r, .s, .r, .r, .r, .r, .l]) ∧ (PlanOK Try.prog lim44 .go (codeAt (bodyOf Try.f44) [.r, .l, .r, .s, .r, .r, .r, .r, .r, .l]) ∧ (PlanOK Try.prog lim44 .go (codeAt (bodyOf Try.f44) [.r, .l, .r, .s, .r, .r, .r, .r, .r, .r, .l]) ∧ (PlanOK Try.prog lim44 .go (codeAt (bodyOf Try.f44) [.r, .l, .r, .s, .r, .r, .r, .r, .r, .r, .r, .l]) ∧ (PlanOK Try.prog lim44 .go (codeAt (bodyOf Try.f44) [.r, .l, .r, .s, .r, .r, .r, .r, .r, .r, .r, .r, .l]) ∧ (PlanOK Try.prog lim44 .go (codeAt (bodyOf Try.f44) [.r, .l, .r, .s, .r, .r, .r, .r, .r, .r, .r, .r, .r, .l]) ∧ (PlanOK Try.prog lim44 .go (codeAt (bodyOf Try.f44) [.r, .l, .r, .s, .r, .r, .r, .r, .r, .r, .r, .r, .r, .r, .l]) ∧ ((PlanOK Try.prog lim44 .go (codeAt (bodyOf Try.f44) [.r, .l, .r, .s, .r, .r, .r, .r, .r, .r, .r, .r, .r, .r, .r, .l, .l]) ∧ (PlanOK Try.prog lim44 .go (codeAt (bodyOf Try.f44) [.r, .l, .r, .s, .r, .r, .r, .r, .r, .r, .r, .r, .r, .r, .r, .l, .r, .l]) ∧ ((PlanOK Try.prog lim44 .go (codeAt (bodyOf Try.f44) [.r, .l, .r, .s, .r, .r, .r, .r, .r, .r, .r, .r, .r, .r, .r, .l, .r, .r, .l, .l]) ∧ FragOK Try.prog lim44 (fr44_0 k f44) (codeAt (bodyOf Try.f44) [.r, .l, .r, .s, .r, .r, .r, .r, .r, .r, .r, .r, .r, .r, .r, .l, .r, .r, .l, .r, .s])) ∧ PlanOK Try.prog lim44 .go (codeAt (bodyOf Try.f44) [.r, .l, .r, .s, .r, .r, .r, .r, .r, .r, .r, .r, .r, .r, .r, .l, .r, .r, .r])))) ∧ PlanOK Try.prog lim44 .go (codeAt (bodyOf Try.f44) [.r, .l, .r, .s, .r, .r, .r, .r, .r, .r, .r, .r, .r, .r, .r, .r])))))))))))))) ∧ (PlanOK Try.prog lim44 .go (codeAt (bodyOf Try.f44) [.r, .r, .l]) ∧ ((PlanOK Try.prog lim44 .go (codeAt (bodyOf Try.f44) [.r, .r, .r, .l, .l]) ∧ FragOK Try.prog lim44 (fr44_1 k f44) (codeAt (bodyOf Try.f44) [.r, .r, .r, .l, .r, .s])) ∧ PlanOK Try.prog lim44 .go (codeAt (bodyOf Try.f44) [.r, .r, .r, .r]))))) := by kernel_rfl
theorem ev44 (k : Nat) (f44 : (TY37 → TY3 → Option TY16)) (x : AT (sb44 k f44).ps) : (sb44 k f44).impl x = (fnT Try.prog (cfg44 k f44) lim44 Try.f44 (bodyOf Try.f44) (pl44 k f44) (sb44 k f44) x).eval := by kernel_rfl
theorem eq44 (k : Nat) (f44 : (TY37 → TY3 → Option TY16)) (x : AT (sb44 k f44).ps) : (fnT Try.prog (cfg44 k f44) lim44 Try.f44 (bodyOf Try.f44) (pl44 k f44) (sb44 k f44) x).left = (fnT Try.prog (cfg44 k f44) lim44 Try.f44 (bodyOf Try.f44) (pl44 k f44) (sb44 k f44) x).right := by kernel_rfl
theorem b44 (k : Nat) (f44 : (TY37 → TY3 → Option TY16)) (h44 : Callable Try.prog 44 ∧ Valid Try.prog 44 (rs44 f44)) : Callable Try.prog 44 ∧ Valid Try.prog 44 (sb44 k f44) :=
  fn_ok (cfg44_ok k f44 h44) (f := 44) (fn := Try.f44) (by kernel_rfl) (c := bodyOf Try.f44) (by kernel_rfl) (by kernel_rfl) rfl rfl (Nat.le_of_ble_eq_true rfl) (Nat.le_of_ble_eq_true rfl) (p := pl44 k f44) (Eq.mpr (pq44 k f44) ⟨(planOK_go _), ⟨⟨(planOK_go _), ⟨(planOK_go _), ⟨(planOK_go _), ⟨(planOK_go _), ⟨(planOK_go _), ⟨(planOK_go _), ⟨(planOK_go _), ⟨(planOK_go _), ⟨(planOK_go _), ⟨(planOK_go _), ⟨(planOK_go _), ⟨(planOK_go _), ⟨⟨(planOK_go _), ⟨(planOK_go _), ⟨⟨(planOK_go _), (fr44_0_ok k f44 h44)⟩, (planOK_go _)⟩⟩⟩, (planOK_go _)⟩⟩⟩⟩⟩⟩⟩⟩⟩⟩⟩⟩⟩, ⟨(planOK_go _), ⟨⟨(planOK_go _), (fr44_1_ok k f44 h44)⟩, (planOK_go _)⟩⟩⟩⟩) fun x => ⟨ev44 k f44 x, eq44 k f44 x⟩
def R44 : Nat → (TY37 → TY3 → Option TY16)
  | 0 => fun _ _ => none
  | k + 1 => B44 k (R44 k)
def F44 (k : Nat) (a0_ : TY37) (a1_ : TY3) : Option TY16 := (R44 k) a0_ a1_
def sp44 (k : Nat) : Spec := ⟨[.val KD17, .val KD0], [.own KD6], fun x => F44 k x.1 x.2.1⟩
theorem r44 (k : Nat) : (Callable Try.prog 44 ∧ Valid Try.prog 44 (rs44 (R44 k))) := by
  induction k with
  | zero => exact ⟨⟨Try.f44, by kernel_rfl, by kernel_rfl, by kernel_rfl⟩, fun x r h => by cases (show (none : Option _) = some r from h)⟩
  | succ k ih => exact b44 k (R44 k) ih
theorem v44 (k : Nat) : Callable Try.prog 44 ∧ Valid Try.prog 44 (sp44 k) := (r44 k)
/-! f22 hyphen/hyphenref7.Make -/
def F22 (k : Nat) (a0 : TY37) (a1 : TY3) : Option TY14 :=
  let x1 := (Tree.mk ((Tree.a a0).1, ((Tree.a a0).2.1, ((Tree.a a0).2.2.1, ((Tree.a a0).2.2.2.1, ((Tree.a a0).2.2.2.2.1, ()))))) (Tree.l a0))
  (F43 k x1).bind fun r2 =>
  bif (decide (r2.1.1 > (120 : Int))) then
    some (((([] : (List Int)), (([] : (List Int)), (([] : (List Int)), (([] : TY45), ((0 : Int), ()))))), false, ()), ())
  else
    let x3 := (Tree.mk ((Tree.a a0).1, ((Tree.a a0).2.1, ((Tree.a a0).2.2.1, ((Tree.a a0).2.2.2.1, ((Tree.a a0).2.2.2.2.1, ()))))) (Tree.l a0))
    (F44 k x3 a1).bind fun r4 =>
    some ((r4.1.1, true, ()), ())
def sp22 (k : Nat) : Spec := ⟨[.val KD17, .val KD0], [.own KD6, .val .bool], fun x => F22 k x.1 x.2.1⟩
def lim22 : Lim := ⟨13, 2, false, false, []⟩
def cfg22 (k : Nat) : Nat → Option Spec := cfgL [(43, sp43 k), (44, sp44 k)]
theorem cfg22_ok (k : Nat) : CfgOK Try.prog (cfg22 k) := cfgL_cons (v43 k) (cfgL_cons (v44 k) (cfgL_nil))
def pl22 (k : Nat) : Plan := .go
theorem pq22 (k : Nat) : PlanOK Try.prog lim22 (pl22 k) (codeAt (bodyOf Try.f22) []) = PlanOK Try.prog lim22 .go (codeAt (bodyOf Try.f22) []) := by kernel_rfl
theorem ev22 (k : Nat) (x : AT (sp22 k).ps) : (sp22 k).impl x = (fnT Try.prog (cfg22 k) lim22 Try.f22 (bodyOf Try.f22) (pl22 k) (sp22 k) x).eval := by kernel_rfl
theorem eq22 (k : Nat) (x : AT (sp22 k).ps) : (fnT Try.prog (cfg22 k) lim22 Try.f22 (bodyOf Try.f22) (pl22 k) (sp22 k) x).left = (fnT Try.prog (cfg22 k) lim22 Try.f22 (bodyOf Try.f22) (pl22 k) (sp22 k) x).right := by kernel_rfl
theorem v22 (k : Nat) : Callable Try.prog 22 ∧ Valid Try.prog 22 (sp22 k) :=
  fn_ok (cfg22_ok k) (f := 22) (fn := Try.f22) (by kernel_rfl) (c := bodyOf Try.f22) (by kernel_rfl) (by kernel_rfl) rfl rfl (Nat.le_of_ble_eq_true rfl) (Nat.le_of_ble_eq_true rfl) (p := pl22 k) (Eq.mpr (pq22 k) (planOK_go _)) fun x => ⟨ev22 k x, eq22 k x⟩
/-! f66 hyphen/hyphenref3.sorted -/
def F66_0 (k : Nat) : Nat → TY52 → Int → Int → (Int × (Int × Unit)) → TY52 → Option (((TY52 × Int × Int × Unit) × ((Int × (Int × Unit)) × TY52 × Unit)))
  | 0, _, _, _, _, _ => none
  | n + 1, t0, t4, t6, c5, c2000003 =>
    bif (decide (t6 > (0 : Int))) then
      if 0 ≤ (IntKind.wrap .i64 (t6 - (1 : Int))) ∧ (IntKind.wrap .i64 (t6 - (1 : Int))) < ((List.length c2000003 : Nat) : Int) then
        let x5 := (Int.toNat (IntKind.wrap .i64 (t6 - (1 : Int))))
        let x6 := (List.getD c2000003 x5 ((0 : Int), ((0 : Int), ()))).1
        bif (decide (c5.1 < x6)) then
          (F66_0 k n t0 t4 (IntKind.wrap .i64 (t6 - (1 : Int))) c5 c2000003).bind some
        else
          some ((t0, t4, t6, ()), (c5, c2000003, ()))
      else none
    else
      some ((t0, t4, t6, ()), (c5, c2000003, ()))
def fr66_0 (k : Nat) : Frag := ⟨⟨[(3, KD35)], [(0, .val KD32), (3, .at 2000003 []), (4, .val (.int .i64)), (5, .ptr 5 []), (6, .val (.int .i64))], [(5, some 113, (.pair (.int .i64) (.pair (.int .i64) .unit))), (2000003, none, KD35)]⟩, [(.exit 2, ⟨[], [(0, .val KD32), (3, .at 2000003 []), (4, .val (.int .i64)), (5, .ptr 5 []), (6, .val (.int .i64))], [(5, some 113, (.pair (.int .i64) (.pair (.int .i64) .unit))), (2000003, none, KD35)]⟩)], fun v => F66_0 k k v.1.1 v.1.2.1 v.1.2.2.1 v.2.1 v.2.2.1⟩
def F66_1 (k : Nat) : Nat → TY52 → Int → TY52 → Option ((Unit × TY44))
  | 0, _, _, _ => none
  | n + 1, t0, t4, c2000003 =>
    let x1 := (decide (t4 < ((List.length t0 : Nat) : Int)))
    bif x1 then
      if 0 ≤ t4 ∧ t4 < ((List.length t0 : Nat) : Int) then
        let x2 := (List.getD t0 (Int.toNat t4) ((0 : Int), ((0 : Int), ())))
        if 0 ≤ t4 ∧ t4 < ((List.length t0 : Nat) : Int) then
          let x3 := (List.getD t0 (Int.toNat t4) ((0 : Int), ((0 : Int), ())))
          let x4 := (decide ((maxI x2.1 (0 : Int)) > (minI x3.2.1 (1114111 : Int))))
          bif x4 then
            (F66_1 k n t0 (IntKind.wrap .i64 (t4 + (1 : Int))) c2000003).bind some
          else
            (F66_0 k k t0 t4 ((List.length c2000003 : Nat) : Int) ((maxI x2.1 (0 : Int)), ((minI x3.2.1 (1114111 : Int)), ())) c2000003).bind fun r7 =>
            let y8 := r7.1.1
            let y9 := r7.1.2.1
            let y10 := r7.1.2.2.1
            let y11 := r7.2.1
            let y12 := r7.2.2.1
            if 0 ≤ (0 : Int) ∧ (0 : Int) ≤ y10 ∧ y10 ≤ ((List.length y12 : Nat) : Int) then
              let x13 := (Int.toNat y10 - Int.toNat (0 : Int))
              if 0 ≤ y10 ∧ y10 ≤ ((List.length y12 : Nat) : Int) ∧ ((List.length y12 : Nat) : Int) ≤ ((List.length y12 : Nat) : Int) then
                let x14 := (Int.toNat ((List.length y12 : Nat) : Int) - Int.toNat y10)
                let x15 := (List.replicate 0 ((0 : Int), ((0 : Int), ())))
                if (List.length x15 + List.length (List.take x13 (List.drop (Int.toNat (0 : Int)) y12))) * (16 * 2) ≤ 281474976710656 ∧ List.length x15 + List.length (List.take x13 (List.drop (Int.toNat (0 : Int)) y12)) ≤ 9223372036854775807 then
                  let x16 := (x15 ++ (List.take x13 (List.drop (Int.toNat (0 : Int)) y12)))
                  let x17 := (List.set (List.replicate 1 ((0 : Int), ((0 : Int), ()))) 0 y11)
                  if (List.length x16 + List.length x17) * (16 * 2) ≤ 281474976710656 ∧ List.length x16 + List.length x17 ≤ 9223372036854775807 then
                    if (List.length (x16 ++ x17) + List.length (List.take x14 (List.drop (Int.toNat y10) y12))) * (16 * 2) ≤ 281474976710656 ∧ List.length (x16 ++ x17) + List.length (List.take x14 (List.drop (Int.toNat y10) y12)) ≤ 9223372036854775807 then
                      let x18 := ((x16 ++ x17) ++ (List.take x14 (List.drop (Int.toNat y10) y12)))
                      (F66_1 k n y8 (IntKind.wrap .i64 (y9 + (1 : Int))) x18).bind some
                    else none
                  else none
                else none
              else none
            else none
        else none
      else none
    else
      some ((), (c2000003, ()))
def fr66_1 (k : Nat) : Frag := ⟨⟨[(3, KD35)], [(0, .val KD32), (3, .at 2000003 []), (4, .val (.int .i64))], [(2000003, none, KD35)]⟩, [(.exit 0, ⟨[(3, KD35)], [(3, .at 2000003 [])], [(2000003, none, KD35)]⟩)], fun v => F66_1 k k v.1.1 v.1.2.1 v.2.1⟩
def F66 (k : Nat) (a0 : TY52) : Option TY41 :=
  (F66_1 k k a0 (0 : Int) []).bind fun r19 =>
  let y20 := r19.2.1
  some ((y20, ()), ())
def sp66 (k : Nat) : Spec := ⟨[.val KD32], [.own KD35], fun x => F66 k x.1⟩
def lim66 : Lim := ⟨61, 1, false, false, []⟩
def cfg66 (k : Nat) : Nat → Option Spec := cfgL []
theorem cfg66_ok (k : Nat) : CfgOK Try.prog (cfg66 k) := cfgL_nil
def pl66_0 (k : Nat) : Plan := .go
theorem pq66_0 (k : Nat) : PlanOK Try.prog lim66 (pl66_0 k) (codeAt (bodyOf Try.f66) [.r, .r, .l, .r, .s, .b, .r, .l, .s, .r, .r, .r, .l, .s, .b]) = PlanOK Try.prog lim66 .go (codeAt (bodyOf Try.f66) [.r, .r, .l, .r, .s, .b, .r, .l, .s, .r, .r, .r, .l, .s, .b]) := by kernel_rfl
theorem ps66_0 (k m : Nat) (v : (fr66_0 k).sh.V) : F66_0 k (m + 1) v.1.1 v.1.2.1 v.1.2.2.1 v.2.1 v.2.2.1 = (body Try.prog (stepper Try.prog (cfg66 k) lim66) (pl66_0 k) (codeAt (bodyOf Try.f66) [.r, .r, .l, .r, .s, .b, .r, .l, .s, .r, .r, .r, .l, .s, .b]) ((fr66_0 k).sh.st v) (loopK (fr66_0 k) fun v => F66_0 k m v.1.1 v.1.2.1 v.1.2.2.1 v.2.1 v.2.2.1)).eval := by kernel_rfl
theorem pe66_0 (k m : Nat) (v : (fr66_0 k).sh.V) : (body Try.prog (stepper Try.prog (cfg66 k) lim66) (pl66_0 k) (codeAt (bodyOf Try.f66) [.r, .r, .l, .r, .s, .b, .r, .l, .s, .r, .r, .r, .l, .s, .b]) ((fr66_0 k).sh.st v) (loopK (fr66_0 k) fun v => F66_0 k m v.1.1 v.1.2.1 v.1.2.2.1 v.2.1 v.2.2.1)).left = (body Try.prog (stepper Try.prog (cfg66 k) lim66) (pl66_0 k) (codeAt (bodyOf Try.f66) [.r, .r, .l, .r, .s, .b, .r, .l, .s, .r, .r, .r, .l, .s, .b]) ((fr66_0 k).sh.st v) (loopK (fr66_0 k) fun v => F66_0 k m v.1.1 v.1.2.1 v.1.2.2.1 v.2.1 v.2.2.1)).right := by kernel_rfl
theorem fr66_0_ok (k : Nat) : FragOK Try.prog lim66 (fr66_0 k) (codeAt (bodyOf Try.f66) [.r, .r, .l, .r, .s, .b, .r, .l, .s, .r, .r, .r, .l, .s]) :=
  frag_cast (by kernel_rfl) (loop_ok (cfg66_ok k) (Eq.mpr (pq66_0 k) (planOK_go _)) (fun m v => F66_0 k m v.1.1 v.1.2.1 v.1.2.2.1 v.2.1 v.2.2.1) k (fun _ => rfl) (fun _ => rfl) fun m v => ⟨ps66_0 k m v, pe66_0 k m v⟩)
def pl66_1 (k : Nat) : Plan := (.seq .go (.seq (.sub (.seq .go (.seq .go (.seq .go (.seq (.sub (.frag (fr66_0 k))) .go))))) .go))
theorem pq66_1 (k : Nat) : PlanOK Try.prog lim66 (pl66_1 k) (codeAt (bodyOf Try.f66) [.r, .r, .l, .r, .s, .b]) = (PlanOK Try.prog lim66 .go (codeAt (bodyOf Try.f66) [.r, .r, .l, .r, .s, .b, .l]) ∧ ((PlanOK Try.prog lim66 .go (codeAt (bodyOf Try.f66) [.r, .r, .l, .r, .s, .b, .r, .l, .s, .l]) ∧ (PlanOK Try.prog lim66 .go (codeAt (bodyOf Try.f66) [.r, .r, .l, .r, .s, .b, .r, .l, .s, .r, .l]) ∧ (PlanOK Try.prog lim66 .go (codeAt (bodyOf Try.f66) [.r, .r, .l, .r, .s, .b, .r, .l, .s, .r, .r, .l]) ∧ (FragOK Try.prog lim66 (fr66_0 k) (codeAt (bodyOf Try.f66) [.r, .r, .l, .r, .s, .b, .r, .l, .s, .r, .r, .r, .l, .s]) ∧ PlanOK Try.prog lim66 .go (codeAt (bodyOf Try.f66) [.r, .r, .l, .r, .s, .b, .r, .l, .s, .r, .r, .r, .r]))))) ∧ PlanOK Try.prog lim66 .go (codeAt (bodyOf Try.f66) [.r, .r, .l, .r, .s, .b, .r, .r]))) := by kernel_rfl
theorem ps66_1 (k m : Nat) (v : (fr66_1 k).sh.V) : F66_1 k (m + 1) v.1.1 v.1.2.1 v.2.1 = (body Try.prog (stepper Try.prog (cfg66 k) lim66) (pl66_1 k) (codeAt (bodyOf Try.f66) [.r, .r, .l, .r, .s, .b]) ((fr66_1 k).sh.st v) (loopK (fr66_1 k) fun v => F66_1 k m v.1.1 v.1.2.1 v.2.1)).eval := by kernel_rfl
theorem pe66_1 (k m : Nat) (v : (fr66_1 k).sh.V) : (body Try.prog (stepper Try.prog (cfg66 k) lim66) (pl66_1 k) (codeAt (bodyOf Try.f66) [.r, .r, .l, .r, .s, .b]) ((fr66_1 k).sh.st v) (loopK (fr66_1 k) fun v => F66_1 k m v.1.1 v.1.2.1 v.2.1)).left = (body Try.prog (stepper Try.prog (cfg66 k) lim66) (pl66_1 k) (codeAt (bodyOf Try.f66) [.r, .r, .l, .r, .s, .b]) ((fr66_1 k).sh.st v) (loopK (fr66_1 k) fun v => F66_1 k m v.1.1 v.1.2.1 v.2.1)).right := by kernel_rfl
theorem fr66_1_ok (k : Nat) : FragOK Try.prog lim66 (fr66_1 k) (codeAt (bodyOf Try.f66) [.r, .r, .l, .r, .s]) :=
  frag_cast (by kernel_rfl) (loop_ok (cfg66_ok k) (Eq.mpr (pq66_1 k) ⟨(planOK_go _), ⟨⟨(planOK_go _), ⟨(planOK_go _), ⟨(planOK_go _), ⟨(fr66_0_ok k), (planOK_go _)⟩⟩⟩⟩, (planOK_go _)⟩⟩) (fun m v => F66_1 k m v.1.1 v.1.2.1 v.2.1) k (fun _ => rfl) (fun _ => rfl) fun m v => ⟨ps66_1 k m v, pe66_1 k m v⟩)
def pl66 (k : Nat) : Plan := (.seq .go (.seq .go (.seq (.seq .go (.sub (.frag (fr66_1 k)))) .go)))
theorem pq66 (k : Nat) : PlanOK Try.prog lim66 (pl66 k) (codeAt (bodyOf Try.f66) []) = (PlanOK Try.prog lim66 .go (codeAt (bodyOf Try.f66) [.l]) ∧ (PlanOK Try.prog lim66 .go (codeAt (bodyOf Try.f66) [.r, .l]) ∧ ((PlanOK Try.prog lim66 .go (codeAt (bodyOf Try.f66) [.r, .r, .l, .l]) ∧ FragOK Try.prog lim66 (fr66_1 k) (codeAt (bodyOf Try.f66) [.r, .r, .l, .r, .s])) ∧ PlanOK Try.prog lim66 .go (codeAt (bodyOf Try.f66) [.r, .r, .r])))) := by kernel_rfl
theorem ev66 (k : Nat) (x : AT (sp66 k).ps) : (sp66 k).impl x = (fnT Try.prog (cfg66 k) lim66 Try.f66 (bodyOf Try.f66) (pl66 k) (sp66 k) x).eval := by kernel_rfl
theorem eq66 (k : Nat) (x : AT (sp66 k).ps) : (fnT Try.prog (cfg66 k) lim66 Try.f66 (bodyOf Try.f66) (pl66 k) (sp66 k) x).left = (fnT Try.prog (cfg66 k) lim66 Try.f66 (bodyOf Try.f66) (pl66 k) (sp66 k) x).right := by kernel_rfl
theorem v66 (k : Nat) : Callable Try.prog 66 ∧ Valid Try.prog 66 (sp66 k) :=
  fn_ok (cfg66_ok k) (f := 66) (fn := Try.f66) (by kernel_rfl) (c := bodyOf Try.f66) (by kernel_rfl) (by kernel_rfl) rfl rfl (Nat.le_of_ble_eq_true rfl) (Nat.le_of_ble_eq_true rfl) (p := pl66 k) (Eq.mpr (pq66 k) ⟨(planOK_go _), ⟨(planOK_go _), ⟨⟨(planOK_go _), (fr66_1_ok k)⟩, (planOK_go _)⟩⟩⟩) fun x => ⟨ev66 k x, eq66 k x⟩
/-! f59 hyphen/hyphenref3.Norm -/
def F59_0 (k : Nat) : Nat → Int → TY52 → TY52 → Option ((Unit × TY44))
  | 0, _, _, _ => none
  | n + 1, t5, c1000128, c2000003 =>
    let x2 := (decide (t5 < ((List.length c1000128 : Nat) : Int)))
    bif x2 then
      let x3 := (IntKind.wrap .i64 (((List.length c2000003 : Nat) : Int) - (1 : Int)))
      bif (decide (x3 ≥ (0 : Int))) then
        if 0 ≤ t5 ∧ t5 < ((List.length c1000128 : Nat) : Int) then
          let x4 := (List.getD c1000128 (Int.toNat t5) ((0 : Int), ((0 : Int), ()))).1
          if 0 ≤ x3 ∧ x3 < ((List.length c2000003 : Nat) : Int) then
            let x5 := (List.getD c2000003 (Int.toNat x3) ((0 : Int), ((0 : Int), ()))).2.1
            let x6 := (decide (x4 ≤ (IntKind.wrap .i64 (x5 + (1 : Int)))))
            bif x6 then
              if 0 ≤ x3 ∧ x3 < ((List.length c2000003 : Nat) : Int) then
                let x7 := (List.getD c2000003 (Int.toNat x3) ((0 : Int), ((0 : Int), ()))).2.1
                if 0 ≤ t5 ∧ t5 < ((List.length c1000128 : Nat) : Int) then
                  let x8 := (List.getD c1000128 (Int.toNat t5) ((0 : Int), ((0 : Int), ()))).2.1
                  if 0 ≤ x3 ∧ x3 < ((List.length c2000003 : Nat) : Int) then
                    let x9 := (List.set c2000003 (Int.toNat x3) ((List.getD c2000003 (Int.toNat x3) ((0 : Int), ((0 : Int), ()))).1, ((maxI x7 x8), (List.getD c2000003 (Int.toNat x3) ((0 : Int), ((0 : Int), ()))).2.2)))
                    (F59_0 k n (IntKind.wrap .i64 (t5 + (1 : Int))) c1000128 x9).bind some
                  else none
                else none
              else none
            else
              if 0 ≤ t5 ∧ t5 < ((List.length c1000128 : Nat) : Int) then
                let x10 := (List.getD c1000128 (Int.toNat t5) ((0 : Int), ((0 : Int), ())))
                let x11 := (List.set (List.replicate 1 ((0 : Int), ((0 : Int), ()))) 0 x10)
                if (List.length c2000003 + List.length x11) * (16 * 2) ≤ 281474976710656 ∧ List.length c2000003 + List.length x11 ≤ 9223372036854775807 then
                  (F59_0 k n (IntKind.wrap .i64 (t5 + (1 : Int))) c1000128 (c2000003 ++ x11)).bind some
                else none
              else none
          else none
        else none
      else
        if 0 ≤ t5 ∧ t5 < ((List.length c1000128 : Nat) : Int) then
          let x12 := (List.getD c1000128 (Int.toNat t5) ((0 : Int), ((0 : Int), ())))
          let x13 := (List.set (List.replicate 1 ((0 : Int), ((0 : Int), ()))) 0 x12)
          if (List.length c2000003 + List.length x13) * (16 * 2) ≤ 281474976710656 ∧ List.length c2000003 + List.length x13 ≤ 9223372036854775807 then
            (F59_0 k n (IntKind.wrap .i64 (t5 + (1 : Int))) c1000128 (c2000003 ++ x13)).bind some
          else none
        else none
    else
      some ((), (c2000003, ()))
def fr59_0 (k : Nat) : Frag := ⟨⟨[(3, KD35)], [(3, .at 2000003 []), (4, .at 1000128 []), (5, .val (.int .i64))], [(1000128, none, KD35), (2000003, none, KD35)]⟩, [(.exit 0, ⟨[(3, KD35)], [(3, .at 2000003 [])], [(2000003, none, KD35)]⟩)], fun v => F59_0 k k v.1.1 v.2.1 v.2.2.1⟩
def F59 (k : Nat) (a0 : TY52) : Option TY41 :=
  (F66 k a0).bind fun r1 =>
  (F59_0 k k (0 : Int) r1.1.1 []).bind fun r14 =>
  let y15 := r14.2.1
  some ((y15, ()), ())
def sp59 (k : Nat) : Spec := ⟨[.val KD32], [.own KD35], fun x => F59 k x.1⟩
def lim59 : Lim := ⟨57, 1, false, false, []⟩
def cfg59 (k : Nat) : Nat → Option Spec := cfgL [(66, sp66 k)]
theorem cfg59_ok (k : Nat) : CfgOK Try.prog (cfg59 k) := cfgL_cons (v66 k) (cfgL_nil)
def pl59_0 (k : Nat) : Plan := .go
theorem pq59_0 (k : Nat) : PlanOK Try.prog lim59 (pl59_0 k) (codeAt (bodyOf Try.f59) [.r, .r, .r, .l, .r, .s, .b]) = PlanOK Try.prog lim59 .go (codeAt (bodyOf Try.f59) [.r, .r, .r, .l, .r, .s, .b]) := by kernel_rfl
theorem ps59_0 (k m : Nat) (v : (fr59_0 k).sh.V) : F59_0 k (m + 1) v.1.1 v.2.1 v.2.2.1 = (body Try.prog (stepper Try.prog (cfg59 k) lim59) (pl59_0 k) (codeAt (bodyOf Try.f59) [.r, .r, .r, .l, .r, .s, .b]) ((fr59_0 k).sh.st v) (loopK (fr59_0 k) fun v => F59_0 k m v.1.1 v.2.1 v.2.2.1)).eval := by kernel_rfl
theorem pe59_0 (k m : Nat) (v : (fr59_0 k).sh.V) : (body Try.prog (stepper Try.prog (cfg59 k) lim59) (pl59_0 k) (codeAt (bodyOf Try.f59) [.r, .r, .r, .l, .r, .s, .b]) ((fr59_0 k).sh.st v) (loopK (fr59_0 k) fun v => F59_0 k m v.1.1 v.2.1 v.2.2.1)).left = (body Try.prog (stepper Try.prog (cfg59 k) lim59) (pl59_0 k) (codeAt (bodyOf Try.f59) [.r, .r, .r, .l, .r, .s, .b]) ((fr59_0 k).sh.st v) (loopK (fr59_0 k) fun v => F59_0 k m v.1.1 v.2.1 v.2.2.1)).right := by kernel_rfl
theorem fr59_0_ok (k : Nat) : FragOK Try.prog lim59 (fr59_0 k) (codeAt (bodyOf Try.f59) [.r, .r, .r, .l, .r, .s]) :=
  frag_cast (by kernel_rfl) (loop_ok (cfg59_ok k) (Eq.mpr (pq59_0 k) (planOK_go _)) (fun m v => F59_0 k m v.1.1 v.2.1 v.2.2.1) k (fun _ => rfl) (fun _ => rfl) fun m v => ⟨ps59_0 k m v, pe59_0 k m v⟩)
def pl59 (k : Nat) : Plan := (.seq .go (.seq .go (.seq .go (.seq (.seq .go (.sub (.frag (fr59_0 k)))) .go))))
theorem pq59 (k : Nat) : PlanOK Try.prog lim59 (pl59 k) (codeAt (bodyOf Try.f59) []) = (PlanOK Try.prog lim59 .go (codeAt (bodyOf Try.f59) [.l]) ∧ (PlanOK Try.prog lim59 .go (codeAt (bodyOf Try.f59) [.r, .l]) ∧ (PlanOK Try.prog lim59 .go (codeAt (bodyOf Try.f59) [.r, .r, .l]) ∧ ((PlanOK Try.prog lim59 .go (codeAt (bodyOf Try.f59) [.r, .r, .r, .l, .l]) ∧ FragOK Try.prog lim59 (fr59_0 k) (codeAt (bodyOf Try.f59) [.r, .r, .r, .l, .r, .s])) ∧ PlanOK Try.prog lim59 .go (codeAt (bodyOf Try.f59) [.r, .r, .r, .r]))))) := by kernel_rfl
theorem ev59 (k : Nat) (x : AT (sp59 k).ps) : (sp59 k).impl x = (fnT Try.prog (cfg59 k) lim59 Try.f59 (bodyOf Try.f59) (pl59 k) (sp59 k) x).eval := by kernel_rfl
theorem eq59 (k : Nat) (x : AT (sp59 k).ps) : (fnT Try.prog (cfg59 k) lim59 Try.f59 (bodyOf Try.f59) (pl59 k) (sp59 k) x).left = (fnT Try.prog (cfg59 k) lim59 Try.f59 (bodyOf Try.f59) (pl59 k) (sp59 k) x).right := by kernel_rfl
theorem v59 (k : Nat) : Callable Try.prog 59 ∧ Valid Try.prog 59 (sp59 k) :=
  fn_ok (cfg59_ok k) (f := 59) (fn := Try.f59) (by kernel_rfl) (c := bodyOf Try.f59) (by kernel_rfl) (by kernel_rfl) rfl rfl (Nat.le_of_ble_eq_true rfl) (Nat.le_of_ble_eq_true rfl) (p := pl59 k) (Eq.mpr (pq59 k) ⟨(planOK_go _), ⟨(planOK_go _), ⟨(planOK_go _), ⟨⟨(planOK_go _), (fr59_0_ok k)⟩, (planOK_go _)⟩⟩⟩⟩) fun x => ⟨ev59 k x, eq59 k x⟩
/-! f60 hyphen/hyphenref3.Not -/
def F60_0 (k : Nat) : Nat → TY52 → Int → Int → TY52 → Option (((Int × Unit) × TY44))
  | 0, _, _, _, _ => none
  | n + 1, t0, t4, t5, c2000003 =>
    let x1 := (decide (t5 < ((List.length t0 : Nat) : Int)))
    bif x1 then
      if 0 ≤ t5 ∧ t5 < ((List.length t0 : Nat) : Int) then
        let x2 := (List.getD t0 (Int.toNat t5) ((0 : Int), ((0 : Int), ())))
        let x3 := (List.set (List.replicate 1 ((0 : Int), ((0 : Int), ()))) 0 (t4, ((IntKind.wrap .i64 (x2.1 - (1 : Int))), ())))
        if (List.length c2000003 + List.length x3) * (16 * 2) ≤ 281474976710656 ∧ List.length c2000003 + List.length x3 ≤ 9223372036854775807 then
          if 0 ≤ t5 ∧ t5 < ((List.length t0 : Nat) : Int) then
            let x4 := (List.getD t0 (Int.toNat t5) ((0 : Int), ((0 : Int), ())))
            (F60_0 k n t0 (IntKind.wrap .i64 (x4.2.1 + (1 : Int))) (IntKind.wrap .i64 (t5 + (1 : Int))) (c2000003 ++ x3)).bind some
          else none
        else none
      else none
    else
      some ((t4, ()), (c2000003, ()))
def fr60_0 (k : Nat) : Frag := ⟨⟨[(3, KD35)], [(0, .val KD32), (3, .at 2000003 []), (4, .val (.int .i64)), (5, .val (.int .i64))], [(2000003, none, KD35)]⟩, [(.exit 0, ⟨[(3, KD35)], [(3, .at 2000003 []), (4, .val (.int .i64))], [(2000003, none, KD35)]⟩)], fun v => F60_0 k k v.1.1 v.1.2.1 v.1.2.2.1 v.2.1⟩
def F60 (k : Nat) (a0 : TY52) : Option TY41 :=
  (F60_0 k k a0 (0 : Int) (0 : Int) []).bind fun r5 =>
  let y6 := r5.1.1
  let y7 := r5.2.1
  let x8 := (List.set (List.replicate 1 ((0 : Int), ((0 : Int), ()))) 0 (y6, ((1114111 : Int), ())))
  if (List.length y7 + List.length x8) * (16 * 2) ≤ 281474976710656 ∧ List.length y7 + List.length x8 ≤ 9223372036854775807 then
    (F59 k (y7 ++ x8)).bind fun r9 =>
    some ((r9.1.1, ()), ())
  else none
def sp60 (k : Nat) : Spec := ⟨[.val KD32], [.own KD35], fun x => F60 k x.1⟩
def lim60 : Lim := ⟨35, 1, false, false, []⟩
def cfg60 (k : Nat) : Nat → Option Spec := cfgL [(59, sp59 k)]
theorem cfg60_ok (k : Nat) : CfgOK Try.prog (cfg60 k) := cfgL_cons (v59 k) (cfgL_nil)
def pl60_0 (k : Nat) : Plan := .go
theorem pq60_0 (k : Nat) : PlanOK Try.prog lim60 (pl60_0 k) (codeAt (bodyOf Try.f60) [.r, .r, .r, .l, .r, .s, .b]) = PlanOK Try.prog lim60 .go (codeAt (bodyOf Try.f60) [.r, .r, .r, .l, .r, .s, .b]) := by kernel_rfl
theorem ps60_0 (k m : Nat) (v : (fr60_0 k).sh.V) : F60_0 k (m + 1) v.1.1 v.1.2.1 v.1.2.2.1 v.2.1 = (body Try.prog (stepper Try.prog (cfg60 k) lim60) (pl60_0 k) (codeAt (bodyOf Try.f60) [.r, .r, .r, .l, .r, .s, .b]) ((fr60_0 k).sh.st v) (loopK (fr60_0 k) fun v => F60_0 k m v.1.1 v.1.2.1 v.1.2.2.1 v.2.1)).eval := by kernel_rfl
theorem pe60_0 (k m : Nat) (v : (fr60_0 k).sh.V) : (body Try.prog (stepper Try.prog (cfg60 k) lim60) (pl60_0 k) (codeAt (bodyOf Try.f60) [.r, .r, .r, .l, .r, .s, .b]) ((fr60_0 k).sh.st v) (loopK (fr60_0 k) fun v => F60_0 k m v.1.1 v.1.2.1 v.1.2.2.1 v.2.1)).left = (body Try.prog (stepper Try.prog (cfg60 k) lim60) (pl60_0 k) (codeAt (bodyOf Try.f60) [.r, .r, .r, .l, .r, .s, .b]) ((fr60_0 k).sh.st v) (loopK (fr60_0 k) fun v => F60_0 k m v.1.1 v.1.2.1 v.1.2.2.1 v.2.1)).right := by kernel_rfl
theorem fr60_0_ok (k : Nat) : FragOK Try.prog lim60 (fr60_0 k) (codeAt (bodyOf Try.f60) [.r, .r, .r, .l, .r, .s]) :=
  frag_cast (by kernel_rfl) (loop_ok (cfg60_ok k) (Eq.mpr (pq60_0 k) (planOK_go _)) (fun m v => F60_0 k m v.1.1 v.1.2.1 v.1.2.2.1 v.2.1) k (fun _ => rfl) (fun _ => rfl) fun m v => ⟨ps60_0 k m v, pe60_0 k m v⟩)
def pl60 (k : Nat) : Plan := (.seq .go (.seq .go (.seq .go (.seq (.seq .go (.sub (.frag (fr60_0 k)))) .go))))
theorem pq60 (k : Nat) : PlanOK Try.prog lim60 (pl60 k) (codeAt (bodyOf Try.f60) []) = (PlanOK Try.prog lim60 .go (codeAt (bodyOf Try.f60) [.l]) ∧ (PlanOK Try.prog lim60 .go (codeAt (bodyOf Try.f60) [.r, .l]) ∧ (PlanOK Try.prog lim60 .go (codeAt (bodyOf Try.f60) [.r, .r, .l]) ∧ ((PlanOK Try.prog lim60 .go (codeAt (bodyOf Try.f60) [.r, .r, .r, .l, .l]) ∧ FragOK Try.prog lim60 (fr60_0 k) (codeAt (bodyOf Try.f60) [.r, .r, .r, .l, .r, .s])) ∧ PlanOK Try.prog lim60 .go (codeAt (bodyOf Try.f60) [.r, .r, .r, .r]))))) := by kernel_rfl
theorem ev60 (k : Nat) (x : AT (sp60 k).ps) : (sp60 k).impl x = (fnT Try.prog (cfg60 k) lim60 Try.f60 (bodyOf Try.f60) (pl60 k) (sp60 k) x).eval := by kernel_rfl
theorem eq60 (k : Nat) (x : AT (sp60 k).ps) : (fnT Try.prog (cfg60 k) lim60 Try.f60 (bodyOf Try.f60) (pl60 k) (sp60 k) x).left = (fnT Try.prog (cfg60 k) lim60 Try.f60 (bodyOf Try.f60) (pl60 k) (sp60 k) x).right := by kernel_rfl
theorem v60 (k : Nat) : Callable Try.prog 60 ∧ Valid Try.prog 60 (sp60 k) :=
  fn_ok (cfg60_ok k) (f := 60) (fn := Try.f60) (by kernel_rfl) (c := bodyOf Try.f60) (by kernel_rfl) (by kernel_rfl) rfl rfl (Nat.le_of_ble_eq_true rfl) (Nat.le_of_ble_eq_true rfl) (p := pl60 k) (Eq.mpr (pq60 k) ⟨(planOK_go _), ⟨(planOK_go _), ⟨(planOK_go _), ⟨⟨(planOK_go _), (fr60_0_ok k)⟩, (planOK_go _)⟩⟩⟩⟩) fun x => ⟨ev60 k x, eq60 k x⟩
/-! f61 hyphen/hyphenref3.Or -/
def F61 (k : Nat) (a0 : TY52) (a1 : TY52) : Option TY41 :=
  let x1 := (List.replicate 0 ((0 : Int), ((0 : Int), ())))
  if (List.length x1 + List.length a0) * (16 * 2) ≤ 281474976710656 ∧ List.length x1 + List.length a0 ≤ 9223372036854775807 then
    if (List.length (x1 ++ a0) + List.length a1) * (16 * 2) ≤ 281474976710656 ∧ List.length (x1 ++ a0) + List.length a1 ≤ 9223372036854775807 then
      (F59 k ((x1 ++ a0) ++ a1)).bind fun r2 =>
      some ((r2.1.1, ()), ())
    else none
  else none
def sp61 (k : Nat) : Spec := ⟨[.val KD32, .val KD32], [.own KD35], fun x => F61 k x.1 x.2.1⟩
def lim61 : Lim := ⟨11, 2, false, false, []⟩
def cfg61 (k : Nat) : Nat → Option Spec := cfgL [(59, sp59 k)]
theorem cfg61_ok (k : Nat) : CfgOK Try.prog (cfg61 k) := cfgL_cons (v59 k) (cfgL_nil)
def pl61 (k : Nat) : Plan := .go
theorem pq61 (k : Nat) : PlanOK Try.prog lim61 (pl61 k) (codeAt (bodyOf Try.f61) []) = PlanOK Try.prog lim61 .go (codeAt (bodyOf Try.f61) []) := by kernel_rfl
theorem ev61 (k : Nat) (x : AT (sp61 k).ps) : (sp61 k).impl x = (fnT Try.prog (cfg61 k) lim61 Try.f61 (bodyOf Try.f61) (pl61 k) (sp61 k) x).eval := by kernel_rfl
theorem eq61 (k : Nat) (x : AT (sp61 k).ps) : (fnT Try.prog (cfg61 k) lim61 Try.f61 (bodyOf Try.f61) (pl61 k) (sp61 k) x).left = (fnT Try.prog (cfg61 k) lim61 Try.f61 (bodyOf Try.f61) (pl61 k) (sp61 k) x).right := by kernel_rfl
theorem v61 (k : Nat) : Callable Try.prog 61 ∧ Valid Try.prog 61 (sp61 k) :=
  fn_ok (cfg61_ok k) (f := 61) (fn := Try.f61) (by kernel_rfl) (c := bodyOf Try.f61) (by kernel_rfl) (by kernel_rfl) rfl rfl (Nat.le_of_ble_eq_true rfl) (Nat.le_of_ble_eq_true rfl) (p := pl61 k) (Eq.mpr (pq61 k) (planOK_go _)) fun x => ⟨ev61 k x, eq61 k x⟩
/-! f62 hyphen/hyphenref3.And -/
def F62 (k : Nat) (a0 : TY52) (a1 : TY52) : Option TY41 :=
  (F60 k a0).bind fun r1 =>
  (F60 k a1).bind fun r2 =>
  (F61 k r1.1.1 r2.1.1).bind fun r3 =>
  (F60 k r3.1.1).bind fun r4 =>
  some ((r4.1.1, ()), ())
def sp62 (k : Nat) : Spec := ⟨[.val KD32, .val KD32], [.own KD35], fun x => F62 k x.1 x.2.1⟩
def lim62 : Lim := ⟨11, 2, false, false, []⟩
def cfg62 (k : Nat) : Nat → Option Spec := cfgL [(60, sp60 k), (61, sp61 k)]
theorem cfg62_ok (k : Nat) : CfgOK Try.prog (cfg62 k) := cfgL_cons (v60 k) (cfgL_cons (v61 k) (cfgL_nil))
def pl62 (k : Nat) : Plan := .go
theorem pq62 (k : Nat) : PlanOK Try.prog lim62 (pl62 k) (codeAt (bodyOf Try.f62) []) = PlanOK Try.prog lim62 .go (codeAt (bodyOf Try.f62) []) := by kernel_rfl
theorem ev62 (k : Nat) (x : AT (sp62 k).ps) : (sp62 k).impl x = (fnT Try.prog (cfg62 k) lim62 Try.f62 (bodyOf Try.f62) (pl62 k) (sp62 k) x).eval := by kernel_rfl
theorem eq62 (k : Nat) (x : AT (sp62 k).ps) : (fnT Try.prog (cfg62 k) lim62 Try.f62 (bodyOf Try.f62) (pl62 k) (sp62 k) x).left = (fnT Try.prog (cfg62 k) lim62 Try.f62 (bodyOf Try.f62) (pl62 k) (sp62 k) x).right := by kernel_rfl
theorem v62 (k : Nat) : Callable Try.prog 62 ∧ Valid Try.prog 62 (sp62 k) :=
  fn_ok (cfg62_ok k) (f := 62) (fn := Try.f62) (by kernel_rfl) (c := bodyOf Try.f62) (by kernel_rfl) (by kernel_rfl) rfl rfl (Nat.le_of_ble_eq_true rfl) (Nat.le_of_ble_eq_true rfl) (p := pl62 k) (Eq.mpr (pq62 k) (planOK_go _)) fun x => ⟨ev62 k x, eq62 k x⟩
/-! f63 hyphen/hyphenref3.Less -/
def F63 (k : Nat) (a0 : TY52) (a1 : TY52) : Option TY41 :=
  (F60 k a1).bind fun r1 =>
  (F62 k a0 r1.1.1).bind fun r2 =>
  some ((r2.1.1, ()), ())
def sp63 (k : Nat) : Spec := ⟨[.val KD32, .val KD32], [.own KD35], fun x => F63 k x.1 x.2.1⟩
def lim63 : Lim := ⟨9, 2, false, false, []⟩
def cfg63 (k : Nat) : Nat → Option Spec := cfgL [(60, sp60 k), (62, sp62 k)]
theorem cfg63_ok (k : Nat) : CfgOK Try.prog (cfg63 k) := cfgL_cons (v60 k) (cfgL_cons (v62 k) (cfgL_nil))
def pl63 (k : Nat) : Plan := .go
theorem pq63 (k : Nat) : PlanOK Try.prog lim63 (pl63 k) (codeAt (bodyOf Try.f63) []) = PlanOK Try.prog lim63 .go (codeAt (bodyOf Try.f63) []) := by kernel_rfl
theorem ev63 (k : Nat) (x : AT (sp63 k).ps) : (sp63 k).impl x = (fnT Try.prog (cfg63 k) lim63 Try.f63 (bodyOf Try.f63) (pl63 k) (sp63 k) x).eval := by kernel_rfl
theorem eq63 (k : Nat) (x : AT (sp63 k).ps) : (fnT Try.prog (cfg63 k) lim63 Try.f63 (bodyOf Try.f63) (pl63 k) (sp63 k) x).left = (fnT Try.prog (cfg63 k) lim63 Try.f63 (bodyOf Try.f63) (pl63 k) (sp63 k) x).right := by kernel_rfl
theorem v63 (k : Nat) : Callable Try.prog 63 ∧ Valid Try.prog 63 (sp63 k) :=
  fn_ok (cfg63_ok k) (f := 63) (fn := Try.f63) (by kernel_rfl) (c := bodyOf Try.f63) (by kernel_rfl) (by kernel_rfl) rfl rfl (Nat.le_of_ble_eq_true rfl) (Nat.le_of_ble_eq_true rfl) (p := pl63 k) (Eq.mpr (pq63 k) (planOK_go _)) fun x => ⟨ev63 k x, eq63 k x⟩
/-! f46: f46 -/
def rs46 (f46 : (TY40 → TY3 → TY47 → Option TY27)) : Spec := ⟨[.val KD21, .val KD0, .mut KD25], [.val KD32], fun x => f46 x.1 x.2.1 x.2.2.1⟩
/-! f46 hyphen/hyphenref5.ranges -/
def F46_0 (k : Nat) (f46 : (TY40 → TY3 → TY47 → Option TY27)) : Nat → Int → TY47 → TY18 → TY3 → TY47 → Option ((Unit × (TY47 × TY18 × TY3 × TY47 × Unit)))
  | 0, _, _, _, _, _ => none
  | n + 1, t8, c2, c3, c4, c2000007 =>
    let x1 := (decide (t8 < ((List.length c3.2.2.2.2.1 : Nat) : Int)))
    bif x1 then
      if 0 ≤ t8 ∧ t8 < ((List.length c3.2.2.2.2.1 : Nat) : Int) then
        let x2 := (List.getD c3.2.2.2.2.1 (Int.toNat t8) (Tree.mk ((0 : Int), ((0 : Int), ((0 : Int), (ByteArray.empty, ())))) []))
        (f46 x2 c4 c2).bind fun r3 =>
        let x4 := (List.set (List.replicate 1 ([] : TY52)) 0 r3.1.1)
        if (List.length c2000007 + List.length x4) * (24 * 2) ≤ 281474976710656 ∧ List.length c2000007 + List.length x4 ≤ 9223372036854775807 then
          (F46_0 k f46 n (IntKind.wrap .i64 (t8 + (1 : Int))) r3.2.1 c3 c4 (c2000007 ++ x4)).bind some
        else none
      else none
    else
      some ((), (c2, c3, c4, c2000007, ()))
def fr46_0 (k : Nat) (f46 : (TY40 → TY3 → TY47 → Option TY27)) : Frag := ⟨⟨[(7, KD25)], [(2, .at 2 []), (3, .ptr 3 []), (4, .ptr 4 []), (7, .at 2000007 []), (8, .val (.int .i64))], [(2, none, KD25), (3, some 86, KD10), (4, some 54, KD0), (2000007, none, KD25)]⟩, [(.exit 0, ⟨[(7, KD25)], [(2, .at 2 []), (3, .ptr 3 []), (4, .ptr 4 []), (7, .at 2000007 [])], [(2, none, KD25), (3, some 86, KD10), (4, some 54, KD0), (2000007, none, KD25)]⟩)], fun v => F46_0 k f46 k v.1.1 v.2.1 v.2.2.1 v.2.2.2.1 v.2.2.2.2.1⟩
def B46 (k : Nat) (f46 : (TY40 → TY3 → TY47 → Option TY27)) (a0 : TY40) (a1 : TY3) (a2 : TY47) : Option TY27 :=
  (F46_0 k f46 k (0 : Int) a2 ((Tree.a a0).1, ((Tree.a a0).2.1, ((Tree.a a0).2.2.1, ((Tree.a a0).2.2.2.1, ((Tree.l a0), ()))))) a1 []).bind fun r5 =>
  let y6 := r5.2.1
  let y7 := r5.2.2.1
  let y8 := r5.2.2.2.1
  let y9 := r5.2.2.2.2.1
  bif (y7.1 == (1 : Int)) then
    let x10 := (List.set (List.replicate 1 ((0 : Int), ((0 : Int), ()))) 0 (y7.2.1, (y7.2.2.1, ())))
    (F59 k x10).bind fun r11 =>
    some ((r11.1.1, ()), (y6, ()))
  else
    bif (y7.1 == (2 : Int)) then
      (F55 k y8 y7.2.2.2.1).bind fun r12 =>
      if 0 ≤ r12.1.1 ∧ r12.1.1 < ((List.length y6 : Nat) : Int) then
        let x13 := (List.getD y6 (Int.toNat r12.1.1) ([] : TY52))
        some ((x13, ()), (y6, ()))
      else none
    else
      bif (y7.1 == (3 : Int)) then
        (F60 k []).bind fun r14 =>
        some ((r14.1.1, ()), (y6, ()))
      else
        bif (y7.1 == (4 : Int)) then
          if 0 ≤ (0 : Int) ∧ (0 : Int) < ((List.length y9 : Nat) : Int) then
            let x15 := (List.getD y9 (Int.toNat (0 : Int)) ([] : TY52))
            (F60 k x15).bind fun r16 =>
            some ((r16.1.1, ()), (y6, ()))
          else none
        else
          bif (y7.1 == (5 : Int)) then
            if 0 ≤ (0 : Int) ∧ (0 : Int) < ((List.length y9 : Nat) : Int) then
              let x17 := (List.getD y9 (Int.toNat (0 : Int)) ([] : TY52))
              if 0 ≤ (1 : Int) ∧ (1 : Int) < ((List.length y9 : Nat) : Int) then
                let x18 := (List.getD y9 (Int.toNat (1 : Int)) ([] : TY52))
                (F61 k x17 x18).bind fun r19 =>
                some ((r19.1.1, ()), (y6, ()))
              else none
            else none
          else
            bif (y7.1 == (6 : Int)) then
              if 0 ≤ (0 : Int) ∧ (0 : Int) < ((List.length y9 : Nat) : Int) then
                let x20 := (List.getD y9 (Int.toNat (0 : Int)) ([] : TY52))
                if 0 ≤ (1 : Int) ∧ (1 : Int) < ((List.length y9 : Nat) : Int) then
                  let x21 := (List.getD y9 (Int.toNat (1 : Int)) ([] : TY52))
                  (F62 k x20 x21).bind fun r22 =>
                  some ((r22.1.1, ()), (y6, ()))
                else none
              else none
            else
              if 0 ≤ (0 : Int) ∧ (0 : Int) < ((List.length y9 : Nat) : Int) then
                let x23 := (List.getD y9 (Int.toNat (0 : Int)) ([] : TY52))
                if 0 ≤ (1 : Int) ∧ (1 : Int) < ((List.length y9 : Nat) : Int) then
                  let x24 := (List.getD y9 (Int.toNat (1 : Int)) ([] : TY52))
                  (F63 k x23 x24).bind fun r25 =>
                  some ((r25.1.1, ()), (y6, ()))
                else none
              else none
def sb46 (k : Nat) (f46 : (TY40 → TY3 → TY47 → Option TY27)) : Spec := rs46 (B46 k f46)
def lim46 : Lim := ⟨81, 3, false, false, [37, 49, 55, 64, 73, 80]⟩
def cfg46 (k : Nat) (f46 : (TY40 → TY3 → TY47 → Option TY27)) : Nat → Option Spec := cfgL [(46, rs46 f46), (55, sp55 k), (59, sp59 k), (60, sp60 k), (61, sp61 k), (62, sp62 k), (63, sp63 k)]
theorem cfg46_ok (k : Nat) (f46 : (TY40 → TY3 → TY47 → Option TY27)) (h46 : Callable Try.prog 46 ∧ Valid Try.prog 46 (rs46 f46)) : CfgOK Try.prog (cfg46 k f46) := cfgL_cons h46 (cfgL_cons (v55 k) (cfgL_cons (v59 k) (cfgL_cons (v60 k) (cfgL_cons (v61 k) (cfgL_cons (v62 k) (cfgL_cons (v63 k) (cfgL_nil)))))))
def pl46_0 (k : Nat) (f46 : (TY40 → TY3 → TY47 → Option TY27)) : Plan := .go
theorem pq46_0 (k : Nat) (f46 : (TY40 → TY3 → TY47 → Option TY27)) : PlanOK Try.prog lim46 (pl46_0 k f46) (codeAt (bodyOf Try.f46) [.r, .r, .l, .r, .s, .b]) = PlanOK Try.prog lim46 .go (codeAt (bodyOf Try.f46) [.r, .r, .l, .r, .s, .b]) := by kernel_rfl
theorem ps46_0 (k : Nat) (f46 : (TY40 → TY3 → TY47 → Option TY27)) (m : Nat) (v : (fr46_0 k f46).sh.V) : F46_0 k f46 (m + 1) v.1.1 v.2.1 v.2.2.1 v.2.2.2.1 v.2.2.2.2.1 = (body Try.prog (stepper Try.prog (cfg46 k f46) lim46) (pl46_0 k f46) (codeAt (bodyOf Try.f46) [.r, .r, .l, .r, .s, .b]) ((fr46_0 k f46).sh.st v) (loopK (fr46_0 k f46) fun v => F46_0 k f46 m v.1.1 v.2.1 v.2.2.1 v.2.2.2.1 v.2.2.2.2.1)).eval := by kernel_rfl
theorem pe46_0 (k : Nat) (f46 : (TY40 → TY3 → TY47 → Option TY27)) (m : Nat) (v : (fr46_0 k f46).sh.V) : (body Try.prog (stepper Try.prog (cfg46 k f46) lim46) (pl46_0 k f46) (codeAt (bodyOf Try.f46) [.r, .r, .l, .r, .s, .b]) ((fr46_0 k f46).sh.st v) (loopK (fr46_0 k f46) fun v => F46_0 k f46 m v.1.1 v.2.1 v.2.2.1 v.2.2.2.1 v.2.2.2.2.1)).left = (body Try.prog (stepper Try.prog (cfg46 k f46) lim46) (pl46_0 k f46) (codeAt (bodyOf Try.f46) [.r, .r, .l, .r, .s, .b]) ((fr46_0 k f46).sh.st v) (loopK (fr46_0 k f46) fun v => F46_0 k f46 m v.1.1 v.2.1 v.2.2.1 v.2.2.2.1 v.2.2.2.2.1)).right := by kernel_rfl
theorem fr46_0_ok (k : Nat) (f46 : (TY40 → TY3 → TY47 → Option TY27)) (h46 : Callable Try.prog 46 ∧ Valid Try.prog 46 (rs46 f46)) : FragOK Try.prog lim46 (fr46_0 k f46) (codeAt (bodyOf Try.f46) [.r, .r, .l, .r, .s]) :=
  frag_cast (by kernel_rfl) (loop_ok (cfg46_ok k f46 h46) (Eq.mpr (pq46_0 k f46) (planOK_go _)) (fun m v => F46_0 k f46 m v.1.1 v.2.1 v.2.2.1 v.2.2.2.1 v.2.2.2.2.1) k (fun _ => rfl) (fun _ => rfl) fun m v => ⟨ps46_0 k f46 m v, pe46_0 k f46 m v⟩)
def pl46 (k : Nat) (f46 : (TY40 → TY3 → TY47 → Option TY27)) : Plan := (.seq .go (.seq .go (.seq (.seq .go (.sub (.frag (fr46_0 k f46)))) .go)))
theorem pq46 (k : Nat) (f46 : (TY40 → TY3 → TY47 → Option TY27)) : PlanOK Try.prog lim46 (pl46 k f46) (codeAt (bodyOf Try.f46) []) = (PlanOK Try.prog lim46 .go (codeAt (bodyOf Try.f46) [.l]) ∧ (PlanOK Try.prog lim46 .go (codeAt (bodyOf Try.f46) [.r, .l]) ∧ ((PlanOK Try.prog lim46 .go (codeAt (bodyOf Try.f46) [.r, .r, .l, .l]) ∧ FragOK Try.prog lim46 (fr46_0 k f46) (codeAt (bodyOf Try.f46) [.r, .r, .l, .r, .s])) ∧ PlanOK Try.prog lim46 .go (codeAt (bodyOf Try.f46) [.r, .r, .r])))) := by kernel_rfl
theorem ev46 (k : Nat) (f46 : (TY40 → TY3 → TY47 → Option TY27)) (x : AT (sb46 k f46).ps) : (sb46 k f46).impl x = (fnT Try.prog (cfg46 k f46) lim46 Try.f46 (bodyOf Try.f46) (pl46 k f46) (sb46 k f46) x).eval := by kernel_rfl
theorem eq46 (k : Nat) (f46 : (TY40 → TY3 → TY47 → Option TY27)) (x : AT (sb46 k f46).ps) : (fnT Try.prog (cfg46 k f46) lim46 Try.f46 (bodyOf Try.f46) (pl46 k f46) (sb46 k f46) x).left = (fnT Try.prog (cfg46 k f46) lim46 Try.f46 (bodyOf Try.f46) (pl46 k f46) (sb46 k f46) x).right := by kernel_rfl
theorem b46 (k : Nat) (f46 : (TY40 → TY3 → TY47 → Option TY27)) (h46 : Callable Try.prog 46 ∧ Valid Try.prog 46 (rs46 f46)) : Callable Try.prog 46 ∧ Valid Try.prog 46 (sb46 k f46) :=
  fn_ok (cfg46_ok k f46 h46) (f := 46) (fn := Try.f46) (by kernel_rfl) (c := bodyOf Try.f46) (by kernel_rfl) (by kernel_rfl) rfl rfl (Nat.le_of_ble_eq_true rfl) (Nat.le_of_ble_eq_true rfl) (p := pl46 k f46) (Eq.mpr (pq46 k f46) ⟨(planOK_go _), ⟨(planOK_go _), ⟨⟨(planOK_go _), (fr46_0_ok k f46 h46)⟩, (planOK_go _)⟩⟩⟩) fun x => ⟨ev46 k f46 x, eq46 k f46 x⟩
def R46 : Nat → (TY40 → TY3 → TY47 → Option TY27)
  | 0 => fun _ _ _ => none
  | k + 1 => B46 k (R46 k)
def F46 (k : Nat) (a0_ : TY40) (a1_ : TY3) (a2_ : TY47) : Option TY27 := (R46 k) a0_ a1_ a2_
def sp46 (k : Nat) : Spec := ⟨[.val KD21, .val KD0, .mut KD25], [.val KD32], fun x => F46 k x.1 x.2.1 x.2.2.1⟩
theorem r46 (k : Nat) : (Callable Try.prog 46 ∧ Valid Try.prog 46 (rs46 (R46 k))) := by
  induction k with
  | zero => exact ⟨⟨Try.f46, by kernel_rfl, by kernel_rfl, by kernel_rfl⟩, fun x r h => by cases (show (none : Option _) = some r from h)⟩
  | succ k ih => exact b46 k (R46 k) ih
theorem v46 (k : Nat) : Callable Try.prog 46 ∧ Valid Try.prog 46 (sp46 k) := (r46 k)
/-! f28 hyphen/hyphenref5.Sets -/
def F28_0 (k : Nat) : Nat → Int → TY3 → TY47 → Option ((Unit × (TY47 × Unit)))
  | 0, _, _, _ => none
  | n + 1, t4, c1, c2000003 =>
    let x1 := (decide (t4 < ((List.length c1.1 : Nat) : Int)))
    bif x1 then
      if 0 ≤ t4 ∧ t4 < ((List.length c1.1 : Nat) : Int) then
        let x2 := (List.getD c1.1 (Int.toNat t4) (ByteArray.empty, ((Tree.mk ((0 : Int), ((0 : Int), ((0 : Int), (ByteArray.empty, ())))) []), ())))
        (F46 k x2.2.1 c1 c2000003).bind fun r3 =>
        let x4 := (List.set (List.replicate 1 ([] : TY52)) 0 r3.1.1)
        if (List.length r3.2.1 + List.length x4) * (24 * 2) ≤ 281474976710656 ∧ List.length r3.2.1 + List.length x4 ≤ 9223372036854775807 then
          (F28_0 k n (IntKind.wrap .i64 (t4 + (1 : Int))) c1 (r3.2.1 ++ x4)).bind some
        else none
      else none
    else
      some ((), (c2000003, ()))
def fr28_0 (k : Nat) : Frag := ⟨⟨[(3, KD25)], [(1, .ptr 1 []), (3, .at 2000003 []), (4, .val (.int .i64))], [(1, some 54, KD0), (2000003, none, KD25)]⟩, [(.exit 0, ⟨[(3, KD25)], [(3, .at 2000003 [])], [(2000003, none, KD25)]⟩)], fun v => F28_0 k k v.1.1 v.2.1 v.2.2.1⟩
def F28 (k : Nat) (a0 : TY3) : Option ((TY47 × Unit) × Unit) :=
  (F28_0 k k (0 : Int) a0 []).bind fun r5 =>
  let y6 := r5.2.1
  some ((y6, ()), ())
def sp28 (k : Nat) : Spec := ⟨[.val KD0], [.own KD25], fun x => F28 k x.1⟩
def lim28 : Lim := ⟨25, 1, false, false, []⟩
def cfg28 (k : Nat) : Nat → Option Spec := cfgL [(46, sp46 k)]
theorem cfg28_ok (k : Nat) : CfgOK Try.prog (cfg28 k) := cfgL_cons (v46 k) (cfgL_nil)
def pl28_0 (k : Nat) : Plan := .go
theorem pq28_0 (k : Nat) : PlanOK Try.prog lim28 (pl28_0 k) (codeAt (bodyOf Try.f28) [.r, .r, .l, .r, .s, .b]) = PlanOK Try.prog lim28 .go (codeAt (bodyOf Try.f28) [.r, .r, .l, .r, .s, .b]) := by kernel_rfl
theorem ps28_0 (k m : Nat) (v : (fr28_0 k).sh.V) : F28_0 k (m + 1) v.1.1 v.2.1 v.2.2.1 = (body Try.prog (stepper Try.prog (cfg28 k) lim28) (pl28_0 k) (codeAt (bodyOf Try.f28) [.r, .r, .l, .r, .s, .b]) ((fr28_0 k).sh.st v) (loopK (fr28_0 k) fun v => F28_0 k m v.1.1 v.2.1 v.2.2.1)).eval := by kernel_rfl
theorem pe28_0 (k m : Nat) (v : (fr28_0 k).sh.V) : (body Try.prog (stepper Try.prog (cfg28 k) lim28) (pl28_0 k) (codeAt (bodyOf Try.f28) [.r, .r, .l, .r, .s, .b]) ((fr28_0 k).sh.st v) (loopK (fr28_0 k) fun v => F28_0 k m v.1.1 v.2.1 v.2.2.1)).left = (body Try.prog (stepper Try.prog (cfg28 k) lim28) (pl28_0 k) (codeAt (bodyOf Try.f28) [.r, .r, .l, .r, .s, .b]) ((fr28_0 k).sh.st v) (loopK (fr28_0 k) fun v => F28_0 k m v.1.1 v.2.1 v.2.2.1)).right := by kernel_rfl
theorem fr28_0_ok (k : Nat) : FragOK Try.prog lim28 (fr28_0 k) (codeAt (bodyOf Try.f28) [.r, .r, .l, .r, .s]) :=
  frag_cast (by kernel_rfl) (loop_ok (cfg28_ok k) (Eq.mpr (pq28_0 k) (planOK_go _)) (fun m v => F28_0 k m v.1.1 v.2.1 v.2.2.1) k (fun _ => rfl) (fun _ => rfl) fun m v => ⟨ps28_0 k m v, pe28_0 k m v⟩)
def pl28 (k : Nat) : Plan := (.seq .go (.seq .go (.seq (.seq .go (.sub (.frag (fr28_0 k)))) .go)))
theorem pq28 (k : Nat) : PlanOK Try.prog lim28 (pl28 k) (codeAt (bodyOf Try.f28) []) = (PlanOK Try.prog lim28 .go (codeAt (bodyOf Try.f28) [.l]) ∧ (PlanOK Try.prog lim28 .go (codeAt (bodyOf Try.f28) [.r, .l]) ∧ ((PlanOK Try.prog lim28 .go (codeAt (bodyOf Try.f28) [.r, .r, .l, .l]) ∧ FragOK Try.prog lim28 (fr28_0 k) (codeAt (bodyOf Try.f28) [.r, .r, .l, .r, .s])) ∧ PlanOK Try.prog lim28 .go (codeAt (bodyOf Try.f28) [.r, .r, .r])))) := by kernel_rfl
theorem ev28 (k : Nat) (x : AT (sp28 k).ps) : (sp28 k).impl x = (fnT Try.prog (cfg28 k) lim28 Try.f28 (bodyOf Try.f28) (pl28 k) (sp28 k) x).eval := by kernel_rfl
theorem eq28 (k : Nat) (x : AT (sp28 k).ps) : (fnT Try.prog (cfg28 k) lim28 Try.f28 (bodyOf Try.f28) (pl28 k) (sp28 k) x).left = (fnT Try.prog (cfg28 k) lim28 Try.f28 (bodyOf Try.f28) (pl28 k) (sp28 k) x).right := by kernel_rfl
theorem v28 (k : Nat) : Callable Try.prog 28 ∧ Valid Try.prog 28 (sp28 k) :=
  fn_ok (cfg28_ok k) (f := 28) (fn := Try.f28) (by kernel_rfl) (c := bodyOf Try.f28) (by kernel_rfl) (by kernel_rfl) rfl rfl (Nat.le_of_ble_eq_true rfl) (Nat.le_of_ble_eq_true rfl) (p := pl28 k) (Eq.mpr (pq28 k) ⟨(planOK_go _), ⟨(planOK_go _), ⟨⟨(planOK_go _), (fr28_0_ok k)⟩, (planOK_go _)⟩⟩⟩) fun x => ⟨ev28 k x, eq28 k x⟩
end Go.Proofs.YtgojfdimbciaiaaE
