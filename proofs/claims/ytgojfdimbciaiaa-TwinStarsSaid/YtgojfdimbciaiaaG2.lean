/- Functions of the program, as Lean functions, with their contracts; printed by gen.py. Conditions: none. -/
import Derived.Test.YtgojfdimbciaiaaG1
set_option linter.unusedVariables false
namespace Go.Proofs.YtgojfdimbciaiaaE
open Kd
set_option maxRecDepth 20000
/-! f3 hyphen/hyphenlaw8.TwinAll -/
def F3_0 (k : Nat) : Nat → Int → Bool → Int → Bool → Int → Int → (List Int) → Option (((Int × Bool × Int × Bool × Int × Unit) × ((List Int) × Unit)) ⊕ ((Bool × Unit) × Unit))
  | 0, _, _, _, _, _, _, _ => none
  | n + 1, t9, t10, t11, t12, t13, t14, c1000592 =>
    bif (decide (t14 < t13)) then
      if 0 ≤ t13 ∧ t13 < ((List.length c1000592 : Nat) : Int) then
        let x14 := (List.getD c1000592 (Int.toNat t13) (0 : Int))
        if 0 ≤ t14 ∧ t14 < ((List.length c1000592 : Nat) : Int) then
          let x15 := (List.getD c1000592 (Int.toNat t14) (0 : Int))
          bif (x14 == x15) then
            some (.inr ((false, ()), ()))
          else
            (F3_0 k n t9 t10 t11 t12 t13 (IntKind.wrap .i64 (t14 + (1 : Int))) c1000592).bind some
        else none
      else none
    else
      some (.inl ((t9, t10, t11, t12, t13, ()), (c1000592, ())))
def fr3_0 (k : Nat) : Frag := ⟨⟨[], [(7, .at 1000592 []), (9, .val (.int .i64)), (10, .val .bool), (11, .val (.int .i64)), (12, .val .bool), (13, .val (.int .i64)), (14, .val (.int .i64))], [(1000592, none, (.sl true 3 (.int .i64) none))]⟩, [(.exit 2, ⟨[], [(7, .at 1000592 []), (9, .val (.int .i64)), (10, .val .bool), (11, .val (.int .i64)), (12, .val .bool), (13, .val (.int .i64))], [(1000592, none, (.sl true 3 (.int .i64) none))]⟩), (.ret, ⟨[], [(4, .val .bool)], []⟩)], fun v => F3_0 k k v.1.1 v.1.2.1 v.1.2.2.1 v.1.2.2.2.1 v.1.2.2.2.2.1 v.1.2.2.2.2.2.1 v.2.1⟩
def F3_1 (k : Nat) : Nat → Int → Bool → Int → Bool → Int → (List Int) → Option (((Int × Bool × Int × Bool × Unit) × Unit) ⊕ ((Bool × Unit) × Unit))
  | 0, _, _, _, _, _, _ => none
  | n + 1, t9, t10, t11, t12, t13, c1000592 =>
    let x25 := (decide (t13 < ((List.length c1000592 : Nat) : Int)))
    bif x25 then
      (F3_0 k k t9 t10 t11 t12 t13 (0 : Int) c1000592).bind fun r26 =>
      match r26 with
      | .inl r27 =>
        let y28 := r27.1.1
        let y29 := r27.1.2.1
        let y30 := r27.1.2.2.1
        let y31 := r27.1.2.2.2.1
        let y32 := r27.1.2.2.2.2.1
        let y33 := r27.2.1
        (F3_1 k n y28 y29 y30 y31 (IntKind.wrap .i64 (y32 + (1 : Int))) y33).bind some
      | .inr r27 =>
        let y34 := r27.1.1
        some (.inr ((y34, ()), ()))
    else
      some (.inl ((t9, t10, t11, t12, ()), ()))
def fr3_1 (k : Nat) : Frag := ⟨⟨[], [(7, .at 1000592 []), (9, .val (.int .i64)), (10, .val .bool), (11, .val (.int .i64)), (12, .val .bool), (13, .val (.int .i64))], [(1000592, none, (.sl true 3 (.int .i64) none))]⟩, [(.exit 0, ⟨[], [(9, .val (.int .i64)), (10, .val .bool), (11, .val (.int .i64)), (12, .val .bool)], []⟩), (.ret, ⟨[], [(4, .val .bool)], []⟩)], fun v => F3_1 k k v.1.1 v.1.2.1 v.1.2.2.1 v.1.2.2.2.1 v.1.2.2.2.2.1 v.2.1⟩
def F3 (k : Nat) (a0 : (List (Tree (Int × (Int × Unit))))) (a1 : (List Int)) : Option ((Bool × Unit) × Unit) :=
  (F11 k).bind fun r1 =>
  bif (!r1.1.1) then
    some ((false, ()), ())
  else
    (F12 k a0).bind fun r2 =>
    bif (!r2.1.1) then
      some ((true, ()), ())
    else
      let x3 := (((List.length a0 : Nat) : Int) == (0 : Int))
      bif x3 then
        some ((true, ()), ())
      else
        if 0 ≤ (0 : Int) ∧ (0 : Int) < ((List.length a0 : Nat) : Int) then
          let x4 := (List.getD a0 (Int.toNat (0 : Int)) (Tree.mk ((0 : Int), ((0 : Int), ())) []))
          (F13 k x4 a1).bind fun r5 =>
          bif (!r5.1.2.1) then
            some ((true, ()), ())
          else
            (F14 k r5.1.1).bind fun r6 =>
            (F15 k r5.1.1).bind fun r7 =>
            bif (!(r6.1.2.1 == r7.1.1)) then
              some ((false, ()), ())
            else
              bif (!r6.1.2.1) then
                let x8 := (((List.length r6.1.1 : Nat) : Int) == (0 : Int))
                some ((x8, ()), ())
              else
                (F16 k r5.1.1 r6.1.1).bind fun r9 =>
                (F17 k r5.1.1 r6.1.1).bind fun r10 =>
                (F3_1 k k r9.1.1 r9.1.2.1 r10.1.1 r10.1.2.1 (0 : Int) r6.1.1).bind fun r35 =>
                match r35 with
                | .inl r36 =>
                  let y37 := r36.1.1
                  let y38 := r36.1.2.1
                  let y39 := r36.1.2.2.1
                  let y40 := r36.1.2.2.2.1
                  bif y38 then
                    bif (decide (y37 > (0 : Int))) then
                      bif y40 then
                        some (((y39 == y37), ()), ())
                      else
                        some ((false, ()), ())
                    else
                      some ((false, ()), ())
                  else
                    some ((false, ()), ())
                | .inr r36 =>
                  let y41 := r36.1.1
                  some ((y41, ()), ())
        else none
def sp3 (k : Nat) : Spec := ⟨[.val (.tl 32 (.pair (.int .i64) (.pair (.int .i64) .unit))), .val (.sl false 3 (.int .i64) none)], [.val .bool], fun x => F3 k x.1 x.2.1⟩
def lim3 : Lim := ⟨94, 2, false, false, []⟩
def cfg3 (k : Nat) : Nat → Option Spec := cfgL [(11, sp11 k), (12, sp12 k), (13, sp13 k), (14, sp14 k), (15, sp15 k), (16, sp16 k), (17, sp17 k)]
theorem cfg3_ok (k : Nat) : CfgOK Try.prog (cfg3 k) := cfgL_cons (v11 k) (cfgL_cons (v12 k) (cfgL_cons (v13 k) (cfgL_cons (v14 k) (cfgL_cons (v15 k) (cfgL_cons (v16 k) (cfgL_cons (v17 k) (cfgL_nil)))))))
def pl3_0 (k : Nat) : Plan := .go
theorem pq3_0 (k : Nat) : PlanOK Try.prog lim3 (pl3_0 k) (codeAt (bodyOf Try.f3) [.r, .r, .r, .r, .r, .r, .r, .r, .r, .r, .l, .r, .s, .b, .r, .l, .s, .r, .s, .b]) = PlanOK Try.prog lim3 .go (codeAt (bodyOf Try.f3) [.r, .r, .r, .r, .r, .r, .r, .r, .r, .r, .l, .r, .s, .b, .r, .l, .s, .r, .s, .b]) := by kernel_rfl
theorem ps3_0 (k m : Nat) (v : (fr3_0 k).sh.V) : F3_0 k (m + 1) v.1.1 v.1.2.1 v.1.2.2.1 v.1.2.2.2.1 v.1.2.2.2.2.1 v.1.2.2.2.2.2.1 v.2.1 = (body Try.prog (stepper Try.prog (cfg3 k) lim3) (pl3_0 k) (codeAt (bodyOf Try.f3) [.r, .r, .r, .r, .r, .r, .r, .r, .r, .r, .l, .r, .s, .b, .r, .l, .s, .r, .s, .b]) ((fr3_0 k).sh.st v) (loopK (fr3_0 k) fun v => F3_0 k m v.1.1 v.1.2.1 v.1.2.2.1 v.1.2.2.2.1 v.1.2.2.2.2.1 v.1.2.2.2.2.2.1 v.2.1)).eval := by kernel_rfl
theorem pe3_0 (k m : Nat) (v : (fr3_0 k).sh.V) : (body Try.prog (stepper Try.prog (cfg3 k) lim3) (pl3_0 k) (codeAt (bodyOf Try.f3) [.r, .r, .r, .r, .r, .r, .r, .r, .r, .r, .l, .r, .s, .b, .r, .l, .s, .r, .s, .b]) ((fr3_0 k).sh.st v) (loopK (fr3_0 k) fun v => F3_0 k m v.1.1 v.1.2.1 v.1.2.2.1 v.1.2.2.2.1 v.1.2.2.2.2.1 v.1.2.2.2.2.2.1 v.2.1)).left = (body Try.prog (stepper Try.prog (cfg3 k) lim3) (pl3_0 k) (codeAt (bodyOf Try.f3) [.r, .r, .r, .r, .r, .r, .r, .r, .r, .r, .l, .r, .s, .b, .r, .l, .s, .r, .s, .b]) ((fr3_0 k).sh.st v) (loopK (fr3_0 k) fun v => F3_0 k m v.1.1 v.1.2.1 v.1.2.2.1 v.1.2.2.2.1 v.1.2.2.2.2.1 v.1.2.2.2.2.2.1 v.2.1)).right := by kernel_rfl
theorem fr3_0_ok (k : Nat) : FragOK Try.prog lim3 (fr3_0 k) (codeAt (bodyOf Try.f3) [.r, .r, .r, .r, .r, .r, .r, .r, .r, .r, .l, .r, .s, .b, .r, .l, .s, .r, .s]) :=
  frag_cast (by kernel_rfl) (loop_ok (cfg3_ok k) (Eq.mpr (pq3_0 k) (planOK_go _)) (fun m v => F3_0 k m v.1.1 v.1.2.1 v.1.2.2.1 v.1.2.2.2.1 v.1.2.2.2.2.1 v.1.2.2.2.2.2.1 v.2.1) k (fun _ => rfl) (fun _ => rfl) fun m v => ⟨ps3_0 k m v, pe3_0 k m v⟩)
def pl3_1 (k : Nat) : Plan := (.seq .go (.seq (.sub (.seq .go (.sub (.frag (fr3_0 k))))) .go))
theorem pq3_1 (k : Nat) : PlanOK Try.prog lim3 (pl3_1 k) (codeAt (bodyOf Try.f3) [.r, .r, .r, .r, .r, .r, .r, .r, .r, .r, .l, .r, .s, .b]) = (PlanOK Try.prog lim3 .go (codeAt (bodyOf Try.f3) [.r, .r, .r, .r, .r, .r, .r, .r, .r, .r, .l, .r, .s, .b, .l]) ∧ ((PlanOK Try.prog lim3 .go (codeAt (bodyOf Try.f3) [.r, .r, .r, .r, .r, .r, .r, .r, .r, .r, .l, .r, .s, .b, .r, .l, .s, .l]) ∧ FragOK Try.prog lim3 (fr3_0 k) (codeAt (bodyOf Try.f3) [.r, .r, .r, .r, .r, .r, .r, .r, .r, .r, .l, .r, .s, .b, .r, .l, .s, .r, .s])) ∧ PlanOK Try.prog lim3 .go (codeAt (bodyOf Try.f3) [.r, .r, .r, .r, .r, .r, .r, .r, .r, .r, .l, .r, .s, .b, .r, .r]))) := by kernel_rfl
theorem ps3_1 (k m : Nat) (v : (fr3_1 k).sh.V) : F3_1 k (m + 1) v.1.1 v.1.2.1 v.1.2.2.1 v.1.2.2.2.1 v.1.2.2.2.2.1 v.2.1 = (body Try.prog (stepper Try.prog (cfg3 k) lim3) (pl3_1 k) (codeAt (bodyOf Try.f3) [.r, .r, .r, .r, .r, .r, .r, .r, .r, .r, .l, .r, .s, .b]) ((fr3_1 k).sh.st v) (loopK (fr3_1 k) fun v => F3_1 k m v.1.1 v.1.2.1 v.1.2.2.1 v.1.2.2.2.1 v.1.2.2.2.2.1 v.2.1)).eval := by kernel_rfl
theorem pe3_1 (k m : Nat) (v : (fr3_1 k).sh.V) : (body Try.prog (stepper Try.prog (cfg3 k) lim3) (pl3_1 k) (codeAt (bodyOf Try.f3) [.r, .r, .r, .r, .r, .r, .r, .r, .r, .r, .l, .r, .s, .b]) ((fr3_1 k).sh.st v) (loopK (fr3_1 k) fun v => F3_1 k m v.1.1 v.1.2.1 v.1.2.2.1 v.1.2.2.2.1 v.1.2.2.2.2.1 v.2.1)).left = (body Try.prog (stepper Try.prog (cfg3 k) lim3) (pl3_1 k) (codeAt (bodyOf Try.f3) [.r, .r, .r, .r, .r, .r, .r, .r, .r, .r, .l, .r, .s, .b]) ((fr3_1 k).sh.st v) (loopK (fr3_1 k) fun v => F3_1 k m v.1.1 v.1.2.1 v.1.2.2.1 v.1.2.2.2.1 v.1.2.2.2.2.1 v.2.1)).right := by kernel_rfl
theorem fr3_1_ok (k : Nat) : FragOK Try.prog lim3 (fr3_1 k) (codeAt (bodyOf Try.f3) [.r, .r, .r, .r, .r, .r, .r, .r, .r, .r, .l, .r, .s]) :=
  frag_cast (by kernel_rfl) (loop_ok (cfg3_ok k) (Eq.mpr (pq3_1 k) ⟨(planOK_go _), ⟨⟨(planOK_go _), (fr3_0_ok k)⟩, (planOK_go _)⟩⟩) (fun m v => F3_1 k m v.1.1 v.1.2.1 v.1.2.2.1 v.1.2.2.2.1 v.1.2.2.2.2.1 v.2.1) k (fun _ => rfl) (fun _ => rfl) fun m v => ⟨ps3_1 k m v, pe3_1 k m v⟩)
def pl3 (k : Nat) : Plan := (.seq .go (.seq .go (.seq .go (.seq .go (.seq .go (.seq .go (.seq .go (.seq .go (.seq .go (.seq .go (.seq (.seq .go (.sub (.frag (fr3_1 k)))) .go)))))))))))
theorem pq3 (k : Nat) : PlanOK Try.prog lim3 (pl3 k) (codeAt (bodyOf Try.f3) []) = (PlanOK Try.prog lim3 .go (codeAt (bodyOf Try.f3) [.l]) ∧ (PlanOK Try.prog lim3 .go (codeAt (bodyOf Try.f3) [.r, .l]) ∧ (PlanOK Try.prog lim3 .go (codeAt (bodyOf Try.f3) [.r, .r, .l]) ∧ (PlanOK Try.prog lim3 .go (codeAt (bodyOf Try.f3) [.r, .r, .r, .l]) ∧ (PlanOK Try.prog lim3 .go (codeAt (bodyOf Try.f3) [.r, .r, .r, .r, .l]) ∧ (PlanOK Try.prog lim3 .go (codeAt (bodyOf Try.f3) [.r, .r, .r, .r, .r, .l]) ∧ (PlanOK Try.prog lim3 .go (codeAt (bodyOf Try.f3) [.r, .r, .r, .r, .r, .r, .l]) ∧ (PlanOK Try.prog lim3 .go (codeAt (bodyOf Try.f3) [.r, .r, .r, .r, .r, .r, .r, .l]) ∧ (PlanOK Try.prog lim3 .go (codeAt (bodyOf Try.f3) [.r, .r, .r, .r, .r, .r, .r, .r, .l]) ∧ (PlanOK Try.prog lim3 .go (codeAt (bodyOf Try.f3) [.r, .r, .r, .r, .r, .r, .r, .r, .r, .l]) ∧ ((PlanOK Try.prog lim3 .go (codeAt (bodyOf Try.f3) [.r, .r, .r, .r, .r, .r, .r, .r, .r, .r, .l, .l]) ∧ FragOK Try.prog lim3 (fr3_1 k) (codeAt (bodyOf Try.f3) [.r, .r, .r, .r, .r, .r, .r, .r, .r, .r, .l, .r, .s])) ∧ PlanOK Try.prog lim3 .go (codeAt (bodyOf Try.f3) [.r, .r, .r, .r, .r, .r, .r, .r, .r, .r, .r])))))))))))) := by kernel_rfl
theorem ev3 (k : Nat) (x : AT (sp3 k).ps) : (sp3 k).impl x = (fnT Try.prog (cfg3 k) lim3 Try.f3 (bodyOf Try.f3) (pl3 k) (sp3 k) x).eval := by kernel_rfl
theorem eq3 (k : Nat) (x : AT (sp3 k).ps) : (fnT Try.prog (cfg3 k) lim3 Try.f3 (bodyOf Try.f3) (pl3 k) (sp3 k) x).left = (fnT Try.prog (cfg3 k) lim3 Try.f3 (bodyOf Try.f3) (pl3 k) (sp3 k) x).right := by kernel_rfl
theorem v3 (k : Nat) : Callable Try.prog 3 ∧ Valid Try.prog 3 (sp3 k) :=
  fn_ok (cfg3_ok k) (f := 3) (fn := Try.f3) (by kernel_rfl) (c := bodyOf Try.f3) (by kernel_rfl) (by kernel_rfl) rfl rfl (Nat.le_of_ble_eq_true rfl) (Nat.le_of_ble_eq_true rfl) (p := pl3 k) (Eq.mpr (pq3 k) ⟨(planOK_go _), ⟨(planOK_go _), ⟨(planOK_go _), ⟨(planOK_go _), ⟨(planOK_go _), ⟨(planOK_go _), ⟨(planOK_go _), ⟨(planOK_go _), ⟨(planOK_go _), ⟨(planOK_go _), ⟨⟨(planOK_go _), (fr3_1_ok k)⟩, (planOK_go _)⟩⟩⟩⟩⟩⟩⟩⟩⟩⟩⟩) fun x => ⟨ev3 k x, eq3 k x⟩
/-! f18 hyphen/hyphenlaw8.within -/
def F18 (k : Nat) (a0 : Int) (a1 : Int) : Option ((Int × Unit) × Unit) :=
  if a1 ≠ 0 then
    bif (decide ((Int.tmod a0 a1) < (0 : Int))) then
      some (((IntKind.wrap .i64 ((Int.tmod a0 a1) + a1)), ()), ())
    else
      some (((Int.tmod a0 a1), ()), ())
  else none
def sp18 (k : Nat) : Spec := ⟨[.val (.int .i64), .val (.int .i64)], [.val (.int .i64)], fun x => F18 k x.1 x.2.1⟩
def lim18 : Lim := ⟨15, 2, false, false, []⟩
def cfg18 (k : Nat) : Nat → Option Spec := cfgL []
theorem cfg18_ok (k : Nat) : CfgOK Try.prog (cfg18 k) := cfgL_nil
def pl18 (k : Nat) : Plan := .go
theorem pq18 (k : Nat) : PlanOK Try.prog lim18 (pl18 k) (codeAt (bodyOf Try.f18) []) = PlanOK Try.prog lim18 .go (codeAt (bodyOf Try.f18) []) := by kernel_rfl
theorem ev18 (k : Nat) (x : AT (sp18 k).ps) : (sp18 k).impl x = (fnT Try.prog (cfg18 k) lim18 Try.f18 (bodyOf Try.f18) (pl18 k) (sp18 k) x).eval := by kernel_rfl
theorem eq18 (k : Nat) (x : AT (sp18 k).ps) : (fnT Try.prog (cfg18 k) lim18 Try.f18 (bodyOf Try.f18) (pl18 k) (sp18 k) x).left = (fnT Try.prog (cfg18 k) lim18 Try.f18 (bodyOf Try.f18) (pl18 k) (sp18 k) x).right := by kernel_rfl
theorem v18 (k : Nat) : Callable Try.prog 18 ∧ Valid Try.prog 18 (sp18 k) :=
  fn_ok (cfg18_ok k) (f := 18) (fn := Try.f18) (by kernel_rfl) (c := bodyOf Try.f18) (by kernel_rfl) (by kernel_rfl) rfl rfl (Nat.le_of_ble_eq_true rfl) (Nat.le_of_ble_eq_true rfl) (p := pl18 k) (Eq.mpr (pq18 k) (planOK_go _)) fun x => ⟨ev18 k x, eq18 k x⟩
/-! f20 hyphen/hyphenref8.Way -/
def F20_0 (k : Nat) : Nat → Int → Int → ((List Int) × ((List Int) × ((List Int) × ((List (Int × (Int × (Int × Unit)))) × (Int × Unit))))) → (List Int) → Option (((Int × Unit) × (((List Int) × ((List Int) × ((List Int) × ((List (Int × (Int × (Int × Unit)))) × (Int × Unit))))) × (List Int) × Unit)))
  | 0, _, _, _, _ => none
  | n + 1, t1, t6, c2, c22 =>
    let x5 := (decide (t6 < ((List.length c22 : Nat) : Int)))
    bif x5 then
      if 0 ≤ t6 ∧ t6 < ((List.length c2.2.1 : Nat) : Int) then
        let x6 := (decide ((List.getD c2.2.1 (Int.toNat t6) (0 : Int)) < (1152921504606846976 : Int)))
        bif x6 then
          if 0 ≤ t6 ∧ t6 < ((List.length c22 : Nat) : Int) then
            (F20_0 k n t1 (IntKind.wrap .i64 (t6 + (1 : Int))) c2 (List.set c22 (Int.toNat t6) (1 : Int))).bind some
          else none
        else
          (F20_0 k n t1 (IntKind.wrap .i64 (t6 + (1 : Int))) c2 c22).bind some
      else none
    else
      some ((t1, ()), (c2, c22, ()))
def fr20_0 (k : Nat) : Frag := ⟨⟨[], [(1, .val (.int .i64)), (2, .ptr 2 []), (5, .at 22 []), (6, .val (.int .i64))], [(2, some 28, (.pair (.sl false 3 (.int .i64) none) (.pair (.sl false 3 (.int .i64) none) (.pair (.sl false 3 (.int .i64) none) (.pair (.sl false 43 (.pair (.int .i64) (.pair (.int .i64) (.pair (.int .i64) .unit))) none) (.pair (.int .i64) .unit)))))), (22, none, (.sl true 3 (.int .i64) none))]⟩, [(.exit 0, ⟨[], [(1, .val (.int .i64)), (2, .ptr 2 []), (5, .at 22 [])], [(2, some 28, (.pair (.sl false 3 (.int .i64) none) (.pair (.sl false 3 (.int .i64) none) (.pair (.sl false 3 (.int .i64) none) (.pair (.sl false 43 (.pair (.int .i64) (.pair (.int .i64) (.pair (.int .i64) .unit))) none) (.pair (.int .i64) .unit)))))), (22, none, (.sl true 3 (.int .i64) none))]⟩)], fun v => F20_0 k k v.1.1 v.1.2.1 v.2.1 v.2.2.1⟩
def F20_1 (k : Nat) : Nat → Int → Bool → Int → ((List Int) × ((List Int) × ((List Int) × ((List (Int × (Int × (Int × Unit)))) × (Int × Unit))))) → (List Int) → Option (((Int × Bool × Unit) × (((List Int) × ((List Int) × ((List Int) × ((List (Int × (Int × (Int × Unit)))) × (Int × Unit))))) × (List Int) × Unit)))
  | 0, _, _, _, _, _ => none
  | n + 1, t1, t7, t8, c2, c22 =>
    let x19 := (decide (t8 < ((List.length c2.2.2.2.1 : Nat) : Int)))
    bif x19 then
      if 0 ≤ t8 ∧ t8 < ((List.length c2.2.2.2.1 : Nat) : Int) then
        let x20 := (List.getD c2.2.2.2.1 (Int.toNat t8) ((0 : Int), ((0 : Int), ((0 : Int), ()))))
        if 0 ≤ x20.1 ∧ x20.1 < ((List.length c22 : Nat) : Int) then
          let x21 := (decide ((List.getD c22 (Int.toNat x20.1) (0 : Int)) > (0 : Int)))
          bif x21 then
            if 0 ≤ x20.2.1 ∧ x20.2.1 < ((List.length c22 : Nat) : Int) then
              let x22 := (List.getD c22 (Int.toNat x20.2.1) (0 : Int))
              bif (x22 == (0 : Int)) then
                if 0 ≤ x20.1 ∧ x20.1 < ((List.length c22 : Nat) : Int) then
                  let x23 := (IntKind.wrap .i64 ((List.getD c22 (Int.toNat x20.1) (0 : Int)) + (1 : Int)))
                  if 0 ≤ x20.2.1 ∧ x20.2.1 < ((List.length c22 : Nat) : Int) then
                    (F20_1 k n t1 true (IntKind.wrap .i64 (t8 + (1 : Int))) c2 (List.set c22 (Int.toNat x20.2.1) x23)).bind some
                  else none
                else none
              else
                if 0 ≤ x20.2.1 ∧ x20.2.1 < ((List.length c22 : Nat) : Int) then
                  let x24 := (List.getD c22 (Int.toNat x20.2.1) (0 : Int))
                  if 0 ≤ x20.1 ∧ x20.1 < ((List.length c22 : Nat) : Int) then
                    let x25 := (IntKind.wrap .i64 ((List.getD c22 (Int.toNat x20.1) (0 : Int)) + (1 : Int)))
                    bif (decide (x24 > x25)) then
                      if 0 ≤ x20.1 ∧ x20.1 < ((List.length c22 : Nat) : Int) then
                        let x26 := (IntKind.wrap .i64 ((List.getD c22 (Int.toNat x20.1) (0 : Int)) + (1 : Int)))
                        if 0 ≤ x20.2.1 ∧ x20.2.1 < ((List.length c22 : Nat) : Int) then
                          (F20_1 k n t1 true (IntKind.wrap .i64 (t8 + (1 : Int))) c2 (List.set c22 (Int.toNat x20.2.1) x26)).bind some
                        else none
                      else none
                    else
                      (F20_1 k n t1 t7 (IntKind.wrap .i64 (t8 + (1 : Int))) c2 c22).bind some
                  else none
                else none
            else none
          else
            (F20_1 k n t1 t7 (IntKind.wrap .i64 (t8 + (1 : Int))) c2 c22).bind some
        else none
      else none
    else
      some ((t1, t7, ()), (c2, c22, ()))
def fr20_1 (k : Nat) : Frag := ⟨⟨[], [(1, .val (.int .i64)), (2, .ptr 2 []), (5, .at 22 []), (7, .val .bool), (8, .val (.int .i64))], [(2, some 28, (.pair (.sl false 3 (.int .i64) none) (.pair (.sl false 3 (.int .i64) none) (.pair (.sl false 3 (.int .i64) none) (.pair (.sl false 43 (.pair (.int .i64) (.pair (.int .i64) (.pair (.int .i64) .unit))) none) (.pair (.int .i64) .unit)))))), (22, none, (.sl true 3 (.int .i64) none))]⟩, [(.exit 4, ⟨[], [(1, .val (.int .i64)), (2, .ptr 2 []), (5, .at 22 []), (7, .val .bool)], [(2, some 28, (.pair (.sl false 3 (.int .i64) none) (.pair (.sl false 3 (.int .i64) none) (.pair (.sl false 3 (.int .i64) none) (.pair (.sl false 43 (.pair (.int .i64) (.pair (.int .i64) (.pair (.int .i64) .unit))) none) (.pair (.int .i64) .unit)))))), (22, none, (.sl true 3 (.int .i64) none))]⟩)], fun v => F20_1 k k v.1.1 v.1.2.1 v.1.2.2.1 v.2.1 v.2.2.1⟩
def F20_2 (k : Nat) : Nat → Int → Bool → ((List Int) × ((List Int) × ((List Int) × ((List (Int × (Int × (Int × Unit)))) × (Int × Unit))))) → (List Int) → Option (((Int × Unit) × ((List Int) × Unit)))
  | 0, _, _, _, _ => none
  | n + 1, t1, t7, c2, c22 =>
    bif t7 then
      (F20_1 k k t1 false (0 : Int) c2 c22).bind fun r32 =>
      let y33 := r32.1.1
      let y34 := r32.1.2.1
      let y35 := r32.2.1
      let y36 := r32.2.2.1
      (F20_2 k n y33 y34 y35 y36).bind some
    else
      some ((t1, ()), (c22, ()))
def fr20_2 (k : Nat) : Frag := ⟨⟨[], [(1, .val (.int .i64)), (2, .ptr 2 []), (5, .at 22 []), (7, .val .bool)], [(2, some 28, (.pair (.sl false 3 (.int .i64) none) (.pair (.sl false 3 (.int .i64) none) (.pair (.sl false 3 (.int .i64) none) (.pair (.sl false 43 (.pair (.int .i64) (.pair (.int .i64) (.pair (.int .i64) .unit))) none) (.pair (.int .i64) .unit)))))), (22, none, (.sl true 3 (.int .i64) none))]⟩, [(.exit 2, ⟨[], [(1, .val (.int .i64)), (5, .at 22 [])], [(22, none, (.sl true 3 (.int .i64) none))]⟩)], fun v => F20_2 k k v.1.1 v.1.2.1 v.2.1 v.2.2.1⟩
def F20 (k : Nat) (a0 : ((List Int) × ((List Int) × ((List Int) × ((List (Int × (Int × (Int × Unit)))) × (Int × Unit)))))) (a1 : Int) : Option ((Int × Unit) × Unit) :=
  bif (decide (a1 < (0 : Int))) then
    some (((0 : Int), ()), ())
  else
    let x1 := (decide (a1 ≥ ((List.length a0.1 : Nat) : Int)))
    bif x1 then
      some (((0 : Int), ()), ())
    else
      if (0 ≤ ((List.length a0.1 : Nat) : Int) ∧ ((List.length a0.1 : Nat) : Int) < ((List.length a0.1 : Nat) : Int) + 1) ∧ ((List.length a0.1 : Nat) : Int) ≤ 9223372036854775807 ∧ ((8 : Nat) : Int) * ((List.length a0.1 : Nat) : Int) ≤ 281474976710656 then
        let x2 := (List.replicate (Int.toNat ((List.length a0.1 : Nat) : Int)) (0 : Int))
        (F20_0 k k a1 (0 : Int) a0 x2).bind fun r7 =>
        let y8 := r7.1.1
        let y9 := r7.2.1
        let y10 := r7.2.2.1
        (F20_2 k k y8 true y9 y10).bind fun r37 =>
        let y38 := r37.1.1
        let y39 := r37.2.1
        if 0 ≤ y38 ∧ y38 < ((List.length y39 : Nat) : Int) then
          some (((List.getD y39 (Int.toNat y38) (0 : Int)), ()), ())
        else none
      else none
def sp20 (k : Nat) : Spec := ⟨[.val (.pair (.sl false 3 (.int .i64) none) (.pair (.sl false 3 (.int .i64) none) (.pair (.sl false 3 (.int .i64) none) (.pair (.sl false 43 (.pair (.int .i64) (.pair (.int .i64) (.pair (.int .i64) .unit))) none) (.pair (.int .i64) .unit))))), .val (.int .i64)], [.val (.int .i64)], fun x => F20 k x.1 x.2.1⟩
def lim20 : Lim := ⟨93, 2, false, false, []⟩
def cfg20 (k : Nat) : Nat → Option Spec := cfgL []
theorem cfg20_ok (k : Nat) : CfgOK Try.prog (cfg20 k) := cfgL_nil
def pl20_0 (k : Nat) : Plan := .go
theorem pq20_0 (k : Nat) : PlanOK Try.prog lim20 (pl20_0 k) (codeAt (bodyOf Try.f20) [.r, .r, .r, .l, .r, .s, .b]) = PlanOK Try.prog lim20 .go (codeAt (bodyOf Try.f20) [.r, .r, .r, .l, .r, .s, .b]) := by kernel_rfl
theorem ps20_0 (k m : Nat) (v : (fr20_0 k).sh.V) : F20_0 k (m + 1) v.1.1 v.1.2.1 v.2.1 v.2.2.1 = (body Try.prog (stepper Try.prog (cfg20 k) lim20) (pl20_0 k) (codeAt (bodyOf Try.f20) [.r, .r, .r, .l, .r, .s, .b]) ((fr20_0 k).sh.st v) (loopK (fr20_0 k) fun v => F20_0 k m v.1.1 v.1.2.1 v.2.1 v.2.2.1)).eval := by kernel_rfl
theorem pe20_0 (k m : Nat) (v : (fr20_0 k).sh.V) : (body Try.prog (stepper Try.prog (cfg20 k) lim20) (pl20_0 k) (codeAt (bodyOf Try.f20) [.r, .r, .r, .l, .r, .s, .b]) ((fr20_0 k).sh.st v) (loopK (fr20_0 k) fun v => F20_0 k m v.1.1 v.1.2.1 v.2.1 v.2.2.1)).left = (body Try.prog (stepper Try.prog (cfg20 k) lim20) (pl20_0 k) (codeAt (bodyOf Try.f20) [.r, .r, .r, .l, .r, .s, .b]) ((fr20_0 k).sh.st v) (loopK (fr20_0 k) fun v => F20_0 k m v.1.1 v.1.2.1 v.2.1 v.2.2.1)).right := by kernel_rfl
theorem fr20_0_ok (k : Nat) : FragOK Try.prog lim20 (fr20_0 k) (codeAt (bodyOf Try.f20) [.r, .r, .r, .l, .r, .s]) :=
  frag_cast (by kernel_rfl) (loop_ok (cfg20_ok k) (Eq.mpr (pq20_0 k) (planOK_go _)) (fun m v => F20_0 k m v.1.1 v.1.2.1 v.2.1 v.2.2.1) k (fun _ => rfl) (fun _ => rfl) fun m v => ⟨ps20_0 k m v, pe20_0 k m v⟩)
def pl20_1 (k : Nat) : Plan := .go
theorem pq20_1 (k : Nat) : PlanOK Try.prog lim20 (pl20_1 k) (codeAt (bodyOf Try.f20) [.r, .r, .r, .r, .l, .r, .s, .b, .r, .s, .r, .r, .s, .b]) = PlanOK Try.prog lim20 .go (codeAt (bodyOf Try.f20) [.r, .r, .r, .r, .l, .r, .s, .b, .r, .s, .r, .r, .s, .b]) := by kernel_rfl
theorem ps20_1 (k m : Nat) (v : (fr20_1 k).sh.V) : F20_1 k (m + 1) v.1.1 v.1.2.1 v.1.2.2.1 v.2.1 v.2.2.1 = (body Try.prog (stepper Try.prog (cfg20 k) lim20) (pl20_1 k) (codeAt (bodyOf Try.f20) [.r, .r, .r, .r, .l, .r, .s, .b, .r, .s, .r, .r, .s, .b]) ((fr20_1 k).sh.st v) (loopK (fr20_1 k) fun v => F20_1 k m v.1.1 v.1.2.1 v.1.2.2.1 v.2.1 v.2.2.1)).eval := by kernel_rfl
theorem pe20_1 (k m : Nat) (v : (fr20_1 k).sh.V) : (body Try.prog (stepper Try.prog (cfg20 k) lim20) (pl20_1 k) (codeAt (bodyOf Try.f20) [.r, .r, .r, .r, .l, .r, .s, .b, .r, .s, .r, .r, .s, .b]) ((fr20_1 k).sh.st v) (loopK (fr20_1 k) fun v => F20_1 k m v.1.1 v.1.2.1 v.1.2.2.1 v.2.1 v.2.2.1)).left = (body Try.prog (stepper Try.prog (cfg20 k) lim20) (pl20_1 k) (codeAt (bodyOf Try.f20) [.r, .r, .r, .r, .l, .r, .s, .b, .r, .s, .r, .r, .s, .b]) ((fr20_1 k).sh.st v) (loopK (fr20_1 k) fun v => F20_1 k m v.1.1 v.1.2.1 v.1.2.2.1 v.2.1 v.2.2.1)).right := by kernel_rfl
theorem fr20_1_ok (k : Nat) : FragOK Try.prog lim20 (fr20_1 k) (codeAt (bodyOf Try.f20) [.r, .r, .r, .r, .l, .r, .s, .b, .r, .s, .r, .r, .s]) :=
  frag_cast (by kernel_rfl) (loop_ok (cfg20_ok k) (Eq.mpr (pq20_1 k) (planOK_go _)) (fun m v => F20_1 k m v.1.1 v.1.2.1 v.1.2.2.1 v.2.1 v.2.2.1) k (fun _ => rfl) (fun _ => rfl) fun m v => ⟨ps20_1 k m v, pe20_1 k m v⟩)
def pl20_2 (k : Nat) : Plan := (.seq .go (.sub (.seq .go (.seq .go (.sub (.frag (fr20_1 k)))))))
theorem pq20_2 (k : Nat) : PlanOK Try.prog lim20 (pl20_2 k) (codeAt (bodyOf Try.f20) [.r, .r, .r, .r, .l, .r, .s, .b]) = (PlanOK Try.prog lim20 .go (codeAt (bodyOf Try.f20) [.r, .r, .r, .r, .l, .r, .s, .b, .l]) ∧ (PlanOK Try.prog lim20 .go (codeAt (bodyOf Try.f20) [.r, .r, .r, .r, .l, .r, .s, .b, .r, .s, .l]) ∧ (PlanOK Try.prog lim20 .go (codeAt (bodyOf Try.f20) [.r, .r, .r, .r, .l, .r, .s, .b, .r, .s, .r, .l]) ∧ FragOK Try.prog lim20 (fr20_1 k) (codeAt (bodyOf Try.f20) [.r, .r, .r, .r, .l, .r, .s, .b, .r, .s, .r, .r, .s])))) := by kernel_rfl
theorem ps20_2 (k m : Nat) (v : (fr20_2 k).sh.V) : F20_2 k (m + 1) v.1.1 v.1.2.1 v.2.1 v.2.2.1 = (body Try.prog (stepper Try.prog (cfg20 k) lim20) (pl20_2 k) (codeAt (bodyOf Try.f20) [.r, .r, .r, .r, .l, .r, .s, .b]) ((fr20_2 k).sh.st v) (loopK (fr20_2 k) fun v => F20_2 k m v.1.1 v.1.2.1 v.2.1 v.2.2.1)).eval := by kernel_rfl
theorem pe20_2 (k m : Nat) (v : (fr20_2 k).sh.V) : (body Try.prog (stepper Try.prog (cfg20 k) lim20) (pl20_2 k) (codeAt (bodyOf Try.f20) [.r, .r, .r, .r, .l, .r, .s, .b]) ((fr20_2 k).sh.st v) (loopK (fr20_2 k) fun v => F20_2 k m v.1.1 v.1.2.1 v.2.1 v.2.2.1)).left = (body Try.prog (stepper Try.prog (cfg20 k) lim20) (pl20_2 k) (codeAt (bodyOf Try.f20) [.r, .r, .r, .r, .l, .r, .s, .b]) ((fr20_2 k).sh.st v) (loopK (fr20_2 k) fun v => F20_2 k m v.1.1 v.1.2.1 v.2.1 v.2.2.1)).right := by kernel_rfl
theorem fr20_2_ok (k : Nat) : FragOK Try.prog lim20 (fr20_2 k) (codeAt (bodyOf Try.f20) [.r, .r, .r, .r, .l, .r, .s]) :=
  frag_cast (by kernel_rfl) (loop_ok (cfg20_ok k) (Eq.mpr (pq20_2 k) ⟨(planOK_go _), ⟨(planOK_go _), ⟨(planOK_go _), (fr20_1_ok k)⟩⟩⟩) (fun m v => F20_2 k m v.1.1 v.1.2.1 v.2.1 v.2.2.1) k (fun _ => rfl) (fun _ => rfl) fun m v => ⟨ps20_2 k m v, pe20_2 k m v⟩)
def pl20 (k : Nat) : Plan := (.seq .go (.seq .go (.seq .go (.seq (.seq .go (.sub (.frag (fr20_0 k)))) (.seq (.seq .go (.sub (.frag (fr20_2 k)))) .go)))))
theorem pq20 (k : Nat) : PlanOK Try.prog lim20 (pl20 k) (codeAt (bodyOf Try.f20) []) = (PlanOK Try.prog lim20 .go (codeAt (bodyOf Try.f20) [.l]) ∧ (PlanOK Try.prog lim20 .go (codeAt (bodyOf Try.f20) [.r, .l]) ∧ (PlanOK Try.prog lim20 .go (codeAt (bodyOf Try.f20) [.r, .r, .l]) ∧ ((PlanOK Try.prog lim20 .go (codeAt (bodyOf Try.f20) [.r, .r, .r, .l, .l]) ∧ FragOK Try.prog lim20 (fr20_0 k) (codeAt (bodyOf Try.f20) [.r, .r, .r, .l, .r, .s])) ∧ ((PlanOK Try.prog lim20 .go (codeAt (bodyOf Try.f20) [.r, .r, .r, .r, .l, .l]) ∧ FragOK Try.prog lim20 (fr20_2 k) (codeAt (bodyOf Try.f20) [.r, .r, .r, .r, .l, .r, .s])) ∧ PlanOK Try.prog lim20 .go (codeAt (bodyOf Try.f20) [.r, .r, .r, .r, .r])))))) := by kernel_rfl
theorem ev20 (k : Nat) (x : AT (sp20 k).ps) : (sp20 k).impl x = (fnT Try.prog (cfg20 k) lim20 Try.f20 (bodyOf Try.f20) (pl20 k) (sp20 k) x).eval := by kernel_rfl
theorem eq20 (k : Nat) (x : AT (sp20 k).ps) : (fnT Try.prog (cfg20 k) lim20 Try.f20 (bodyOf Try.f20) (pl20 k) (sp20 k) x).left = (fnT Try.prog (cfg20 k) lim20 Try.f20 (bodyOf Try.f20) (pl20 k) (sp20 k) x).right := by kernel_rfl
theorem v20 (k : Nat) : Callable Try.prog 20 ∧ Valid Try.prog 20 (sp20 k) :=
  fn_ok (cfg20_ok k) (f := 20) (fn := Try.f20) (by kernel_rfl) (c := bodyOf Try.f20) (by kernel_rfl) (by kernel_rfl) rfl rfl (Nat.le_of_ble_eq_true rfl) (Nat.le_of_ble_eq_true rfl) (p := pl20 k) (Eq.mpr (pq20 k) ⟨(planOK_go _), ⟨(planOK_go _), ⟨(planOK_go _), ⟨⟨(planOK_go _), (fr20_0_ok k)⟩, ⟨⟨(planOK_go _), (fr20_2_ok k)⟩, (planOK_go _)⟩⟩⟩⟩⟩) fun x => ⟨ev20 k x, eq20 k x⟩
/-! f4 hyphen/hyphenlaw8.TwinWays -/
def F4_0 (k : Nat) : Nat → Int → Int → Bool → Int → Bool → Int → Bool → Bool → Int → Bool → Int → Int → Bool → Int → Int → Bool → ((List Int) × ((List Int) × ((List Int) × ((List (Int × (Int × (Int × Unit)))) × (Int × Unit))))) → (List Int) → (List Int) → Option (((Int × Int × Bool × Bool × Int × Bool × Bool × Int × Bool × Int × Int × Bool × Int × Int × Bool × Unit) × (((List Int) × ((List Int) × ((List Int) × ((List (Int × (Int × (Int × Unit)))) × (Int × Unit))))) × (List Int) × (List Int) × Unit)))
  | 0, _, _, _, _, _, _, _, _, _, _, _, _, _, _, _, _, _, _, _ => none
  | n + 1, t12, t15, t16, t17, t70, t72, t73, t74, t92, t93, t98, t101, t102, t109, t111, t112, c9, c46, c1000912 =>
    let x26 := (decide (t17 < ((List.length c9.2.2.2.1 : Nat) : Int)))
    bif x26 then
      bif t16 then
        (F4_0 k n t12 t15 true (IntKind.wrap .i64 (t17 + (1 : Int))) t70 t72 t73 t74 t92 t93 t98 t101 t102 t109 t111 t112 c9 c46 c1000912).bind some
      else
        if 0 ≤ t17 ∧ t17 < ((List.length c9.2.2.2.1 : Nat) : Int) then
          let x27 := (List.getD c9.2.2.2.1 (Int.toNat t17) ((0 : Int), ((0 : Int), ((0 : Int), ())))).1
          if 0 ≤ (IntKind.wrap .i64 (t15 - (1 : Int))) ∧ (IntKind.wrap .i64 (t15 - (1 : Int))) < ((List.length c1000912 : Nat) : Int) then
            let x28 := (Int.toNat (IntKind.wrap .i64 (t15 - (1 : Int))))
            bif (x27 == (List.getD c1000912 x28 (0 : Int))) then
              if 0 ≤ t17 ∧ t17 < ((List.length c9.2.2.2.1 : Nat) : Int) then
                let x29 := (List.getD c9.2.2.2.1 (Int.toNat t17) ((0 : Int), ((0 : Int), ((0 : Int), ())))).2.1
                if 0 ≤ t15 ∧ t15 < ((List.length c1000912 : Nat) : Int) then
                  let x30 := (List.getD c1000912 (Int.toNat t15) (0 : Int))
                  (F4_0 k n t12 t15 (x29 == x30) (IntKind.wrap .i64 (t17 + (1 : Int))) t70 t72 t73 t74 t92 t93 t98 t101 t102 t109 t111 t112 c9 c46 c1000912).bind some
                else none
              else none
            else
              (F4_0 k n t12 t15 false (IntKind.wrap .i64 (t17 + (1 : Int))) t70 t72 t73 t74 t92 t93 t98 t101 t102 t109 t111 t112 c9 c46 c1000912).bind some
          else none
        else none
    else
      some ((t12, t15, t16, t70, t72, t73, t74, t92, t93, t98, t101, t102, t109, t111, t112, ()), (c9, c46, c1000912, ()))
def fr4_0 (k : Nat) : Frag := ⟨⟨[], [(9, .ptr 9 []), (11, .at 46 []), (12, .val (.int .i64)), (13, .at 1000912 []), (15, .val (.int .i64)), (16, .val .bool), (17, .val (.int .i64)), (70, .val .bool), (71, .at 1000912 []), (72, .val (.int .i64)), (73, .val .bool), (74, .val .bool), (90, .at 1000912 []), (92, .val (.int .i64)), (93, .val .bool), (96, .at 1000912 []), (98, .val (.int .i64)), (99, .ptr 9 [.snd, .fst]), (100, .at 9 [.snd, .fst]), (101, .val (.int .i64)), (102, .val .bool), (105, .ptr 9 [.snd, .fst]), (106, .at 9 [.snd, .fst]), (107, .at 1000912 []), (109, .val (.int .i64)), (111, .val (.int .i64)), (112, .val .bool)], [(9, some 28, (.pair (.sl true 3 (.int .i64) none) (.pair (.sl true 3 (.int .i64) none) (.pair (.sl true 3 (.int .i64) none) (.pair (.sl true 43 (.pair (.int .i64) (.pair (.int .i64) (.pair (.int .i64) .unit))) none) (.pair (.int .i64) .unit)))))), (46, none, (.sl true 3 (.int .i64) none)), (1000912, none, (.sl true 3 (.int .i64) none))]⟩, [(.exit 4, ⟨[], [(9, .ptr 9 []), (11, .at 46 []), (12, .val (.int .i64)), (13, .at 1000912 []), (15, .val (.int .i64)), (16, .val .bool), (70, .val .bool), (71, .at 1000912 []), (72, .val (.int .i64)), (73, .val .bool), (74, .val .bool), (90, .at 1000912 []), (92, .val (.int .i64)), (93, .val .bool), (96, .at 1000912 []), (98, .val (.int .i64)), (99, .ptr 9 [.snd, .fst]), (100, .at 9 [.snd, .fst]), (101, .val (.int .i64)), (102, .val .bool), (105, .ptr 9 [.snd, .fst]), (106, .at 9 [.snd, .fst]), (107, .at 1000912 []), (109, .val (.int .i64)), (111, .val (.int .i64)), (112, .val .bool)], [(9, some 28, (.pair (.sl true 3 (.int .i64) none) (.pair (.sl true 3 (.int .i64) none) (.pair (.sl true 3 (.int .i64) none) (.pair (.sl true 43 (.pair (.int .i64) (.pair (.int .i64) (.pair (.int .i64) .unit))) none) (.pair (.int .i64) .unit)))))), (46, none, (.sl true 3 (.int .i64) none)), (1000912, none, (.sl true 3 (.int .i64) none))]⟩)], fun v => F4_0 k k v.1.1 v.1.2.1 v.1.2.2.1 v.1.2.2.2.1 v.1.2.2.2.2.1 v.1.2.2.2.2.2.1 v.1.2.2.2.2.2.2.1 v.1.2.2.2.2.2.2.2.1 v.1.2.2.2.2.2.2.2.2.1 v.1.2.2.2.2.2.2.2.2.2.1 v.1.2.2.2.2.2.2.2.2.2.2.1 v.1.2.2.2.2.2.2.2.2.2.2.2.1 v.1.2.2.2.2.2.2.2.2.2.2.2.2.1 v.1.2.2.2.2.2.2.2.2.2.2.2.2.2.1 v.1.2.2.2.2.2.2.2.2.2.2.2.2.2.2.1 v.1.2.2.2.2.2.2.2.2.2.2.2.2.2.2.2.1 v.2.1 v.2.2.1 v.2.2.2.1⟩
def F4_1 (k : Nat) : Nat → Int → Int → Bool → Int → Bool → Bool → Int → Bool → Int → Int → Bool → Int → Int → Bool → ((List Int) × ((List Int) × ((List Int) × ((List (Int × (Int × (Int × Unit)))) × (Int × Unit))))) → (List Int) → (List Int) → Option (((Int × Bool × Int × Bool × Bool × Int × Bool × Int × Int × Bool × Int × Int × Bool × Unit) × (((List Int) × ((List Int) × ((List Int) × ((List (Int × (Int × (Int × Unit)))) × (Int × Unit))))) × (List Int) × (List Int) × Unit)) ⊕ ((Bool × Unit) × Unit))
  | 0, _, _, _, _, _, _, _, _, _, _, _, _, _, _, _, _, _ => none
  | n + 1, t12, t15, t70, t72, t73, t74, t92, t93, t98, t101, t102, t109, t111, t112, c9, c46, c1000912 =>
    let x50 := (decide (t15 < ((List.length c1000912 : Nat) : Int)))
    bif x50 then
      (F4_0 k k t12 t15 false (0 : Int) t70 t72 t73 t74 t92 t93 t98 t101 t102 t109 t111 t112 c9 c46 c1000912).bind fun r51 =>
      let y52 := r51.1.1
      let y53 := r51.1.2.1
      let y54 := r51.1.2.2.1
      let y55 := r51.1.2.2.2.1
      let y56 := r51.1.2.2.2.2.1
      let y57 := r51.1.2.2.2.2.2.1
      let y58 := r51.1.2.2.2.2.2.2.1
      let y59 := r51.1.2.2.2.2.2.2.2.1
      let y60 := r51.1.2.2.2.2.2.2.2.2.1
      let y61 := r51.1.2.2.2.2.2.2.2.2.2.1
      let y62 := r51.1.2.2.2.2.2.2.2.2.2.2.1
      let y63 := r51.1.2.2.2.2.2.2.2.2.2.2.2.1
      let y64 := r51.1.2.2.2.2.2.2.2.2.2.2.2.2.1
      let y65 := r51.1.2.2.2.2.2.2.2.2.2.2.2.2.2.1
      let y66 := r51.1.2.2.2.2.2.2.2.2.2.2.2.2.2.2.1
      let y67 := r51.2.1
      let y68 := r51.2.2.1
      let y69 := r51.2.2.2.1
      bif (!y54) then
        some (.inr ((false, ()), ()))
      else
        (F4_1 k n y52 (IntKind.wrap .i64 (y53 + (1 : Int))) y55 y56 y57 y58 y59 y60 y61 y62 y63 y64 y65 y66 y67 y68 y69).bind some
    else
      some (.inl ((t12, t70, t72, t73, t74, t92, t93, t98, t101, t102, t109, t111, t112, ()), (c9, c46, c1000912, ())))
def fr4_1 (k : Nat) : Frag := ⟨⟨[], [(9, .ptr 9 []), (11, .at 46 []), (12, .val (.int .i64)), (13, .at 1000912 []), (15, .val (.int .i64)), (70, .val .bool), (71, .at 1000912 []), (72, .val (.int .i64)), (73, .val .bool), (74, .val .bool), (90, .at 1000912 []), (92, .val (.int .i64)), (93, .val .bool), (96, .at 1000912 []), (98, .val (.int .i64)), (99, .ptr 9 [.snd, .fst]), (100, .at 9 [.snd, .fst]), (101, .val (.int .i64)), (102, .val .bool), (105, .ptr 9 [.snd, .fst]), (106, .at 9 [.snd, .fst]), (107, .at 1000912 []), (109, .val (.int .i64)), (111, .val (.int .i64)), (112, .val .bool)], [(9, some 28, (.pair (.sl true 3 (.int .i64) none) (.pair (.sl true 3 (.int .i64) none) (.pair (.sl true 3 (.int .i64) none) (.pair (.sl true 43 (.pair (.int .i64) (.pair (.int .i64) (.pair (.int .i64) .unit))) none) (.pair (.int .i64) .unit)))))), (46, none, (.sl true 3 (.int .i64) none)), (1000912, none, (.sl true 3 (.int .i64) none))]⟩, [(.exit 2, ⟨[], [(9, .ptr 9 []), (11, .at 46 []), (12, .val (.int .i64)), (70, .val .bool), (71, .at 1000912 []), (72, .val (.int .i64)), (73, .val .bool), (74, .val .bool), (90, .at 1000912 []), (92, .val (.int .i64)), (93, .val .bool), (96, .at 1000912 []), (98, .val (.int .i64)), (99, .ptr 9 [.snd, .fst]), (100, .at 9 [.snd, .fst]), (101, .val (.int .i64)), (102, .val .bool), (105, .ptr 9 [.snd, .fst]), (106, .at 9 [.snd, .fst]), (107, .at 1000912 []), (109, .val (.int .i64)), (111, .val (.int .i64)), (112, .val .bool)], [(9, some 28, (.pair (.sl true 3 (.int .i64) none) (.pair (.sl true 3 (.int .i64) none) (.pair (.sl true 3 (.int .i64) none) (.pair (.sl true 43 (.pair (.int .i64) (.pair (.int .i64) (.pair (.int .i64) .unit))) none) (.pair (.int .i64) .unit)))))), (46, none, (.sl true 3 (.int .i64) none)), (1000912, none, (.sl true 3 (.int .i64) none))]⟩), (.ret, ⟨[], [(8, .val .bool)], []⟩)], fun v => F4_1 k k v.1.1 v.1.2.1 v.1.2.2.1 v.1.2.2.2.1 v.1.2.2.2.2.1 v.1.2.2.2.2.2.1 v.1.2.2.2.2.2.2.1 v.1.2.2.2.2.2.2.2.1 v.1.2.2.2.2.2.2.2.2.1 v.1.2.2.2.2.2.2.2.2.2.1 v.1.2.2.2.2.2.2.2.2.2.2.1 v.1.2.2.2.2.2.2.2.2.2.2.2.1 v.1.2.2.2.2.2.2.2.2.2.2.2.2.1 v.1.2.2.2.2.2.2.2.2.2.2.2.2.2.1 v.2.1 v.2.2.1 v.2.2.2.1⟩
def F4_2 (k : Nat) : Nat → Int → ((List Int) × ((List Int) × ((List Int) × ((List (Int × (Int × (Int × Unit)))) × (Int × Unit))))) → (List Int) → Option ((Unit × Unit) ⊕ ((Bool × Unit) × Unit))
  | 0, _, _, _ => none
  | n + 1, t12, c9, c46 =>
    bif (decide (t12 < (2 : Int))) then
      if 0 ≤ t12 ∧ t12 < ((List.length c46 : Nat) : Int) then
        (F19 k c9 (List.getD c46 (Int.toNat t12) (0 : Int))).bind fun r89 =>
        if 0 ≤ t12 ∧ t12 < ((List.length c46 : Nat) : Int) then
          (F20 k c9 (List.getD c46 (Int.toNat t12) (0 : Int))).bind fun r90 =>
          let x91 := (((List.length r89.1.1 : Nat) : Int) != r90.1.1)
          bif x91 then
            some (.inr ((false, ()), ()))
          else
            let x92 := (decide (((List.length r89.1.1 : Nat) : Int) > (0 : Int)))
            bif (!(r89.1.2.1 == x92)) then
              some (.inr ((false, ()), ()))
            else
              bif (!r89.1.2.1) then
                (F4_2 k n (IntKind.wrap .i64 (t12 + (1 : Int))) c9 c46).bind some
              else
                let x93 := (IntKind.wrap .i64 (((List.length r89.1.1 : Nat) : Int) - (1 : Int)))
                if 0 ≤ x93 ∧ x93 < ((List.length r89.1.1 : Nat) : Int) then
                  let x94 := (List.getD r89.1.1 (Int.toNat x93) (0 : Int))
                  if 0 ≤ t12 ∧ t12 < ((List.length c46 : Nat) : Int) then
                    let x95 := (x94 != (List.getD c46 (Int.toNat t12) (0 : Int)))
                    bif x95 then
                      some (.inr ((false, ()), ()))
                    else
                      if 0 ≤ (0 : Int) ∧ (0 : Int) < ((List.length r89.1.1 : Nat) : Int) then
                        let x96 := (List.getD r89.1.1 (Int.toNat (0 : Int)) (0 : Int))
                        bif (decide (x96 < (0 : Int))) then
                          some (.inr ((false, ()), ()))
                        else
                          if 0 ≤ (0 : Int) ∧ (0 : Int) < ((List.length r89.1.1 : Nat) : Int) then
                            let x97 := (List.getD r89.1.1 (Int.toNat (0 : Int)) (0 : Int))
                            let x98 := (decide (x97 ≥ ((List.length c9.2.1 : Nat) : Int)))
                            bif x98 then
                              some (.inr ((false, ()), ()))
                            else
                              if 0 ≤ (0 : Int) ∧ (0 : Int) < ((List.length r89.1.1 : Nat) : Int) then
                                let x99 := (List.getD r89.1.1 (Int.toNat (0 : Int)) (0 : Int))
                                if 0 ≤ x99 ∧ x99 < ((List.length c9.2.1 : Nat) : Int) then
                                  let x100 := (decide ((List.getD c9.2.1 (Int.toNat x99) (0 : Int)) ≥ (1152921504606846976 : Int)))
                                  bif x100 then
                                    some (.inr ((false, ()), ()))
                                  else
                                    (F4_1 k k t12 (1 : Int) r89.1.2.1 ((List.length r89.1.1 : Nat) : Int) x92 (!(r89.1.2.1 == x92)) x96 (decide (x96 < (0 : Int))) x97 ((List.length c9.2.1 : Nat) : Int) x98 x99 (List.getD c9.2.1 (Int.toNat x99) (0 : Int)) x100 c9 c46 r89.1.1).bind fun r101 =>
                                    match r101 with
                                    | .inl r102 =>
                                      let y103 := r102.1.1
                                      let y116 := r102.2.1
                                      let y117 := r102.2.2.1
                                      (F4_2 k n (IntKind.wrap .i64 (y103 + (1 : Int))) y116 y117).bind some
                                    | .inr r102 =>
                                      let y119 := r102.1.1
                                      some (.inr ((y119, ()), ()))
                                else none
                              else none
                          else none
                      else none
                  else none
                else none
        else none
      else none
    else
      some (.inl ((), ()))
def fr4_2 (k : Nat) : Frag := ⟨⟨[], [(9, .ptr 9 []), (11, .at 46 []), (12, .val (.int .i64))], [(9, some 28, (.pair (.sl true 3 (.int .i64) none) (.pair (.sl true 3 (.int .i64) none) (.pair (.sl true 3 (.int .i64) none) (.pair (.sl true 43 (.pair (.int .i64) (.pair (.int .i64) (.pair (.int .i64) .unit))) none) (.pair (.int .i64) .unit)))))), (46, none, (.sl true 3 (.int .i64) none))]⟩, [(.exit 0, ⟨[], [], []⟩), (.ret, ⟨[], [(8, .val .bool)], []⟩)], fun v => F4_2 k k v.1.1 v.2.1 v.2.2.1⟩
def F4 (k : Nat) (a0 : (List (Tree (Int × (Int × Unit))))) (a1 : (List Int)) (a2 : Int) (a3 : Int) : Option ((Bool × Unit) × Unit) :=
  (F11 k).bind fun r1 =>
  bif (!r1.1.1) then
    some ((false, ()), ())
  else
    (F12 k a0).bind fun r2 =>
    bif (!r2.1.1) then
      some ((true, ()), ())
    else
      let x3 := (((List.length a0 : Nat) : Int) == (0 : Int))
      bif x3 then
        some ((true, ()), ())
      else
        if 0 ≤ (0 : Int) ∧ (0 : Int) < ((List.length a0 : Nat) : Int) then
          let x4 := (List.getD a0 (Int.toNat (0 : Int)) (Tree.mk ((0 : Int), ((0 : Int), ())) []))
          (F13 k x4 a1).bind fun r5 =>
          bif (!r5.1.2.1) then
            some ((true, ()), ())
          else
            let x6 := (IntKind.wrap .i64 (((List.length r5.1.1.1 : Nat) : Int) + (3 : Int)))
            (F18 k a2 x6).bind fun r7 =>
            let x8 := (List.set (List.set (List.replicate 2 (0 : Int)) 0 (IntKind.wrap .i64 (r7.1.1 - (1 : Int)))) 1 a3)
            (F4_2 k k (0 : Int) r5.1.1 x8).bind fun r120 =>
            match r120 with
            | .inl r121 =>
              some ((true, ()), ())
            | .inr r121 =>
              let y122 := r121.1.1
              some ((y122, ()), ())
        else none
def sp4 (k : Nat) : Spec := ⟨[.val (.tl 32 (.pair (.int .i64) (.pair (.int .i64) .unit))), .val (.sl false 3 (.int .i64) none), .val (.int .i64), .val (.int .i64)], [.val .bool], fun x => F4 k x.1 x.2.1 x.2.2.1 x.2.2.2.1⟩
def lim4 : Lim := ⟨157, 4, false, false, []⟩
def cfg4 (k : Nat) : Nat → Option Spec := cfgL [(11, sp11 k), (12, sp12 k), (13, sp13 k), (18, sp18 k), (19, sp19 k), (20, sp20 k)]
theorem cfg4_ok (k : Nat) : CfgOK Try.prog (cfg4 k) := cfgL_cons (v11 k) (cfgL_cons (v12 k) (cfgL_cons (v13 k) (cfgL_cons (v18 k) (cfgL_cons (v19 k) (cfgL_cons (v20 k) (cfgL_nil))))))
def pl4_0 (k : Nat) : Plan := .go
theorem pq4_0 (k : Nat) : PlanOK Try.prog lim4 (pl4_0 k) (codeAt (bodyOf Try.f4) [.r, .r, .r, .r, .r, .r, .l, .r, .s, .b, .r, .l, .s, .r, .r, .r, .r, .r, .s, .b, .r, .l, .s, .r, .l, .r, .s, .b]) = PlanOK Try.prog lim4 .go (codeAt (bodyOf Try.f4) [.r, .r, .r, .r, .r, .r, .l, .r, .s, .b, .r, .l, .s, .r, .r, .r, .r, .r, .s, .b, .r, .l, .s, .r, .l, .r, .s, .b]) := by kernel_rfl
theorem ps4_0 (k m : Nat) (v : (fr4_0 k).sh.V) : F4_0 k (m + 1) v.1.1 v.1.2.1 v.1.2.2.1 v.1.2.2.2.1 v.1.2.2.2.2.1 v.1.2.2.2.2.2.1 v.1.2.2.2.2.2.2.1 v.1.2.2.2.2.2.2.2.1 v.1.2.2.2.2.2.2.2.2.1 v.1.2.2.2.2.2.2.2.2.2.1 v.1.2.2.2.2.2.2.2.2.2.2.1 v.1.2.2.2.2.2.2.2.2.2.2.2.1 v.1.2.2.2.2.2.2.2.2.2.2.2.2.1 v.1.2.2.2.2.2.2.2.2.2.2.2.2.2.1 v.1.2.2.2.2.2.2.2.2.2.2.2.2.2.2.1 v.1.2.2.2.2.2.2.2.2.2.2.2.2.2.2.2.1 v.2.1 v.2.2.1 v.2.2.2.1 = (body Try.prog (stepper Try.prog (cfg4 k) lim4) (pl4_0 k) (codeAt (bodyOf Try.f4) [.r, .r, .r, .r, .r, .r, .l, .r, .s, .b, .r, .l, .s, .r, .r, .r, .r, .r, .s, .b, .r, .l, .s, .r, .l, .r, .s, .b]) ((fr4_0 k).sh.st v) (loopK (fr4_0 k) fun v => F4_0 k m v.1.1 v.1.2.1 v.1.2.2.1 v.1.2.2.2.1 v.1.2.2.2.2.1 v.1.2.2.2.2.2.1 v.1.2.2.2.2.2.2.1 v.1.2.2.2.2.2.2.2.1 v.1.2.2.2.2.2.2.2.2.1 v.1.2.2.2.2.2.2.2.2.2.1 v.1.2.2.2.2.2.2.2.2.2.2.1 v.1.2.2.2.2.2.2.2.2.2.2.2.1 v.1.2.2.2.2.2.2.2.2.2.2.2.2.1 v.1.2.2.2.2.2.2.2.2.2.2.2.2.2.1 v.1.2.2.2.2.2.2.2.2.2.2.2.2.2.2.1 v.1.2.2.2.2.2.2.2.2.2.2.2.2.2.2.2.1 v.2.1 v.2.2.1 v.2.2.2.1)).eval := by kernel_rfl
theorem pe4_0 (k m : Nat) (v : (fr4_0 k).sh.V) : (body Try.prog (stepper Try.prog (cfg4 k) lim4) (pl4_0 k) (codeAt (bodyOf Try.f4) [.r, .r, .r, .r, .r, .r, .l, .r, .s, .b, .r, .l, .s, .r, .r, .r, .r, .r, .s, .b, .r, .l, .s, .r, .l, .r, .s, .b]) ((fr4_0 k).sh.st v) (loopK (fr4_0 k) fun v => F4_0 k m v.1.1 v.1.2.1 v.1.2.2.1 v.1.2.2.2.1 v.1.2.2.2.2.1 v.1.2.2.2.2.2.1 v.1.2.2.2.2.2.2.1 v.1.2.2.2.2.2.2.2.1 v.1.2.2.2.2.2.2.2.2.1 v.1.2.2.2.2.2.2.2.2.2.1 v.1.2.2.2.2.2.2.2.2.2.2.1 v.1.2.2.2.2.2.2.2.2.2.2.2.1 v.1.2.2.2.2.2.2.2.2.2.2.2.2.1 v.1.2.2.2.2.2.2.2.2.2.2.2.2.2.1 v.1.2.2.2.2.2.2.2.2.2.2.2.2.2.2.1 v.1.2.2.2.2.2.2.2.2.2.2.2.2.2.2.2.1 v.2.1 v.2.2.1 v.2.2.2.1)).left = (body Try.prog (stepper Try.prog (cfg4 k) lim4) (pl4_0 k) (codeAt (bodyOf Try.f4) [.r, .r, .r, .r, .r, .r, .l, .r, .s, .b, .r, .l, .s, .r, .r, .r, .r, .r, .s, .b, .r, .l, .s, .r, .l, .r, .s, .b]) ((fr4_0 k).sh.st v) (loopK (fr4_0 k) fun v => F4_0 k m v.1.1 v.1.2.1 v.1.2.2.1 v.1.2.2.2.1 v.1.2.2.2.2.1 v.1.2.2.2.2.2.1 v.1.2.2.2.2.2.2.1 v.1.2.2.2.2.2.2.2.1 v.1.2.2.2.2.2.2.2.2.1 v.1.2.2.2.2.2.2.2.2.2.1 v.1.2.2.2.2.2.2.2.2.2.2.1 v.1.2.2.2.2.2.2.2.2.2.2.2.1 v.1.2.2.2.2.2.2.2.2.2.2.2.2.1 v.1.2.2.2.2.2.2.2.2.2.2.2.2.2.1 v.1.2.2.2.2.2.2.2.2.2.2.2.2.2.2.1 v.1.2.2.2.2.2.2.2.2.2.2.2.2.2.2.2.1 v.2.1 v.2.2.1 v.2.2.2.1)).right := by kernel_rfl
theorem fr4_0_ok (k : Nat) : FragOK Try.prog lim4 (fr4_0 k) (codeAt (bodyOf Try.f4) [.r, .r, .r, .r, .r, .r, .l, .r, .s, .b, .r, .l, .s, .r, .r, .r, .r, .r, .s, .b, .r, .l, .s, .r, .l, .r, .s]) :=
  frag_cast (by kernel_rfl) (loop_ok (cfg4_ok k) (Eq.mpr (pq4_0 k) (planOK_go _)) (fun m v => F4_0 k m v.1.1 v.1.2.1 v.1.2.2.1 v.1.2.2.2.1 v.1.2.2.2.2.1 v.1.2.2.2.2.2.1 v.1.2.2.2.2.2.2.1 v.1.2.2.2.2.2.2.2.1 v.1.2.2.2.2.2.2.2.2.1 v.1.2.2.2.2.2.2.2.2.2.1 v.1.2.2.2.2.2.2.2.2.2.2.1 v.1.2.2.2.2.2.2.2.2.2.2.2.1 v.1.2.2.2.2.2.2.2.2.2.2.2.2.1 v.1.2.2.2.2.2.2.2.2.2.2.2.2.2.1 v.1.2.2.2.2.2.2.2.2.2.2.2.2.2.2.1 v.1.2.2.2.2.2.2.2.2.2.2.2.2.2.2.2.1 v.2.1 v.2.2.1 v.2.2.2.1) k (fun _ => rfl) (fun _ => rfl) fun m v => ⟨ps4_0 k m v, pe4_0 k m v⟩)
def pl4_1 (k : Nat) : Plan := (.seq .go (.seq (.sub (.seq .go (.seq (.seq .go (.sub (.frag (fr4_0 k)))) .go))) .go))
theorem pq4_1 (k : Nat) : PlanOK Try.prog lim4 (pl4_1 k) (codeAt (bodyOf Try.f4) [.r, .r, .r, .r, .r, .r, .l, .r, .s, .b, .r, .l, .s, .r, .r, .r, .r, .r, .s, .b]) = (PlanOK Try.prog lim4 .go (codeAt (bodyOf Try.f4) [.r, .r, .r, .r, .r, .r, .l, .r, .s, .b, .r, .l, .s, .r, .r, .r, .r, .r, .s, .b, .l]) ∧ ((PlanOK Try.prog lim4 .go (codeAt (bodyOf Try.f4) [.r, .r, .r, .r, .r, .r, .l, .r, .s, .b, .r, .l, .s, .r, .r, .r, .r, .r, .s, .b, .r, .l, .s, .l]) ∧ ((PlanOK Try.prog lim4 .go (codeAt (bodyOf Try.f4) [.r, .r, .r, .r, .r, .r, .l, .r, .s, .b, .r, .l, .s, .r, .r, .r, .r, .r, .s, .b, .r, .l, .s, .r, .l, .l]) ∧ FragOK Try.prog lim4 (fr4_0 k) (codeAt (bodyOf Try.f4) [.r, .r, .r, .r, .r, .r, .l, .r, .s, .b, .r, .l, .s, .r, .r, .r, .r, .r, .s, .b, .r, .l, .s, .r, .l, .r, .s])) ∧ PlanOK Try.prog lim4 .go (codeAt (bodyOf Try.f4) [.r, .r, .r, .r, .r, .r, .l, .r, .s, .b, .r, .l, .s, .r, .r, .r, .r, .r, .s, .b, .r, .l, .s, .r, .r]))) ∧ PlanOK Try.prog lim4 .go (codeAt (bodyOf Try.f4) [.r, .r, .r, .r, .r, .r, .l, .r, .s, .b, .r, .l, .s, .r, .r, .r, .r, .r, .s, .b, .r, .r]))) := by kernel_rfl
theorem ps4_1 (k m : Nat) (v : (fr4_1 k).sh.V) : F4_1 k (m + 1) v.1.1 v.1.2.1 v.1.2.2.1 v.1.2.2.2.1 v.1.2.2.2.2.1 v.1.2.2.2.2.2.1 v.1.2.2.2.2.2.2.1 v.1.2.2.2.2.2.2.2.1 v.1.2.2.2.2.2.2.2.2.1 v.1.2.2.2.2.2.2.2.2.2.1 v.1.2.2.2.2.2.2.2.2.2.2.1 v.1.2.2.2.2.2.2.2.2.2.2.2.1 v.1.2.2.2.2.2.2.2.2.2.2.2.2.1 v.1.2.2.2.2.2.2.2.2.2.2.2.2.2.1 v.2.1 v.2.2.1 v.2.2.2.1 = (body Try.prog (stepper Try.prog (cfg4 k) lim4) (pl4_1 k) (codeAt (bodyOf Try.f4) [.r, .r, .r, .r, .r, .r, .l, .r, .s, .b, .r, .l, .s, .r, .r, .r, .r, .r, .s, .b]) ((fr4_1 k).sh.st v) (loopK (fr4_1 k) fun v => F4_1 k m v.1.1 v.1.2.1 v.1.2.2.1 v.1.2.2.2.1 v.1.2.2.2.2.1 v.1.2.2.2.2.2.1 v.1.2.2.2.2.2.2.1 v.1.2.2.2.2.2.2.2.1 v.1.2.2.2.2.2.2.2.2.1 v.1.2.2.2.2.2.2.2.2.2.1 v.1.2.2.2.2.2.2.2.2.2.2.1 v.1.2.2.2.2.2.2.2.2.2.2.2.1 v.1.2.2.2.2.2.2.2.2.2.2.2.2.1 v.1.2.2.2.2.2.2.2.2.2.2.2.2.2.1 v.2.1 v.2.2.1 v.2.2.2.1)).eval := by kernel_rfl
theorem pe4_1 (k m : Nat) (v : (fr4_1 k).sh.V) : (body Try.prog (stepper Try.prog (cfg4 k) lim4) (pl4_1 k) (codeAt (bodyOf Try.f4) [.r, .r, .r, .r, .r, .r, .l, .r, .s, .b, .r, .l, .s, .r, .r, .r, .r, .r, .s, .b]) ((fr4_1 k).sh.st v) (loopK (fr4_1 k) fun v => F4_1 k m v.1.1 v.1.2.1 v.1.2.2.1 v.1.2.2.2.1 v.1.2.2.2.2.1 v.1.2.2.2.2.2.1 v.1.2.2.2.2.2.2.1 v.1.2.2.2.2.2.2.2.1 v.1.2.2.2.2.2.2.2.2.1 v.1.2.2.2.2.2.2.2.2.2.1 v.1.2.2.2.2.2.2.2.2.2.2.1 v.1.2.2.2.2.2.2.2.2.2.2.2.1 v.1.2.2.2.2.2.2.2.2.2.2.2.2.1 v.1.2.2.2.2.2.2.2.2.2.2.2.2.2.1 v.2.1 v.2.2.1 v.2.2.2.1)).left = (body Try.prog (stepper Try.prog (cfg4 k) lim4) (pl4_1 k) (codeAt (bodyOf Try.f4) [.r, .r, .r, .r, .r, .r, .l, .r, .s, .b, .r, .l, .s, .r, .r, .r, .r, .r, .s, .b]) ((fr4_1 k).sh.st v) (loopK (fr4_1 k) fun v => F4_1 k m v.1.1 v.1.2.1 v.1.2.2.1 v.1.2.2.2.1 v.1.2.2.2.2.1 v.1.2.2.2.2.2.1 v.1.2.2.2.2.2.2.1 v.1.2.2.2.2.2.2.2.1 v.1.2.2.2.2.2.2.2.2.1 v.1.2.2.2.2.2.2.2.2.2.1 v.1.2.2.2.2.2.2.2.2.2.2.1 v.1.2.2.2.2.2.2.2.2.2.2.2.1 v.1.2.2.2.2.2.2.2.2.2.2.2.2.1 v.1.2.2.2.2.2.2.2.2.2.2.2.2.2.1 v.2.1 v.2.2.1 v.2.2.2.1)).right := by kernel_rfl
theorem fr4_1_ok (k : Nat) : FragOK Try.prog lim4 (fr4_1 k) (codeAt (bodyOf Try.f4) [.r, .r, .r, .r, .r, .r, .l, .r, .s, .b, .r, .l, .s, .r, .r, .r, .r, .r, .s]) :=
  frag_cast (by kernel_rfl) (loop_ok (cfg4_ok k) (Eq.mpr (pq4_1 k) ⟨(planOK_go _), ⟨⟨(planOK_go _), ⟨⟨(planOK_go _), (fr4_0_ok k)⟩, (planOK_go _)⟩⟩, (planOK_go _)⟩⟩) (fun m v => F4_1 k m v.1.1 v.1.2.1 v.1.2.2.1 v.1.2.2.2.1 v.1.2.2.2.2.1 v.1.2.2.2.2.2.1 v.1.2.2.2.2.2.2.1 v.1.2.2.2.2.2.2.2.1 v.1.2.2.2.2.2.2.2.2.1 v.1.2.2.2.2.2.2.2.2.2.1 v.1.2.2.2.2.2.2.2.2.2.2.1 v.1.2.2.2.2.2.2.2.2.2.2.2.1 v.1.2.2.2.2.2.2.2.2.2.2.2.2.1 v.1.2.2.2.2.2.2.2.2.2.2.2.2.2.1 v.2.1 v.2.2.1 v.2.2.2.1) k (fun _ => rfl) (fun _ => rfl) fun m v => ⟨ps4_1 k m v, pe4_1 k m v⟩)
def pl4_2 (k : Nat) : Plan := (.seq .go (.seq (.sub (.seq .go (.seq .go (.seq .go (.seq .go (.seq .go (.sub (.frag (fr4_1 k))))))))) .go))
theorem pq4_2 (k : Nat) : PlanOK Try.prog lim4 (pl4_2 k) (codeAt (bodyOf Try.f4) [.r, .r, .r, .r, .r, .r, .l, .r, .s, .b]) = (PlanOK Try.prog lim4 .go (codeAt (bodyOf Try.f4) [.r, .r, .r, .r, .r, .r, .l, .r, .s, .b, .l]) ∧ ((PlanOK Try.prog lim4 .go (codeAt (bodyOf Try.f4) [.r, .r, .r, .r, .r, .r, .l, .r, .s, .b, .r, .l, .s, .l]) ∧ (PlanOK Try.prog lim4 .go (codeAt (bodyOf Try.f4) [.r, .r, .r, .r, .r, .r, .l, .r, .s, .b, .r, .l, .s, .r, .l]) ∧ (PlanOK Try.prog lim4 .go (codeAt (bodyOf Try.f4) [.r, .r, .r, .r, .r, .r, .l, .r, .s, .b, .r, .l, .s, .r, .r, .l]) ∧ (PlanOK Try.prog lim4 .go (codeAt (bodyOf Try.f4) [.r, .r, .r, .r, .r, .r, .l, .r, .s, .b, .r, .l, .s, .r, .r, .r, .l]) ∧ (PlanOK Try.prog lim4 .go (codeAt (bodyOf Try.f4) [.r, .r, .r, .r, .r, .r, .l, .r, .s, .b, .r, .l, .s, .r, .r, .r, .r, .l]) ∧ FragOK Try.prog lim4 (fr4_1 k) (codeAt (bodyOf Try.f4) [.r, .r, .r, .r, .r, .r, .l, .r, .s, .b, .r, .l, .s, .r, .r, .r, .r, .r, .s])))))) ∧ PlanOK Try.prog lim4 .go (codeAt (bodyOf Try.f4) [.r, .r, .r, .r, .r, .r, .l, .r, .s, .b, .r, .r]))) := by kernel_rfl
theorem ps4_2 (k m : Nat) (v : (fr4_2 k).sh.V) : F4_2 k (m + 1) v.1.1 v.2.1 v.2.2.1 = (body Try.prog (stepper Try.prog (cfg4 k) lim4) (pl4_2 k) (codeAt (bodyOf Try.f4) [.r, .r, .r, .r, .r, .r, .l, .r, .s, .b]) ((fr4_2 k).sh.st v) (loopK (fr4_2 k) fun v => F4_2 k m v.1.1 v.2.1 v.2.2.1)).eval := by kernel_rfl
theorem pe4_2 (k m : Nat) (v : (fr4_2 k).sh.V) : (body Try.prog (stepper Try.prog (cfg4 k) lim4) (pl4_2 k) (codeAt (bodyOf Try.f4) [.r, .r, .r, .r, .r, .r, .l, .r, .s, .b]) ((fr4_2 k).sh.st v) (loopK (fr4_2 k) fun v => F4_2 k m v.1.1 v.2.1 v.2.2.1)).left = (body Try.prog (stepper Try.prog (cfg4 k) lim4) (pl4_2 k) (codeAt (bodyOf Try.f4) [.r, .r, .r, .r, .r, .r, .l, .r, .s, .b]) ((fr4_2 k).sh.st v) (loopK (fr4_2 k) fun v => F4_2 k m v.1.1 v.2.1 v.2.2.1)).right := by kernel_rfl
theorem fr4_2_ok (k : Nat) : FragOK Try.prog lim4 (fr4_2 k) (codeAt (bodyOf Try.f4) [.r, .r, .r, .r, .r, .r, .l, .r, .s]) :=
  frag_cast (by kernel_rfl) (loop_ok (cfg4_ok k) (Eq.mpr (pq4_2 k) ⟨(planOK_go _), ⟨⟨(planOK_go _), ⟨(planOK_go _), ⟨(planOK_go _), ⟨(planOK_go _), ⟨(planOK_go _), (fr4_1_ok k)⟩⟩⟩⟩⟩, (planOK_go _)⟩⟩) (fun m v => F4_2 k m v.1.1 v.2.1 v.2.2.1) k (fun _ => rfl) (fun _ => rfl) fun m v => ⟨ps4_2 k m v, pe4_2 k m v⟩)
def pl4 (k : Nat) : Plan := (.seq .go (.seq .go (.seq .go (.seq .go (.seq .go (.seq .go (.seq (.seq .go (.sub (.frag (fr4_2 k)))) .go)))))))
theorem pq4 (k : Nat) : PlanOK Try.prog lim4 (pl4 k) (codeAt (bodyOf Try.f4) []) = (PlanOK Try.prog lim4 .go (codeAt (bodyOf Try.f4) [.l]) ∧ (PlanOK Try.prog lim4 .go (codeAt (bodyOf Try.f4) [.r, .l]) ∧ (PlanOK Try.prog lim4 .go (codeAt (bodyOf Try.f4) [.r, .r, .l]) ∧ (PlanOK Try.prog lim4 .go (codeAt (bodyOf Try.f4) [.r, .r, .r, .l]) ∧ (PlanOK Try.prog lim4 .go (codeAt (bodyOf Try.f4) [.r, .r, .r, .r, .l]) ∧ (PlanOK Try.prog lim4 .go (codeAt (bodyOf Try.f4) [.r, .r, .r, .r, .r, .l]) ∧ ((PlanOK Try.prog lim4 .go (codeAt (bodyOf Try.f4) [.r, .r, .r, .r, .r, .r, .l, .l]) ∧ FragOK Try.prog lim4 (fr4_2 k) (codeAt (bodyOf Try.f4) [.r, .r, .r, .r, .r, .r, .l, .r, .s])) ∧ PlanOK Try.prog lim4 .go (codeAt (bodyOf Try.f4) [.r, .r, .r, .r, .r, .r, .r])))))))) := by kernel_rfl
theorem ev4 (k : Nat) (x : AT (sp4 k).ps) : (sp4 k).impl x = (fnT Try.prog (cfg4 k) lim4 Try.f4 (bodyOf Try.f4) (pl4 k) (sp4 k) x).eval := by kernel_rfl
theorem eq4 (k : Nat) (x : AT (sp4 k).ps) : (fnT Try.prog (cfg4 k) lim4 Try.f4 (bodyOf Try.f4) (pl4 k) (sp4 k) x).left = (fnT Try.prog (cfg4 k) lim4 Try.f4 (bodyOf Try.f4) (pl4 k) (sp4 k) x).right := by kernel_rfl
theorem v4 (k : Nat) : Callable Try.prog 4 ∧ Valid Try.prog 4 (sp4 k) :=
  fn_ok (cfg4_ok k) (f := 4) (fn := Try.f4) (by kernel_rfl) (c := bodyOf Try.f4) (by kernel_rfl) (by kernel_rfl) rfl rfl (Nat.le_of_ble_eq_true rfl) (Nat.le_of_ble_eq_true rfl) (p := pl4 k) (Eq.mpr (pq4 k) ⟨(planOK_go _), ⟨(planOK_go _), ⟨(planOK_go _), ⟨(planOK_go _), ⟨(planOK_go _), ⟨(planOK_go _), ⟨⟨(planOK_go _), (fr4_2_ok k)⟩, (planOK_go _)⟩⟩⟩⟩⟩⟩⟩) fun x => ⟨ev4 k x, eq4 k x⟩
/-! f5 hyphen/hyphenlaw8.TwinChecks -/
def F5_0 (k : Nat) : Nat → (List Int) → (List Int) → Int → ((List Int) × ((List Int) × ((List Int) × ((List (Int × (Int × (Int × Unit)))) × (Int × Unit))))) → (List Int) → Option ((((List Int) × (List Int) × Unit) × (((List Int) × ((List Int) × ((List Int) × ((List (Int × (Int × (Int × Unit)))) × (Int × Unit))))) × (List Int) × Unit)))
  | 0, _, _, _, _, _ => none
  | n + 1, t2, t3, t12, c9, c2000011 =>
    let x8 := (decide (t12 < ((List.length t2 : Nat) : Int)))
    bif x8 then
      bif (decide (t12 < (4 : Int))) then
        if 0 ≤ t12 ∧ t12 < ((List.length t2 : Nat) : Int) then
          (F18 k (List.getD t2 (Int.toNat t12) (0 : Int)) ((List.length c9.1 : Nat) : Int)).bind fun r9 =>
          let x10 := (List.set (List.replicate 1 (0 : Int)) 0 r9.1.1)
          if (List.length c2000011 + List.length x10) * (8 * 2) ≤ 281474976710656 ∧ List.length c2000011 + List.length x10 ≤ 9223372036854775807 then
            (F5_0 k n t2 t3 (IntKind.wrap .i64 (t12 + (1 : Int))) c9 (c2000011 ++ x10)).bind some
          else none
        else none
      else
        some ((t2, t3, ()), (c9, c2000011, ()))
    else
      some ((t2, t3, ()), (c9, c2000011, ()))
def fr5_0 (k : Nat) : Frag := ⟨⟨[(11, (.sl true 3 (.int .i64) none))], [(2, .val (.sl false 3 (.int .i64) none)), (3, .val (.sl false 3 (.int .i64) none)), (9, .ptr 9 []), (11, .at 2000011 []), (12, .val (.int .i64))], [(9, some 28, (.pair (.sl true 3 (.int .i64) none) (.pair (.sl true 3 (.int .i64) none) (.pair (.sl true 3 (.int .i64) none) (.pair (.sl true 43 (.pair (.int .i64) (.pair (.int .i64) (.pair (.int .i64) .unit))) none) (.pair (.int .i64) .unit)))))), (2000011, none, (.sl true 3 (.int .i64) none))]⟩, [(.exit 0, ⟨[(11, (.sl true 3 (.int .i64) none))], [(2, .val (.sl false 3 (.int .i64) none)), (3, .val (.sl false 3 (.int .i64) none)), (9, .ptr 9 []), (11, .at 2000011 [])], [(9, some 28, (.pair (.sl true 3 (.int .i64) none) (.pair (.sl true 3 (.int .i64) none) (.pair (.sl true 3 (.int .i64) none) (.pair (.sl true 43 (.pair (.int .i64) (.pair (.int .i64) (.pair (.int .i64) .unit))) none) (.pair (.int .i64) .unit)))))), (2000011, none, (.sl true 3 (.int .i64) none))]⟩)], fun v => F5_0 k k v.1.1 v.1.2.1 v.1.2.2.1 v.2.1 v.2.2.1⟩
def F5_1 (k : Nat) : Nat → (List Int) → (List Int) → Int → Int → Int → Int → Bool → ((List Int) × ((List Int) × ((List Int) × ((List (Int × (Int × (Int × Unit)))) × (Int × Unit))))) → (List Int) → (List Int) → Option ((((List Int) × (List Int) × Int × Int × Int × Bool × Unit) × (((List Int) × ((List Int) × ((List Int) × ((List (Int × (Int × (Int × Unit)))) × (Int × Unit))))) × (List Int) × (List Int) × Unit)))
  | 0, _, _, _, _, _, _, _, _, _, _ => none
  | n + 1, t2, t3, t14, t15, t16, t80, t81, c9, c88, c2000011 =>
    let x18 := (decide (t16 < ((List.length c9.2.2.2.1 : Nat) : Int)))
    bif x18 then
      if 0 ≤ t16 ∧ t16 < ((List.length c9.2.2.2.1 : Nat) : Int) then
        let x19 := (List.getD c9.2.2.2.1 (Int.toNat t16) ((0 : Int), ((0 : Int), ((0 : Int), ())))).1
        bif (x19 == t14) then
          if 0 ≤ t15 ∧ t15 < ((List.length t2 : Nat) : Int) then
            let x20 := (IntKind.wrap .i64 ((List.getD t2 (Int.toNat t15) (0 : Int)) + t16))
            (F18 k x20 (3 : Int)).bind fun r21 =>
            bif (decide (r21.1.1 > (0 : Int))) then
              if 0 ≤ t16 ∧ t16 < ((List.length c9.2.2.2.1 : Nat) : Int) then
                let x22 := (List.getD c9.2.2.2.1 (Int.toNat t16) ((0 : Int), ((0 : Int), ((0 : Int), ())))).2.1
                (F5_1 k n t2 t3 x22 t15 (IntKind.wrap .i64 (t16 + (1 : Int))) t80 t81 c9 c88 c2000011).bind some
              else none
            else
              (F5_1 k n t2 t3 t14 t15 (IntKind.wrap .i64 (t16 + (1 : Int))) t80 t81 c9 c88 c2000011).bind some
          else none
        else
          (F5_1 k n t2 t3 t14 t15 (IntKind.wrap .i64 (t16 + (1 : Int))) t80 t81 c9 c88 c2000011).bind some
      else none
    else
      some ((t2, t3, t14, t15, t80, t81, ()), (c9, c88, c2000011, ()))
def fr5_1 (k : Nat) : Frag := ⟨⟨[], [(2, .val (.sl false 3 (.int .i64) none)), (3, .val (.sl false 3 (.int .i64) none)), (9, .ptr 9 []), (11, .at 2000011 []), (13, .at 88 []), (14, .val (.int .i64)), (15, .val (.int .i64)), (16, .val (.int .i64)), (80, .val (.int .i64)), (81, .val .bool)], [(9, some 28, (.pair (.sl true 3 (.int .i64) none) (.pair (.sl true 3 (.int .i64) none) (.pair (.sl true 3 (.int .i64) none) (.pair (.sl true 43 (.pair (.int .i64) (.pair (.int .i64) (.pair (.int .i64) .unit))) none) (.pair (.int .i64) .unit)))))), (88, none, (.sl true 3 (.int .i64) none)), (2000011, none, (.sl true 3 (.int .i64) none))]⟩, [(.exit 4, ⟨[], [(2, .val (.sl false 3 (.int .i64) none)), (3, .val (.sl false 3 (.int .i64) none)), (9, .ptr 9 []), (11, .at 2000011 []), (13, .at 88 []), (14, .val (.int .i64)), (15, .val (.int .i64)), (80, .val (.int .i64)), (81, .val .bool)], [(9, some 28, (.pair (.sl true 3 (.int .i64) none) (.pair (.sl true 3 (.int .i64) none) (.pair (.sl true 3 (.int .i64) none) (.pair (.sl true 43 (.pair (.int .i64) (.pair (.int .i64) (.pair (.int .i64) .unit))) none) (.pair (.int .i64) .unit)))))), (88, none, (.sl true 3 (.int .i64) none)), (2000011, none, (.sl true 3 (.int .i64) none))]⟩)], fun v => F5_1 k k v.1.1 v.1.2.1 v.1.2.2.1 v.1.2.2.2.1 v.1.2.2.2.2.1 v.1.2.2.2.2.2.1 v.1.2.2.2.2.2.2.1 v.2.1 v.2.2.1 v.2.2.2.1⟩
def F5_2 (k : Nat) : Nat → (List Int) → (List Int) → Int → Int → ((List Int) × ((List Int) × ((List Int) × ((List (Int × (Int × (Int × Unit)))) × (Int × Unit))))) → (List Int) → (List Int) → Option ((((List Int) × (List Int) × Unit) × (((List Int) × ((List Int) × ((List Int) × ((List (Int × (Int × (Int × Unit)))) × (Int × Unit))))) × (List Int) × (List Int) × Unit)))
  | 0, _, _, _, _, _, _, _ => none
  | n + 1, t2, t3, t14, t15, c9, c2000011, c2000013 =>
    let x16 := (decide (t15 < ((List.length t2 : Nat) : Int)))
    bif x16 then
      bif (decide (t15 < (6 : Int))) then
        let x17 := (List.set (List.replicate 1 (0 : Int)) 0 t14)
        if (List.length c2000013 + List.length x17) * (8 * 2) ≤ 281474976710656 ∧ List.length c2000013 + List.length x17 ≤ 9223372036854775807 then
          (F5_1 k k t2 t3 t14 t15 (0 : Int) t15 (decide (t15 < (6 : Int))) c9 (c2000013 ++ x17) c2000011).bind fun r23 =>
          let y24 := r23.1.1
          let y25 := r23.1.2.1
          let y26 := r23.1.2.2.1
          let y27 := r23.1.2.2.2.1
          let y30 := r23.2.1
          let y31 := r23.2.2.1
          let y32 := r23.2.2.2.1
          (F5_2 k n y24 y25 y26 (IntKind.wrap .i64 (y27 + (1 : Int))) y30 y32 y31).bind some
        else none
      else
        some ((t2, t3, ()), (c9, c2000011, c2000013, ()))
    else
      some ((t2, t3, ()), (c9, c2000011, c2000013, ()))
def fr5_2 (k : Nat) : Frag := ⟨⟨[(13, (.sl true 3 (.int .i64) none))], [(2, .val (.sl false 3 (.int .i64) none)), (3, .val (.sl false 3 (.int .i64) none)), (9, .ptr 9 []), (11, .at 2000011 []), (13, .at 2000013 []), (14, .val (.int .i64)), (15, .val (.int .i64))], [(9, some 28, (.pair (.sl true 3 (.int .i64) none) (.pair (.sl true 3 (.int .i64) none) (.pair (.sl true 3 (.int .i64) none) (.pair (.sl true 43 (.pair (.int .i64) (.pair (.int .i64) (.pair (.int .i64) .unit))) none) (.pair (.int .i64) .unit)))))), (2000011, none, (.sl true 3 (.int .i64) none)), (2000013, none, (.sl true 3 (.int .i64) none))]⟩, [(.exit 2, ⟨[(13, (.sl true 3 (.int .i64) none))], [(2, .val (.sl false 3 (.int .i64) none)), (3, .val (.sl false 3 (.int .i64) none)), (9, .ptr 9 []), (11, .at 2000011 []), (13, .at 2000013 [])], [(9, some 28, (.pair (.sl true 3 (.int .i64) none) (.pair (.sl true 3 (.int .i64) none) (.pair (.sl true 3 (.int .i64) none) (.pair (.sl true 43 (.pair (.int .i64) (.pair (.int .i64) (.pair (.int .i64) .unit))) none) (.pair (.int .i64) .unit)))))), (2000011, none, (.sl true 3 (.int .i64) none)), (2000013, none, (.sl true 3 (.int .i64) none))]⟩)], fun v => F5_2 k k v.1.1 v.1.2.1 v.1.2.2.1 v.1.2.2.2.1 v.2.1 v.2.2.1 v.2.2.2.1⟩
def F5_3 (k : Nat) : Nat → Int → ((List Int) × ((List Int) × ((List Int) × ((List (Int × (Int × (Int × Unit)))) × (Int × Unit))))) → (List (List Int)) → Option ((Unit × Unit) ⊕ ((Bool × Unit) × Unit))
  | 0, _, _, _ => none
  | n + 1, t18, c9, c130 =>
    let x42 := (decide (t18 < ((List.length c130 : Nat) : Int)))
    bif x42 then
      if 0 ≤ t18 ∧ t18 < ((List.length c130 : Nat) : Int) then
        let x43 := (List.getD c130 (Int.toNat t18) ([] : (List Int)))
        (F17 k c9 x43).bind fun r44 =>
        if 0 ≤ t18 ∧ t18 < ((List.length c130 : Nat) : Int) then
          let x45 := (List.getD c130 (Int.toNat t18) ([] : (List Int)))
          (F16 k c9 x45).bind fun r46 =>
          bif (r44.1.1 != r46.1.1) then
            some (.inr ((false, ()), ()))
          else
            bif (!(r44.1.2.1 == r46.1.2.1)) then
              some (.inr ((false, ()), ()))
            else
              (F5_3 k n (IntKind.wrap .i64 (t18 + (1 : Int))) c9 c130).bind some
        else none
      else none
    else
      some (.inl ((), ()))
def fr5_3 (k : Nat) : Frag := ⟨⟨[], [(9, .ptr 9 []), (17, .at 130 []), (18, .val (.int .i64))], [(9, some 28, (.pair (.sl true 3 (.int .i64) none) (.pair (.sl true 3 (.int .i64) none) (.pair (.sl true 3 (.int .i64) none) (.pair (.sl true 43 (.pair (.int .i64) (.pair (.int .i64) (.pair (.int .i64) .unit))) none) (.pair (.int .i64) .unit)))))), (130, none, (.sl true 23 (.sl false 3 (.int .i64) none) none))]⟩, [(.exit 6, ⟨[], [], []⟩), (.ret, ⟨[], [(8, .val .bool)], []⟩)], fun v => F5_3 k k v.1.1 v.2.1 v.2.2.1⟩
def F5 (k : Nat) (a0 : (List (Tree (Int × (Int × Unit))))) (a1 : (List Int)) (a2 : (List Int)) (a3 : (List Int)) : Option ((Bool × Unit) × Unit) :=
  (F11 k).bind fun r1 =>
  bif (!r1.1.1) then
    some ((false, ()), ())
  else
    (F12 k a0).bind fun r2 =>
    bif (!r2.1.1) then
      some ((true, ()), ())
    else
      let x3 := (((List.length a0 : Nat) : Int) == (0 : Int))
      bif x3 then
        some ((true, ()), ())
      else
        let x4 := (decide (((List.length a3 : Nat) : Int) > (50 : Int)))
        bif x4 then
          some ((true, ()), ())
        else
          if 0 ≤ (0 : Int) ∧ (0 : Int) < ((List.length a0 : Nat) : Int) then
            let x5 := (List.getD a0 (Int.toNat (0 : Int)) (Tree.mk ((0 : Int), ((0 : Int), ())) []))
            (F13 k x5 a1).bind fun r6 =>
            bif (!r6.1.2.1) then
              some ((true, ()), ())
            else
              let x7 := (((List.length r6.1.1.1 : Nat) : Int) == (0 : Int))
              bif x7 then
                some ((true, ()), ())
              else
                (F5_0 k k a2 a3 (0 : Int) r6.1.1 []).bind fun r11 =>
                let y12 := r11.1.1
                let y13 := r11.1.2.1
                let y14 := r11.2.1
                let y15 := r11.2.2.1
                (F5_2 k k y12 y13 (0 : Int) (0 : Int) y14 y15 []).bind fun r33 =>
                let y34 := r33.1.1
                let y35 := r33.1.2.1
                let y36 := r33.2.1
                let y37 := r33.2.2.1
                let y38 := r33.2.2.2.1
                (F18 k ((List.length y34 : Nat) : Int) ((List.length y36.1 : Nat) : Int)).bind fun r39 =>
                let x40 := (List.set (List.replicate 1 (0 : Int)) 0 r39.1.1)
                let x41 := (List.set (List.set (List.set (List.set (List.replicate 4 ([] : (List Int))) 0 y37) 1 y38) 2 y35) 3 x40)
                (F5_3 k k (0 : Int) y36 x41).bind fun r47 =>
                match r47 with
                | .inl r48 =>
                  some ((true, ()), ())
                | .inr r48 =>
                  let y49 := r48.1.1
                  some ((y49, ()), ())
          else none
def sp5 (k : Nat) : Spec := ⟨[.val (.tl 32 (.pair (.int .i64) (.pair (.int .i64) .unit))), .val (.sl false 3 (.int .i64) none), .val (.sl false 3 (.int .i64) none), .val (.sl false 3 (.int .i64) none)], [.val .bool], fun x => F5 k x.1 x.2.1 x.2.2.1 x.2.2.2.1⟩
def lim5 : Lim := ⟨163, 4, false, false, []⟩
def cfg5 (k : Nat) : Nat → Option Spec := cfgL [(11, sp11 k), (12, sp12 k), (13, sp13 k), (16, sp16 k), (17, sp17 k), (18, sp18 k)]
theorem cfg5_ok (k : Nat) : CfgOK Try.prog (cfg5 k) := cfgL_cons (v11 k) (cfgL_cons (v12 k) (cfgL_cons (v13 k) (cfgL_cons (v16 k) (cfgL_cons (v17 k) (cfgL_cons (v18 k) (cfgL_nil))))))
def pl5_0 (k : Nat) : Plan := .go
theorem pq5_0 (k : Nat) : PlanOK Try.prog lim5 (pl5_0 k) (codeAt (bodyOf Try.f5) [.r, .r, .r, .r, .r, .r, .l, .r, .s, .b]) = PlanOK Try.prog lim5 .go (codeAt (bodyOf Try.f5) [.r, .r, .r, .r, .r, .r, .l, .r, .s, .b]) := by kernel_rfl
theorem ps5_0 (k m : Nat) (v : (fr5_0 k).sh.V) : F5_0 k (m + 1) v.1.1 v.1.2.1 v.1.2.2.1 v.2.1 v.2.2.1 = (body Try.prog (stepper Try.prog (cfg5 k) lim5) (pl5_0 k) (codeAt (bodyOf Try.f5) [.r, .r, .r, .r, .r, .r, .l, .r, .s, .b]) ((fr5_0 k).sh.st v) (loopK (fr5_0 k) fun v => F5_0 k m v.1.1 v.1.2.1 v.1.2.2.1 v.2.1 v.2.2.1)).eval := by kernel_rfl
theorem pe5_0 (k m : Nat) (v : (fr5_0 k).sh.V) : (body Try.prog (stepper Try.prog (cfg5 k) lim5) (pl5_0 k) (codeAt (bodyOf Try.f5) [.r, .r, .r, .r, .r, .r, .l, .r, .s, .b]) ((fr5_0 k).sh.st v) (loopK (fr5_0 k) fun v => F5_0 k m v.1.1 v.1.2.1 v.1.2.2.1 v.2.1 v.2.2.1)).left = (body Try.prog (stepper Try.prog (cfg5 k) lim5) (pl5_0 k) (codeAt (bodyOf Try.f5) [.r, .r, .r, .r, .r, .r, .l, .r, .s, .b]) ((fr5_0 k).sh.st v) (loopK (fr5_0 k) fun v => F5_0 k m v.1.1 v.1.2.1 v.1.2.2.1 v.2.1 v.2.2.1)).right := by kernel_rfl
theorem fr5_0_ok (k : Nat) : FragOK Try.prog lim5 (fr5_0 k) (codeAt (bodyOf Try.f5) [.r, .r, .r, .r, .r, .r, .l, .r, .s]) :=
  frag_cast (by kernel_rfl) (loop_ok (cfg5_ok k) (Eq.mpr (pq5_0 k) (planOK_go _)) (fun m v => F5_0 k m v.1.1 v.1.2.1 v.1.2.2.1 v.2.1 v.2.2.1) k (fun _ => rfl) (fun _ => rfl) fun m v => ⟨ps5_0 k m v, pe5_0 k m v⟩)
def pl5_1 (k : Nat) : Plan := .go
theorem pq5_1 (k : Nat) : PlanOK Try.prog lim5 (pl5_1 k) (codeAt (bodyOf Try.f5) [.r, .r, .r, .r, .r, .r, .r, .r, .r, .l, .r, .s, .b, .r, .l, .s, .r, .r, .s, .b]) = PlanOK Try.prog lim5 .go (codeAt (bodyOf Try.f5) [.r, .r, .r, .r, .r, .r, .r, .r, .r, .l, .r, .s, .b, .r, .l, .s, .r, .r, .s, .b]) := by kernel_rfl
theorem ps5_1 (k m : Nat) (v : (fr5_1 k).sh.V) : F5_1 k (m + 1) v.1.1 v.1.2.1 v.1.2.2.1 v.1.2.2.2.1 v.1.2.2.2.2.1 v.1.2.2.2.2.2.1 v.1.2.2.2.2.2.2.1 v.2.1 v.2.2.1 v.2.2.2.1 = (body Try.prog (stepper Try.prog (cfg5 k) lim5) (pl5_1 k) (codeAt (bodyOf Try.f5) [.r, .r, .r, .r, .r, .r, .r, .r, .r, .l, .r, .s, .b, .r, .l, .s, .r, .r, .s, .b]) ((fr5_1 k).sh.st v) (loopK (fr5_1 k) fun v => F5_1 k m v.1.1 v.1.2.1 v.1.2.2.1 v.1.2.2.2.1 v.1.2.2.2.2.1 v.1.2.2.2.2.2.1 v.1.2.2.2.2.2.2.1 v.2.1 v.2.2.1 v.2.2.2.1)).eval := by kernel_rfl
theorem pe5_1 (k m : Nat) (v : (fr5_1 k).sh.V) : (body Try.prog (stepper Try.prog (cfg5 k) lim5) (pl5_1 k) (codeAt (bodyOf Try.f5) [.r, .r, .r, .r, .r, .r, .r, .r, .r, .l, .r, .s, .b, .r, .l, .s, .r, .r, .s, .b]) ((fr5_1 k).sh.st v) (loopK (fr5_1 k) fun v => F5_1 k m v.1.1 v.1.2.1 v.1.2.2.1 v.1.2.2.2.1 v.1.2.2.2.2.1 v.1.2.2.2.2.2.1 v.1.2.2.2.2.2.2.1 v.2.1 v.2.2.1 v.2.2.2.1)).left = (body Try.prog (stepper Try.prog (cfg5 k) lim5) (pl5_1 k) (codeAt (bodyOf Try.f5) [.r, .r, .r, .r, .r, .r, .r, .r, .r, .l, .r, .s, .b, .r, .l, .s, .r, .r, .s, .b]) ((fr5_1 k).sh.st v) (loopK (fr5_1 k) fun v => F5_1 k m v.1.1 v.1.2.1 v.1.2.2.1 v.1.2.2.2.1 v.1.2.2.2.2.1 v.1.2.2.2.2.2.1 v.1.2.2.2.2.2.2.1 v.2.1 v.2.2.1 v.2.2.2.1)).right := by kernel_rfl
theorem fr5_1_ok (k : Nat) : FragOK Try.prog lim5 (fr5_1 k) (codeAt (bodyOf Try.f5) [.r, .r, .r, .r, .r, .r, .r, .r, .r, .l, .r, .s, .b, .r, .l, .s, .r, .r, .s]) :=
  frag_cast (by kernel_rfl) (loop_ok (cfg5_ok k) (Eq.mpr (pq5_1 k) (planOK_go _)) (fun m v => F5_1 k m v.1.1 v.1.2.1 v.1.2.2.1 v.1.2.2.2.1 v.1.2.2.2.2.1 v.1.2.2.2.2.2.1 v.1.2.2.2.2.2.2.1 v.2.1 v.2.2.1 v.2.2.2.1) k (fun _ => rfl) (fun _ => rfl) fun m v => ⟨ps5_1 k m v, pe5_1 k m v⟩)
def pl5_2 (k : Nat) : Plan := (.seq .go (.seq (.sub (.seq .go (.seq .go (.sub (.frag (fr5_1 k)))))) .go))
theorem pq5_2 (k : Nat) : PlanOK Try.prog lim5 (pl5_2 k) (codeAt (bodyOf Try.f5) [.r, .r, .r, .r, .r, .r, .r, .r, .r, .l, .r, .s, .b]) = (PlanOK Try.prog lim5 .go (codeAt (bodyOf Try.f5) [.r, .r, .r, .r, .r, .r, .r, .r, .r, .l, .r, .s, .b, .l]) ∧ ((PlanOK Try.prog lim5 .go (codeAt (bodyOf Try.f5) [.r, .r, .r, .r, .r, .r, .r, .r, .r, .l, .r, .s, .b, .r, .l, .s, .l]) ∧ (PlanOK Try.prog lim5 .go (codeAt (bodyOf Try.f5) [.r, .r, .r, .r, .r, .r, .r, .r, .r, .l, .r, .s, .b, .r, .l, .s, .r, .l]) ∧ FragOK Try.prog lim5 (fr5_1 k) (codeAt (bodyOf Try.f5) [.r, .r, .r, .r, .r, .r, .r, .r, .r, .l, .r, .s, .b, .r, .l, .s, .r, .r, .s]))) ∧ PlanOK Try.prog lim5 .go (codeAt (bodyOf Try.f5) [.r, .r, .r, .r, .r, .r, .r, .r, .r, .l, .r, .s, .b, .r, .r]))) := by kernel_rfl
theorem ps5_2 (k m : Nat) (v : (fr5_2 k).sh.V) : F5_2 k (m + 1) v.1.1 v.1.2.1 v.1.2.2.1 v.1.2.2.2.1 v.2.1 v.2.2.1 v.2.2.2.1 = (body Try.prog (stepper Try.prog (cfg5 k) lim5) (pl5_2 k) (codeAt (bodyOf Try.f5) [.r, .r, .r, .r, .r, .r, .r, .r, .r, .l, .r, .s, .b]) ((fr5_2 k).sh.st v) (loopK (fr5_2 k) fun v => F5_2 k m v.1.1 v.1.2.1 v.1.2.2.1 v.1.2.2.2.1 v.2.1 v.2.2.1 v.2.2.2.1)).eval := by kernel_rfl
theorem pe5_2 (k m : Nat) (v : (fr5_2 k).sh.V) : (body Try.prog (stepper Try.prog (cfg5 k) lim5) (pl5_2 k) (codeAt (bodyOf Try.f5) [.r, .r, .r, .r, .r, .r, .r, .r, .r, .l, .r, .s, .b]) ((fr5_2 k).sh.st v) (loopK (fr5_2 k) fun v => F5_2 k m v.1.1 v.1.2.1 v.1.2.2.1 v.1.2.2.2.1 v.2.1 v.2.2.1 v.2.2.2.1)).left = (body Try.prog (stepper Try.prog (cfg5 k) lim5) (pl5_2 k) (codeAt (bodyOf Try.f5) [.r, .r, .r, .r, .r, .r, .r, .r, .r, .l, .r, .s, .b]) ((fr5_2 k).sh.st v) (loopK (fr5_2 k) fun v => F5_2 k m v.1.1 v.1.2.1 v.1.2.2.1 v.1.2.2.2.1 v.2.1 v.2.2.1 v.2.2.2.1)).right := by kernel_rfl
theorem fr5_2_ok (k : Nat) : FragOK Try.prog lim5 (fr5_2 k) (codeAt (bodyOf Try.f5) [.r, .r, .r, .r, .r, .r, .r, .r, .r, .l, .r, .s]) :=
  frag_cast (by kernel_rfl) (loop_ok (cfg5_ok k) (Eq.mpr (pq5_2 k) ⟨(planOK_go _), ⟨⟨(planOK_go _), ⟨(planOK_go _), (fr5_1_ok k)⟩⟩, (planOK_go _)⟩⟩) (fun m v => F5_2 k m v.1.1 v.1.2.1 v.1.2.2.1 v.1.2.2.2.1 v.2.1 v.2.2.1 v.2.2.2.1) k (fun _ => rfl) (fun _ => rfl) fun m v => ⟨ps5_2 k m v, pe5_2 k m v⟩)
def pl5_3 (k : Nat) : Plan := .go
theorem pq5_3 (k : Nat) : PlanOK Try.prog lim5 (pl5_3 k) (codeAt (bodyOf Try.f5) [.r, .r, .r, .r, .r, .r, .r, .r, .r, .r, .r, .l, .r, .s, .b]) = PlanOK Try.prog lim5 .go (codeAt (bodyOf Try.f5) [.r, .r, .r, .r, .r, .r, .r, .r, .r, .r, .r, .l, .r, .s, .b]) := by kernel_rfl
theorem ps5_3 (k m : Nat) (v : (fr5_3 k).sh.V) : F5_3 k (m + 1) v.1.1 v.2.1 v.2.2.1 = (body Try.prog (stepper Try.prog (cfg5 k) lim5) (pl5_3 k) (codeAt (bodyOf Try.f5) [.r, .r, .r, .r, .r, .r, .r, .r, .r, .r, .r, .l, .r, .s, .b]) ((fr5_3 k).sh.st v) (loopK (fr5_3 k) fun v => F5_3 k m v.1.1 v.2.1 v.2.2.1)).eval := by kernel_rfl
theorem pe5_3 (k m : Nat) (v : (fr5_3 k).sh.V) : (body Try.prog (stepper Try.prog (cfg5 k) lim5) (pl5_3 k) (codeAt (bodyOf Try.f5) [.r, .r, .r, .r, .r, .r, .r, .r, .r, .r, .r, .l, .r, .s, .b]) ((fr5_3 k).sh.st v) (loopK (fr5_3 k) fun v => F5_3 k m v.1.1 v.2.1 v.2.2.1)).left = (body Try.prog (stepper Try.prog (cfg5 k) lim5) (pl5_3 k) (codeAt (bodyOf Try.f5) [.r, .r, .r, .r, .r, .r, .r, .r, .r, .r, .r, .l, .r, .s, .b]) ((fr5_3 k).sh.st v) (loopK (fr5_3 k) fun v => F5_3 k m v.1.1 v.2.1 v.2.2.1)).right := by kernel_rfl
theorem fr5_3_ok (k : Nat) : FragOK Try.prog lim5 (fr5_3 k) (codeAt (bodyOf Try.f5) [.r, .r, .r, .r, .r, .r, .r, .r, .r, .r, .r, .l, .r, .s]) :=
  frag_cast (by kernel_rfl) (loop_ok (cfg5_ok k) (Eq.mpr (pq5_3 k) (planOK_go _)) (fun m v => F5_3 k m v.1.1 v.2.1 v.2.2.1) k (fun _ => rfl) (fun _ => rfl) fun m v => ⟨ps5_3 k m v, pe5_3 k m v⟩)
def pl5 (k : Nat) : Plan := (.seq .go (.seq .go (.seq .go (.seq .go (.seq .go (.seq .go (.seq (.seq .go (.sub (.frag (fr5_0 k)))) (.seq .go (.seq .go (.seq (.seq .go (.sub (.frag (fr5_2 k)))) (.seq .go (.seq (.seq .go (.sub (.frag (fr5_3 k)))) .go))))))))))))
theorem pq5 (k : Nat) : PlanOK Try.prog lim5 (pl5 k) (codeAt (bodyOf Try.f5) []) = (PlanOK Try.prog lim5 .go (codeAt (bodyOf Try.f5) [.l]) ∧ (PlanOK Try.prog lim5 .go (codeAt (bodyOf Try.f5) [.r, .l]) ∧ (PlanOK Try.prog lim5 .go (codeAt (bodyOf Try.f5) [.r, .r, .l]) ∧ (PlanOK Try.prog lim5 .go (codeAt (bodyOf Try.f5) [.r, .r, .r, .l]) ∧ (PlanOK Try.prog lim5 .go (codeAt (bodyOf Try.f5) [.r, .r, .r, .r, .l]) ∧ (PlanOK Try.prog lim5 .go (codeAt (bodyOf Try.f5) [.r, .r, .r, .r, .r, .l]) ∧ ((PlanOK Try.prog lim5 .go (codeAt (bodyOf Try.f5) [.r, .r, .r, .r, .r, .r, .l, .l]) ∧ FragOK Try.prog lim5 (fr5_0 k) (codeAt (bodyOf Try.f5) [.r, .r, .r, .r, .r, .r, .l, .r, .s])) ∧ (PlanOK Try.prog lim5 .go (codeAt (bodyOf Try.f5) [.r, .r, .r, .r, .r, .r, .r, .l]) ∧ (PlanOK Try.prog lim5 .go (codeAt (bodyOf Try.f5) [.r, .r, .r, .r, .r, .r, .r, .r, .l]) ∧ ((PlanOK Try.prog lim5 .go (codeAt (bodyOf Try.f5) [.r, .r, .r, .r, .r, .r, .r, .r, .r, .l, .l]) ∧ FragOK Try.prog lim5 (fr5_2 k) (codeAt (bodyOf Try.f5) [.r, .r, .r, .r, .r, .r, .r, .r, .r, .l, .r, .s])) ∧ (PlanOK Try.prog lim5 .go (codeAt (bodyOf Try.f5) [.r, .r, .r, .r, .r, .r, .r, .r, .r, .r, .l]) ∧ ((PlanOK Try.prog lim5 .go (codeAt (bodyOf Try.f5) [.r, .r, .r, .r, .r, .r, .r, .r, .r, .r, .r, .l, .l]) ∧ FragOK Try.prog lim5 (fr5_3 k) (codeAt (bodyOf Try.f5) [.r, .r, .r, .r, .r, .r, .r, .r, .r, .r, .r, .l, .r, .s])) ∧ PlanOK Try.prog lim5 .go (codeAt (bodyOf Try.f5) [.r, .r, .r, .r, .r, .r, .r, .r, .r, .r, .r, .r]))))))))))))) := by kernel_rfl
theorem ev5 (k : Nat) (x : AT (sp5 k).ps) : (sp5 k).impl x = (fnT Try.prog (cfg5 k) lim5 Try.f5 (bodyOf Try.f5) (pl5 k) (sp5 k) x).eval := by kernel_rfl
theorem eq5 (k : Nat) (x : AT (sp5 k).ps) : (fnT Try.prog (cfg5 k) lim5 Try.f5 (bodyOf Try.f5) (pl5 k) (sp5 k) x).left = (fnT Try.prog (cfg5 k) lim5 Try.f5 (bodyOf Try.f5) (pl5 k) (sp5 k) x).right := by kernel_rfl
theorem v5 (k : Nat) : Callable Try.prog 5 ∧ Valid Try.prog 5 (sp5 k) :=
  fn_ok (cfg5_ok k) (f := 5) (fn := Try.f5) (by kernel_rfl) (c := bodyOf Try.f5) (by kernel_rfl) (by kernel_rfl) rfl rfl (Nat.le_of_ble_eq_true rfl) (Nat.le_of_ble_eq_true rfl) (p := pl5 k) (Eq.mpr (pq5 k) ⟨(planOK_go _), ⟨(planOK_go _), ⟨(planOK_go _), ⟨(planOK_go _), ⟨(planOK_go _), ⟨(planOK_go _), ⟨⟨(planOK_go _), (fr5_0_ok k)⟩, ⟨(planOK_go _), ⟨(planOK_go _), ⟨⟨(planOK_go _), (fr5_2_ok k)⟩, ⟨(planOK_go _), ⟨⟨(planOK_go _), (fr5_3_ok k)⟩, (planOK_go _)⟩⟩⟩⟩⟩⟩⟩⟩⟩⟩⟩⟩) fun x => ⟨ev5 k x, eq5 k x⟩
/-! f6 hyphen/hyphenlaw8.TwinStars -/
def F6_0 (k : Nat) : Nat → Int → Bool → Int → Int → (Tree (Int × (Int × (Int × (Int × (ByteArray × Unit)))))) → Option (((Int × Bool × Int × Unit) × ((Tree (Int × (Int × (Int × (Int × (ByteArray × Unit)))))) × Unit)))
  | 0, _, _, _, _, _ => none
  | n + 1, t1, t2, t7, t9, c8 =>
    (F18 k t1 (4 : Int)).bind fun r26 =>
    bif (decide (t9 < r26.1.1)) then
      let x27 := (Tree.a (Tree.mk ((0 : Int), ((0 : Int), ((0 : Int), ((0 : Int), (ByteArray.empty, ()))))) [])).2.1
      let x28 := (Tree.a (Tree.mk ((0 : Int), ((0 : Int), ((0 : Int), ((0 : Int), (ByteArray.empty, ()))))) [])).2.2.1
      let x29 := (Tree.a (Tree.mk ((0 : Int), ((0 : Int), ((0 : Int), ((0 : Int), (ByteArray.empty, ()))))) [])).2.2.2.1
      let x30 := (Tree.a (Tree.mk ((0 : Int), ((0 : Int), ((0 : Int), ((0 : Int), (ByteArray.empty, ()))))) [])).2.2.2.2.1
      let x31 := (Tree.l (Tree.mk ((0 : Int), ((0 : Int), ((0 : Int), ((0 : Int), (ByteArray.empty, ()))))) []))
      let x32 := (List.set (List.set (List.replicate 2 (Tree.mk ((0 : Int), ((0 : Int), ((0 : Int), ((0 : Int), (ByteArray.empty, ()))))) [])) 0 c8) 1 (Tree.mk ((3 : Int), (x27, (x28, (x29, (x30, ()))))) x31))
      let x33 := (Tree.a (Tree.mk ((0 : Int), ((0 : Int), ((0 : Int), ((0 : Int), (ByteArray.empty, ()))))) [])).2.1
      let x34 := (Tree.a (Tree.mk ((0 : Int), ((0 : Int), ((0 : Int), ((0 : Int), (ByteArray.empty, ()))))) [])).2.2.1
      let x35 := (Tree.a (Tree.mk ((0 : Int), ((0 : Int), ((0 : Int), ((0 : Int), (ByteArray.empty, ()))))) [])).2.2.2.1
      let x36 := (Tree.a (Tree.mk ((0 : Int), ((0 : Int), ((0 : Int), ((0 : Int), (ByteArray.empty, ()))))) [])).2.2.2.2.1
      let x37 := (Tree.mk ((4 : Int), (x33, (x34, (x35, (x36, ()))))) x32)
      (F6_0 k n t1 t2 t7 (IntKind.wrap .i64 (t9 + (1 : Int))) x37).bind some
    else
      some ((t1, t2, t7, ()), (c8, ()))
def fr6_0 (k : Nat) : Frag := ⟨⟨[], [(1, .val (.int .i64)), (2, .val .bool), (7, .val (.int .i64)), (8, .ptr 8 []), (9, .val (.int .i64))], [(8, some 49, (.tree 49 (.pair (.int .i64) (.pair (.int .i64) (.pair (.int .i64) (.pair (.int .i64) (.pair .str .unit)))))))]⟩, [(.exit 0, ⟨[], [(1, .val (.int .i64)), (2, .val .bool), (7, .val (.int .i64)), (8, .ptr 8 [])], [(8, some 49, (.tree 49 (.pair (.int .i64) (.pair (.int .i64) (.pair (.int .i64) (.pair (.int .i64) (.pair .str .unit)))))))]⟩)], fun v => F6_0 k k v.1.1 v.1.2.1 v.1.2.2.1 v.1.2.2.2.1 v.2.1⟩
def F6 (k : Nat) (a0 : Int) (a1 : Int) (a2 : Bool) : Option ((Bool × Unit) × Unit) :=
  (F11 k).bind fun r1 =>
  bif (!r1.1.1) then
    some ((false, ()), ())
  else
    (F18 k a0 (5 : Int)).bind fun r2 =>
    let x3 := (Tree.a (Tree.mk ((0 : Int), ((0 : Int), ((0 : Int), ((0 : Int), (ByteArray.empty, ()))))) [])).2.1
    let x4 := (Tree.a (Tree.mk ((0 : Int), ((0 : Int), ((0 : Int), ((0 : Int), (ByteArray.empty, ()))))) [])).2.2.1
    let x5 := (Tree.a (Tree.mk ((0 : Int), ((0 : Int), ((0 : Int), ((0 : Int), (ByteArray.empty, ()))))) [])).2.2.2.1
    let x6 := (Tree.l (Tree.mk ((0 : Int), ((0 : Int), ((0 : Int), ((0 : Int), (ByteArray.empty, ()))))) []))
    let x13 := (Tree.mk ((2 : Int), (x3, (x4, (x5, ((⟨#[118]⟩ : ByteArray), ()))))) x6)
    (F6_0 k k a1 a2 r2.1.1 (0 : Int) x13).bind fun r38 =>
    let y39 := r38.1.1
    let y40 := r38.1.2.1
    let y41 := r38.1.2.2.1
    let y42 := r38.2.1
    let x43 := (List.set (List.replicate 1 (Tree.mk ((0 : Int), ((0 : Int), ((0 : Int), ((0 : Int), (ByteArray.empty, ()))))) [])) 0 y42)
    let x44 := (Tree.a (Tree.mk ((0 : Int), ((0 : Int), ((0 : Int), ((0 : Int), (ByteArray.empty, ()))))) [])).2.1
    let x45 := (Tree.a (Tree.mk ((0 : Int), ((0 : Int), ((0 : Int), ((0 : Int), (ByteArray.empty, ()))))) [])).2.2.1
    let x46 := (Tree.a (Tree.mk ((0 : Int), ((0 : Int), ((0 : Int), ((0 : Int), (ByteArray.empty, ()))))) [])).2.2.2.2.1
    let x47 := (Tree.mk ((8 : Int), (x44, (x45, (y41, (x46, ()))))) x43)
    bif y40 then
      let x48 := (List.set (List.replicate 1 (Tree.mk ((0 : Int), ((0 : Int), ((0 : Int), ((0 : Int), (ByteArray.empty, ()))))) [])) 0 x47)
      let x49 := (Tree.a (Tree.mk ((0 : Int), ((0 : Int), ((0 : Int), ((0 : Int), (ByteArray.empty, ()))))) [])).2.1
      let x50 := (Tree.a (Tree.mk ((0 : Int), ((0 : Int), ((0 : Int), ((0 : Int), (ByteArray.empty, ()))))) [])).2.2.1
      let x51 := (Tree.a (Tree.mk ((0 : Int), ((0 : Int), ((0 : Int), ((0 : Int), (ByteArray.empty, ()))))) [])).2.2.2.1
      let x52 := (Tree.a (Tree.mk ((0 : Int), ((0 : Int), ((0 : Int), ((0 : Int), (ByteArray.empty, ()))))) [])).2.2.2.2.1
      let x53 := (Tree.mk ((6 : Int), (x49, (x50, (x51, (x52, ()))))) x48)
      (F21 k []).bind fun r54 =>
      let x55 := ([] : (List (Int × (Int × ((Tree (Int × (Int × (Int × (Int × (ByteArray × Unit)))))) × ((Tree (Int × (Int × (Int × (Int × (ByteArray × Unit)))))) × Unit))))))
      (F22 k x53 (r54.1.1, (x55, ()))).bind fun r58 =>
      (F14 k r58.1.1).bind fun r59 =>
      (F17 k r58.1.1 r59.1.1).bind fun r60 =>
      bif r58.1.2.1 then
        bif y40 then
          bif (r59.1.2.1 == (decide (y41 > (0 : Int)))) then
            bif (!r59.1.2.1) then
              some ((true, ()), ())
            else
              bif (r60.1.1 == y41) then
                (F18 k y39 (4 : Int)).bind fun r61 =>
                let x62 := (((List.length r59.1.1 : Nat) : Int) == (IntKind.wrap .i64 (r61.1.1 + (1 : Int))))
                some ((x62, ()), ())
              else
                some ((false, ()), ())
          else
            some ((false, ()), ())
        else
          bif (r59.1.2.1 == false) then
            bif (!r59.1.2.1) then
              some ((true, ()), ())
            else
              bif (r60.1.1 == y41) then
                (F18 k y39 (4 : Int)).bind fun r63 =>
                let x64 := (((List.length r59.1.1 : Nat) : Int) == (IntKind.wrap .i64 (r63.1.1 + (1 : Int))))
                some ((x64, ()), ())
              else
                some ((false, ()), ())
          else
            some ((false, ()), ())
      else
        some ((false, ()), ())
    else
      let x65 := (List.set (List.replicate 1 (Tree.mk ((0 : Int), ((0 : Int), ((0 : Int), ((0 : Int), (ByteArray.empty, ()))))) [])) 0 x47)
      let x66 := (Tree.a (Tree.mk ((0 : Int), ((0 : Int), ((0 : Int), ((0 : Int), (ByteArray.empty, ()))))) [])).2.1
      let x67 := (Tree.a (Tree.mk ((0 : Int), ((0 : Int), ((0 : Int), ((0 : Int), (ByteArray.empty, ()))))) [])).2.2.2.1
      let x68 := (Tree.a (Tree.mk ((0 : Int), ((0 : Int), ((0 : Int), ((0 : Int), (ByteArray.empty, ()))))) [])).2.2.2.2.1
      let x69 := (Tree.mk ((7 : Int), (x66, ((3 : Int), (x67, (x68, ()))))) x65)
      (F21 k []).bind fun r70 =>
      let x71 := ([] : (List (Int × (Int × ((Tree (Int × (Int × (Int × (Int × (ByteArray × Unit)))))) × ((Tree (Int × (Int × (Int × (Int × (ByteArray × Unit)))))) × Unit))))))
      (F22 k x69 (r70.1.1, (x71, ()))).bind fun r74 =>
      (F14 k r74.1.1).bind fun r75 =>
      (F17 k r74.1.1 r75.1.1).bind fun r76 =>
      bif r74.1.2.1 then
        bif y40 then
          bif (r75.1.2.1 == (decide (y41 > (0 : Int)))) then
            bif (!r75.1.2.1) then
              some ((true, ()), ())
            else
              bif (r76.1.1 == y41) then
                (F18 k y39 (4 : Int)).bind fun r77 =>
                let x78 := (((List.length r75.1.1 : Nat) : Int) == (IntKind.wrap .i64 (r77.1.1 + (1 : Int))))
                some ((x78, ()), ())
              else
                some ((false, ()), ())
          else
            some ((false, ()), ())
        else
          bif (r75.1.2.1 == false) then
            bif (!r75.1.2.1) then
              some ((true, ()), ())
            else
              bif (r76.1.1 == y41) then
                (F18 k y39 (4 : Int)).bind fun r79 =>
                let x80 := (((List.length r75.1.1 : Nat) : Int) == (IntKind.wrap .i64 (r79.1.1 + (1 : Int))))
                some ((x80, ()), ())
              else
                some ((false, ()), ())
          else
            some ((false, ()), ())
      else
        some ((false, ()), ())
def sp6 (k : Nat) : Spec := ⟨[.val (.int .i64), .val (.int .i64), .val .bool], [.val .bool], fun x => F6 k x.1 x.2.1 x.2.2.1⟩
def lim6 : Lim := ⟨89, 3, false, false, []⟩
def cfg6 (k : Nat) : Nat → Option Spec := cfgL [(11, sp11 k), (14, sp14 k), (17, sp17 k), (18, sp18 k), (21, sp21 k), (22, sp22 k)]
theorem cfg6_ok (k : Nat) : CfgOK Try.prog (cfg6 k) := cfgL_cons (v11 k) (cfgL_cons (v14 k) (cfgL_cons (v17 k) (cfgL_cons (v18 k) (cfgL_cons (v21 k) (cfgL_cons (v22 k) (cfgL_nil))))))
def pl6_0 (k : Nat) : Plan := .go
theorem pq6_0 (k : Nat) : PlanOK Try.prog lim6 (pl6_0 k) (codeAt (bodyOf Try.f6) [.r, .r, .r, .r, .l, .r, .s, .b]) = PlanOK Try.prog lim6 .go (codeAt (bodyOf Try.f6) [.r, .r, .r, .r, .l, .r, .s, .b]) := by kernel_rfl
theorem ps6_0 (k m : Nat) (v : (fr6_0 k).sh.V) : F6_0 k (m + 1) v.1.1 v.1.2.1 v.1.2.2.1 v.1.2.2.2.1 v.2.1 = (body Try.prog (stepper Try.prog (cfg6 k) lim6) (pl6_0 k) (codeAt (bodyOf Try.f6) [.r, .r, .r, .r, .l, .r, .s, .b]) ((fr6_0 k).sh.st v) (loopK (fr6_0 k) fun v => F6_0 k m v.1.1 v.1.2.1 v.1.2.2.1 v.1.2.2.2.1 v.2.1)).eval := by kernel_rfl
theorem pe6_0 (k m : Nat) (v : (fr6_0 k).sh.V) : (body Try.prog (stepper Try.prog (cfg6 k) lim6) (pl6_0 k) (codeAt (bodyOf Try.f6) [.r, .r, .r, .r, .l, .r, .s, .b]) ((fr6_0 k).sh.st v) (loopK (fr6_0 k) fun v => F6_0 k m v.1.1 v.1.2.1 v.1.2.2.1 v.1.2.2.2.1 v.2.1)).left = (body Try.prog (stepper Try.prog (cfg6 k) lim6) (pl6_0 k) (codeAt (bodyOf Try.f6) [.r, .r, .r, .r, .l, .r, .s, .b]) ((fr6_0 k).sh.st v) (loopK (fr6_0 k) fun v => F6_0 k m v.1.1 v.1.2.1 v.1.2.2.1 v.1.2.2.2.1 v.2.1)).right := by kernel_rfl
theorem fr6_0_ok (k : Nat) : FragOK Try.prog lim6 (fr6_0 k) (codeAt (bodyOf Try.f6) [.r, .r, .r, .r, .l, .r, .s]) :=
  frag_cast (by kernel_rfl) (loop_ok (cfg6_ok k) (Eq.mpr (pq6_0 k) (planOK_go _)) (fun m v => F6_0 k m v.1.1 v.1.2.1 v.1.2.2.1 v.1.2.2.2.1 v.2.1) k (fun _ => rfl) (fun _ => rfl) fun m v => ⟨ps6_0 k m v, pe6_0 k m v⟩)
def pl6 (k : Nat) : Plan := (.seq .go (.seq .go (.seq .go (.seq .go (.seq (.seq .go (.sub (.frag (fr6_0 k)))) .go)))))
theorem pq6 (k : Nat) : PlanOK Try.prog lim6 (pl6 k) (codeAt (bodyOf Try.f6) []) = (PlanOK Try.prog lim6 .go (codeAt (bodyOf Try.f6) [.l]) ∧ (PlanOK Try.prog lim6 .go (codeAt (bodyOf Try.f6) [.r, .l]) ∧ (PlanOK Try.prog lim6 .go (codeAt (bodyOf Try.f6) [.r, .r, .l]) ∧ (PlanOK Try.prog lim6 .go (codeAt (bodyOf Try.f6) [.r, .r, .r, .l]) ∧ ((PlanOK Try.prog lim6 .go (codeAt (bodyOf Try.f6) [.r, .r, .r, .r, .l, .l]) ∧ FragOK Try.prog lim6 (fr6_0 k) (codeAt (bodyOf Try.f6) [.r, .r, .r, .r, .l, .r, .s])) ∧ PlanOK Try.prog lim6 .go (codeAt (bodyOf Try.f6) [.r, .r, .r, .r, .r])))))) := by kernel_rfl
theorem ev6 (k : Nat) (x : AT (sp6 k).ps) : (sp6 k).impl x = (fnT Try.prog (cfg6 k) lim6 Try.f6 (bodyOf Try.f6) (pl6 k) (sp6 k) x).eval := by kernel_rfl
theorem eq6 (k : Nat) (x : AT (sp6 k).ps) : (fnT Try.prog (cfg6 k) lim6 Try.f6 (bodyOf Try.f6) (pl6 k) (sp6 k) x).left = (fnT Try.prog (cfg6 k) lim6 Try.f6 (bodyOf Try.f6) (pl6 k) (sp6 k) x).right := by kernel_rfl
theorem v6 (k : Nat) : Callable Try.prog 6 ∧ Valid Try.prog 6 (sp6 k) :=
  fn_ok (cfg6_ok k) (f := 6) (fn := Try.f6) (by kernel_rfl) (c := bodyOf Try.f6) (by kernel_rfl) (by kernel_rfl) rfl rfl (Nat.le_of_ble_eq_true rfl) (Nat.le_of_ble_eq_true rfl) (p := pl6 k) (Eq.mpr (pq6 k) ⟨(planOK_go _), ⟨(planOK_go _), ⟨(planOK_go _), ⟨(planOK_go _), ⟨⟨(planOK_go _), (fr6_0_ok k)⟩, (planOK_go _)⟩⟩⟩⟩⟩) fun x => ⟨ev6 k x, eq6 k x⟩
end Go.Proofs.YtgojfdimbciaiaaE
