/- Functions of the program, as Lean functions, with their contracts; printed by gen.py. Conditions: none. -/
import Derived.Test.YtibammoednhnoaaE36
import Derived.Test.YtibammoednhnoaaProg
set_option linter.unusedVariables false
namespace Go.Proofs.YtibammoednhnoaaE
open Kd
set_option maxRecDepth 20000
abbrev TY27 : Type := (List Int) × Unit
abbrev KD26 : Kd := .sl true 4 .bool none
abbrev TY25 : Type := List (ByteArray × Int)
abbrev KD24 : Kd := .sl true 5 (.int .u8) none
abbrev KD23 : Kd := .sl true 3 (.int .i64) none
abbrev KD22 : Kd := .sl false 5 (.int .u8) none
abbrev KD21 : Kd := .sl false 3 (.int .i64) none
abbrev KD20 : Kd := .pair (.mp true 82 .i64) .unit
abbrev TY19 : Type := Option TY25
abbrev TY18 : Type := List (Int × (Int × (Int × Unit)))
abbrev TY17 : Type := (List (List Int)) × TY27
abbrev KD16 : Kd := .sl true 51 KD26 none
abbrev TY15 : Type := TY19 × Unit
abbrev KD14 : Kd := .sl false 51 (.sl false 4 .bool none) none
abbrev TY13 : Type := (Int × Unit) × (TY17 × Unit)
abbrev TY12 : Type := (List Int) × ((List Int) × ((List Int) × (TY18 × (Int × Unit))))
abbrev KD11 : Kd := .pair (.sl true 23 KD23 none) (.pair KD23 .unit)
abbrev KD10 : Kd := .pair (.sl false 23 KD21 none) (.pair KD21 .unit)
abbrev TY9 : Type := List TY12
abbrev TY8 : Type := TY15 × (TY9 × ((List (List Bool)) × ((List (List Int)) × Unit)))
abbrev TY7 : Type := Option TY8
abbrev TY6 : Type := TY8 × Unit
abbrev KD5 : Kd := .pair KD23 (.pair KD23 (.pair KD23 (.pair (.sl true 67 (.pair (.int .i64) (.pair (.int .i64) (.pair (.int .i64) .unit))) none) (.pair (.int .i64) .unit))))
abbrev KD4 : Kd := .pair KD21 (.pair KD21 (.pair KD21 (.pair (.sl false 67 (.pair (.int .i64) (.pair (.int .i64) (.pair (.int .i64) .unit))) none) (.pair (.int .i64) .unit))))
abbrev KD3 : Kd := .sl false 65 KD4 none
abbrev KD2 : Kd := .pair KD20 (.pair KD3 (.pair KD14 (.pair (.sl true 90 KD24 none) .unit)))
abbrev KD1 : Kd := .ep (.pair (.pair (.mp false 82 .i64) .unit) (.pair KD3 (.pair KD14 (.pair (.sl false 90 KD22 none) .unit))))
abbrev TY0 : Type := (((List Int) × Int × TY9 × Int × Int × Unit) × (TY7 × Int × TY12 × (List Int) × Unit))
/-! f59 (hyphen/back.bits).key -/
def F59 (k : Nat) (a0 : (List Int)) : Option ((ByteArray × Unit) × Unit) :=
  if List.length a0 ≤ 9223372036854775807 then
    some (((bstr a0), ()), ())
  else none
def sp59 (k : Nat) : Spec := ⟨[.val KD22], [.val .str], fun x => F59 k x.1⟩
def lim59 : Lim := ⟨5, 1, false, false, [], []⟩
def cfg59 (k : Nat) : Nat → Option Spec := cfgL []
theorem cfg59_ok (k : Nat) : CfgOK Try.prog (cfg59 k) := cfgL_nil
def pl59 (k : Nat) : Plan := .go
theorem pq59 (k : Nat) : PlanOK Try.prog lim59 (pl59 k) (codeAt (bodyOf Try.f59) []) = PlanOK Try.prog lim59 .go (codeAt (bodyOf Try.f59) []) := by kernel_rfl
theorem ev59 (k : Nat) (x : AT (sp59 k).ps) : (sp59 k).impl x = (fnT Try.prog (cfg59 k) lim59 Try.f59 (bodyOf Try.f59) (pl59 k) (sp59 k) x).eval := by kernel_rfl
theorem eq59 (k : Nat) (x : AT (sp59 k).ps) : (fnT Try.prog (cfg59 k) lim59 Try.f59 (bodyOf Try.f59) (pl59 k) (sp59 k) x).left = (fnT Try.prog (cfg59 k) lim59 Try.f59 (bodyOf Try.f59) (pl59 k) (sp59 k) x).right := by kernel_rfl
theorem v59 (k : Nat) : Callable Try.prog 59 ∧ Valid Try.prog 59 (sp59 k) :=
  fn_ok (cfg59_ok k) (f := 59) (fn := Try.f59) (by kernel_rfl) (c := bodyOf Try.f59) (by kernel_rfl) (by kernel_rfl) rfl rfl (Nat.le_of_ble_eq_true rfl) (Nat.le_of_ble_eq_true rfl) (p := pl59 k) (Eq.mpr (pq59 k) (planOK_go _)) fun x => ⟨ev59 k x, eq59 k x⟩
/-! f1038 (*hyphen/back.names).name -/
def F1038 (k : Nat) (a0 : TY8) (a1 : ByteArray) : Option ((Int × Bool × Unit) × TY6) :=
  bif (!(Option.isSome a0.1.1)) then
    let x1 := (findM (Option.getD (some [] : Option TY25) []) a1).1
    let x2 := (findM (Option.getD (some [] : Option TY25) []) a1).2
    bif (!x2) then
      if ((List.length (Option.getD (some [] : Option TY25) []) : Nat) : Int) ≤ 9223372036854775807 then
        let x3 := ((List.length (Option.getD (some [] : Option TY25) []) : Nat) : Int)
        if (Option.isSome (some [] : Option TY25)) = true then
          let x4 := (some (putM (Option.getD (some [] : Option TY25) []) a1 x3))
          some ((x3, (!x2), ()), (((x4, a0.1.2), a0.2), ()))
        else none
      else none
    else
      some ((x1, (!x2), ()), ((((some [] : Option TY25), a0.1.2), a0.2), ()))
  else
    bif (!(findM (Option.getD a0.1.1 []) a1).2) then
      if ((List.length (Option.getD a0.1.1 []) : Nat) : Int) ≤ 9223372036854775807 then
        let x5 := ((List.length (Option.getD a0.1.1 []) : Nat) : Int)
        if (Option.isSome a0.1.1) = true then
          some ((x5, (!(findM (Option.getD a0.1.1 []) a1).2), ()), ((((some (putM (Option.getD a0.1.1 []) a1 x5)), a0.1.2), a0.2), ()))
        else none
      else none
    else
      some (((findM (Option.getD a0.1.1 []) a1).1, (!(findM (Option.getD a0.1.1 []) a1).2), ()), (a0, ()))
def sp1038 (k : Nat) : Spec := ⟨[.ptr 87 KD2 [.fst], .val .str], [.val (.int .i64), .val .bool], fun x => F1038 k x.1 x.2.1⟩
def lim1038 : Lim := ⟨42, 2, false, false, [], []⟩
def cfg1038 (k : Nat) : Nat → Option Spec := cfgL []
theorem cfg1038_ok (k : Nat) : CfgOK Try.prog (cfg1038 k) := cfgL_nil
def pl1038 (k : Nat) : Plan := .go
theorem pq1038 (k : Nat) : PlanOK Try.prog lim1038 (pl1038 k) (codeAt (bodyOf Try.f38) []) = PlanOK Try.prog lim1038 .go (codeAt (bodyOf Try.f38) []) := by kernel_rfl
theorem ev1038 (k : Nat) (x : AT (sp1038 k).ps) : (sp1038 k).impl x = (fnT Try.prog (cfg1038 k) lim1038 Try.f38 (bodyOf Try.f38) (pl1038 k) (sp1038 k) x).eval := by kernel_rfl
theorem eq1038 (k : Nat) (x : AT (sp1038 k).ps) : (fnT Try.prog (cfg1038 k) lim1038 Try.f38 (bodyOf Try.f38) (pl1038 k) (sp1038 k) x).left = (fnT Try.prog (cfg1038 k) lim1038 Try.f38 (bodyOf Try.f38) (pl1038 k) (sp1038 k) x).right := by kernel_rfl
theorem v1038 (k : Nat) : Callable Try.prog 38 ∧ Valid Try.prog 38 (sp1038 k) :=
  fn_ok (cfg1038_ok k) (f := 38) (fn := Try.f38) (by kernel_rfl) (c := bodyOf Try.f38) (by kernel_rfl) (by kernel_rfl) rfl rfl (Nat.le_of_ble_eq_true rfl) (Nat.le_of_ble_eq_true rfl) (p := pl1038 k) (Eq.mpr (pq1038 k) (planOK_go _)) fun x => ⟨ev1038 k x, eq1038 k x⟩
/-! f35 (*hyphen/back.maker).put -/
def F35 (k : Nat) (a0 : TY8) (a1 : (List Int)) : Option ((Int × Unit) × TY6) :=
  (F59 k a1).bind fun r1 =>
  (F1038 k a0 r1.1.1).bind fun r2 =>
  bif r2.1.2.1 then
    if (List.length r2.2.1.2.2.2.1 + List.length [a1]) * (24 * 2) ≤ 281474976710656 ∧ List.length r2.2.1.2.2.2.1 + List.length [a1] ≤ 9223372036854775807 then
      some ((r2.1.1, ()), ((r2.2.1.1, (r2.2.1.2.1, (r2.2.1.2.2.1, ((r2.2.1.2.2.2.1 ++ [a1]), r2.2.1.2.2.2.2)))), ()))
    else none
  else
    some ((r2.1.1, ()), (r2.2.1, ()))
def sp35 (k : Nat) : Spec := ⟨[.ptr 87 KD2 [], .own KD24], [.val (.int .i64)], fun x => F35 k x.1 x.2.1⟩
def lim35 : Lim := ⟨28, 2, false, false, [], []⟩
def cfg35 (k : Nat) : Nat → Option Spec := cfgL [(59, sp59 k), (38, sp1038 k)]
theorem cfg35_ok (k : Nat) : CfgOK Try.prog (cfg35 k) := cfgL_cons (v59 k) (cfgL_cons (v1038 k) (cfgL_nil))
def pl35 (k : Nat) : Plan := .go
theorem pq35 (k : Nat) : PlanOK Try.prog lim35 (pl35 k) (codeAt (bodyOf Try.f35) []) = PlanOK Try.prog lim35 .go (codeAt (bodyOf Try.f35) []) := by kernel_rfl
theorem ev35 (k : Nat) (x : AT (sp35 k).ps) : (sp35 k).impl x = (fnT Try.prog (cfg35 k) lim35 Try.f35 (bodyOf Try.f35) (pl35 k) (sp35 k) x).eval := by kernel_rfl
theorem eq35 (k : Nat) (x : AT (sp35 k).ps) : (fnT Try.prog (cfg35 k) lim35 Try.f35 (bodyOf Try.f35) (pl35 k) (sp35 k) x).left = (fnT Try.prog (cfg35 k) lim35 Try.f35 (bodyOf Try.f35) (pl35 k) (sp35 k) x).right := by kernel_rfl
theorem v35 (k : Nat) : Callable Try.prog 35 ∧ Valid Try.prog 35 (sp35 k) :=
  fn_ok (cfg35_ok k) (f := 35) (fn := Try.f35) (by kernel_rfl) (c := bodyOf Try.f35) (by kernel_rfl) (by kernel_rfl) rfl rfl (Nat.le_of_ble_eq_true rfl) (Nat.le_of_ble_eq_true rfl) (p := pl35 k) (Eq.mpr (pq35 k) (planOK_go _)) fun x => ⟨ev35 k x, eq35 k x⟩
/-! f61 (*hyphen/back.maker).of -/
def F61 (k : Nat) (a0 : TY7) (a1 : TY12) (a2 : Int) (a3 : Int) : Option ((Bool × Unit) × Unit) :=
  if 0 ≤ a2 ∧ a2 < ((List.length a1.1 : Nat) : Int) then
    let x1 := (decide ((List.getD a1.1 (Int.toNat a2) (0 : Int)) < (0 : Int)))
    bif x1 then
      some ((true, ()), ())
    else
      if (Option.isSome a0) = true then
        if (Option.isSome a0) = true then
          let x2 := (Option.getD a0 (((none : TY19), ()), (([] : TY9), (([] : (List (List Bool))), (([] : (List (List Int))), ()))))).2.2.1
          let x3 := (decide ((List.getD a1.1 (Int.toNat a2) (0 : Int)) < ((List.length x2 : Nat) : Int)))
          bif x3 then
            if (Option.isSome a0) = true then
              if (Option.isSome a0) = true then
                let x4 := (Option.getD a0 (((none : TY19), ()), (([] : TY9), (([] : (List (List Bool))), (([] : (List (List Int))), ()))))).2.2.1
                if 0 ≤ (List.getD a1.1 (Int.toNat a2) (0 : Int)) ∧ (List.getD a1.1 (Int.toNat a2) (0 : Int)) < ((List.length x4 : Nat) : Int) then
                  let x5 := (List.getD x4 (Int.toNat (List.getD a1.1 (Int.toNat a2) (0 : Int))) ([] : (List Bool)))
                  let x6 := (decide (a3 < ((List.length x5 : Nat) : Int)))
                  bif x6 then
                    if (Option.isSome a0) = true then
                      if (Option.isSome a0) = true then
                        let x7 := (Option.getD a0 (((none : TY19), ()), (([] : TY9), (([] : (List (List Bool))), (([] : (List (List Int))), ()))))).2.2.1
                        if 0 ≤ (List.getD a1.1 (Int.toNat a2) (0 : Int)) ∧ (List.getD a1.1 (Int.toNat a2) (0 : Int)) < ((List.length x7 : Nat) : Int) then
                          let x8 := (List.getD x7 (Int.toNat (List.getD a1.1 (Int.toNat a2) (0 : Int))) ([] : (List Bool)))
                          if 0 ≤ a3 ∧ a3 < ((List.length x8 : Nat) : Int) then
                            some (((List.getD x8 (Int.toNat a3) false), ()), ())
                          else none
                        else none
                      else none
                    else none
                  else
                    some ((false, ()), ())
                else none
              else none
            else none
          else
            some ((false, ()), ())
        else none
      else none
  else none
def sp61 (k : Nat) : Spec := ⟨[.val KD1, .val KD4, .val (.int .i64), .val (.int .i64)], [.val .bool], fun x => F61 k x.1 x.2.1 x.2.2.1 x.2.2.2.1⟩
def lim61 : Lim := ⟨50, 4, false, false, [], []⟩
def cfg61 (k : Nat) : Nat → Option Spec := cfgL []
theorem cfg61_ok (k : Nat) : CfgOK Try.prog (cfg61 k) := cfgL_nil
def pl61 (k : Nat) : Plan := .go
theorem pq61 (k : Nat) : PlanOK Try.prog lim61 (pl61 k) (codeAt (bodyOf Try.f61) []) = PlanOK Try.prog lim61 .go (codeAt (bodyOf Try.f61) []) := by kernel_rfl
theorem ev61 (k : Nat) (x : AT (sp61 k).ps) : (sp61 k).impl x = (fnT Try.prog (cfg61 k) lim61 Try.f61 (bodyOf Try.f61) (pl61 k) (sp61 k) x).eval := by kernel_rfl
theorem eq61 (k : Nat) (x : AT (sp61 k).ps) : (fnT Try.prog (cfg61 k) lim61 Try.f61 (bodyOf Try.f61) (pl61 k) (sp61 k) x).left = (fnT Try.prog (cfg61 k) lim61 Try.f61 (bodyOf Try.f61) (pl61 k) (sp61 k) x).right := by kernel_rfl
theorem v61 (k : Nat) : Callable Try.prog 61 ∧ Valid Try.prog 61 (sp61 k) :=
  fn_ok (cfg61_ok k) (f := 61) (fn := Try.f61) (by kernel_rfl) (c := bodyOf Try.f61) (by kernel_rfl) (by kernel_rfl) rfl rfl (Nat.le_of_ble_eq_true rfl) (Nat.le_of_ble_eq_true rfl) (p := pl61 k) (Eq.mpr (pq61 k) (planOK_go _)) fun x => ⟨ev61 k x, eq61 k x⟩
/-! f60 (*hyphen/back.maker).ahead$1 -/
def F60 (k : Nat) (a0 : Int) (a1 : TY7) (a2 : TY12) (a3 : Int) : Option ((Bool × Unit) × (TY7 × TY12 × Int × Unit)) :=
  (F61 k a1 a2 a0 a3).bind fun r1 =>
  some ((r1.1.1, ()), (a1, a2, a3, ()))
def sp60 (k : Nat) : Spec := ⟨[.val (.int .i64), .ptr 81 KD1 [], .ptr 65 KD4 [], .ptr 3 (.int .i64) []], [.val .bool], fun x => F60 k x.1 x.2.1 x.2.2.1 x.2.2.2.1⟩
def lim60 : Lim := ⟨11, 4, false, false, [], []⟩
def cfg60 (k : Nat) : Nat → Option Spec := cfgL [(61, sp61 k)]
theorem cfg60_ok (k : Nat) : CfgOK Try.prog (cfg60 k) := cfgL_cons (v61 k) (cfgL_nil)
def pl60 (k : Nat) : Plan := .go
theorem pq60 (k : Nat) : PlanOK Try.prog lim60 (pl60 k) (codeAt (bodyOf Try.f60) []) = PlanOK Try.prog lim60 .go (codeAt (bodyOf Try.f60) []) := by kernel_rfl
theorem ev60 (k : Nat) (x : AT (sp60 k).ps) : (sp60 k).impl x = (fnT Try.prog (cfg60 k) lim60 Try.f60 (bodyOf Try.f60) (pl60 k) (sp60 k) x).eval := by kernel_rfl
theorem eq60 (k : Nat) (x : AT (sp60 k).ps) : (fnT Try.prog (cfg60 k) lim60 Try.f60 (bodyOf Try.f60) (pl60 k) (sp60 k) x).left = (fnT Try.prog (cfg60 k) lim60 Try.f60 (bodyOf Try.f60) (pl60 k) (sp60 k) x).right := by kernel_rfl
theorem v60 (k : Nat) : Callable Try.prog 60 ∧ Valid Try.prog 60 (sp60 k) :=
  fn_ok (cfg60_ok k) (f := 60) (fn := Try.f60) (by kernel_rfl) (c := bodyOf Try.f60) (by kernel_rfl) (by kernel_rfl) rfl rfl (Nat.le_of_ble_eq_true rfl) (Nat.le_of_ble_eq_true rfl) (p := pl60 k) (Eq.mpr (pq60 k) (planOK_go _)) fun x => ⟨ev60 k x, eq60 k x⟩
/-! f36 (*hyphen/back.maker).ahead -/
def F36_0 (k : Nat) : Nat → (List Int) → Int → TY9 → Int → Int → Int → Int → TY7 → Int → TY12 → (List Int) → Option TY0
  | 0, _, _, _, _, _, _, _, _, _, _, _ => none
  | n + 1, t1, t8, t21, t22, t23, t30, t31, c3, c5, c10, c17 =>
    bif (decide (t31 < t30)) then
      if 0 ≤ t31 ∧ t31 < ((List.length c10.2.2.1 : Nat) : Int) then
        let x7 := (List.getD c10.2.2.1 (Int.toNat t31) (0 : Int))
        bif (decide (x7 < (1152921504606846976 : Int))) then
          (F60 k t31 c3 c10 c5).bind fun r8 =>
          bif r8.1.1 then
            if 0 ≤ (IntKind.wrap .i64 (t8 + t31)) ∧ (IntKind.wrap .i64 (t8 + t31)) < ((List.length c17 : Nat) : Int) then
              let x9 := (Int.toNat (IntKind.wrap .i64 (t8 + t31)))
              (F36_0 k n t1 t8 t21 t22 t23 t30 (IntKind.wrap .i64 (t31 + (1 : Int))) r8.2.1 r8.2.2.2.1 r8.2.2.1 (List.set c17 x9 (1 : Int))).bind some
            else none
          else
            (F36_0 k n t1 t8 t21 t22 t23 t30 (IntKind.wrap .i64 (t31 + (1 : Int))) r8.2.1 r8.2.2.2.1 r8.2.2.1 c17).bind some
        else
          (F36_0 k n t1 t8 t21 t22 t23 t30 (IntKind.wrap .i64 (t31 + (1 : Int))) c3 c5 c10 c17).bind some
      else none
    else
      some ((t1, t8, t21, t22, t23, ()), (c3, c5, c10, c17, ()))
def fr36_0 (k : Nat) : Frag := ⟨⟨[], [(1, .val KD22), (3, .ptr 3 []), (5, .ptr 5 []), (7, .at 17 []), (8, .val (.int .i64)), (10, .ptr 10 []), (11, .clo 60 [3, 10, 5]), (21, .val KD3), (22, .val (.int .i64)), (23, .val (.int .i64)), (30, .val (.int .i64)), (31, .val (.int .i64))], [(3, some 81, KD1), (5, some 3, (.int .i64)), (10, some 65, KD4), (17, none, KD24)]⟩, [(.exit 2, ⟨[], [(1, .val KD22), (3, .ptr 3 []), (5, .ptr 5 []), (7, .at 17 []), (8, .val (.int .i64)), (10, .ptr 10 []), (11, .clo 60 [3, 10, 5]), (21, .val KD3), (22, .val (.int .i64)), (23, .val (.int .i64))], [(3, some 81, KD1), (5, some 3, (.int .i64)), (10, some 65, KD4), (17, none, KD24)]⟩)], fun v => F36_0 k k v.1.1 v.1.2.1 v.1.2.2.1 v.1.2.2.2.1 v.1.2.2.2.2.1 v.1.2.2.2.2.2.1 v.1.2.2.2.2.2.2.1 v.2.1 v.2.2.1 v.2.2.2.1 v.2.2.2.2.1⟩
def F36_1 (k : Nat) : Nat → (List Int) → Int → TY9 → Int → Int → TY18 → Int → Int → TY7 → Int → TY12 → (List Int) → Option TY0
  | 0, _, _, _, _, _, _, _, _, _, _, _, _ => none
  | n + 1, t1, t8, t21, t22, t23, t52, t53, t54, c3, c5, c10, c17 =>
    bif (decide (t54 < t53)) then
      if 0 ≤ t54 ∧ t54 < ((List.length t52 : Nat) : Int) then
        let x24 := (List.getD t52 (Int.toNat t54) ((0 : Int), ((0 : Int), ((0 : Int), ()))))
        if 0 ≤ (IntKind.wrap .i64 (t8 + x24.2.1)) ∧ (IntKind.wrap .i64 (t8 + x24.2.1)) < ((List.length t1 : Nat) : Int) then
          let x25 := (List.getD t1 (Int.toNat (IntKind.wrap .i64 (t8 + x24.2.1))) (0 : Int))
          bif (x25 == (1 : Int)) then
            (F60 k x24.1 c3 c10 c5).bind fun r26 =>
            bif r26.1.1 then
              if 0 ≤ (IntKind.wrap .i64 (t8 + x24.1)) ∧ (IntKind.wrap .i64 (t8 + x24.1)) < ((List.length c17 : Nat) : Int) then
                let x27 := (Int.toNat (IntKind.wrap .i64 (t8 + x24.1)))
                (F36_1 k n t1 t8 t21 t22 t23 t52 t53 (IntKind.wrap .i64 (t54 + (1 : Int))) r26.2.1 r26.2.2.2.1 r26.2.2.1 (List.set c17 x27 (1 : Int))).bind some
              else none
            else
              (F36_1 k n t1 t8 t21 t22 t23 t52 t53 (IntKind.wrap .i64 (t54 + (1 : Int))) r26.2.1 r26.2.2.2.1 r26.2.2.1 c17).bind some
          else
            (F36_1 k n t1 t8 t21 t22 t23 t52 t53 (IntKind.wrap .i64 (t54 + (1 : Int))) c3 c5 c10 c17).bind some
        else none
      else none
    else
      some ((t1, t8, t21, t22, t23, ()), (c3, c5, c10, c17, ()))
def fr36_1 (k : Nat) : Frag := ⟨⟨[], [(1, .val KD22), (3, .ptr 3 []), (5, .ptr 5 []), (7, .at 17 []), (8, .val (.int .i64)), (10, .ptr 10 []), (11, .clo 60 [3, 10, 5]), (21, .val KD3), (22, .val (.int .i64)), (23, .val (.int .i64)), (52, .val (.sl false 67 (.pair (.int .i64) (.pair (.int .i64) (.pair (.int .i64) .unit))) none)), (53, .val (.int .i64)), (54, .val (.int .i64))], [(3, some 81, KD1), (5, some 3, (.int .i64)), (10, some 65, KD4), (17, none, KD24)]⟩, [(.exit 4, ⟨[], [(1, .val KD22), (3, .ptr 3 []), (5, .ptr 5 []), (7, .at 17 []), (8, .val (.int .i64)), (10, .ptr 10 []), (21, .val KD3), (22, .val (.int .i64)), (23, .val (.int .i64))], [(3, some 81, KD1), (5, some 3, (.int .i64)), (10, some 65, KD4), (17, none, KD24)]⟩)], fun v => F36_1 k k v.1.1 v.1.2.1 v.1.2.2.1 v.1.2.2.2.1 v.1.2.2.2.2.1 v.1.2.2.2.2.2.1 v.1.2.2.2.2.2.2.1 v.1.2.2.2.2.2.2.2.1 v.2.1 v.2.2.1 v.2.2.2.1 v.2.2.2.2.1⟩
def F36_2 (k : Nat) : Nat → (List Int) → Int → TY9 → Int → Int → TY7 → Int → (List Int) → Option ((Unit × TY27))
  | 0, _, _, _, _, _, _, _, _ => none
  | n + 1, t1, t8, t21, t22, t23, c3, c5, c17 =>
    bif (decide (t23 < t22)) then
      if 0 ≤ t23 ∧ t23 < ((List.length t21 : Nat) : Int) then
        let x39 := (List.getD t21 (Int.toNat t23) (([] : (List Int)), (([] : (List Int)), (([] : (List Int)), (([] : TY18), ((0 : Int), ()))))))
        (F36_0 k k t1 t8 t21 t22 t23 ((List.length x39.1 : Nat) : Int) (0 : Int) c3 c5 x39 c17).bind fun r40 =>
        let y41 := r40.1.1
        let y42 := r40.1.2.1
        let y43 := r40.1.2.2.1
        let y44 := r40.1.2.2.2.1
        let y45 := r40.1.2.2.2.2.1
        let y46 := r40.2.1
        let y47 := r40.2.2.1
        let y48 := r40.2.2.2.1
        let y49 := r40.2.2.2.2.1
        (F36_1 k k y41 y42 y43 y44 y45 y48.2.2.2.1 ((List.length y48.2.2.2.1 : Nat) : Int) (0 : Int) y46 y47 y48 y49).bind fun r50 =>
        let y51 := r50.1.1
        let y52 := r50.1.2.1
        let y53 := r50.1.2.2.1
        let y54 := r50.1.2.2.2.1
        let y55 := r50.1.2.2.2.2.1
        let y56 := r50.2.1
        let y57 := r50.2.2.1
        let y58 := r50.2.2.2.1
        let y59 := r50.2.2.2.2.1
        let x60 := (IntKind.wrap .i64 (y52 + ((List.length y58.1 : Nat) : Int)))
        (F36_2 k n y51 x60 y53 y54 (IntKind.wrap .i64 (y55 + (1 : Int))) y56 y57 y59).bind some
      else none
    else
      some ((), (c17, ()))
def fr36_2 (k : Nat) : Frag := ⟨⟨[], [(1, .val KD22), (3, .ptr 3 []), (5, .ptr 5 []), (7, .at 17 []), (8, .val (.int .i64)), (21, .val KD3), (22, .val (.int .i64)), (23, .val (.int .i64))], [(3, some 81, KD1), (5, some 3, (.int .i64)), (17, none, KD24)]⟩, [(.exit 0, ⟨[], [(7, .at 17 [])], [(17, none, KD24)]⟩)], fun v => F36_2 k k v.1.1 v.1.2.1 v.1.2.2.1 v.1.2.2.2.1 v.1.2.2.2.2.1 v.2.1 v.2.2.1 v.2.2.2.1⟩
def F36 (k : Nat) (a0 : TY7) (a1 : (List Int)) (a2 : Int) : Option (TY27 × Unit) :=
  if (0 ≤ ((List.length a1 : Nat) : Int) ∧ ((List.length a1 : Nat) : Int) < ((List.length a1 : Nat) : Int) + 1) ∧ ((List.length a1 : Nat) : Int) ≤ 9223372036854775807 ∧ ((1 : Nat) : Int) * ((List.length a1 : Nat) : Int) ≤ 281474976710656 then
    let x1 := (List.replicate (Int.toNat ((List.length a1 : Nat) : Int)) (0 : Int))
    if (Option.isSome a0) = true then
      if (Option.isSome a0) = true then
        let x2 := (Option.getD a0 (((none : TY19), ()), (([] : TY9), (([] : (List (List Bool))), (([] : (List (List Int))), ()))))).2.1
        (F36_2 k k a1 (0 : Int) x2 ((List.length x2 : Nat) : Int) (0 : Int) a0 a2 x1).bind fun r61 =>
        let y62 := r61.2.1
        some ((y62, ()), ())
      else none
    else none
  else none
def sp36 (k : Nat) : Spec := ⟨[.val KD1, .val KD22, .val (.int .i64)], [.own KD24], fun x => F36 k x.1 x.2.1 x.2.2.1⟩
def lim36 : Lim := ⟨86, 3, false, false, [], []⟩
def cfg36 (k : Nat) : Nat → Option Spec := cfgL [(60, sp60 k)]
theorem cfg36_ok (k : Nat) : CfgOK Try.prog (cfg36 k) := cfgL_cons (v60 k) (cfgL_nil)
def pl36_0 (k : Nat) : Plan := .go
theorem pq36_0 (k : Nat) : PlanOK Try.prog lim36 (pl36_0 k) (codeAt (bodyOf Try.f36) [.r, .r, .r, .l, .r, .s, .b, .r, .r, .l, .s, .r, .r, .l, .r, .s, .b]) = PlanOK Try.prog lim36 .go (codeAt (bodyOf Try.f36) [.r, .r, .r, .l, .r, .s, .b, .r, .r, .l, .s, .r, .r, .l, .r, .s, .b]) := by kernel_rfl
theorem ps36_0 (k m : Nat) (v : (fr36_0 k).sh.V) : F36_0 k (m + 1) v.1.1 v.1.2.1 v.1.2.2.1 v.1.2.2.2.1 v.1.2.2.2.2.1 v.1.2.2.2.2.2.1 v.1.2.2.2.2.2.2.1 v.2.1 v.2.2.1 v.2.2.2.1 v.2.2.2.2.1 = (body Try.prog (stepper Try.prog (cfg36 k) lim36) (pl36_0 k) (codeAt (bodyOf Try.f36) [.r, .r, .r, .l, .r, .s, .b, .r, .r, .l, .s, .r, .r, .l, .r, .s, .b]) ((fr36_0 k).sh.st v) (loopK (fr36_0 k) fun v => F36_0 k m v.1.1 v.1.2.1 v.1.2.2.1 v.1.2.2.2.1 v.1.2.2.2.2.1 v.1.2.2.2.2.2.1 v.1.2.2.2.2.2.2.1 v.2.1 v.2.2.1 v.2.2.2.1 v.2.2.2.2.1)).eval := by kernel_rfl
theorem pe36_0 (k m : Nat) (v : (fr36_0 k).sh.V) : (body Try.prog (stepper Try.prog (cfg36 k) lim36) (pl36_0 k) (codeAt (bodyOf Try.f36) [.r, .r, .r, .l, .r, .s, .b, .r, .r, .l, .s, .r, .r, .l, .r, .s, .b]) ((fr36_0 k).sh.st v) (loopK (fr36_0 k) fun v => F36_0 k m v.1.1 v.1.2.1 v.1.2.2.1 v.1.2.2.2.1 v.1.2.2.2.2.1 v.1.2.2.2.2.2.1 v.1.2.2.2.2.2.2.1 v.2.1 v.2.2.1 v.2.2.2.1 v.2.2.2.2.1)).left = (body Try.prog (stepper Try.prog (cfg36 k) lim36) (pl36_0 k) (codeAt (bodyOf Try.f36) [.r, .r, .r, .l, .r, .s, .b, .r, .r, .l, .s, .r, .r, .l, .r, .s, .b]) ((fr36_0 k).sh.st v) (loopK (fr36_0 k) fun v => F36_0 k m v.1.1 v.1.2.1 v.1.2.2.1 v.1.2.2.2.1 v.1.2.2.2.2.1 v.1.2.2.2.2.2.1 v.1.2.2.2.2.2.2.1 v.2.1 v.2.2.1 v.2.2.2.1 v.2.2.2.2.1)).right := by kernel_rfl
theorem fr36_0_ok (k : Nat) : FragOK Try.prog lim36 (fr36_0 k) (codeAt (bodyOf Try.f36) [.r, .r, .r, .l, .r, .s, .b, .r, .r, .l, .s, .r, .r, .l, .r, .s]) :=
  frag_cast (by kernel_rfl) (loop_ok (cfg36_ok k) (Eq.mpr (pq36_0 k) (planOK_go _)) (fun m v => F36_0 k m v.1.1 v.1.2.1 v.1.2.2.1 v.1.2.2.2.1 v.1.2.2.2.2.1 v.1.2.2.2.2.2.1 v.1.2.2.2.2.2.2.1 v.2.1 v.2.2.1 v.2.2.2.1 v.2.2.2.2.1) k (fun _ => rfl) (fun _ => rfl) fun m v => ⟨ps36_0 k m v, pe36_0 k m v⟩)
def pl36_1 (k : Nat) : Plan := .go
theorem pq36_1 (k : Nat) : PlanOK Try.prog lim36 (pl36_1 k) (codeAt (bodyOf Try.f36) [.r, .r, .r, .l, .r, .s, .b, .r, .r, .l, .s, .r, .r, .r, .l, .r, .s, .b]) = PlanOK Try.prog lim36 .go (codeAt (bodyOf Try.f36) [.r, .r, .r, .l, .r, .s, .b, .r, .r, .l, .s, .r, .r, .r, .l, .r, .s, .b]) := by kernel_rfl
theorem ps36_1 (k m : Nat) (v : (fr36_1 k).sh.V) : F36_1 k (m + 1) v.1.1 v.1.2.1 v.1.2.2.1 v.1.2.2.2.1 v.1.2.2.2.2.1 v.1.2.2.2.2.2.1 v.1.2.2.2.2.2.2.1 v.1.2.2.2.2.2.2.2.1 v.2.1 v.2.2.1 v.2.2.2.1 v.2.2.2.2.1 = (body Try.prog (stepper Try.prog (cfg36 k) lim36) (pl36_1 k) (codeAt (bodyOf Try.f36) [.r, .r, .r, .l, .r, .s, .b, .r, .r, .l, .s, .r, .r, .r, .l, .r, .s, .b]) ((fr36_1 k).sh.st v) (loopK (fr36_1 k) fun v => F36_1 k m v.1.1 v.1.2.1 v.1.2.2.1 v.1.2.2.2.1 v.1.2.2.2.2.1 v.1.2.2.2.2.2.1 v.1.2.2.2.2.2.2.1 v.1.2.2.2.2.2.2.2.1 v.2.1 v.2.2.1 v.2.2.2.1 v.2.2.2.2.1)).eval := by kernel_rfl
theorem pe36_1 (k m : Nat) (v : (fr36_1 k).sh.V) : (body Try.prog (stepper Try.prog (cfg36 k) lim36) (pl36_1 k) (codeAt (bodyOf Try.f36) [.r, .r, .r, .l, .r, .s, .b, .r, .r, .l, .s, .r, .r, .r, .l, .r, .s, .b]) ((fr36_1 k).sh.st v) (loopK (fr36_1 k) fun v => F36_1 k m v.1.1 v.1.2.1 v.1.2.2.1 v.1.2.2.2.1 v.1.2.2.2.2.1 v.1.2.2.2.2.2.1 v.1.2.2.2.2.2.2.1 v.1.2.2.2.2.2.2.2.1 v.2.1 v.2.2.1 v.2.2.2.1 v.2.2.2.2.1)).left = (body Try.prog (stepper Try.prog (cfg36 k) lim36) (pl36_1 k) (codeAt (bodyOf Try.f36) [.r, .r, .r, .l, .r, .s, .b, .r, .r, .l, .s, .r, .r, .r, .l, .r, .s, .b]) ((fr36_1 k).sh.st v) (loopK (fr36_1 k) fun v => F36_1 k m v.1.1 v.1.2.1 v.1.2.2.1 v.1.2.2.2.1 v.1.2.2.2.2.1 v.1.2.2.2.2.2.1 v.1.2.2.2.2.2.2.1 v.1.2.2.2.2.2.2.2.1 v.2.1 v.2.2.1 v.2.2.2.1 v.2.2.2.2.1)).right := by kernel_rfl
theorem fr36_1_ok (k : Nat) : FragOK Try.prog lim36 (fr36_1 k) (codeAt (bodyOf Try.f36) [.r, .r, .r, .l, .r, .s, .b, .r, .r, .l, .s, .r, .r, .r, .l, .r, .s]) :=
  frag_cast (by kernel_rfl) (loop_ok (cfg36_ok k) (Eq.mpr (pq36_1 k) (planOK_go _)) (fun m v => F36_1 k m v.1.1 v.1.2.1 v.1.2.2.1 v.1.2.2.2.1 v.1.2.2.2.2.1 v.1.2.2.2.2.2.1 v.1.2.2.2.2.2.2.1 v.1.2.2.2.2.2.2.2.1 v.2.1 v.2.2.1 v.2.2.2.1 v.2.2.2.2.1) k (fun _ => rfl) (fun _ => rfl) fun m v => ⟨ps36_1 k m v, pe36_1 k m v⟩)
def pl36_2 (k : Nat) : Plan := (.seq .go (.seq .go (.seq (.sub (.seq .go (.seq .go (.seq (.seq .go (.sub (.frag (fr36_0 k)))) (.seq (.seq .go (.sub (.frag (fr36_1 k)))) .go))))) .go)))
theorem pq36_2 (k : Nat) : PlanOK Try.prog lim36 (pl36_2 k) (codeAt (bodyOf Try.f36) [.r, .r, .r, .l, .r, .s, .b]) = (PlanOK Try.prog lim36 .go (codeAt (bodyOf Try.f36) [.r, .r, .r, .l, .r, .s, .b, .l]) ∧ (PlanOK Try.prog lim36 .go (codeAt (bodyOf Try.f36) [.r, .r, .r, .l, .r, .s, .b, .r, .l]) ∧ ((PlanOK Try.prog lim36 .go (codeAt (bodyOf Try.f36) [.r, .r, .r, .l, .r, .s, .b, .r, .r, .l, .s, .l]) ∧ (PlanOK Try.prog lim36 .go (codeAt (bodyOf Try.f36) [.r, .r, .r, .l, .r, .s, .b, .r, .r, .l, .s, .r, .l]) ∧ ((PlanOK Try.prog lim36 .go (codeAt (bodyOf Try.f36) [.r, .r, .r, .l, .r, .s, .b, .r, .r, .l, .s, .r, .r, .l, .l]) ∧ FragOK Try.prog lim36 (fr36_0 k) (codeAt (bodyOf Try.f36) [.r, .r, .r, .l, .r, .s, .b, .r, .r, .l, .s, .r, .r, .l, .r, .s])) ∧ ((PlanOK Try.prog lim36 .go (codeAt (bodyOf Try.f36) [.r, .r, .r, .l, .r, .s, .b, .r, .r, .l, .s, .r, .r, .r, .l, .l]) ∧ FragOK Try.prog lim36 (fr36_1 k) (codeAt (bodyOf Try.f36) [.r, .r, .r, .l, .r, .s, .b, .r, .r, .l, .s, .r, .r, .r, .l, .r, .s])) ∧ PlanOK Try.prog lim36 .go (codeAt (bodyOf Try.f36) [.r, .r, .r, .l, .r, .s, .b, .r, .r, .l, .s, .r, .r, .r, .r]))))) ∧ PlanOK Try.prog lim36 .go (codeAt (bodyOf Try.f36) [.r, .r, .r, .l, .r, .s, .b, .r, .r, .r])))) := by kernel_rfl
theorem ps36_2 (k m : Nat) (v : (fr36_2 k).sh.V) : F36_2 k (m + 1) v.1.1 v.1.2.1 v.1.2.2.1 v.1.2.2.2.1 v.1.2.2.2.2.1 v.2.1 v.2.2.1 v.2.2.2.1 = (body Try.prog (stepper Try.prog (cfg36 k) lim36) (pl36_2 k) (codeAt (bodyOf Try.f36) [.r, .r, .r, .l, .r, .s, .b]) ((fr36_2 k).sh.st v) (loopK (fr36_2 k) fun v => F36_2 k m v.1.1 v.1.2.1 v.1.2.2.1 v.1.2.2.2.1 v.1.2.2.2.2.1 v.2.1 v.2.2.1 v.2.2.2.1)).eval := by kernel_rfl
theorem pe36_2 (k m : Nat) (v : (fr36_2 k).sh.V) : (body Try.prog (stepper Try.prog (cfg36 k) lim36) (pl36_2 k) (codeAt (bodyOf Try.f36) [.r, .r, .r, .l, .r, .s, .b]) ((fr36_2 k).sh.st v) (loopK (fr36_2 k) fun v => F36_2 k m v.1.1 v.1.2.1 v.1.2.2.1 v.1.2.2.2.1 v.1.2.2.2.2.1 v.2.1 v.2.2.1 v.2.2.2.1)).left = (body Try.prog (stepper Try.prog (cfg36 k) lim36) (pl36_2 k) (codeAt (bodyOf Try.f36) [.r, .r, .r, .l, .r, .s, .b]) ((fr36_2 k).sh.st v) (loopK (fr36_2 k) fun v => F36_2 k m v.1.1 v.1.2.1 v.1.2.2.1 v.1.2.2.2.1 v.1.2.2.2.2.1 v.2.1 v.2.2.1 v.2.2.2.1)).right := by kernel_rfl
theorem fr36_2_ok (k : Nat) : FragOK Try.prog lim36 (fr36_2 k) (codeAt (bodyOf Try.f36) [.r, .r, .r, .l, .r, .s]) :=
  frag_cast (by kernel_rfl) (loop_ok (cfg36_ok k) (Eq.mpr (pq36_2 k) ⟨(planOK_go _), ⟨(planOK_go _), ⟨⟨(planOK_go _), ⟨(planOK_go _), ⟨⟨(planOK_go _), (fr36_0_ok k)⟩, ⟨⟨(planOK_go _), (fr36_1_ok k)⟩, (planOK_go _)⟩⟩⟩⟩, (planOK_go _)⟩⟩⟩) (fun m v => F36_2 k m v.1.1 v.1.2.1 v.1.2.2.1 v.1.2.2.2.1 v.1.2.2.2.2.1 v.2.1 v.2.2.1 v.2.2.2.1) k (fun _ => rfl) (fun _ => rfl) fun m v => ⟨ps36_2 k m v, pe36_2 k m v⟩)
def pl36 (k : Nat) : Plan := (.seq .go (.seq .go (.seq .go (.seq (.seq .go (.sub (.frag (fr36_2 k)))) .go))))
theorem pq36 (k : Nat) : PlanOK Try.prog lim36 (pl36 k) (codeAt (bodyOf Try.f36) []) = (PlanOK Try.prog lim36 .go (codeAt (bodyOf Try.f36) [.l]) ∧ (PlanOK Try.prog lim36 .go (codeAt (bodyOf Try.f36) [.r, .l]) ∧ (PlanOK Try.prog lim36 .go (codeAt (bodyOf Try.f36) [.r, .r, .l]) ∧ ((PlanOK Try.prog lim36 .go (codeAt (bodyOf Try.f36) [.r, .r, .r, .l, .l]) ∧ FragOK Try.prog lim36 (fr36_2 k) (codeAt (bodyOf Try.f36) [.r, .r, .r, .l, .r, .s])) ∧ PlanOK Try.prog lim36 .go (codeAt (bodyOf Try.f36) [.r, .r, .r, .r]))))) := by kernel_rfl
theorem ev36 (k : Nat) (x : AT (sp36 k).ps) : (sp36 k).impl x = (fnT Try.prog (cfg36 k) lim36 Try.f36 (bodyOf Try.f36) (pl36 k) (sp36 k) x).eval := by kernel_rfl
theorem eq36 (k : Nat) (x : AT (sp36 k).ps) : (fnT Try.prog (cfg36 k) lim36 Try.f36 (bodyOf Try.f36) (pl36 k) (sp36 k) x).left = (fnT Try.prog (cfg36 k) lim36 Try.f36 (bodyOf Try.f36) (pl36 k) (sp36 k) x).right := by kernel_rfl
theorem v36 (k : Nat) : Callable Try.prog 36 ∧ Valid Try.prog 36 (sp36 k) :=
  fn_ok (cfg36_ok k) (f := 36) (fn := Try.f36) (by kernel_rfl) (c := bodyOf Try.f36) (by kernel_rfl) (by kernel_rfl) rfl rfl (Nat.le_of_ble_eq_true rfl) (Nat.le_of_ble_eq_true rfl) (p := pl36 k) (Eq.mpr (pq36 k) ⟨(planOK_go _), ⟨(planOK_go _), ⟨(planOK_go _), ⟨⟨(planOK_go _), (fr36_2_ok k)⟩, (planOK_go _)⟩⟩⟩⟩) fun x => ⟨ev36 k x, eq36 k x⟩
/-! f62 slices.Clone[[]bool,bool] -/
def F62 (k : Nat) (a0 : (List Bool)) : Option (((List Bool) × Unit) × Unit) :=
  bif (((List.length a0 : Nat) : Int) == 0) then
    some (([], ()), ())
  else
    if (List.length (List.replicate 0 false) + List.length a0) * (1 * 2) ≤ 281474976710656 ∧ List.length (List.replicate 0 false) + List.length a0 ≤ 9223372036854775807 then
      some ((((List.replicate 0 false) ++ a0), ()), ())
    else none
def sp62 (k : Nat) : Spec := ⟨[.val (.sl false 4 .bool none)], [.own KD26], fun x => F62 k x.1⟩
def lim62 : Lim := ⟨8, 1, true, false, [], []⟩
def cfg62 (k : Nat) : Nat → Option Spec := cfgL []
theorem cfg62_ok (k : Nat) : CfgOK Try.prog (cfg62 k) := cfgL_nil
def pl62 (k : Nat) : Plan := .go
theorem pq62 (k : Nat) : PlanOK Try.prog lim62 (pl62 k) (codeAt (bodyOf Try.f62) []) = PlanOK Try.prog lim62 .go (codeAt (bodyOf Try.f62) []) := by kernel_rfl
theorem ev62 (k : Nat) (x : AT (sp62 k).ps) : (sp62 k).impl x = (fnT Try.prog (cfg62 k) lim62 Try.f62 (bodyOf Try.f62) (pl62 k) (sp62 k) x).eval := by kernel_rfl
theorem tr62 (k : Nat) (x : AT (sp62 k).ps) : (fnT Try.prog (cfg62 k) lim62 Try.f62 (bodyOf Try.f62) (pl62 k) (sp62 k) x) = (Tr.split (((List.length x.1 : Nat) : Int) == 0) (.both (.split true (.leaf (([], ()), ())) (.need ((List.length (List.replicate 0 false) + List.length x.1) * (1 * 2) ≤ 281474976710656 ∧ List.length (List.replicate 0 false) + List.length x.1 ≤ 9223372036854775807) (.leaf (([] ++ x.1, ()), ())))) (.split false (.leaf (([], ()), ())) (.need ((List.length (List.replicate 0 false) + List.length x.1) * (1 * 2) ≤ 281474976710656 ∧ List.length (List.replicate 0 false) + List.length x.1 ≤ 9223372036854775807) (.leaf (([] ++ x.1, ()), ()))))) (.split false (.leaf (([], ()), ())) (.need ((List.length (List.replicate 0 false) + List.length x.1) * (1 * 2) ≤ 281474976710656 ∧ List.length (List.replicate 0 false) + List.length x.1 ≤ 9223372036854775807) (.leaf (([] ++ x.1, ()), ()))))) := by kernel_rfl
theorem sa62 (k : Nat) (x : AT (sp62 k).ps) (r) (h : (sp62 k).impl x = some r) : (fnT Try.prog (cfg62 k) lim62 Try.f62 (bodyOf Try.f62) (pl62 k) (sp62 k) x).sat (· = r) := sat_of_eq (tr62 k x) (clone_sat (a := x.1) (p := (List.length (List.replicate 0 false) + List.length x.1) * (1 * 2) ≤ 281474976710656 ∧ List.length (List.replicate 0 false) + List.length x.1 ≤ 9223372036854775807) (fun e => by rw [e]; simp) h)
theorem v62 (k : Nat) : Callable Try.prog 62 ∧ Valid Try.prog 62 (sp62 k) :=
  fn_sat (cfg62_ok k) (f := 62) (fn := Try.f62) (by kernel_rfl) (c := bodyOf Try.f62) (by kernel_rfl) (by kernel_rfl) rfl rfl (Nat.le_of_ble_eq_true rfl) (Nat.le_of_ble_eq_true rfl) (p := pl62 k) (Eq.mpr (pq62 k) (planOK_go _)) fun x r h => sa62 k x r h
/-! f37 (*hyphen/back.maker).holds -/
def F37_0 (k : Nat) : Nat → (List Int) → Int → Bool → TY9 → Int → Int → (List Int) → Int → Int → TY12 → (List Bool) → Option ((((List Int) × Int × Bool × TY9 × Int × Int × Unit) × (TY12 × (List Bool) × Unit)))
  | 0, _, _, _, _, _, _, _, _, _, _, _ => none
  | n + 1, t1, t6, t9, t15, t16, t17, t25, t26, t27, c8, c2000005 =>
    bif (decide (t27 < t26)) then
      if 0 ≤ t27 ∧ t27 < ((List.length t25 : Nat) : Int) then
        bif t9 then
          (F37_0 k n t1 t6 true t15 t16 t17 t25 t26 (IntKind.wrap .i64 (t27 + (1 : Int))) c8 c2000005).bind some
        else
          let x4 := (decide ((List.getD t25 (Int.toNat t27) (0 : Int)) < (1152921504606846976 : Int)))
          bif x4 then
            if 0 ≤ (IntKind.wrap .i64 (t6 + t27)) ∧ (IntKind.wrap .i64 (t6 + t27)) < ((List.length t1 : Nat) : Int) then
              let x5 := (List.getD t1 (Int.toNat (IntKind.wrap .i64 (t6 + t27))) (0 : Int))
              (F37_0 k n t1 t6 (x5 == (1 : Int)) t15 t16 t17 t25 t26 (IntKind.wrap .i64 (t27 + (1 : Int))) c8 c2000005).bind some
            else none
          else
            (F37_0 k n t1 t6 false t15 t16 t17 t25 t26 (IntKind.wrap .i64 (t27 + (1 : Int))) c8 c2000005).bind some
      else none
    else
      some ((t1, t6, t9, t15, t16, t17, ()), (c8, c2000005, ()))
def fr37_0 (k : Nat) : Frag := ⟨⟨[(5, KD26)], [(1, .val KD22), (5, .at 2000005 []), (6, .val (.int .i64)), (8, .ptr 8 []), (9, .val .bool), (15, .val KD3), (16, .val (.int .i64)), (17, .val (.int .i64)), (25, .val KD21), (26, .val (.int .i64)), (27, .val (.int .i64))], [(8, some 65, KD4), (2000005, none, KD26)]⟩, [(.exit 2, ⟨[], [(1, .val KD22), (5, .at 2000005 []), (6, .val (.int .i64)), (8, .ptr 8 []), (9, .val .bool), (15, .val KD3), (16, .val (.int .i64)), (17, .val (.int .i64))], [(8, some 65, KD4), (2000005, none, KD26)]⟩)], fun v => F37_0 k k v.1.1 v.1.2.1 v.1.2.2.1 v.1.2.2.2.1 v.1.2.2.2.2.1 v.1.2.2.2.2.2.1 v.1.2.2.2.2.2.2.1 v.1.2.2.2.2.2.2.2.1 v.1.2.2.2.2.2.2.2.2.1 v.2.1 v.2.2.1⟩
def F37_1 (k : Nat) : Nat → (List Int) → Int → TY9 → Int → Int → (List Bool) → Option ((Unit × ((List Bool) × Unit)))
  | 0, _, _, _, _, _, _ => none
  | n + 1, t1, t6, t15, t16, t17, c2000005 =>
    bif (decide (t17 < t16)) then
      if 0 ≤ t17 ∧ t17 < ((List.length t15 : Nat) : Int) then
        let x2 := (List.getD t15 (Int.toNat t17) (([] : (List Int)), (([] : (List Int)), (([] : (List Int)), (([] : TY18), ((0 : Int), ()))))))
        let x3 := (decide (x2.2.2.2.2.1 < (1152921504606846976 : Int)))
        (F37_0 k k t1 t6 x3 t15 t16 t17 x2.2.1 ((List.length x2.2.1 : Nat) : Int) (0 : Int) x2 c2000005).bind fun r6 =>
        let y7 := r6.1.1
        let y8 := r6.1.2.1
        let y9 := r6.1.2.2.1
        let y10 := r6.1.2.2.2.1
        let y11 := r6.1.2.2.2.2.1
        let y12 := r6.1.2.2.2.2.2.1
        let y13 := r6.2.1
        let y14 := r6.2.2.1
        if (List.length y14 + List.length (List.set (List.replicate 1 false) 0 y9)) * (1 * 2) ≤ 281474976710656 ∧ List.length y14 + List.length (List.set (List.replicate 1 false) 0 y9) ≤ 9223372036854775807 then
          let x15 := (y14 ++ (List.set (List.replicate 1 false) 0 y9))
          let x16 := (IntKind.wrap .i64 (y8 + ((List.length y13.1 : Nat) : Int)))
          (F37_1 k n y7 x16 y10 y11 (IntKind.wrap .i64 (y12 + (1 : Int))) x15).bind some
        else none
      else none
    else
      some ((), (c2000005, ()))
def fr37_1 (k : Nat) : Frag := ⟨⟨[(5, KD26)], [(1, .val KD22), (5, .at 2000005 []), (6, .val (.int .i64)), (15, .val KD3), (16, .val (.int .i64)), (17, .val (.int .i64))], [(2000005, none, KD26)]⟩, [(.exit 0, ⟨[(5, KD26)], [(5, .at 2000005 [])], [(2000005, none, KD26)]⟩)], fun v => F37_1 k k v.1.1 v.1.2.1 v.1.2.2.1 v.1.2.2.2.1 v.1.2.2.2.2.1 v.2.1⟩
def F37 (k : Nat) (a0 : TY7) (a1 : (List Int)) : Option (((List Bool) × Unit) × Unit) :=
  if (Option.isSome a0) = true then
    if (Option.isSome a0) = true then
      let x1 := (Option.getD a0 (((none : TY19), ()), (([] : TY9), (([] : (List (List Bool))), (([] : (List (List Int))), ()))))).2.1
      (F37_1 k k a1 (0 : Int) x1 ((List.length x1 : Nat) : Int) (0 : Int) []).bind fun r17 =>
      let y18 := r17.2.1
      (F62 k y18).bind fun r19 =>
      some ((r19.1.1, ()), ())
    else none
  else none
def sp37 (k : Nat) : Spec := ⟨[.val KD1, .val KD22], [.own KD26], fun x => F37 k x.1 x.2.1⟩
def lim37 : Lim := ⟨59, 2, false, false, [], []⟩
def cfg37 (k : Nat) : Nat → Option Spec := cfgL [(62, sp62 k)]
theorem cfg37_ok (k : Nat) : CfgOK Try.prog (cfg37 k) := cfgL_cons (v62 k) (cfgL_nil)
def pl37_0 (k : Nat) : Plan := .go
theorem pq37_0 (k : Nat) : PlanOK Try.prog lim37 (pl37_0 k) (codeAt (bodyOf Try.f37) [.r, .r, .r, .l, .r, .s, .b, .r, .r, .l, .s, .r, .r, .l, .r, .s, .b]) = PlanOK Try.prog lim37 .go (codeAt (bodyOf Try.f37) [.r, .r, .r, .l, .r, .s, .b, .r, .r, .l, .s, .r, .r, .l, .r, .s, .b]) := by kernel_rfl
theorem ps37_0 (k m : Nat) (v : (fr37_0 k).sh.V) : F37_0 k (m + 1) v.1.1 v.1.2.1 v.1.2.2.1 v.1.2.2.2.1 v.1.2.2.2.2.1 v.1.2.2.2.2.2.1 v.1.2.2.2.2.2.2.1 v.1.2.2.2.2.2.2.2.1 v.1.2.2.2.2.2.2.2.2.1 v.2.1 v.2.2.1 = (body Try.prog (stepper Try.prog (cfg37 k) lim37) (pl37_0 k) (codeAt (bodyOf Try.f37) [.r, .r, .r, .l, .r, .s, .b, .r, .r, .l, .s, .r, .r, .l, .r, .s, .b]) ((fr37_0 k).sh.st v) (loopK (fr37_0 k) fun v => F37_0 k m v.1.1 v.1.2.1 v.1.2.2.1 v.1.2.2.2.1 v.1.2.2.2.2.1 v.1.2.2.2.2.2.1 v.1.2.2.2.2.2.2.1 v.1.2.2.2.2.2.2.2.1 v.1.2.2.2.2.2.2.2.2.1 v.2.1 v.2.2.1)).eval := by kernel_rfl
theorem pe37_0 (k m : Nat) (v : (fr37_0 k).sh.V) : (body Try.prog (stepper Try.prog (cfg37 k) lim37) (pl37_0 k) (codeAt (bodyOf Try.f37) [.r, .r, .r, .l, .r, .s, .b, .r, .r, .l, .s, .r, .r, .l, .r, .s, .b]) ((fr37_0 k).sh.st v) (loopK (fr37_0 k) fun v => F37_0 k m v.1.1 v.1.2.1 v.1.2.2.1 v.1.2.2.2.1 v.1.2.2.2.2.1 v.1.2.2.2.2.2.1 v.1.2.2.2.2.2.2.1 v.1.2.2.2.2.2.2.2.1 v.1.2.2.2.2.2.2.2.2.1 v.2.1 v.2.2.1)).left = (body Try.prog (stepper Try.prog (cfg37 k) lim37) (pl37_0 k) (codeAt (bodyOf Try.f37) [.r, .r, .r, .l, .r, .s, .b, .r, .r, .l, .s, .r, .r, .l, .r, .s, .b]) ((fr37_0 k).sh.st v) (loopK (fr37_0 k) fun v => F37_0 k m v.1.1 v.1.2.1 v.1.2.2.1 v.1.2.2.2.1 v.1.2.2.2.2.1 v.1.2.2.2.2.2.1 v.1.2.2.2.2.2.2.1 v.1.2.2.2.2.2.2.2.1 v.1.2.2.2.2.2.2.2.2.1 v.2.1 v.2.2.1)).right := by kernel_rfl
theorem fr37_0_ok (k : Nat) : FragOK Try.prog lim37 (fr37_0 k) (codeAt (bodyOf Try.f37) [.r, .r, .r, .l, .r, .s, .b, .r, .r, .l, .s, .r, .r, .l, .r, .s]) :=
  frag_cast (by kernel_rfl) (loop_ok (cfg37_ok k) (Eq.mpr (pq37_0 k) (planOK_go _)) (fun m v => F37_0 k m v.1.1 v.1.2.1 v.1.2.2.1 v.1.2.2.2.1 v.1.2.2.2.2.1 v.1.2.2.2.2.2.1 v.1.2.2.2.2.2.2.1 v.1.2.2.2.2.2.2.2.1 v.1.2.2.2.2.2.2.2.2.1 v.2.1 v.2.2.1) k (fun _ => rfl) (fun _ => rfl) fun m v => ⟨ps37_0 k m v, pe37_0 k m v⟩)
def pl37_1 (k : Nat) : Plan := (.seq .go (.seq .go (.seq (.sub (.seq .go (.seq .go (.seq (.seq .go (.sub (.frag (fr37_0 k)))) .go)))) .go)))
theorem pq37_1 (k : Nat) : PlanOK Try.prog lim37 (pl37_1 k) (codeAt (bodyOf Try.f37) [.r, .r, .r, .l, .r, .s, .b]) = (PlanOK Try.prog lim37 .go (codeAt (bodyOf Try.f37) [.r, .r, .r, .l, .r, .s, .b, .l]) ∧ (PlanOK Try.prog lim37 .go (codeAt (bodyOf Try.f37) [.r, .r, .r, .l, .r, .s, .b, .r, .l]) ∧ ((PlanOK Try.prog lim37 .go (codeAt (bodyOf Try.f37) [.r, .r, .r, .l, .r, .s, .b, .r, .r, .l, .s, .l]) ∧ (PlanOK Try.prog lim37 .go (codeAt (bodyOf Try.f37) [.r, .r, .r, .l, .r, .s, .b, .r, .r, .l, .s, .r, .l]) ∧ ((PlanOK Try.prog lim37 .go (codeAt (bodyOf Try.f37) [.r, .r, .r, .l, .r, .s, .b, .r, .r, .l, .s, .r, .r, .l, .l]) ∧ FragOK Try.prog lim37 (fr37_0 k) (codeAt (bodyOf Try.f37) [.r, .r, .r, .l, .r, .s, .b, .r, .r, .l, .s, .r, .r, .l, .r, .s])) ∧ PlanOK Try.prog lim37 .go (codeAt (bodyOf Try.f37) [.r, .r, .r, .l, .r, .s, .b, .r, .r, .l, .s, .r, .r, .r])))) ∧ PlanOK Try.prog lim37 .go (codeAt (bodyOf Try.f37) [.r, .r, .r, .l, .r, .s, .b, .r, .r, .r])))) := by kernel_rfl
theorem ps37_1 (k m : Nat) (v : (fr37_1 k).sh.V) : F37_1 k (m + 1) v.1.1 v.1.2.1 v.1.2.2.1 v.1.2.2.2.1 v.1.2.2.2.2.1 v.2.1 = (body Try.prog (stepper Try.prog (cfg37 k) lim37) (pl37_1 k) (codeAt (bodyOf Try.f37) [.r, .r, .r, .l, .r, .s, .b]) ((fr37_1 k).sh.st v) (loopK (fr37_1 k) fun v => F37_1 k m v.1.1 v.1.2.1 v.1.2.2.1 v.1.2.2.2.1 v.1.2.2.2.2.1 v.2.1)).eval := by kernel_rfl
theorem pe37_1 (k m : Nat) (v : (fr37_1 k).sh.V) : (body Try.prog (stepper Try.prog (cfg37 k) lim37) (pl37_1 k) (codeAt (bodyOf Try.f37) [.r, .r, .r, .l, .r, .s, .b]) ((fr37_1 k).sh.st v) (loopK (fr37_1 k) fun v => F37_1 k m v.1.1 v.1.2.1 v.1.2.2.1 v.1.2.2.2.1 v.1.2.2.2.2.1 v.2.1)).left = (body Try.prog (stepper Try.prog (cfg37 k) lim37) (pl37_1 k) (codeAt (bodyOf Try.f37) [.r, .r, .r, .l, .r, .s, .b]) ((fr37_1 k).sh.st v) (loopK (fr37_1 k) fun v => F37_1 k m v.1.1 v.1.2.1 v.1.2.2.1 v.1.2.2.2.1 v.1.2.2.2.2.1 v.2.1)).right := by kernel_rfl
theorem fr37_1_ok (k : Nat) : FragOK Try.prog lim37 (fr37_1 k) (codeAt (bodyOf Try.f37) [.r, .r, .r, .l, .r, .s]) :=
  frag_cast (by kernel_rfl) (loop_ok (cfg37_ok k) (Eq.mpr (pq37_1 k) ⟨(planOK_go _), ⟨(planOK_go _), ⟨⟨(planOK_go _), ⟨(planOK_go _), ⟨⟨(planOK_go _), (fr37_0_ok k)⟩, (planOK_go _)⟩⟩⟩, (planOK_go _)⟩⟩⟩) (fun m v => F37_1 k m v.1.1 v.1.2.1 v.1.2.2.1 v.1.2.2.2.1 v.1.2.2.2.2.1 v.2.1) k (fun _ => rfl) (fun _ => rfl) fun m v => ⟨ps37_1 k m v, pe37_1 k m v⟩)
def pl37 (k : Nat) : Plan := (.seq .go (.seq .go (.seq .go (.seq (.seq .go (.sub (.frag (fr37_1 k)))) .go))))
theorem pq37 (k : Nat) : PlanOK Try.prog lim37 (pl37 k) (codeAt (bodyOf Try.f37) []) = (PlanOK Try.prog lim37 .go (codeAt (bodyOf Try.f37) [.l]) ∧ (PlanOK Try.prog lim37 .go (codeAt (bodyOf Try.f37) [.r, .l]) ∧ (PlanOK Try.prog lim37 .go (codeAt (bodyOf Try.f37) [.r, .r, .l]) ∧ ((PlanOK Try.prog lim37 .go (codeAt (bodyOf Try.f37) [.r, .r, .r, .l, .l]) ∧ FragOK Try.prog lim37 (fr37_1 k) (codeAt (bodyOf Try.f37) [.r, .r, .r, .l, .r, .s])) ∧ PlanOK Try.prog lim37 .go (codeAt (bodyOf Try.f37) [.r, .r, .r, .r]))))) := by kernel_rfl
theorem ev37 (k : Nat) (x : AT (sp37 k).ps) : (sp37 k).impl x = (fnT Try.prog (cfg37 k) lim37 Try.f37 (bodyOf Try.f37) (pl37 k) (sp37 k) x).eval := by kernel_rfl
theorem eq37 (k : Nat) (x : AT (sp37 k).ps) : (fnT Try.prog (cfg37 k) lim37 Try.f37 (bodyOf Try.f37) (pl37 k) (sp37 k) x).left = (fnT Try.prog (cfg37 k) lim37 Try.f37 (bodyOf Try.f37) (pl37 k) (sp37 k) x).right := by kernel_rfl
theorem v37 (k : Nat) : Callable Try.prog 37 ∧ Valid Try.prog 37 (sp37 k) :=
  fn_ok (cfg37_ok k) (f := 37) (fn := Try.f37) (by kernel_rfl) (c := bodyOf Try.f37) (by kernel_rfl) (by kernel_rfl) rfl rfl (Nat.le_of_ble_eq_true rfl) (Nat.le_of_ble_eq_true rfl) (p := pl37 k) (Eq.mpr (pq37 k) ⟨(planOK_go _), ⟨(planOK_go _), ⟨(planOK_go _), ⟨⟨(planOK_go _), (fr37_1_ok k)⟩, (planOK_go _)⟩⟩⟩⟩) fun x => ⟨ev37 k x, eq37 k x⟩
/-! f39 hyphen/back.joined -/
def F39_0 (k : Nat) : Nat → (List (List Bool)) → Int → Int → (List Bool) → Int → Int → (List Int) → Option ((((List (List Bool)) × Int × Int × Unit) × TY27))
  | 0, _, _, _, _, _, _, _ => none
  | n + 1, t8, t9, t10, t14, t15, t16, c2000003 =>
    bif (decide (t16 < t15)) then
      if 0 ≤ t16 ∧ t16 < ((List.length t14 : Nat) : Int) then
        bif (List.getD t14 (Int.toNat t16) false) then
          let x2 := (List.set (List.replicate 1 (0 : Int)) 0 (1 : Int))
          if (List.length c2000003 + List.length x2) * (1 * 2) ≤ 281474976710656 ∧ List.length c2000003 + List.length x2 ≤ 9223372036854775807 then
            (F39_0 k n t8 t9 t10 t14 t15 (IntKind.wrap .i64 (t16 + (1 : Int))) (c2000003 ++ x2)).bind some
          else none
        else
          let x3 := (List.set (List.replicate 1 (0 : Int)) 0 (0 : Int))
          if (List.length c2000003 + List.length x3) * (1 * 2) ≤ 281474976710656 ∧ List.length c2000003 + List.length x3 ≤ 9223372036854775807 then
            (F39_0 k n t8 t9 t10 t14 t15 (IntKind.wrap .i64 (t16 + (1 : Int))) (c2000003 ++ x3)).bind some
          else none
      else none
    else
      some ((t8, t9, t10, ()), (c2000003, ()))
def fr39_0 (k : Nat) : Frag := ⟨⟨[(3, KD24)], [(3, .at 2000003 []), (8, .val KD14), (9, .val (.int .i64)), (10, .val (.int .i64)), (14, .val (.sl false 4 .bool none)), (15, .val (.int .i64)), (16, .val (.int .i64))], [(2000003, none, KD24)]⟩, [(.exit 2, ⟨[(3, KD24)], [(3, .at 2000003 []), (8, .val KD14), (9, .val (.int .i64)), (10, .val (.int .i64))], [(2000003, none, KD24)]⟩)], fun v => F39_0 k k v.1.1 v.1.2.1 v.1.2.2.1 v.1.2.2.2.1 v.1.2.2.2.2.1 v.1.2.2.2.2.2.1 v.2.1⟩
def F39_1 (k : Nat) : Nat → (List (List Bool)) → Int → Int → (List Int) → Option ((Unit × TY27))
  | 0, _, _, _, _ => none
  | n + 1, t8, t9, t10, c2000003 =>
    bif (decide (t10 < t9)) then
      if 0 ≤ t10 ∧ t10 < ((List.length t8 : Nat) : Int) then
        let x1 := (List.getD t8 (Int.toNat t10) ([] : (List Bool)))
        (F39_0 k k t8 t9 t10 x1 ((List.length x1 : Nat) : Int) (0 : Int) c2000003).bind fun r4 =>
        let y5 := r4.1.1
        let y6 := r4.1.2.1
        let y7 := r4.1.2.2.1
        let y8 := r4.2.1
        (F39_1 k n y5 y6 (IntKind.wrap .i64 (y7 + (1 : Int))) y8).bind some
      else none
    else
      some ((), (c2000003, ()))
def fr39_1 (k : Nat) : Frag := ⟨⟨[(3, KD24)], [(3, .at 2000003 []), (8, .val KD14), (9, .val (.int .i64)), (10, .val (.int .i64))], [(2000003, none, KD24)]⟩, [(.exit 0, ⟨[(3, KD24)], [(3, .at 2000003 [])], [(2000003, none, KD24)]⟩)], fun v => F39_1 k k v.1.1 v.1.2.1 v.1.2.2.1 v.2.1⟩
def F39 (k : Nat) (a0 : (List (List Bool))) : Option ((ByteArray × Unit) × Unit) :=
  (F39_1 k k a0 ((List.length a0 : Nat) : Int) (0 : Int) []).bind fun r9 =>
  let y10 := r9.2.1
  if List.length y10 ≤ 9223372036854775807 then
    some (((bstr y10), ()), ())
  else none
def sp39 (k : Nat) : Spec := ⟨[.val KD14], [.val .str], fun x => F39 k x.1⟩
def lim39 : Lim := ⟨31, 1, false, false, [], []⟩
def cfg39 (k : Nat) : Nat → Option Spec := cfgL []
theorem cfg39_ok (k : Nat) : CfgOK Try.prog (cfg39 k) := cfgL_nil
def pl39_0 (k : Nat) : Plan := .go
theorem pq39_0 (k : Nat) : PlanOK Try.prog lim39 (pl39_0 k) (codeAt (bodyOf Try.f39) [.r, .r, .l, .r, .s, .b, .r, .r, .l, .s, .r, .r, .s, .b]) = PlanOK Try.prog lim39 .go (codeAt (bodyOf Try.f39) [.r, .r, .l, .r, .s, .b, .r, .r, .l, .s, .r, .r, .s, .b]) := by kernel_rfl
theorem ps39_0 (k m : Nat) (v : (fr39_0 k).sh.V) : F39_0 k (m + 1) v.1.1 v.1.2.1 v.1.2.2.1 v.1.2.2.2.1 v.1.2.2.2.2.1 v.1.2.2.2.2.2.1 v.2.1 = (body Try.prog (stepper Try.prog (cfg39 k) lim39) (pl39_0 k) (codeAt (bodyOf Try.f39) [.r, .r, .l, .r, .s, .b, .r, .r, .l, .s, .r, .r, .s, .b]) ((fr39_0 k).sh.st v) (loopK (fr39_0 k) fun v => F39_0 k m v.1.1 v.1.2.1 v.1.2.2.1 v.1.2.2.2.1 v.1.2.2.2.2.1 v.1.2.2.2.2.2.1 v.2.1)).eval := by kernel_rfl
theorem pe39_0 (k m : Nat) (v : (fr39_0 k).sh.V) : (body Try.prog (stepper Try.prog (cfg39 k) lim39) (pl39_0 k) (codeAt (bodyOf Try.f39) [.r, .r, .l, .r, .s, .b, .r, .r, .l, .s, .r, .r, .s, .b]) ((fr39_0 k).sh.st v) (loopK (fr39_0 k) fun v => F39_0 k m v.1.1 v.1.2.1 v.1.2.2.1 v.1.2.2.2.1 v.1.2.2.2.2.1 v.1.2.2.2.2.2.1 v.2.1)).left = (body Try.prog (stepper Try.prog (cfg39 k) lim39) (pl39_0 k) (codeAt (bodyOf Try.f39) [.r, .r, .l, .r, .s, .b, .r, .r, .l, .s, .r, .r, .s, .b]) ((fr39_0 k).sh.st v) (loopK (fr39_0 k) fun v => F39_0 k m v.1.1 v.1.2.1 v.1.2.2.1 v.1.2.2.2.1 v.1.2.2.2.2.1 v.1.2.2.2.2.2.1 v.2.1)).right := by kernel_rfl
theorem fr39_0_ok (k : Nat) : FragOK Try.prog lim39 (fr39_0 k) (codeAt (bodyOf Try.f39) [.r, .r, .l, .r, .s, .b, .r, .r, .l, .s, .r, .r, .s]) :=
  frag_cast (by kernel_rfl) (loop_ok (cfg39_ok k) (Eq.mpr (pq39_0 k) (planOK_go _)) (fun m v => F39_0 k m v.1.1 v.1.2.1 v.1.2.2.1 v.1.2.2.2.1 v.1.2.2.2.2.1 v.1.2.2.2.2.2.1 v.2.1) k (fun _ => rfl) (fun _ => rfl) fun m v => ⟨ps39_0 k m v, pe39_0 k m v⟩)
def pl39_1 (k : Nat) : Plan := (.seq .go (.seq .go (.seq (.sub (.seq .go (.seq .go (.sub (.frag (fr39_0 k)))))) .go)))
theorem pq39_1 (k : Nat) : PlanOK Try.prog lim39 (pl39_1 k) (codeAt (bodyOf Try.f39) [.r, .r, .l, .r, .s, .b]) = (PlanOK Try.prog lim39 .go (codeAt (bodyOf Try.f39) [.r, .r, .l, .r, .s, .b, .l]) ∧ (PlanOK Try.prog lim39 .go (codeAt (bodyOf Try.f39) [.r, .r, .l, .r, .s, .b, .r, .l]) ∧ ((PlanOK Try.prog lim39 .go (codeAt (bodyOf Try.f39) [.r, .r, .l, .r, .s, .b, .r, .r, .l, .s, .l]) ∧ (PlanOK Try.prog lim39 .go (codeAt (bodyOf Try.f39) [.r, .r, .l, .r, .s, .b, .r, .r, .l, .s, .r, .l]) ∧ FragOK Try.prog lim39 (fr39_0 k) (codeAt (bodyOf Try.f39) [.r, .r, .l, .r, .s, .b, .r, .r, .l, .s, .r, .r, .s]))) ∧ PlanOK Try.prog lim39 .go (codeAt (bodyOf Try.f39) [.r, .r, .l, .r, .s, .b, .r, .r, .r])))) := by kernel_rfl
theorem ps39_1 (k m : Nat) (v : (fr39_1 k).sh.V) : F39_1 k (m + 1) v.1.1 v.1.2.1 v.1.2.2.1 v.2.1 = (body Try.prog (stepper Try.prog (cfg39 k) lim39) (pl39_1 k) (codeAt (bodyOf Try.f39) [.r, .r, .l, .r, .s, .b]) ((fr39_1 k).sh.st v) (loopK (fr39_1 k) fun v => F39_1 k m v.1.1 v.1.2.1 v.1.2.2.1 v.2.1)).eval := by kernel_rfl
theorem pe39_1 (k m : Nat) (v : (fr39_1 k).sh.V) : (body Try.prog (stepper Try.prog (cfg39 k) lim39) (pl39_1 k) (codeAt (bodyOf Try.f39) [.r, .r, .l, .r, .s, .b]) ((fr39_1 k).sh.st v) (loopK (fr39_1 k) fun v => F39_1 k m v.1.1 v.1.2.1 v.1.2.2.1 v.2.1)).left = (body Try.prog (stepper Try.prog (cfg39 k) lim39) (pl39_1 k) (codeAt (bodyOf Try.f39) [.r, .r, .l, .r, .s, .b]) ((fr39_1 k).sh.st v) (loopK (fr39_1 k) fun v => F39_1 k m v.1.1 v.1.2.1 v.1.2.2.1 v.2.1)).right := by kernel_rfl
theorem fr39_1_ok (k : Nat) : FragOK Try.prog lim39 (fr39_1 k) (codeAt (bodyOf Try.f39) [.r, .r, .l, .r, .s]) :=
  frag_cast (by kernel_rfl) (loop_ok (cfg39_ok k) (Eq.mpr (pq39_1 k) ⟨(planOK_go _), ⟨(planOK_go _), ⟨⟨(planOK_go _), ⟨(planOK_go _), (fr39_0_ok k)⟩⟩, (planOK_go _)⟩⟩⟩) (fun m v => F39_1 k m v.1.1 v.1.2.1 v.1.2.2.1 v.2.1) k (fun _ => rfl) (fun _ => rfl) fun m v => ⟨ps39_1 k m v, pe39_1 k m v⟩)
def pl39 (k : Nat) : Plan := (.seq .go (.seq .go (.seq (.seq .go (.sub (.frag (fr39_1 k)))) .go)))
theorem pq39 (k : Nat) : PlanOK Try.prog lim39 (pl39 k) (codeAt (bodyOf Try.f39) []) = (PlanOK Try.prog lim39 .go (codeAt (bodyOf Try.f39) [.l]) ∧ (PlanOK Try.prog lim39 .go (codeAt (bodyOf Try.f39) [.r, .l]) ∧ ((PlanOK Try.prog lim39 .go (codeAt (bodyOf Try.f39) [.r, .r, .l, .l]) ∧ FragOK Try.prog lim39 (fr39_1 k) (codeAt (bodyOf Try.f39) [.r, .r, .l, .r, .s])) ∧ PlanOK Try.prog lim39 .go (codeAt (bodyOf Try.f39) [.r, .r, .r])))) := by kernel_rfl
theorem ev39 (k : Nat) (x : AT (sp39 k).ps) : (sp39 k).impl x = (fnT Try.prog (cfg39 k) lim39 Try.f39 (bodyOf Try.f39) (pl39 k) (sp39 k) x).eval := by kernel_rfl
theorem eq39 (k : Nat) (x : AT (sp39 k).ps) : (fnT Try.prog (cfg39 k) lim39 Try.f39 (bodyOf Try.f39) (pl39 k) (sp39 k) x).left = (fnT Try.prog (cfg39 k) lim39 Try.f39 (bodyOf Try.f39) (pl39 k) (sp39 k) x).right := by kernel_rfl
theorem v39 (k : Nat) : Callable Try.prog 39 ∧ Valid Try.prog 39 (sp39 k) :=
  fn_ok (cfg39_ok k) (f := 39) (fn := Try.f39) (by kernel_rfl) (c := bodyOf Try.f39) (by kernel_rfl) (by kernel_rfl) rfl rfl (Nat.le_of_ble_eq_true rfl) (Nat.le_of_ble_eq_true rfl) (p := pl39 k) (Eq.mpr (pq39 k) ⟨(planOK_go _), ⟨(planOK_go _), ⟨⟨(planOK_go _), (fr39_1_ok k)⟩, (planOK_go _)⟩⟩⟩) fun x => ⟨ev39 k x, eq39 k x⟩
/-! f38 (*hyphen/back.names).name -/
def F38 (k : Nat) (a0 : TY15) (a1 : ByteArray) : Option ((Int × Bool × Unit) × (TY15 × Unit)) :=
  bif (!(Option.isSome a0.1)) then
    let x1 := (findM (Option.getD (some [] : Option TY25) []) a1).1
    let x2 := (findM (Option.getD (some [] : Option TY25) []) a1).2
    bif (!x2) then
      if ((List.length (Option.getD (some [] : Option TY25) []) : Nat) : Int) ≤ 9223372036854775807 then
        let x3 := ((List.length (Option.getD (some [] : Option TY25) []) : Nat) : Int)
        if (Option.isSome (some [] : Option TY25)) = true then
          let x4 := (some (putM (Option.getD (some [] : Option TY25) []) a1 x3))
          some ((x3, (!x2), ()), ((x4, a0.2), ()))
        else none
      else none
    else
      some ((x1, (!x2), ()), (((some [] : Option TY25), a0.2), ()))
  else
    bif (!(findM (Option.getD a0.1 []) a1).2) then
      if ((List.length (Option.getD a0.1 []) : Nat) : Int) ≤ 9223372036854775807 then
        let x5 := ((List.length (Option.getD a0.1 []) : Nat) : Int)
        if (Option.isSome a0.1) = true then
          some ((x5, (!(findM (Option.getD a0.1 []) a1).2), ()), (((some (putM (Option.getD a0.1 []) a1 x5)), a0.2), ()))
        else none
      else none
    else
      some (((findM (Option.getD a0.1 []) a1).1, (!(findM (Option.getD a0.1 []) a1).2), ()), (a0, ()))
def sp38 (k : Nat) : Spec := ⟨[.ptr 84 KD20 [], .val .str], [.val (.int .i64), .val .bool], fun x => F38 k x.1 x.2.1⟩
def lim38 : Lim := ⟨42, 2, false, false, [], []⟩
def cfg38 (k : Nat) : Nat → Option Spec := cfgL []
theorem cfg38_ok (k : Nat) : CfgOK Try.prog (cfg38 k) := cfgL_nil
def pl38 (k : Nat) : Plan := .go
theorem pq38 (k : Nat) : PlanOK Try.prog lim38 (pl38 k) (codeAt (bodyOf Try.f38) []) = PlanOK Try.prog lim38 .go (codeAt (bodyOf Try.f38) []) := by kernel_rfl
theorem ev38 (k : Nat) (x : AT (sp38 k).ps) : (sp38 k).impl x = (fnT Try.prog (cfg38 k) lim38 Try.f38 (bodyOf Try.f38) (pl38 k) (sp38 k) x).eval := by kernel_rfl
theorem eq38 (k : Nat) (x : AT (sp38 k).ps) : (fnT Try.prog (cfg38 k) lim38 Try.f38 (bodyOf Try.f38) (pl38 k) (sp38 k) x).left = (fnT Try.prog (cfg38 k) lim38 Try.f38 (bodyOf Try.f38) (pl38 k) (sp38 k) x).right := by kernel_rfl
theorem v38 (k : Nat) : Callable Try.prog 38 ∧ Valid Try.prog 38 (sp38 k) :=
  fn_ok (cfg38_ok k) (f := 38) (fn := Try.f38) (by kernel_rfl) (c := bodyOf Try.f38) (by kernel_rfl) (by kernel_rfl) rfl rfl (Nat.le_of_ble_eq_true rfl) (Nat.le_of_ble_eq_true rfl) (p := pl38 k) (Eq.mpr (pq38 k) (planOK_go _)) fun x => ⟨ev38 k x, eq38 k x⟩
/-! f40 slices.Clone[[]int,int] -/
def F40 (k : Nat) (a0 : (List Int)) : Option (TY27 × Unit) :=
  bif (((List.length a0 : Nat) : Int) == 0) then
    some (([], ()), ())
  else
    if (List.length (List.replicate 0 (0 : Int)) + List.length a0) * (8 * 2) ≤ 281474976710656 ∧ List.length (List.replicate 0 (0 : Int)) + List.length a0 ≤ 9223372036854775807 then
      some ((((List.replicate 0 (0 : Int)) ++ a0), ()), ())
    else none
def sp40 (k : Nat) : Spec := ⟨[.val KD21], [.own KD23], fun x => F40 k x.1⟩
def lim40 : Lim := ⟨8, 1, true, false, [], []⟩
def cfg40 (k : Nat) : Nat → Option Spec := cfgL []
theorem cfg40_ok (k : Nat) : CfgOK Try.prog (cfg40 k) := cfgL_nil
def pl40 (k : Nat) : Plan := .go
theorem pq40 (k : Nat) : PlanOK Try.prog lim40 (pl40 k) (codeAt (bodyOf Try.f40) []) = PlanOK Try.prog lim40 .go (codeAt (bodyOf Try.f40) []) := by kernel_rfl
theorem ev40 (k : Nat) (x : AT (sp40 k).ps) : (sp40 k).impl x = (fnT Try.prog (cfg40 k) lim40 Try.f40 (bodyOf Try.f40) (pl40 k) (sp40 k) x).eval := by kernel_rfl
theorem tr40 (k : Nat) (x : AT (sp40 k).ps) : (fnT Try.prog (cfg40 k) lim40 Try.f40 (bodyOf Try.f40) (pl40 k) (sp40 k) x) = (Tr.split (((List.length x.1 : Nat) : Int) == 0) (.both (.split true (.leaf (([], ()), ())) (.need ((List.length (List.replicate 0 (0 : Int)) + List.length x.1) * (8 * 2) ≤ 281474976710656 ∧ List.length (List.replicate 0 (0 : Int)) + List.length x.1 ≤ 9223372036854775807) (.leaf (([] ++ x.1, ()), ())))) (.split false (.leaf (([], ()), ())) (.need ((List.length (List.replicate 0 (0 : Int)) + List.length x.1) * (8 * 2) ≤ 281474976710656 ∧ List.length (List.replicate 0 (0 : Int)) + List.length x.1 ≤ 9223372036854775807) (.leaf (([] ++ x.1, ()), ()))))) (.split false (.leaf (([], ()), ())) (.need ((List.length (List.replicate 0 (0 : Int)) + List.length x.1) * (8 * 2) ≤ 281474976710656 ∧ List.length (List.replicate 0 (0 : Int)) + List.length x.1 ≤ 9223372036854775807) (.leaf (([] ++ x.1, ()), ()))))) := by kernel_rfl
theorem sa40 (k : Nat) (x : AT (sp40 k).ps) (r) (h : (sp40 k).impl x = some r) : (fnT Try.prog (cfg40 k) lim40 Try.f40 (bodyOf Try.f40) (pl40 k) (sp40 k) x).sat (· = r) := sat_of_eq (tr40 k x) (clone_sat (a := x.1) (p := (List.length (List.replicate 0 (0 : Int)) + List.length x.1) * (8 * 2) ≤ 281474976710656 ∧ List.length (List.replicate 0 (0 : Int)) + List.length x.1 ≤ 9223372036854775807) (fun e => by rw [e]; simp) h)
theorem v40 (k : Nat) : Callable Try.prog 40 ∧ Valid Try.prog 40 (sp40 k) :=
  fn_sat (cfg40_ok k) (f := 40) (fn := Try.f40) (by kernel_rfl) (c := bodyOf Try.f40) (by kernel_rfl) (by kernel_rfl) rfl rfl (Nat.le_of_ble_eq_true rfl) (Nat.le_of_ble_eq_true rfl) (p := pl40 k) (Eq.mpr (pq40 k) (planOK_go _)) fun x r h => sa40 k x r h
/-! f41 slices.Clone[[][]int,[]int] -/
def F41 (k : Nat) (a0 : (List (List Int))) : Option (((List (List Int)) × Unit) × Unit) :=
  bif (((List.length a0 : Nat) : Int) == 0) then
    some (([], ()), ())
  else
    if (List.length (List.replicate 0 ([] : (List Int))) + List.length a0) * (24 * 2) ≤ 281474976710656 ∧ List.length (List.replicate 0 ([] : (List Int))) + List.length a0 ≤ 9223372036854775807 then
      some ((((List.replicate 0 ([] : (List Int))) ++ a0), ()), ())
    else none
def sp41 (k : Nat) : Spec := ⟨[.own (.sl true 23 KD23 none)], [.own (.sl true 23 KD23 none)], fun x => F41 k x.1⟩
def lim41 : Lim := ⟨8, 1, true, false, [], []⟩
def cfg41 (k : Nat) : Nat → Option Spec := cfgL []
theorem cfg41_ok (k : Nat) : CfgOK Try.prog (cfg41 k) := cfgL_nil
def pl41 (k : Nat) : Plan := .go
theorem pq41 (k : Nat) : PlanOK Try.prog lim41 (pl41 k) (codeAt (bodyOf Try.f41) []) = PlanOK Try.prog lim41 .go (codeAt (bodyOf Try.f41) []) := by kernel_rfl
theorem ev41 (k : Nat) (x : AT (sp41 k).ps) : (sp41 k).impl x = (fnT Try.prog (cfg41 k) lim41 Try.f41 (bodyOf Try.f41) (pl41 k) (sp41 k) x).eval := by kernel_rfl
theorem tr41 (k : Nat) (x : AT (sp41 k).ps) : (fnT Try.prog (cfg41 k) lim41 Try.f41 (bodyOf Try.f41) (pl41 k) (sp41 k) x) = (Tr.split (((List.length x.1 : Nat) : Int) == 0) (.both (.split true (.leaf (([], ()), ())) (.need ((List.length (List.replicate 0 ([] : (List Int))) + List.length x.1) * (24 * 2) ≤ 281474976710656 ∧ List.length (List.replicate 0 ([] : (List Int))) + List.length x.1 ≤ 9223372036854775807) (.leaf (([] ++ x.1, ()), ())))) (.split false (.leaf (([], ()), ())) (.need ((List.length (List.replicate 0 ([] : (List Int))) + List.length x.1) * (24 * 2) ≤ 281474976710656 ∧ List.length (List.replicate 0 ([] : (List Int))) + List.length x.1 ≤ 9223372036854775807) (.leaf (([] ++ x.1, ()), ()))))) (.split false (.leaf (([], ()), ())) (.need ((List.length (List.replicate 0 ([] : (List Int))) + List.length x.1) * (24 * 2) ≤ 281474976710656 ∧ List.length (List.replicate 0 ([] : (List Int))) + List.length x.1 ≤ 9223372036854775807) (.leaf (([] ++ x.1, ()), ()))))) := by kernel_rfl
theorem sa41 (k : Nat) (x : AT (sp41 k).ps) (r) (h : (sp41 k).impl x = some r) : (fnT Try.prog (cfg41 k) lim41 Try.f41 (bodyOf Try.f41) (pl41 k) (sp41 k) x).sat (· = r) := sat_of_eq (tr41 k x) (clone_sat (a := x.1) (p := (List.length (List.replicate 0 ([] : (List Int))) + List.length x.1) * (24 * 2) ≤ 281474976710656 ∧ List.length (List.replicate 0 ([] : (List Int))) + List.length x.1 ≤ 9223372036854775807) (fun e => by rw [e]; simp) h)
theorem v41 (k : Nat) : Callable Try.prog 41 ∧ Valid Try.prog 41 (sp41 k) :=
  fn_sat (cfg41_ok k) (f := 41) (fn := Try.f41) (by kernel_rfl) (c := bodyOf Try.f41) (by kernel_rfl) (by kernel_rfl) rfl rfl (Nat.le_of_ble_eq_true rfl) (Nat.le_of_ble_eq_true rfl) (p := pl41 k) (Eq.mpr (pq41 k) (planOK_go _)) fun x r h => sa41 k x r h
/-! f42 slices.Clone[[][]bool,[]bool] -/
def F42 (k : Nat) (a0 : (List (List Bool))) : Option (((List (List Bool)) × Unit) × Unit) :=
  bif (((List.length a0 : Nat) : Int) == 0) then
    some (([], ()), ())
  else
    if (List.length (List.replicate 0 ([] : (List Bool))) + List.length a0) * (24 * 2) ≤ 281474976710656 ∧ List.length (List.replicate 0 ([] : (List Bool))) + List.length a0 ≤ 9223372036854775807 then
      some ((((List.replicate 0 ([] : (List Bool))) ++ a0), ()), ())
    else none
def sp42 (k : Nat) : Spec := ⟨[.own KD16], [.own KD16], fun x => F42 k x.1⟩
def lim42 : Lim := ⟨8, 1, true, false, [], []⟩
def cfg42 (k : Nat) : Nat → Option Spec := cfgL []
theorem cfg42_ok (k : Nat) : CfgOK Try.prog (cfg42 k) := cfgL_nil
def pl42 (k : Nat) : Plan := .go
theorem pq42 (k : Nat) : PlanOK Try.prog lim42 (pl42 k) (codeAt (bodyOf Try.f42) []) = PlanOK Try.prog lim42 .go (codeAt (bodyOf Try.f42) []) := by kernel_rfl
theorem ev42 (k : Nat) (x : AT (sp42 k).ps) : (sp42 k).impl x = (fnT Try.prog (cfg42 k) lim42 Try.f42 (bodyOf Try.f42) (pl42 k) (sp42 k) x).eval := by kernel_rfl
theorem tr42 (k : Nat) (x : AT (sp42 k).ps) : (fnT Try.prog (cfg42 k) lim42 Try.f42 (bodyOf Try.f42) (pl42 k) (sp42 k) x) = (Tr.split (((List.length x.1 : Nat) : Int) == 0) (.both (.split true (.leaf (([], ()), ())) (.need ((List.length (List.replicate 0 ([] : (List Bool))) + List.length x.1) * (24 * 2) ≤ 281474976710656 ∧ List.length (List.replicate 0 ([] : (List Bool))) + List.length x.1 ≤ 9223372036854775807) (.leaf (([] ++ x.1, ()), ())))) (.split false (.leaf (([], ()), ())) (.need ((List.length (List.replicate 0 ([] : (List Bool))) + List.length x.1) * (24 * 2) ≤ 281474976710656 ∧ List.length (List.replicate 0 ([] : (List Bool))) + List.length x.1 ≤ 9223372036854775807) (.leaf (([] ++ x.1, ()), ()))))) (.split false (.leaf (([], ()), ())) (.need ((List.length (List.replicate 0 ([] : (List Bool))) + List.length x.1) * (24 * 2) ≤ 281474976710656 ∧ List.length (List.replicate 0 ([] : (List Bool))) + List.length x.1 ≤ 9223372036854775807) (.leaf (([] ++ x.1, ()), ()))))) := by kernel_rfl
theorem sa42 (k : Nat) (x : AT (sp42 k).ps) (r) (h : (sp42 k).impl x = some r) : (fnT Try.prog (cfg42 k) lim42 Try.f42 (bodyOf Try.f42) (pl42 k) (sp42 k) x).sat (· = r) := sat_of_eq (tr42 k x) (clone_sat (a := x.1) (p := (List.length (List.replicate 0 ([] : (List Bool))) + List.length x.1) * (24 * 2) ≤ 281474976710656 ∧ List.length (List.replicate 0 ([] : (List Bool))) + List.length x.1 ≤ 9223372036854775807) (fun e => by rw [e]; simp) h)
theorem v42 (k : Nat) : Callable Try.prog 42 ∧ Valid Try.prog 42 (sp42 k) :=
  fn_sat (cfg42_ok k) (f := 42) (fn := Try.f42) (by kernel_rfl) (c := bodyOf Try.f42) (by kernel_rfl) (by kernel_rfl) rfl rfl (Nat.le_of_ble_eq_true rfl) (Nat.le_of_ble_eq_true rfl) (p := pl42 k) (Eq.mpr (pq42 k) (planOK_go _)) fun x r h => sa42 k x r h
/-! f16 hyphen/back.Make -/
def F16_0 (k : Nat) : Nat → TY9 → (List (List Bool)) → Int → Int → Int → TY9 → Int → Int → TY17 → Option (((TY9 × (List (List Bool)) × Int × Int × Int × Unit) × (TY17 × Unit)))
  | 0, _, _, _, _, _, _, _, _, _ => none
  | n + 1, t0, t1, t2, t3, t11, t24, t25, t26, c8 =>
    bif (decide (t26 < t25)) then
      if 0 ≤ t26 ∧ t26 < ((List.length t24 : Nat) : Int) then
        let x1 := (List.getD t24 (Int.toNat t26) (([] : (List Int)), (([] : (List Int)), (([] : (List Int)), (([] : TY18), ((0 : Int), ()))))))
        let x2 := (IntKind.wrap .i64 (t11 + ((List.length x1.1 : Nat) : Int)))
        (F16_0 k n t0 t1 t2 t3 x2 t24 t25 (IntKind.wrap .i64 (t26 + (1 : Int))) c8).bind some
      else none
    else
      some ((t0, t1, t2, t3, t11, ()), (c8, ()))
def fr16_0 (k : Nat) : Frag := ⟨⟨[], [(0, .val KD3), (1, .val KD14), (2, .val (.int .i64)), (3, .val (.int .i64)), (8, .ptr 8 []), (9, .nilS), (11, .val (.int .i64)), (24, .val KD3), (25, .val (.int .i64)), (26, .val (.int .i64))], [(8, some 39, KD11)]⟩, [(.exit 0, ⟨[], [(0, .val KD3), (1, .val KD14), (2, .val (.int .i64)), (3, .val (.int .i64)), (8, .ptr 8 []), (9, .nilS), (11, .val (.int .i64))], [(8, some 39, KD11)]⟩)], fun v => F16_0 k k v.1.1 v.1.2.1 v.1.2.2.1 v.1.2.2.2.1 v.1.2.2.2.2.1 v.1.2.2.2.2.2.1 v.1.2.2.2.2.2.2.1 v.1.2.2.2.2.2.2.2.1 v.2.1⟩
def F16_1 (k : Nat) : Nat → Int → Int → Int → Int → Int → TY17 → TY8 → TY15 → (List (List Bool)) → (List Int) → Option (((Int × Int × Int × Unit) × (TY17 × TY8 × TY15 × (List (List Bool)) × (List Int) × Unit)) ⊕ TY13)
  | 0, _, _, _, _, _, _, _, _, _, _ => none
  | n + 1, t2, t3, t16, t67, t68, c8, c39, c45, c2000009, c2000017 =>
    bif (decide (t68 < t67)) then
      if 0 ≤ t16 ∧ t16 < ((List.length c39.2.2.2.1 : Nat) : Int) then
        (F36 k (some c39) (List.getD c39.2.2.2.1 (Int.toNat t16) ([] : (List Int))) t68).bind fun r14 =>
        (F35 k c39 r14.1.1).bind fun r15 =>
        let x16 := (List.set (List.replicate 1 (0 : Int)) 0 r15.1.1)
        if (List.length c2000017 + List.length x16) * (8 * 2) ≤ 281474976710656 ∧ List.length c2000017 + List.length x16 ≤ 9223372036854775807 then
          let x17 := (decide (((List.length r15.2.1.2.2.2.1 : Nat) : Int) > t3))
          bif x17 then
            some (.inr (((4 : Int), ()), ((([] : (List (List Int))), (([] : (List Int)), ())), ())))
          else
            (F16_1 k n t2 t3 t16 t67 (IntKind.wrap .i64 (t68 + (1 : Int))) c8 r15.2.1 c45 c2000009 (c2000017 ++ x16)).bind some
        else none
      else none
    else
      some (.inl ((t2, t3, t16, ()), (c8, c39, c45, c2000009, c2000017, ())))
def fr16_1 (k : Nat) : Frag := ⟨⟨[(9, KD16), (17, KD23)], [(2, .val (.int .i64)), (3, .val (.int .i64)), (8, .ptr 8 []), (9, .at 2000009 []), (14, .ptr 39 []), (15, .ptr 45 []), (16, .val (.int .i64)), (17, .at 2000017 []), (67, .val (.int .i64)), (68, .val (.int .i64))], [(8, some 39, KD11), (39, some 87, KD2), (45, some 84, KD20), (2000009, none, KD16), (2000017, none, KD23)]⟩, [(.exit 4, ⟨[], [(2, .val (.int .i64)), (3, .val (.int .i64)), (8, .ptr 8 []), (9, .at 2000009 []), (14, .ptr 39 []), (15, .ptr 45 []), (16, .val (.int .i64)), (17, .at 2000017 [])], [(8, some 39, KD11), (39, some 87, KD2), (45, some 84, KD20), (2000009, none, KD16), (2000017, none, KD23)]⟩), (.ret, ⟨[], [(8, .ptr 8 []), (9, .nilS), (10, .val (.int .i64))], [(8, some 39, KD11)]⟩)], fun v => F16_1 k k v.1.1 v.1.2.1 v.1.2.2.1 v.1.2.2.2.1 v.1.2.2.2.2.1 v.2.1 v.2.2.1 v.2.2.2.1 v.2.2.2.2.1 v.2.2.2.2.2.1⟩
def F16_2 (k : Nat) : Nat → Int → Int → Int → TY17 → TY8 → TY15 → (List (List Bool)) → Option ((Unit × (TY17 × (List (List Bool)) × Unit)) ⊕ TY13)
  | 0, _, _, _, _, _, _, _ => none
  | n + 1, t2, t3, t16, c8, c39, c45, c2000009 =>
    let x11 := (decide (t16 < ((List.length c39.2.2.2.1 : Nat) : Int)))
    bif x11 then
      let x12 := (decide (((List.length c39.2.2.2.1 : Nat) : Int) > t3))
      bif x12 then
        some (.inr (((4 : Int), ()), ((([] : (List (List Int))), (([] : (List Int)), ())), ())))
      else
        if (0 ≤ (0 : Int) ∧ (0 : Int) < (maxI t2 (0 : Int)) + 1) ∧ (maxI t2 (0 : Int)) ≤ 9223372036854775807 ∧ ((8 : Nat) : Int) * (maxI t2 (0 : Int)) ≤ 281474976710656 then
          let x13 := (List.replicate (Int.toNat (0 : Int)) (0 : Int))
          (F16_1 k k t2 t3 t16 (maxI t2 (0 : Int)) (0 : Int) c8 c39 c45 c2000009 x13).bind fun r18 =>
          match r18 with
          | .inl r19 =>
            let y20 := r19.1.1
            let y21 := r19.1.2.1
            let y22 := r19.1.2.2.1
            let y23 := r19.2.1
            let y24 := r19.2.2.1
            let y25 := r19.2.2.2.1
            let y26 := r19.2.2.2.2.1
            let y27 := r19.2.2.2.2.2.1
            if 0 ≤ y22 ∧ y22 < ((List.length y24.2.2.2.1 : Nat) : Int) then
              (F37 k (some y24) (List.getD y24.2.2.2.1 (Int.toNat y22) ([] : (List Int)))).bind fun r28 =>
              (F39 k [r28.1.1]).bind fun r29 =>
              (F38 k y25 r29.1.1).bind fun r30 =>
              bif r30.1.2.1 then
                if (List.length y26 + List.length [(List.getD [r28.1.1] 0 ([] : (List Bool)))]) * (24 * 2) ≤ 281474976710656 ∧ List.length y26 + List.length [(List.getD [r28.1.1] 0 ([] : (List Bool)))] ≤ 9223372036854775807 then
                  let x31 := (y26 ++ [(List.getD [r28.1.1] 0 ([] : (List Bool)))])
                  (F40 k y27).bind fun r32 =>
                  if (List.length y23.1 + List.length [r32.1.1]) * (24 * 2) ≤ 281474976710656 ∧ List.length y23.1 + List.length [r32.1.1] ≤ 9223372036854775807 then
                    let x33 := (List.set (List.replicate 1 (0 : Int)) 0 r30.1.1)
                    if (List.length y23.2.1 + List.length x33) * (8 * 2) ≤ 281474976710656 ∧ List.length y23.2.1 + List.length x33 ≤ 9223372036854775807 then
                      (F16_2 k n y20 y21 (IntKind.wrap .i64 (y22 + (1 : Int))) ((y23.1 ++ [r32.1.1]), ((y23.2.1 ++ x33), y23.2.2)) y24 r30.2.1 x31).bind some
                    else none
                  else none
                else none
              else
                (F40 k y27).bind fun r34 =>
                if (List.length y23.1 + List.length [r34.1.1]) * (24 * 2) ≤ 281474976710656 ∧ List.length y23.1 + List.length [r34.1.1] ≤ 9223372036854775807 then
                  let x35 := (List.set (List.replicate 1 (0 : Int)) 0 r30.1.1)
                  if (List.length y23.2.1 + List.length x35) * (8 * 2) ≤ 281474976710656 ∧ List.length y23.2.1 + List.length x35 ≤ 9223372036854775807 then
                    (F16_2 k n y20 y21 (IntKind.wrap .i64 (y22 + (1 : Int))) ((y23.1 ++ [r34.1.1]), ((y23.2.1 ++ x35), y23.2.2)) y24 r30.2.1 y26).bind some
                  else none
                else none
            else none
          | .inr r19 =>
            let y36 := r19.1.1
            let y37 := r19.2.1
            some (.inr ((y36, ()), (y37, ())))
        else none
    else
      some (.inl ((), (c8, c2000009, ())))
def fr16_2 (k : Nat) : Frag := ⟨⟨[(9, KD16)], [(2, .val (.int .i64)), (3, .val (.int .i64)), (8, .ptr 8 []), (9, .at 2000009 []), (14, .ptr 39 []), (15, .ptr 45 []), (16, .val (.int .i64))], [(8, some 39, KD11), (39, some 87, KD2), (45, some 84, KD20), (2000009, none, KD16)]⟩, [(.exit 2, ⟨[(9, KD16)], [(8, .ptr 8 []), (9, .at 2000009 [])], [(8, some 39, KD11), (2000009, none, KD16)]⟩), (.ret, ⟨[], [(8, .ptr 8 []), (9, .nilS), (10, .val (.int .i64))], [(8, some 39, KD11)]⟩)], fun v => F16_2 k k v.1.1 v.1.2.1 v.1.2.2.1 v.2.1 v.2.2.1 v.2.2.2.1 v.2.2.2.2.1⟩
def F16 (k : Nat) (a0 : TY9) (a1 : (List (List Bool))) (a2 : Int) (a3 : Int) : Option ((TY17 × (List (List Bool)) × Int × Unit) × Unit) :=
  (F16_0 k k a0 a1 a2 (minI a3 (100000 : Int)) (0 : Int) a0 ((List.length a0 : Nat) : Int) (0 : Int) (([] : (List (List Int))), (([] : (List Int)), ()))).bind fun r3 =>
  let y4 := r3.1.1
  let y5 := r3.1.2.1
  let y6 := r3.1.2.2.1
  let y7 := r3.1.2.2.2.1
  let y8 := r3.1.2.2.2.2.1
  let y9 := r3.2.1
  if (0 ≤ y8 ∧ y8 < y8 + 1) ∧ y8 ≤ 9223372036854775807 ∧ ((1 : Nat) : Int) * y8 ≤ 281474976710656 then
    (F35 k (((none : TY19), ()), (y4, (y5, (([] : (List (List Int))), ())))) (List.replicate (Int.toNat y8) (0 : Int))).bind fun r10 =>
    (F16_2 k k y6 y7 (0 : Int) y9 r10.2.1 ((none : TY19), ()) []).bind fun r38 =>
    match r38 with
    | .inl r39 =>
      let y40 := r39.2.1
      let y41 := r39.2.2.1
      (F41 k y40.1).bind fun r42 =>
      (F40 k y40.2.1).bind fun r43 =>
      (F42 k y41).bind fun r44 =>
      some (((r42.1.1, (r43.1.1, y40.2.2)), r44.1.1, (0 : Int), ()), ())
    | .inr r39 =>
      let y45 := r39.1.1
      let y46 := r39.2.1
      some ((y46, [], y45, ()), ())
  else none
def sp16 (k : Nat) : Spec := ⟨[.val KD3, .val KD14, .val (.int .i64), .val (.int .i64)], [.own KD11, .own KD16, .val (.int .i64)], fun x => F16 k x.1 x.2.1 x.2.2.1 x.2.2.2.1⟩
def lim16 : Lim := ⟨141, 4, false, false, [], []⟩
def cfg16 (k : Nat) : Nat → Option Spec := cfgL [(35, sp35 k), (36, sp36 k), (37, sp37 k), (38, sp38 k), (39, sp39 k), (40, sp40 k), (41, sp41 k), (42, sp42 k)]
theorem cfg16_ok (k : Nat) : CfgOK Try.prog (cfg16 k) := cfgL_cons (v35 k) (cfgL_cons (v36 k) (cfgL_cons (v37 k) (cfgL_cons (v38 k) (cfgL_cons (v39 k) (cfgL_cons (v40 k) (cfgL_cons (v41 k) (cfgL_cons (v42 k) (cfgL_nil))))))))
def pl16_0 (k : Nat) : Plan := .go
theorem pq16_0 (k : Nat) : PlanOK Try.prog lim16 (pl16_0 k) (codeAt (bodyOf Try.f16) [.r, .r, .r, .l, .r, .s, .b]) = PlanOK Try.prog lim16 .go (codeAt (bodyOf Try.f16) [.r, .r, .r, .l, .r, .s, .b]) := by kernel_rfl
theorem ps16_0 (k m : Nat) (v : (fr16_0 k).sh.V) : F16_0 k (m + 1) v.1.1 v.1.2.1 v.1.2.2.1 v.1.2.2.2.1 v.1.2.2.2.2.1 v.1.2.2.2.2.2.1 v.1.2.2.2.2.2.2.1 v.1.2.2.2.2.2.2.2.1 v.2.1 = (body Try.prog (stepper Try.prog (cfg16 k) lim16) (pl16_0 k) (codeAt (bodyOf Try.f16) [.r, .r, .r, .l, .r, .s, .b]) ((fr16_0 k).sh.st v) (loopK (fr16_0 k) fun v => F16_0 k m v.1.1 v.1.2.1 v.1.2.2.1 v.1.2.2.2.1 v.1.2.2.2.2.1 v.1.2.2.2.2.2.1 v.1.2.2.2.2.2.2.1 v.1.2.2.2.2.2.2.2.1 v.2.1)).eval := by kernel_rfl
theorem pe16_0 (k m : Nat) (v : (fr16_0 k).sh.V) : (body Try.prog (stepper Try.prog (cfg16 k) lim16) (pl16_0 k) (codeAt (bodyOf Try.f16) [.r, .r, .r, .l, .r, .s, .b]) ((fr16_0 k).sh.st v) (loopK (fr16_0 k) fun v => F16_0 k m v.1.1 v.1.2.1 v.1.2.2.1 v.1.2.2.2.1 v.1.2.2.2.2.1 v.1.2.2.2.2.2.1 v.1.2.2.2.2.2.2.1 v.1.2.2.2.2.2.2.2.1 v.2.1)).left = (body Try.prog (stepper Try.prog (cfg16 k) lim16) (pl16_0 k) (codeAt (bodyOf Try.f16) [.r, .r, .r, .l, .r, .s, .b]) ((fr16_0 k).sh.st v) (loopK (fr16_0 k) fun v => F16_0 k m v.1.1 v.1.2.1 v.1.2.2.1 v.1.2.2.2.1 v.1.2.2.2.2.1 v.1.2.2.2.2.2.1 v.1.2.2.2.2.2.2.1 v.1.2.2.2.2.2.2.2.1 v.2.1)).right := by kernel_rfl
theorem fr16_0_ok (k : Nat) : FragOK Try.prog lim16 (fr16_0 k) (codeAt (bodyOf Try.f16) [.r, .r, .r, .l, .r, .s]) :=
  frag_cast (by kernel_rfl) (loop_ok (cfg16_ok k) (Eq.mpr (pq16_0 k) (planOK_go _)) (fun m v => F16_0 k m v.1.1 v.1.2.1 v.1.2.2.1 v.1.2.2.2.1 v.1.2.2.2.2.1 v.1.2.2.2.2.2.1 v.1.2.2.2.2.2.2.1 v.1.2.2.2.2.2.2.2.1 v.2.1) k (fun _ => rfl) (fun _ => rfl) fun m v => ⟨ps16_0 k m v, pe16_0 k m v⟩)
def pl16_1 (k : Nat) : Plan := .go
theorem pq16_1 (k : Nat) : PlanOK Try.prog lim16 (pl16_1 k) (codeAt (bodyOf Try.f16) [.r, .r, .r, .r, .r, .r, .r, .l, .r, .s, .b, .r, .l, .s, .r, .r, .l, .r, .s, .b]) = PlanOK Try.prog lim16 .go (codeAt (bodyOf Try.f16) [.r, .r, .r, .r, .r, .r, .r, .l, .r, .s, .b, .r, .l, .s, .r, .r, .l, .r, .s, .b]) := by kernel_rfl
theorem ps16_1 (k m : Nat) (v : (fr16_1 k).sh.V) : F16_1 k (m + 1) v.1.1 v.1.2.1 v.1.2.2.1 v.1.2.2.2.1 v.1.2.2.2.2.1 v.2.1 v.2.2.1 v.2.2.2.1 v.2.2.2.2.1 v.2.2.2.2.2.1 = (body Try.prog (stepper Try.prog (cfg16 k) lim16) (pl16_1 k) (codeAt (bodyOf Try.f16) [.r, .r, .r, .r, .r, .r, .r, .l, .r, .s, .b, .r, .l, .s, .r, .r, .l, .r, .s, .b]) ((fr16_1 k).sh.st v) (loopK (fr16_1 k) fun v => F16_1 k m v.1.1 v.1.2.1 v.1.2.2.1 v.1.2.2.2.1 v.1.2.2.2.2.1 v.2.1 v.2.2.1 v.2.2.2.1 v.2.2.2.2.1 v.2.2.2.2.2.1)).eval := by kernel_rfl
theorem pe16_1 (k m : Nat) (v : (fr16_1 k).sh.V) : (body Try.prog (stepper Try.prog (cfg16 k) lim16) (pl16_1 k) (codeAt (bodyOf Try.f16) [.r, .r, .r, .r, .r, .r, .r, .l, .r, .s, .b, .r, .l, .s, .r, .r, .l, .r, .s, .b]) ((fr16_1 k).sh.st v) (loopK (fr16_1 k) fun v => F16_1 k m v.1.1 v.1.2.1 v.1.2.2.1 v.1.2.2.2.1 v.1.2.2.2.2.1 v.2.1 v.2.2.1 v.2.2.2.1 v.2.2.2.2.1 v.2.2.2.2.2.1)).left = (body Try.prog (stepper Try.prog (cfg16 k) lim16) (pl16_1 k) (codeAt (bodyOf Try.f16) [.r, .r, .r, .r, .r, .r, .r, .l, .r, .s, .b, .r, .l, .s, .r, .r, .l, .r, .s, .b]) ((fr16_1 k).sh.st v) (loopK (fr16_1 k) fun v => F16_1 k m v.1.1 v.1.2.1 v.1.2.2.1 v.1.2.2.2.1 v.1.2.2.2.2.1 v.2.1 v.2.2.1 v.2.2.2.1 v.2.2.2.2.1 v.2.2.2.2.2.1)).right := by kernel_rfl
theorem fr16_1_ok (k : Nat) : FragOK Try.prog lim16 (fr16_1 k) (codeAt (bodyOf Try.f16) [.r, .r, .r, .r, .r, .r, .r, .l, .r, .s, .b, .r, .l, .s, .r, .r, .l, .r, .s]) :=
  frag_cast (by kernel_rfl) (loop_ok (cfg16_ok k) (Eq.mpr (pq16_1 k) (planOK_go _)) (fun m v => F16_1 k m v.1.1 v.1.2.1 v.1.2.2.1 v.1.2.2.2.1 v.1.2.2.2.2.1 v.2.1 v.2.2.1 v.2.2.2.1 v.2.2.2.2.1 v.2.2.2.2.2.1) k (fun _ => rfl) (fun _ => rfl) fun m v => ⟨ps16_1 k m v, pe16_1 k m v⟩)
def pl16_2 (k : Nat) : Plan := (.seq .go (.seq (.sub (.seq .go (.seq .go (.seq (.seq .go (.sub (.frag (fr16_1 k)))) .go)))) .go))
theorem pq16_2 (k : Nat) : PlanOK Try.prog lim16 (pl16_2 k) (codeAt (bodyOf Try.f16) [.r, .r, .r, .r, .r, .r, .r, .l, .r, .s, .b]) = (PlanOK Try.prog lim16 .go (codeAt (bodyOf Try.f16) [.r, .r, .r, .r, .r, .r, .r, .l, .r, .s, .b, .l]) ∧ ((PlanOK Try.prog lim16 .go (codeAt (bodyOf Try.f16) [.r, .r, .r, .r, .r, .r, .r, .l, .r, .s, .b, .r, .l, .s, .l]) ∧ (PlanOK Try.prog lim16 .go (codeAt (bodyOf Try.f16) [.r, .r, .r, .r, .r, .r, .r, .l, .r, .s, .b, .r, .l, .s, .r, .l]) ∧ ((PlanOK Try.prog lim16 .go (codeAt (bodyOf Try.f16) [.r, .r, .r, .r, .r, .r, .r, .l, .r, .s, .b, .r, .l, .s, .r, .r, .l, .l]) ∧ FragOK Try.prog lim16 (fr16_1 k) (codeAt (bodyOf Try.f16) [.r, .r, .r, .r, .r, .r, .r, .l, .r, .s, .b, .r, .l, .s, .r, .r, .l, .r, .s])) ∧ PlanOK Try.prog lim16 .go (codeAt (bodyOf Try.f16) [.r, .r, .r, .r, .r, .r, .r, .l, .r, .s, .b, .r, .l, .s, .r, .r, .r])))) ∧ PlanOK Try.prog lim16 .go (codeAt (bodyOf Try.f16) [.r, .r, .r, .r, .r, .r, .r, .l, .r, .s, .b, .r, .r]))) := by kernel_rfl
theorem ps16_2 (k m : Nat) (v : (fr16_2 k).sh.V) : F16_2 k (m + 1) v.1.1 v.1.2.1 v.1.2.2.1 v.2.1 v.2.2.1 v.2.2.2.1 v.2.2.2.2.1 = (body Try.prog (stepper Try.prog (cfg16 k) lim16) (pl16_2 k) (codeAt (bodyOf Try.f16) [.r, .r, .r, .r, .r, .r, .r, .l, .r, .s, .b]) ((fr16_2 k).sh.st v) (loopK (fr16_2 k) fun v => F16_2 k m v.1.1 v.1.2.1 v.1.2.2.1 v.2.1 v.2.2.1 v.2.2.2.1 v.2.2.2.2.1)).eval := by kernel_rfl
theorem pe16_2 (k m : Nat) (v : (fr16_2 k).sh.V) : (body Try.prog (stepper Try.prog (cfg16 k) lim16) (pl16_2 k) (codeAt (bodyOf Try.f16) [.r, .r, .r, .r, .r, .r, .r, .l, .r, .s, .b]) ((fr16_2 k).sh.st v) (loopK (fr16_2 k) fun v => F16_2 k m v.1.1 v.1.2.1 v.1.2.2.1 v.2.1 v.2.2.1 v.2.2.2.1 v.2.2.2.2.1)).left = (body Try.prog (stepper Try.prog (cfg16 k) lim16) (pl16_2 k) (codeAt (bodyOf Try.f16) [.r, .r, .r, .r, .r, .r, .r, .l, .r, .s, .b]) ((fr16_2 k).sh.st v) (loopK (fr16_2 k) fun v => F16_2 k m v.1.1 v.1.2.1 v.1.2.2.1 v.2.1 v.2.2.1 v.2.2.2.1 v.2.2.2.2.1)).right := by kernel_rfl
theorem fr16_2_ok (k : Nat) : FragOK Try.prog lim16 (fr16_2 k) (codeAt (bodyOf Try.f16) [.r, .r, .r, .r, .r, .r, .r, .l, .r, .s]) :=
  frag_cast (by kernel_rfl) (loop_ok (cfg16_ok k) (Eq.mpr (pq16_2 k) ⟨(planOK_go _), ⟨⟨(planOK_go _), ⟨(planOK_go _), ⟨⟨(planOK_go _), (fr16_1_ok k)⟩, (planOK_go _)⟩⟩⟩, (planOK_go _)⟩⟩) (fun m v => F16_2 k m v.1.1 v.1.2.1 v.1.2.2.1 v.2.1 v.2.2.1 v.2.2.2.1 v.2.2.2.2.1) k (fun _ => rfl) (fun _ => rfl) fun m v => ⟨ps16_2 k m v, pe16_2 k m v⟩)
def pl16 (k : Nat) : Plan := (.seq .go (.seq .go (.seq .go (.seq (.seq .go (.sub (.frag (fr16_0 k)))) (.seq .go (.seq .go (.seq .go (.seq (.seq .go (.sub (.frag (fr16_2 k)))) .go))))))))
theorem pq16 (k : Nat) : PlanOK Try.prog lim16 (pl16 k) (codeAt (bodyOf Try.f16) []) = (PlanOK Try.prog lim16 .go (codeAt (bodyOf Try.f16) [.l]) ∧ (PlanOK Try.prog lim16 .go (codeAt (bodyOf Try.f16) [.r, .l]) ∧ (PlanOK Try.prog lim16 .go (codeAt (bodyOf Try.f16) [.r, .r, .l]) ∧ ((PlanOK Try.prog lim16 .go (codeAt (bodyOf Try.f16) [.r, .r, .r, .l, .l]) ∧ FragOK Try.prog lim16 (fr16_0 k) (codeAt (bodyOf Try.f16) [.r, .r, .r, .l, .r, .s])) ∧ (PlanOK Try.prog lim16 .go (codeAt (bodyOf Try.f16) [.r, .r, .r, .r, .l]) ∧ (PlanOK Try.prog lim16 .go (codeAt (bodyOf Try.f16) [.r, .r, .r, .r, .r, .l]) ∧ (PlanOK Try.prog lim16 .go (codeAt (bodyOf Try.f16) [.r, .r, .r, .r, .r, .r, .l]) ∧ ((PlanOK Try.prog lim16 .go (codeAt (bodyOf Try.f16) [.r, .r, .r, .r, .r, .r, .r, .l, .l]) ∧ FragOK Try.prog lim16 (fr16_2 k) (codeAt (bodyOf Try.f16) [.r, .r, .r, .r, .r, .r, .r, .l, .r, .s])) ∧ PlanOK Try.prog lim16 .go (codeAt (bodyOf Try.f16) [.r, .r, .r, .r, .r, .r, .r, .r]))))))))) := by kernel_rfl
theorem ev16 (k : Nat) (x : AT (sp16 k).ps) : (sp16 k).impl x = (fnT Try.prog (cfg16 k) lim16 Try.f16 (bodyOf Try.f16) (pl16 k) (sp16 k) x).eval := by kernel_rfl
theorem eq16 (k : Nat) (x : AT (sp16 k).ps) : (fnT Try.prog (cfg16 k) lim16 Try.f16 (bodyOf Try.f16) (pl16 k) (sp16 k) x).left = (fnT Try.prog (cfg16 k) lim16 Try.f16 (bodyOf Try.f16) (pl16 k) (sp16 k) x).right := by kernel_rfl
theorem v16 (k : Nat) : Callable Try.prog 16 ∧ Valid Try.prog 16 (sp16 k) :=
  fn_ok (cfg16_ok k) (f := 16) (fn := Try.f16) (by kernel_rfl) (c := bodyOf Try.f16) (by kernel_rfl) (by kernel_rfl) rfl rfl (Nat.le_of_ble_eq_true rfl) (Nat.le_of_ble_eq_true rfl) (p := pl16 k) (Eq.mpr (pq16 k) ⟨(planOK_go _), ⟨(planOK_go _), ⟨(planOK_go _), ⟨⟨(planOK_go _), (fr16_0_ok k)⟩, ⟨(planOK_go _), ⟨(planOK_go _), ⟨(planOK_go _), ⟨⟨(planOK_go _), (fr16_2_ok k)⟩, (planOK_go _)⟩⟩⟩⟩⟩⟩⟩⟩) fun x => ⟨ev16 k x, eq16 k x⟩
/-! f22 hyphen/back.Run -/
def F22_0 (k : Nat) : Nat → (List Int) → Int → Int → TY17 → (List Int) → Option ((Unit × TY27))
  | 0, _, _, _, _, _ => none
  | n + 1, t1, t6, t7, c2, c11 =>
    bif (decide (t6 ≥ (0 : Int))) then
      let x25 := (decide (t6 < ((List.length c2.2.1 : Nat) : Int)))
      bif x25 then
        if 0 ≤ t6 ∧ t6 < ((List.length c2.2.1 : Nat) : Int) then
          if 0 ≤ t7 ∧ t7 < ((List.length c11 : Nat) : Int) then
            let x26 := (List.set c11 (Int.toNat t7) (List.getD c2.2.1 (Int.toNat t6) (0 : Int)))
            bif (t7 == (0 : Int)) then
              some ((), (x26, ()))
            else
              bif (decide (t6 ≥ (0 : Int))) then
                let x27 := (decide (t6 < ((List.length c2.1 : Nat) : Int)))
                bif x27 then
                  if 0 ≤ (IntKind.wrap .i64 (t7 - (1 : Int))) ∧ (IntKind.wrap .i64 (t7 - (1 : Int))) < ((List.length t1 : Nat) : Int) then
                    let x28 := (List.getD t1 (Int.toNat (IntKind.wrap .i64 (t7 - (1 : Int)))) (0 : Int))
                    bif (decide (x28 ≥ (0 : Int))) then
                      if 0 ≤ (IntKind.wrap .i64 (t7 - (1 : Int))) ∧ (IntKind.wrap .i64 (t7 - (1 : Int))) < ((List.length t1 : Nat) : Int) then
                        let x29 := (List.getD t1 (Int.toNat (IntKind.wrap .i64 (t7 - (1 : Int)))) (0 : Int))
                        if 0 ≤ t6 ∧ t6 < ((List.length c2.1 : Nat) : Int) then
                          let x30 := (List.getD c2.1 (Int.toNat t6) ([] : (List Int)))
                          let x31 := (decide (x29 < ((List.length x30 : Nat) : Int)))
                          bif x31 then
                            if 0 ≤ t6 ∧ t6 < ((List.length c2.1 : Nat) : Int) then
                              let x32 := (List.getD c2.1 (Int.toNat t6) ([] : (List Int)))
                              if 0 ≤ (IntKind.wrap .i64 (t7 - (1 : Int))) ∧ (IntKind.wrap .i64 (t7 - (1 : Int))) < ((List.length t1 : Nat) : Int) then
                                let x33 := (List.getD t1 (Int.toNat (IntKind.wrap .i64 (t7 - (1 : Int)))) (0 : Int))
                                if 0 ≤ x33 ∧ x33 < ((List.length x32 : Nat) : Int) then
                                  (F22_0 k n t1 (List.getD x32 (Int.toNat x33) (0 : Int)) (IntKind.wrap .i64 (t7 - (1 : Int))) c2 x26).bind some
                                else none
                              else none
                            else none
                          else
                            (F22_0 k n t1 t6 (IntKind.wrap .i64 (t7 - (1 : Int))) c2 x26).bind some
                        else none
                      else none
                    else
                      (F22_0 k n t1 t6 (IntKind.wrap .i64 (t7 - (1 : Int))) c2 x26).bind some
                  else none
                else
                  (F22_0 k n t1 t6 (IntKind.wrap .i64 (t7 - (1 : Int))) c2 x26).bind some
              else
                (F22_0 k n t1 t6 (IntKind.wrap .i64 (t7 - (1 : Int))) c2 x26).bind some
          else none
        else none
      else
        bif (t7 == (0 : Int)) then
          some ((), (c11, ()))
        else
          bif (decide (t6 ≥ (0 : Int))) then
            let x34 := (decide (t6 < ((List.length c2.1 : Nat) : Int)))
            bif x34 then
              if 0 ≤ (IntKind.wrap .i64 (t7 - (1 : Int))) ∧ (IntKind.wrap .i64 (t7 - (1 : Int))) < ((List.length t1 : Nat) : Int) then
                let x35 := (List.getD t1 (Int.toNat (IntKind.wrap .i64 (t7 - (1 : Int)))) (0 : Int))
                bif (decide (x35 ≥ (0 : Int))) then
                  if 0 ≤ (IntKind.wrap .i64 (t7 - (1 : Int))) ∧ (IntKind.wrap .i64 (t7 - (1 : Int))) < ((List.length t1 : Nat) : Int) then
                    let x36 := (List.getD t1 (Int.toNat (IntKind.wrap .i64 (t7 - (1 : Int)))) (0 : Int))
                    if 0 ≤ t6 ∧ t6 < ((List.length c2.1 : Nat) : Int) then
                      let x37 := (List.getD c2.1 (Int.toNat t6) ([] : (List Int)))
                      let x38 := (decide (x36 < ((List.length x37 : Nat) : Int)))
                      bif x38 then
                        if 0 ≤ t6 ∧ t6 < ((List.length c2.1 : Nat) : Int) then
                          let x39 := (List.getD c2.1 (Int.toNat t6) ([] : (List Int)))
                          if 0 ≤ (IntKind.wrap .i64 (t7 - (1 : Int))) ∧ (IntKind.wrap .i64 (t7 - (1 : Int))) < ((List.length t1 : Nat) : Int) then
                            let x40 := (List.getD t1 (Int.toNat (IntKind.wrap .i64 (t7 - (1 : Int)))) (0 : Int))
                            if 0 ≤ x40 ∧ x40 < ((List.length x39 : Nat) : Int) then
                              (F22_0 k n t1 (List.getD x39 (Int.toNat x40) (0 : Int)) (IntKind.wrap .i64 (t7 - (1 : Int))) c2 c11).bind some
                            else none
                          else none
                        else none
                      else
                        (F22_0 k n t1 t6 (IntKind.wrap .i64 (t7 - (1 : Int))) c2 c11).bind some
                    else none
                  else none
                else
                  (F22_0 k n t1 t6 (IntKind.wrap .i64 (t7 - (1 : Int))) c2 c11).bind some
              else none
            else
              (F22_0 k n t1 t6 (IntKind.wrap .i64 (t7 - (1 : Int))) c2 c11).bind some
          else
            (F22_0 k n t1 t6 (IntKind.wrap .i64 (t7 - (1 : Int))) c2 c11).bind some
    else
      bif (t7 == (0 : Int)) then
        some ((), (c11, ()))
      else
        bif (decide (t6 ≥ (0 : Int))) then
          let x41 := (decide (t6 < ((List.length c2.1 : Nat) : Int)))
          bif x41 then
            if 0 ≤ (IntKind.wrap .i64 (t7 - (1 : Int))) ∧ (IntKind.wrap .i64 (t7 - (1 : Int))) < ((List.length t1 : Nat) : Int) then
              let x42 := (List.getD t1 (Int.toNat (IntKind.wrap .i64 (t7 - (1 : Int)))) (0 : Int))
              bif (decide (x42 ≥ (0 : Int))) then
                if 0 ≤ (IntKind.wrap .i64 (t7 - (1 : Int))) ∧ (IntKind.wrap .i64 (t7 - (1 : Int))) < ((List.length t1 : Nat) : Int) then
                  let x43 := (List.getD t1 (Int.toNat (IntKind.wrap .i64 (t7 - (1 : Int)))) (0 : Int))
                  if 0 ≤ t6 ∧ t6 < ((List.length c2.1 : Nat) : Int) then
                    let x44 := (List.getD c2.1 (Int.toNat t6) ([] : (List Int)))
                    let x45 := (decide (x43 < ((List.length x44 : Nat) : Int)))
                    bif x45 then
                      if 0 ≤ t6 ∧ t6 < ((List.length c2.1 : Nat) : Int) then
                        let x46 := (List.getD c2.1 (Int.toNat t6) ([] : (List Int)))
                        if 0 ≤ (IntKind.wrap .i64 (t7 - (1 : Int))) ∧ (IntKind.wrap .i64 (t7 - (1 : Int))) < ((List.length t1 : Nat) : Int) then
                          let x47 := (List.getD t1 (Int.toNat (IntKind.wrap .i64 (t7 - (1 : Int)))) (0 : Int))
                          if 0 ≤ x47 ∧ x47 < ((List.length x46 : Nat) : Int) then
                            (F22_0 k n t1 (List.getD x46 (Int.toNat x47) (0 : Int)) (IntKind.wrap .i64 (t7 - (1 : Int))) c2 c11).bind some
                          else none
                        else none
                      else none
                    else
                      (F22_0 k n t1 t6 (IntKind.wrap .i64 (t7 - (1 : Int))) c2 c11).bind some
                  else none
                else none
              else
                (F22_0 k n t1 t6 (IntKind.wrap .i64 (t7 - (1 : Int))) c2 c11).bind some
            else none
          else
            (F22_0 k n t1 t6 (IntKind.wrap .i64 (t7 - (1 : Int))) c2 c11).bind some
        else
          (F22_0 k n t1 t6 (IntKind.wrap .i64 (t7 - (1 : Int))) c2 c11).bind some
def fr22_0 (k : Nat) : Frag := ⟨⟨[], [(1, .val KD21), (2, .ptr 2 []), (5, .at 11 []), (6, .val (.int .i64)), (7, .val (.int .i64))], [(2, some 39, KD10), (11, none, KD23)]⟩, [(.ret, ⟨[], [(4, .at 11 [])], [(11, none, KD23)]⟩)], fun v => F22_0 k k v.1.1 v.1.2.1 v.1.2.2.1 v.2.1 v.2.2.1⟩
def F22 (k : Nat) (a0 : TY17) (a1 : (List Int)) : Option (TY27 × Unit) :=
  let x1 := (IntKind.wrap .i64 (((List.length a1 : Nat) : Int) + (1 : Int)))
  if (0 ≤ x1 ∧ x1 < x1 + 1) ∧ x1 ≤ 9223372036854775807 ∧ ((8 : Nat) : Int) * x1 ≤ 281474976710656 then
    (F22_0 k k a1 (0 : Int) ((List.length a1 : Nat) : Int) a0 (List.replicate (Int.toNat x1) (0 : Int))).bind fun r48 =>
    let y49 := r48.2.1
    some ((y49, ()), ())
  else none
def sp22 (k : Nat) : Spec := ⟨[.val KD10, .val KD21], [.own KD23], fun x => F22 k x.1 x.2.1⟩
def lim22 : Lim := ⟨79, 2, false, false, [], []⟩
def cfg22 (k : Nat) : Nat → Option Spec := cfgL []
theorem cfg22_ok (k : Nat) : CfgOK Try.prog (cfg22 k) := cfgL_nil
def pl22_0 (k : Nat) : Plan := .go
theorem pq22_0 (k : Nat) : PlanOK Try.prog lim22 (pl22_0 k) (codeAt (bodyOf Try.f22) [.r, .r, .r, .r, .s, .b]) = PlanOK Try.prog lim22 .go (codeAt (bodyOf Try.f22) [.r, .r, .r, .r, .s, .b]) := by kernel_rfl
theorem ps22_0 (k m : Nat) (v : (fr22_0 k).sh.V) : F22_0 k (m + 1) v.1.1 v.1.2.1 v.1.2.2.1 v.2.1 v.2.2.1 = (body Try.prog (stepper Try.prog (cfg22 k) lim22) (pl22_0 k) (codeAt (bodyOf Try.f22) [.r, .r, .r, .r, .s, .b]) ((fr22_0 k).sh.st v) (loopK (fr22_0 k) fun v => F22_0 k m v.1.1 v.1.2.1 v.1.2.2.1 v.2.1 v.2.2.1)).eval := by kernel_rfl
theorem pe22_0 (k m : Nat) (v : (fr22_0 k).sh.V) : (body Try.prog (stepper Try.prog (cfg22 k) lim22) (pl22_0 k) (codeAt (bodyOf Try.f22) [.r, .r, .r, .r, .s, .b]) ((fr22_0 k).sh.st v) (loopK (fr22_0 k) fun v => F22_0 k m v.1.1 v.1.2.1 v.1.2.2.1 v.2.1 v.2.2.1)).left = (body Try.prog (stepper Try.prog (cfg22 k) lim22) (pl22_0 k) (codeAt (bodyOf Try.f22) [.r, .r, .r, .r, .s, .b]) ((fr22_0 k).sh.st v) (loopK (fr22_0 k) fun v => F22_0 k m v.1.1 v.1.2.1 v.1.2.2.1 v.2.1 v.2.2.1)).right := by kernel_rfl
theorem fr22_0_ok (k : Nat) : FragOK Try.prog lim22 (fr22_0 k) (codeAt (bodyOf Try.f22) [.r, .r, .r, .r, .s]) :=
  frag_cast (by kernel_rfl) (loop_ok (cfg22_ok k) (Eq.mpr (pq22_0 k) (planOK_go _)) (fun m v => F22_0 k m v.1.1 v.1.2.1 v.1.2.2.1 v.2.1 v.2.2.1) k (fun _ => rfl) (fun _ => rfl) fun m v => ⟨ps22_0 k m v, pe22_0 k m v⟩)
def pl22 (k : Nat) : Plan := (.seq .go (.seq .go (.seq .go (.seq .go (.sub (.frag (fr22_0 k)))))))
theorem pq22 (k : Nat) : PlanOK Try.prog lim22 (pl22 k) (codeAt (bodyOf Try.f22) []) = (PlanOK Try.prog lim22 .go (codeAt (bodyOf Try.f22) [.l]) ∧ (PlanOK Try.prog lim22 .go (codeAt (bodyOf Try.f22) [.r, .l]) ∧ (PlanOK Try.prog lim22 .go (codeAt (bodyOf Try.f22) [.r, .r, .l]) ∧ (PlanOK Try.prog lim22 .go (codeAt (bodyOf Try.f22) [.r, .r, .r, .l]) ∧ FragOK Try.prog lim22 (fr22_0 k) (codeAt (bodyOf Try.f22) [.r, .r, .r, .r, .s]))))) := by kernel_rfl
theorem ev22 (k : Nat) (x : AT (sp22 k).ps) : (sp22 k).impl x = (fnT Try.prog (cfg22 k) lim22 Try.f22 (bodyOf Try.f22) (pl22 k) (sp22 k) x).eval := by kernel_rfl
theorem eq22 (k : Nat) (x : AT (sp22 k).ps) : (fnT Try.prog (cfg22 k) lim22 Try.f22 (bodyOf Try.f22) (pl22 k) (sp22 k) x).left = (fnT Try.prog (cfg22 k) lim22 Try.f22 (bodyOf Try.f22) (pl22 k) (sp22 k) x).right := by kernel_rfl
theorem v22 (k : Nat) : Callable Try.prog 22 ∧ Valid Try.prog 22 (sp22 k) :=
  fn_ok (cfg22_ok k) (f := 22) (fn := Try.f22) (by kernel_rfl) (c := bodyOf Try.f22) (by kernel_rfl) (by kernel_rfl) rfl rfl (Nat.le_of_ble_eq_true rfl) (Nat.le_of_ble_eq_true rfl) (p := pl22 k) (Eq.mpr (pq22 k) ⟨(planOK_go _), ⟨(planOK_go _), ⟨(planOK_go _), ⟨(planOK_go _), (fr22_0_ok k)⟩⟩⟩⟩) fun x => ⟨ev22 k x, eq22 k x⟩
/-! f12 hyphen/hyphenlaw9.known -/
def F12 (k : Nat) : Option ((Bool × Unit) × Unit) :=
  (F16 k [] [] (1 : Int) (1 : Int)).bind fun r1 =>
  (F16 k [] [] (1 : Int) (0 : Int)).bind fun r2 =>
  let x3 := (List.set (List.set (List.replicate 2 (0 : Int)) 0 (0 : Int)) 1 (0 : Int))
  (F22 k r1.1.1 x3).bind fun r4 =>
  bif (r1.1.2.2.1 == (0 : Int)) then
    let x5 := (((List.length r1.1.1.1 : Nat) : Int) == (1 : Int))
    bif x5 then
      let x6 := (((List.length r1.1.1.2.1 : Nat) : Int) == (1 : Int))
      bif x6 then
        let x7 := (((List.length r1.1.2.1 : Nat) : Int) == (1 : Int))
        bif x7 then
          if 0 ≤ (0 : Int) ∧ (0 : Int) < ((List.length r1.1.2.1 : Nat) : Int) then
            let x8 := ((List.length (List.getD r1.1.2.1 (Int.toNat (0 : Int)) ([] : (List Bool))) : Nat) : Int)
            bif (x8 == (0 : Int)) then
              bif (r2.1.2.2.1 == (4 : Int)) then
                let x9 := (((List.length r4.1.1 : Nat) : Int) == (3 : Int))
                bif x9 then
                  if 0 ≤ (0 : Int) ∧ (0 : Int) < ((List.length r4.1.1 : Nat) : Int) then
                    let x10 := (List.getD r4.1.1 (Int.toNat (0 : Int)) (0 : Int))
                    some (((x10 == (0 : Int)), ()), ())
                  else none
                else
                  some ((false, ()), ())
              else
                some ((false, ()), ())
            else
              some ((false, ()), ())
          else none
        else
          some ((false, ()), ())
      else
        some ((false, ()), ())
    else
      some ((false, ()), ())
  else
    some ((false, ()), ())
def sp12 (k : Nat) : Spec := ⟨[], [.val .bool], fun x => F12 k⟩
def lim12 : Lim := ⟨62, 0, false, false, [], []⟩
def cfg12 (k : Nat) : Nat → Option Spec := cfgL [(16, sp16 k), (22, sp22 k)]
theorem cfg12_ok (k : Nat) : CfgOK Try.prog (cfg12 k) := cfgL_cons (v16 k) (cfgL_cons (v22 k) (cfgL_nil))
def pl12 (k : Nat) : Plan := .go
theorem pq12 (k : Nat) : PlanOK Try.prog lim12 (pl12 k) (codeAt (bodyOf Try.f12) []) = PlanOK Try.prog lim12 .go (codeAt (bodyOf Try.f12) []) := by kernel_rfl
theorem ev12 (k : Nat) (x : AT (sp12 k).ps) : (sp12 k).impl x = (fnT Try.prog (cfg12 k) lim12 Try.f12 (bodyOf Try.f12) (pl12 k) (sp12 k) x).eval := by kernel_rfl
theorem eq12 (k : Nat) (x : AT (sp12 k).ps) : (fnT Try.prog (cfg12 k) lim12 Try.f12 (bodyOf Try.f12) (pl12 k) (sp12 k) x).left = (fnT Try.prog (cfg12 k) lim12 Try.f12 (bodyOf Try.f12) (pl12 k) (sp12 k) x).right := by kernel_rfl
theorem v12 (k : Nat) : Callable Try.prog 12 ∧ Valid Try.prog 12 (sp12 k) :=
  fn_ok (cfg12_ok k) (f := 12) (fn := Try.f12) (by kernel_rfl) (c := bodyOf Try.f12) (by kernel_rfl) (by kernel_rfl) rfl rfl (Nat.le_of_ble_eq_true rfl) (Nat.le_of_ble_eq_true rfl) (p := pl12 k) (Eq.mpr (pq12 k) (planOK_go _)) fun x => ⟨ev12 k x, eq12 k x⟩
/-! f15 hyphen/hyphenlaw9.within -/
def F15 (k : Nat) (a0 : Int) (a1 : Int) : Option ((Int × Unit) × Unit) :=
  if a1 ≠ 0 then
    bif (decide ((Int.tmod a0 a1) < (0 : Int))) then
      some (((IntKind.wrap .i64 ((Int.tmod a0 a1) + a1)), ()), ())
    else
      some (((Int.tmod a0 a1), ()), ())
  else none
def sp15 (k : Nat) : Spec := ⟨[.val (.int .i64), .val (.int .i64)], [.val (.int .i64)], fun x => F15 k x.1 x.2.1⟩
def lim15 : Lim := ⟨15, 2, false, false, [], []⟩
def cfg15 (k : Nat) : Nat → Option Spec := cfgL []
theorem cfg15_ok (k : Nat) : CfgOK Try.prog (cfg15 k) := cfgL_nil
def pl15 (k : Nat) : Plan := .go
theorem pq15 (k : Nat) : PlanOK Try.prog lim15 (pl15 k) (codeAt (bodyOf Try.f15) []) = PlanOK Try.prog lim15 .go (codeAt (bodyOf Try.f15) []) := by kernel_rfl
theorem ev15 (k : Nat) (x : AT (sp15 k).ps) : (sp15 k).impl x = (fnT Try.prog (cfg15 k) lim15 Try.f15 (bodyOf Try.f15) (pl15 k) (sp15 k) x).eval := by kernel_rfl
theorem eq15 (k : Nat) (x : AT (sp15 k).ps) : (fnT Try.prog (cfg15 k) lim15 Try.f15 (bodyOf Try.f15) (pl15 k) (sp15 k) x).left = (fnT Try.prog (cfg15 k) lim15 Try.f15 (bodyOf Try.f15) (pl15 k) (sp15 k) x).right := by kernel_rfl
theorem v15 (k : Nat) : Callable Try.prog 15 ∧ Valid Try.prog 15 (sp15 k) :=
  fn_ok (cfg15_ok k) (f := 15) (fn := Try.f15) (by kernel_rfl) (c := bodyOf Try.f15) (by kernel_rfl) (by kernel_rfl) rfl rfl (Nat.le_of_ble_eq_true rfl) (Nat.le_of_ble_eq_true rfl) (p := pl15 k) (Eq.mpr (pq15 k) (planOK_go _)) fun x => ⟨ev15 k x, eq15 k x⟩
/-! f10 hyphen/hyphenlaw9.BackAny -/
def F10_0 (k : Nat) : Nat → Int → Int → Int → TY12 → Option (((Int × Int × Unit) × (TY12 × Unit)))
  | 0, _, _, _, _ => none
  | n + 1, t1, t5, t7, c6 =>
    bif (decide (t7 < t5)) then
      let x7 := (List.set (List.replicate 1 (0 : Int)) 0 (-1 : Int))
      if (List.length c6.1 + List.length x7) * (8 * 2) ≤ 281474976710656 ∧ List.length c6.1 + List.length x7 ≤ 9223372036854775807 then
        let x8 := (List.set (List.replicate 1 (0 : Int)) 0 (1152921504606846976 : Int))
        if (List.length c6.2.1 + List.length x8) * (8 * 2) ≤ 281474976710656 ∧ List.length c6.2.1 + List.length x8 ≤ 9223372036854775807 then
          let x9 := (List.set (List.replicate 1 (0 : Int)) 0 (1152921504606846976 : Int))
          if (List.length c6.2.2.1 + List.length x9) * (8 * 2) ≤ 281474976710656 ∧ List.length c6.2.2.1 + List.length x9 ≤ 9223372036854775807 then
            bif (decide (t7 > (0 : Int))) then
              let x10 := (List.set (List.replicate 1 ((0 : Int), ((0 : Int), ((0 : Int), ())))) 0 ((IntKind.wrap .i64 (t7 - (1 : Int))), (t7, ((0 : Int), ()))))
              if (List.length c6.2.2.2.1 + List.length x10) * (24 * 2) ≤ 281474976710656 ∧ List.length c6.2.2.2.1 + List.length x10 ≤ 9223372036854775807 then
                (F10_0 k n t1 t5 (IntKind.wrap .i64 (t7 + (1 : Int))) ((c6.1 ++ x7), ((c6.2.1 ++ x8), ((c6.2.2.1 ++ x9), ((c6.2.2.2.1 ++ x10), c6.2.2.2.2))))).bind some
              else none
            else
              (F10_0 k n t1 t5 (IntKind.wrap .i64 (t7 + (1 : Int))) ((c6.1 ++ x7), ((c6.2.1 ++ x8), ((c6.2.2.1 ++ x9), c6.2.2.2)))).bind some
          else none
        else none
      else none
    else
      some ((t1, t5, ()), (c6, ()))
def fr10_0 (k : Nat) : Frag := ⟨⟨[], [(1, .val (.int .i64)), (5, .val (.int .i64)), (6, .ptr 6 []), (7, .val (.int .i64))], [(6, some 65, KD5)]⟩, [(.exit 0, ⟨[], [(1, .val (.int .i64)), (5, .val (.int .i64)), (6, .ptr 6 [])], [(6, some 65, KD5)]⟩)], fun v => F10_0 k k v.1.1 v.1.2.1 v.1.2.2.1 v.2.1⟩
def F10_1 (k : Nat) : Nat → Int → Int → (List Int) → (List (List Bool)) → (List Int) → Option ((Unit × Unit) ⊕ ((Bool × Unit) × Unit))
  | 0, _, _, _, _, _ => none
  | n + 1, t5, t13, c68, c1000993, c1001136 =>
    let x33 := (decide (t13 < ((List.length c1001136 : Nat) : Int)))
    bif x33 then
      if 0 ≤ t13 ∧ t13 < ((List.length c1001136 : Nat) : Int) then
        let x34 := (List.getD c1001136 (Int.toNat t13) (0 : Int))
        bif (decide (x34 < (0 : Int))) then
          some (.inr ((false, ()), ()))
        else
          if 0 ≤ t13 ∧ t13 < ((List.length c1001136 : Nat) : Int) then
            let x35 := (List.getD c1001136 (Int.toNat t13) (0 : Int))
            bif (decide (x35 ≥ (2 : Int))) then
              some (.inr ((false, ()), ()))
            else
              if 0 ≤ t13 ∧ t13 < ((List.length c1001136 : Nat) : Int) then
                let x36 := (List.getD c1001136 (Int.toNat t13) (0 : Int))
                if 0 ≤ x36 ∧ x36 < ((List.length c1000993 : Nat) : Int) then
                  let x37 := ((List.length (List.getD c1000993 (Int.toNat x36) ([] : (List Bool))) : Nat) : Int)
                  bif (x37 != (1 : Int)) then
                    some (.inr ((false, ()), ()))
                  else
                    if 0 ≤ t13 ∧ t13 < ((List.length c1001136 : Nat) : Int) then
                      let x38 := (List.getD c1001136 (Int.toNat t13) (0 : Int))
                      if 0 ≤ x38 ∧ x38 < ((List.length c1000993 : Nat) : Int) then
                        if 0 ≤ (0 : Int) ∧ (0 : Int) < ((List.length (List.getD c1000993 (Int.toNat x38) ([] : (List Bool))) : Nat) : Int) then
                          let x39 := (List.getD (List.getD c1000993 (Int.toNat x38) ([] : (List Bool))) (Int.toNat (0 : Int)) false)
                          let x40 := (IntKind.wrap .i64 (((List.length c68 : Nat) : Int) - t13))
                          bif (!(x39 == (decide (x40 ≥ t5)))) then
                            some (.inr ((false, ()), ()))
                          else
                            (F10_1 k n t5 (IntKind.wrap .i64 (t13 + (1 : Int))) c68 c1000993 c1001136).bind some
                        else none
                      else none
                    else none
                else none
              else none
          else none
      else none
    else
      some (.inl ((), ()))
def fr10_1 (k : Nat) : Frag := ⟨⟨[], [(5, .val (.int .i64)), (9, .at 1000993 []), (11, .at 68 []), (12, .at 1001136 []), (13, .val (.int .i64))], [(68, none, KD23), (1000993, none, KD16), (1001136, none, KD23)]⟩, [(.exit 2, ⟨[], [], []⟩), (.ret, ⟨[], [(4, .val .bool)], []⟩)], fun v => F10_1 k k v.1.1 v.1.2.1 v.2.1 v.2.2.1 v.2.2.2.1⟩
def F10 (k : Nat) (a0 : Int) (a1 : Int) : Option ((Bool × Unit) × Unit) :=
  (F12 k).bind fun r1 =>
  bif (!r1.1.1) then
    some ((false, ()), ())
  else
    (F15 k a0 (8 : Int)).bind fun r2 =>
    (F10_0 k k a1 (IntKind.wrap .i64 ((1 : Int) + r2.1.1)) (0 : Int) (([] : (List Int)), (([] : (List Int)), (([] : (List Int)), (([] : TY18), ((1152921504606846976 : Int), ())))))).bind fun r11 =>
    let y12 := r11.1.1
    let y13 := r11.1.2.1
    let y14 := r11.2.1
    if 0 ≤ (0 : Int) ∧ (0 : Int) < ((List.length y14.2.1 : Nat) : Int) then
      let x15 := (List.set y14.2.1 (Int.toNat (0 : Int)) (0 : Int))
      if 0 ≤ (IntKind.wrap .i64 (y13 - (1 : Int))) ∧ (IntKind.wrap .i64 (y13 - (1 : Int))) < ((List.length y14.2.2.1 : Nat) : Int) then
        let x16 := (Int.toNat (IntKind.wrap .i64 (y13 - (1 : Int))))
        let x17 := [(y14.1, (x15, ((List.set y14.2.2.1 x16 (0 : Int)), y14.2.2.2)))]
        (F16 k x17 [] (1 : Int) (50 : Int)).bind fun r18 =>
        (F15 k y12 (20 : Int)).bind fun r19 =>
        if (0 ≤ r19.1.1 ∧ r19.1.1 < r19.1.1 + 1) ∧ r19.1.1 ≤ 9223372036854775807 ∧ ((8 : Nat) : Int) * r19.1.1 ≤ 281474976710656 then
          let x20 := (List.replicate (Int.toNat r19.1.1) (0 : Int))
          (F22 k r18.1.1 x20).bind fun r21 =>
          bif (r18.1.2.2.1 != (0 : Int)) then
            some ((false, ()), ())
          else
            let x22 := (((List.length r18.1.1.1 : Nat) : Int) != (IntKind.wrap .i64 (y13 + (1 : Int))))
            bif x22 then
              some ((false, ()), ())
            else
              let x23 := (((List.length r18.1.2.1 : Nat) : Int) != (2 : Int))
              bif x23 then
                some ((false, ()), ())
              else
                let x24 := (IntKind.wrap .i64 (((List.length x20 : Nat) : Int) + (1 : Int)))
                bif (((List.length r21.1.1 : Nat) : Int) != x24) then
                  some ((false, ()), ())
                else
                  (F10_1 k k y13 (0 : Int) x20 r18.1.2.1 r21.1.1).bind fun r41 =>
                  match r41 with
                  | .inl r42 =>
                    some ((true, ()), ())
                  | .inr r42 =>
                    let y43 := r42.1.1
                    some ((y43, ()), ())
        else none
      else none
    else none
def sp10 (k : Nat) : Spec := ⟨[.val (.int .i64), .val (.int .i64)], [.val .bool], fun x => F10 k x.1 x.2.1⟩
def lim10 : Lim := ⟨142, 2, false, false, [], []⟩
def cfg10 (k : Nat) : Nat → Option Spec := cfgL [(12, sp12 k), (15, sp15 k), (16, sp16 k), (22, sp22 k)]
theorem cfg10_ok (k : Nat) : CfgOK Try.prog (cfg10 k) := cfgL_cons (v12 k) (cfgL_cons (v15 k) (cfgL_cons (v16 k) (cfgL_cons (v22 k) (cfgL_nil))))
def pl10_0 (k : Nat) : Plan := .go
theorem pq10_0 (k : Nat) : PlanOK Try.prog lim10 (pl10_0 k) (codeAt (bodyOf Try.f10) [.r, .r, .r, .r, .l, .r, .s, .b]) = PlanOK Try.prog lim10 .go (codeAt (bodyOf Try.f10) [.r, .r, .r, .r, .l, .r, .s, .b]) := by kernel_rfl
theorem ps10_0 (k m : Nat) (v : (fr10_0 k).sh.V) : F10_0 k (m + 1) v.1.1 v.1.2.1 v.1.2.2.1 v.2.1 = (body Try.prog (stepper Try.prog (cfg10 k) lim10) (pl10_0 k) (codeAt (bodyOf Try.f10) [.r, .r, .r, .r, .l, .r, .s, .b]) ((fr10_0 k).sh.st v) (loopK (fr10_0 k) fun v => F10_0 k m v.1.1 v.1.2.1 v.1.2.2.1 v.2.1)).eval := by kernel_rfl
theorem pe10_0 (k m : Nat) (v : (fr10_0 k).sh.V) : (body Try.prog (stepper Try.prog (cfg10 k) lim10) (pl10_0 k) (codeAt (bodyOf Try.f10) [.r, .r, .r, .r, .l, .r, .s, .b]) ((fr10_0 k).sh.st v) (loopK (fr10_0 k) fun v => F10_0 k m v.1.1 v.1.2.1 v.1.2.2.1 v.2.1)).left = (body Try.prog (stepper Try.prog (cfg10 k) lim10) (pl10_0 k) (codeAt (bodyOf Try.f10) [.r, .r, .r, .r, .l, .r, .s, .b]) ((fr10_0 k).sh.st v) (loopK (fr10_0 k) fun v => F10_0 k m v.1.1 v.1.2.1 v.1.2.2.1 v.2.1)).right := by kernel_rfl
theorem fr10_0_ok (k : Nat) : FragOK Try.prog lim10 (fr10_0 k) (codeAt (bodyOf Try.f10) [.r, .r, .r, .r, .l, .r, .s]) :=
  frag_cast (by kernel_rfl) (loop_ok (cfg10_ok k) (Eq.mpr (pq10_0 k) (planOK_go _)) (fun m v => F10_0 k m v.1.1 v.1.2.1 v.1.2.2.1 v.2.1) k (fun _ => rfl) (fun _ => rfl) fun m v => ⟨ps10_0 k m v, pe10_0 k m v⟩)
def pl10_1 (k : Nat) : Plan := .go
theorem pq10_1 (k : Nat) : PlanOK Try.prog lim10 (pl10_1 k) (codeAt (bodyOf Try.f10) [.r, .r, .r, .r, .r, .r, .r, .r, .r, .r, .l, .r, .s, .b]) = PlanOK Try.prog lim10 .go (codeAt (bodyOf Try.f10) [.r, .r, .r, .r, .r, .r, .r, .r, .r, .r, .l, .r, .s, .b]) := by kernel_rfl
theorem ps10_1 (k m : Nat) (v : (fr10_1 k).sh.V) : F10_1 k (m + 1) v.1.1 v.1.2.1 v.2.1 v.2.2.1 v.2.2.2.1 = (body Try.prog (stepper Try.prog (cfg10 k) lim10) (pl10_1 k) (codeAt (bodyOf Try.f10) [.r, .r, .r, .r, .r, .r, .r, .r, .r, .r, .l, .r, .s, .b]) ((fr10_1 k).sh.st v) (loopK (fr10_1 k) fun v => F10_1 k m v.1.1 v.1.2.1 v.2.1 v.2.2.1 v.2.2.2.1)).eval := by kernel_rfl
theorem pe10_1 (k m : Nat) (v : (fr10_1 k).sh.V) : (body Try.prog (stepper Try.prog (cfg10 k) lim10) (pl10_1 k) (codeAt (bodyOf Try.f10) [.r, .r, .r, .r, .r, .r, .r, .r, .r, .r, .l, .r, .s, .b]) ((fr10_1 k).sh.st v) (loopK (fr10_1 k) fun v => F10_1 k m v.1.1 v.1.2.1 v.2.1 v.2.2.1 v.2.2.2.1)).left = (body Try.prog (stepper Try.prog (cfg10 k) lim10) (pl10_1 k) (codeAt (bodyOf Try.f10) [.r, .r, .r, .r, .r, .r, .r, .r, .r, .r, .l, .r, .s, .b]) ((fr10_1 k).sh.st v) (loopK (fr10_1 k) fun v => F10_1 k m v.1.1 v.1.2.1 v.2.1 v.2.2.1 v.2.2.2.1)).right := by kernel_rfl
theorem fr10_1_ok (k : Nat) : FragOK Try.prog lim10 (fr10_1 k) (codeAt (bodyOf Try.f10) [.r, .r, .r, .r, .r, .r, .r, .r, .r, .r, .l, .r, .s]) :=
  frag_cast (by kernel_rfl) (loop_ok (cfg10_ok k) (Eq.mpr (pq10_1 k) (planOK_go _)) (fun m v => F10_1 k m v.1.1 v.1.2.1 v.2.1 v.2.2.1 v.2.2.2.1) k (fun _ => rfl) (fun _ => rfl) fun m v => ⟨ps10_1 k m v, pe10_1 k m v⟩)
def pl10 (k : Nat) : Plan := (.seq .go (.seq .go (.seq .go (.seq .go (.seq (.seq .go (.sub (.frag (fr10_0 k)))) (.seq .go (.seq .go (.seq .go (.seq .go (.seq .go (.seq (.seq .go (.sub (.frag (fr10_1 k)))) .go)))))))))))
theorem pq10 (k : Nat) : PlanOK Try.prog lim10 (pl10 k) (codeAt (bodyOf Try.f10) []) = (PlanOK Try.prog lim10 .go (codeAt (bodyOf Try.f10) [.l]) ∧ (PlanOK Try.prog lim10 .go (codeAt (bodyOf Try.f10) [.r, .l]) ∧ (PlanOK Try.prog lim10 .go (codeAt (bodyOf Try.f10) [.r, .r, .l]) ∧ (PlanOK Try.prog lim10 .go (codeAt (bodyOf Try.f10) [.r, .r, .r, .l]) ∧ ((PlanOK Try.prog lim10 .go (codeAt (bodyOf Try.f10) [.r, .r, .r, .r, .l, .l]) ∧ FragOK Try.prog lim10 (fr10_0 k) (codeAt (bodyOf Try.f10) [.r, .r, .r, .r, .l, .r, .s])) ∧ (PlanOK Try.prog lim10 .go (codeAt (bodyOf Try.f10) [.r, .r, .r, .r, .r, .l]) ∧ (PlanOK Try.prog lim10 .go (codeAt (bodyOf Try.f10) [.r, .r, .r, .r, .r, .r, .l]) ∧ (PlanOK Try.prog lim10 .go (codeAt (bodyOf Try.f10) [.r, .r, .r, .r, .r, .r, .r, .l]) ∧ (PlanOK Try.prog lim10 .go (codeAt (bodyOf Try.f10) [.r, .r, .r, .r, .r, .r, .r, .r, .l]) ∧ (PlanOK Try.prog lim10 .go (codeAt (bodyOf Try.f10) [.r, .r, .r, .r, .r, .r, .r, .r, .r, .l]) ∧ ((PlanOK Try.prog lim10 .go (codeAt (bodyOf Try.f10) [.r, .r, .r, .r, .r, .r, .r, .r, .r, .r, .l, .l]) ∧ FragOK Try.prog lim10 (fr10_1 k) (codeAt (bodyOf Try.f10) [.r, .r, .r, .r, .r, .r, .r, .r, .r, .r, .l, .r, .s])) ∧ PlanOK Try.prog lim10 .go (codeAt (bodyOf Try.f10) [.r, .r, .r, .r, .r, .r, .r, .r, .r, .r, .r])))))))))))) := by kernel_rfl
theorem ev10 (k : Nat) (x : AT (sp10 k).ps) : (sp10 k).impl x = (fnT Try.prog (cfg10 k) lim10 Try.f10 (bodyOf Try.f10) (pl10 k) (sp10 k) x).eval := by kernel_rfl
theorem eq10 (k : Nat) (x : AT (sp10 k).ps) : (fnT Try.prog (cfg10 k) lim10 Try.f10 (bodyOf Try.f10) (pl10 k) (sp10 k) x).left = (fnT Try.prog (cfg10 k) lim10 Try.f10 (bodyOf Try.f10) (pl10 k) (sp10 k) x).right := by kernel_rfl
theorem v10 (k : Nat) : Callable Try.prog 10 ∧ Valid Try.prog 10 (sp10 k) :=
  fn_ok (cfg10_ok k) (f := 10) (fn := Try.f10) (by kernel_rfl) (c := bodyOf Try.f10) (by kernel_rfl) (by kernel_rfl) rfl rfl (Nat.le_of_ble_eq_true rfl) (Nat.le_of_ble_eq_true rfl) (p := pl10 k) (Eq.mpr (pq10 k) ⟨(planOK_go _), ⟨(planOK_go _), ⟨(planOK_go _), ⟨(planOK_go _), ⟨⟨(planOK_go _), (fr10_0_ok k)⟩, ⟨(planOK_go _), ⟨(planOK_go _), ⟨(planOK_go _), ⟨(planOK_go _), ⟨(planOK_go _), ⟨⟨(planOK_go _), (fr10_1_ok k)⟩, (planOK_go _)⟩⟩⟩⟩⟩⟩⟩⟩⟩⟩⟩) fun x => ⟨ev10 k x, eq10 k x⟩
end Go.Proofs.YtibammoednhnoaaE
