/- Functions of the program, as Lean functions, with their contracts; printed by gen.py. Conditions: none. -/
import Derived.Test.YtibammoednhnoaaE36
import Derived.Test.YtibammoednhnoaaProg
set_option linter.unusedVariables false
namespace Go.Proofs.YtibammoednhnoaaE
open Kd
set_option maxRecDepth 20000
abbrev TY73 : Type := Int × (Int × Unit)
abbrev TY72 : Type := (Int × Unit) × Unit
abbrev TY71 : Type := (Bool × Unit) × Unit
abbrev KD70 : Kd := .sl true 4 .bool none
abbrev TY69 : Type := List (ByteArray × Int)
abbrev TY68 : Type := List TY73
abbrev TY67 : Type := Tree TY73
abbrev TY66 : Type := ((List Int) × Unit) × Unit
abbrev KD65 : Kd := .sl true 5 (.int .u8) none
abbrev KD64 : Kd := .sl true 3 (.int .i64) none
abbrev KD63 : Kd := .sl false 5 (.int .u8) none
abbrev TY62 : Type := (Unit × ((List Int) × Unit))
abbrev KD61 : Kd := .sl false 3 (.int .i64) none
abbrev KD60 : Kd := .pair (.mp true 82 .i64) .unit
abbrev TY59 : Type := Option TY69
abbrev TY58 : Type := List TY68
abbrev TY57 : Type := List TY67
abbrev TY56 : Type := List (Int × TY73)
abbrev TY55 : Type := TY68 × Unit
abbrev TY54 : Type := (List (List Int)) × ((List Int) × Unit)
abbrev KD53 : Kd := .sl true 51 KD70 none
abbrev TY52 : Type := TY59 × Unit
abbrev KD51 : Kd := .sl false 51 (.sl false 4 .bool none) none
abbrev TY50 : Type := TY55 × Unit
abbrev TY49 : Type := Tree (Int × (Int × (Int × (ByteArray × Unit))))
abbrev KD48 : Kd := .tl 108 (.pair (.int .i64) (.pair (.int .i64) .unit))
abbrev KD47 : Kd := .tree 108 (.pair (.int .i64) (.pair (.int .i64) .unit))
abbrev TY46 : Type := Tree (Int × (Int × (Int × (Int × (ByteArray × Unit)))))
abbrev KD45 : Kd := .sl true 140 (.pair (.int .i64) (.pair (.int .i64) .unit)) none
abbrev KD44 : Kd := .pair (.int .i64) (.pair (.int .i64) (.pair (.int .i64) .unit))
abbrev KD43 : Kd := .sl false 140 (.pair (.int .i64) (.pair (.int .i64) .unit)) none
abbrev TY42 : Type := TY58 × Int × Int × Int × Int × Unit
abbrev TY41 : Type := (Int × Unit) × (TY54 × Unit)
abbrev TY40 : Type := (TY46 × Unit) × Unit
abbrev TY39 : Type := List (ByteArray × (TY49 × Unit))
abbrev KD38 : Kd := .sl true 67 KD44 none
abbrev TY37 : Type := TY55 × (TY58 × Unit)
abbrev KD36 : Kd := .sl true 111 KD43 none
abbrev KD35 : Kd := .sl false 111 KD43 none
abbrev TY34 : Type := TY39 × Unit
abbrev KD33 : Kd := .tree 115 (.pair (.int .i64) (.pair (.int .i64) (.pair (.int .i64) (.pair .str .unit))))
abbrev TY32 : Type := (List Int) × ((List Int) × ((List Int) × (TY56 × (Int × Unit))))
abbrev KD31 : Kd := .pair (.sl true 23 KD64 none) (.pair KD64 .unit)
abbrev TY30 : Type := Int × (Int × (Int × (ByteArray × ((List TY49) × Unit))))
abbrev KD29 : Kd := .pair (.sl false 23 KD61 none) (.pair KD61 .unit)
abbrev TY28 : Type := List TY32
abbrev KD27 : Kd := .tree 55 (.pair (.int .i64) (.pair (.int .i64) (.pair (.int .i64) (.pair (.int .i64) (.pair .str .unit)))))
abbrev TY26 : Type := (TY32 × Unit) × Unit
abbrev TY25 : Type := Int × (Int × (Int × (Int × (ByteArray × ((List TY46) × Unit)))))
abbrev KD24 : Kd := .sl true 117 (.pair .str (.pair KD33 .unit)) none
abbrev TY23 : Type := List (Int × (Int × (TY46 × (TY46 × Unit))))
abbrev TY22 : Type := (TY49 × Unit) × TY34
abbrev KD21 : Kd := .pair (.int .i64) (.pair (.int .i64) (.pair (.int .i64) (.pair .str (.pair (.tl 115 (.pair (.int .i64) (.pair (.int .i64) (.pair (.int .i64) (.pair .str .unit))))) .unit))))
abbrev TY20 : Type := TY52 × (TY28 × ((List (List Bool)) × ((List (List Int)) × Unit)))
abbrev KD19 : Kd := .pair (.int .i64) (.pair (.int .i64) (.pair (.int .i64) (.pair (.int .i64) (.pair .str (.pair (.tl 55 (.pair (.int .i64) (.pair (.int .i64) (.pair (.int .i64) (.pair (.int .i64) (.pair .str .unit)))))) .unit)))))
abbrev TY18 : Type := Option TY20
abbrev TY17 : Type := TY20 × Unit
abbrev TY16 : Type := (Unit × (TY32 × TY32 × Unit))
abbrev KD15 : Kd := .pair KD64 (.pair KD64 (.pair KD64 (.pair KD38 (.pair (.int .i64) .unit))))
abbrev KD14 : Kd := .pair KD61 (.pair KD61 (.pair KD61 (.pair (.sl false 67 KD44 none) (.pair (.int .i64) .unit))))
abbrev TY13 : Type := TY32 × TY32 × TY56 × Unit
abbrev TY12 : Type := TY39 × (TY23 × Unit)
abbrev TY11 : Type := TY32 × TY32 × (List Bool) × (List Bool) × (List Bool) × Unit
abbrev KD10 : Kd := .sl false 65 KD14 none
abbrev KD9 : Kd := .pair KD60 (.pair KD10 (.pair KD51 (.pair (.sl true 90 KD65 none) .unit)))
abbrev TY8 : Type := ((Int × Unit) × (TY32 × TY32 × TY32 × TY32 × Unit))
abbrev KD7 : Kd := .ep (.pair (.pair (.mp false 82 .i64) .unit) (.pair KD10 (.pair KD51 (.pair (.sl false 90 KD63 none) .unit))))
abbrev KD6 : Kd := .pair KD24 (.pair (.sl true 57 (.pair (.int .i64) (.pair (.int .i64) (.pair KD27 (.pair KD27 .unit)))) none) .unit)
abbrev KD5 : Kd := .pair (.sl false 117 (.pair .str (.pair KD33 .unit)) none) (.pair (.sl false 57 (.pair (.int .i64) (.pair (.int .i64) (.pair KD27 (.pair KD27 .unit)))) none) .unit)
abbrev TY4 : Type := (((List Int) × Int × TY28 × Int × Int × Unit) × (TY18 × Int × TY32 × (List Int) × Unit))
abbrev TY3 : Type := TY12 × ((List Int) × ((List Int) × ((List (List Bool)) × (TY28 × (TY28 × (Int × Unit))))))
abbrev KD2 : Kd := .pair KD6 (.pair KD64 (.pair KD64 (.pair KD53 (.pair (.sl true 65 KD15 none) (.pair (.sl true 65 KD15 none) (.pair (.int .i64) .unit))))))
abbrev KD1 : Kd := .pair KD5 (.pair KD64 (.pair KD64 (.pair KD53 (.pair (.sl true 65 KD14 none) (.pair (.sl true 65 KD14 none) (.pair (.int .i64) .unit))))))
abbrev KD0 : Kd := .pair KD5 (.pair KD61 (.pair KD61 (.pair KD51 (.pair KD10 (.pair KD10 (.pair (.int .i64) .unit))))))
def F59 (k : Nat) (a0 : (List Int)) : Option ((ByteArray × Unit) × Unit) :=
 if List.length a0 ≤ 9223372036854775807 then
  some (((bstr a0), ()), ())
 else none
def sp59 (k : Nat) : Spec := ⟨[.val KD63], [.val .str], fun x => F59 k x.1⟩
def lim59 : Lim := ⟨5, 1, false, false, [], []⟩
def cfg59 (k : Nat) : Nat → Option Spec := cfgL []
noncomputable def co59 : Code := codeAt (bodyOf Try.f59) []
theorem cfg59_ok (k : Nat) : CfgOK Try.prog (cfg59 k) := cfgL_nil
noncomputable def bo59 (k : Nat) (x : AT (sp59 k).ps) := fnT Try.prog (cfg59 k) lim59 Try.f59 (bodyOf Try.f59) .go (sp59 k) x
theorem vv59 (k : Nat) (x : AT (sp59 k).ps) : (sp59 k).impl x = (bo59 k x).eval ∧ (bo59 k x).left = (bo59 k x).right := ⟨by kernel_rfl, by kernel_rfl⟩
theorem v59 (k : Nat) : Callable Try.prog 59 ∧ Valid Try.prog 59 (sp59 k) :=
 fn_of (n := lim59) (fn := Try.f59) (p := .go) (cfg59_ok k) (by kernel_rfl) (planOK_go _) (vv59 k)
def F1038 (k : Nat) (a0 : TY20) (a1 : ByteArray) : Option ((Int × Bool × Unit) × TY17) :=
 bif (!(Option.isSome a0.1.1)) then
  let x1 := (findM (Option.getD (some [] : Option TY69) []) a1).1
  let x2 := (findM (Option.getD (some [] : Option TY69) []) a1).2
  bif (!x2) then
   if ((List.length (Option.getD (some [] : Option TY69) []) : Nat) : Int) ≤ 9223372036854775807 then
    let x3 := ((List.length (Option.getD (some [] : Option TY69) []) : Nat) : Int)
    if (Option.isSome (some [] : Option TY69)) = true then
     let x4 := (some (putM (Option.getD (some [] : Option TY69) []) a1 x3))
     some ((x3, (!x2), ()), (((x4, a0.1.2), a0.2), ()))
    else none
   else none
  else
   some ((x1, (!x2), ()), ((((some [] : Option TY69), a0.1.2), a0.2), ()))
 else
  bif (!(findM (Option.getD a0.1.1 []) a1).2) then
   if ((List.length (Option.getD a0.1.1 []) : Nat) : Int) ≤ 9223372036854775807 then
    let x5 := ((List.length (Option.getD a0.1.1 []) : Nat) : Int)
    if (Option.isSome a0.1.1) = true then
     some ((x5, (!(findM (Option.getD a0.1.1 []) a1).2), ()), ((((some (putM (Option.getD a0.1.1 []) a1 x5)), a0.1.2), a0.2), ()))
    else none
   else none
  else
   some (((findM (Option.getD a0.1.1 []) a1).1, (!(findM (Option.getD a0.1.1 []) a1).2), ()), (a0, ()))
def sp1038 (k : Nat) : Spec := ⟨[.ptr 87 KD9 [.fst], .val .str], [.val (.int .i64), .val .bool], fun x => F1038 k x.1 x.2.1⟩
def lim1038 : Lim := ⟨42, 2, false, false, [], []⟩
def cfg1038 (k : Nat) : Nat → Option Spec := cfgL []
noncomputable def co1038 : Code := codeAt (bodyOf Try.f38) []
theorem cfg1038_ok (k : Nat) : CfgOK Try.prog (cfg1038 k) := cfgL_nil
noncomputable def bo1038 (k : Nat) (x : AT (sp1038 k).ps) := fnT Try.prog (cfg1038 k) lim1038 Try.f38 (bodyOf Try.f38) .go (sp1038 k) x
theorem vv1038 (k : Nat) (x : AT (sp1038 k).ps) : (sp1038 k).impl x = (bo1038 k x).eval ∧ (bo1038 k x).left = (bo1038 k x).right := ⟨by kernel_rfl, by kernel_rfl⟩
theorem v1038 (k : Nat) : Callable Try.prog 38 ∧ Valid Try.prog 38 (sp1038 k) :=
 fn_of (n := lim1038) (fn := Try.f38) (p := .go) (cfg1038_ok k) (by kernel_rfl) (planOK_go _) (vv1038 k)
def F35 (k : Nat) (a0 : TY20) (a1 : (List Int)) : Option ((Int × Unit) × TY17) :=
 (F59 k a1).bind fun r1 =>
 (F1038 k a0 r1.1.1).bind fun r2 =>
 bif r2.1.2.1 then
  if (List.length r2.2.1.2.2.2.1 + List.length [a1]) * (24 * 2) ≤ 281474976710656 ∧ List.length r2.2.1.2.2.2.1 + List.length [a1] ≤ 9223372036854775807 then
   some ((r2.1.1, ()), ((r2.2.1.1, (r2.2.1.2.1, (r2.2.1.2.2.1, ((r2.2.1.2.2.2.1 ++ [a1]), r2.2.1.2.2.2.2)))), ()))
  else none
 else
  some ((r2.1.1, ()), (r2.2.1, ()))
def sp35 (k : Nat) : Spec := ⟨[.ptr 87 KD9 [], .own KD65], [.val (.int .i64)], fun x => F35 k x.1 x.2.1⟩
def lim35 : Lim := ⟨28, 2, false, false, [], []⟩
def cfg35 (k : Nat) : Nat → Option Spec := cfgL [(59, sp59 k), (38, sp1038 k)]
noncomputable def co35 : Code := codeAt (bodyOf Try.f35) []
theorem cfg35_ok (k : Nat) : CfgOK Try.prog (cfg35 k) := cfgL_cons (v59 k) (cfgL_cons (v1038 k) (cfgL_nil))
noncomputable def bo35 (k : Nat) (x : AT (sp35 k).ps) := fnT Try.prog (cfg35 k) lim35 Try.f35 (bodyOf Try.f35) .go (sp35 k) x
theorem vv35 (k : Nat) (x : AT (sp35 k).ps) : (sp35 k).impl x = (bo35 k x).eval ∧ (bo35 k x).left = (bo35 k x).right := ⟨by kernel_rfl, by kernel_rfl⟩
theorem v35 (k : Nat) : Callable Try.prog 35 ∧ Valid Try.prog 35 (sp35 k) :=
 fn_of (n := lim35) (fn := Try.f35) (p := .go) (cfg35_ok k) (by kernel_rfl) (planOK_go _) (vv35 k)
def F61 (k : Nat) (a0 : TY18) (a1 : TY32) (a2 : Int) (a3 : Int) : Option TY71 :=
 if 0 ≤ a2 ∧ a2 < ((List.length a1.1 : Nat) : Int) then
  let x1 := (decide ((List.getD a1.1 (Int.toNat a2) (0 : Int)) < (0 : Int)))
  bif x1 then
   some ((true, ()), ())
  else
   if (Option.isSome a0) = true then
    if (Option.isSome a0) = true then
     let x2 := (Option.getD a0 (((none : TY59), ()), (([] : TY28), (([] : (List (List Bool))), (([] : (List (List Int))), ()))))).2.2.1
     let x3 := (decide ((List.getD a1.1 (Int.toNat a2) (0 : Int)) < ((List.length x2 : Nat) : Int)))
     bif x3 then
      if (Option.isSome a0) = true then
       if (Option.isSome a0) = true then
        let x4 := (Option.getD a0 (((none : TY59), ()), (([] : TY28), (([] : (List (List Bool))), (([] : (List (List Int))), ()))))).2.2.1
        if 0 ≤ (List.getD a1.1 (Int.toNat a2) (0 : Int)) ∧ (List.getD a1.1 (Int.toNat a2) (0 : Int)) < ((List.length x4 : Nat) : Int) then
         let x5 := (List.getD x4 (Int.toNat (List.getD a1.1 (Int.toNat a2) (0 : Int))) ([] : (List Bool)))
         let x6 := (decide (a3 < ((List.length x5 : Nat) : Int)))
         bif x6 then
          if (Option.isSome a0) = true then
           if (Option.isSome a0) = true then
            let x7 := (Option.getD a0 (((none : TY59), ()), (([] : TY28), (([] : (List (List Bool))), (([] : (List (List Int))), ()))))).2.2.1
            if 0 ≤ (List.getD a1.1 (Int.toNat a2) (0 : Int)) ∧ (List.getD a1.1 (Int.toNat a2) (0 : Int)) < ((List.length x7 : Nat) : Int) then
             let x8 := (List.getD x7 (Int.toNat (List.getD a1.1 (Int.toNat a2) (0 : Int))) ([] : (List Bool)))
             if 0 ≤ a3 ∧ a3 < ((List.length x8 : Nat) : Int) then
              some (((List.getD x8 (Int.toNat a3) false), ()), ())
             else none
            else none
           else none
          else none
         else
          some ((false, ()), ())
        else none
       else none
      else none
     else
      some ((false, ()), ())
    else none
   else none
 else none
def sp61 (k : Nat) : Spec := ⟨[.val KD7, .val KD14, .val (.int .i64), .val (.int .i64)], [.val .bool], fun x => F61 k x.1 x.2.1 x.2.2.1 x.2.2.2.1⟩
def lim61 : Lim := ⟨50, 4, false, false, [], []⟩
def cfg61 (k : Nat) : Nat → Option Spec := cfgL []
noncomputable def co61 : Code := codeAt (bodyOf Try.f61) []
theorem cfg61_ok (k : Nat) : CfgOK Try.prog (cfg61 k) := cfgL_nil
noncomputable def bo61 (k : Nat) (x : AT (sp61 k).ps) := fnT Try.prog (cfg61 k) lim61 Try.f61 (bodyOf Try.f61) .go (sp61 k) x
theorem vv61 (k : Nat) (x : AT (sp61 k).ps) : (sp61 k).impl x = (bo61 k x).eval ∧ (bo61 k x).left = (bo61 k x).right := ⟨by kernel_rfl, by kernel_rfl⟩
theorem v61 (k : Nat) : Callable Try.prog 61 ∧ Valid Try.prog 61 (sp61 k) :=
 fn_of (n := lim61) (fn := Try.f61) (p := .go) (cfg61_ok k) (by kernel_rfl) (planOK_go _) (vv61 k)
def F60 (k : Nat) (a0 : Int) (a1 : TY18) (a2 : TY32) (a3 : Int) : Option ((Bool × Unit) × (TY18 × TY32 × Int × Unit)) :=
 (F61 k a1 a2 a0 a3).bind fun r1 =>
 some ((r1.1.1, ()), (a1, a2, a3, ()))
def sp60 (k : Nat) : Spec := ⟨[.val (.int .i64), .ptr 81 KD7 [], .ptr 65 KD14 [], .ptr 3 (.int .i64) []], [.val .bool], fun x => F60 k x.1 x.2.1 x.2.2.1 x.2.2.2.1⟩
def lim60 : Lim := ⟨11, 4, false, false, [], []⟩
def cfg60 (k : Nat) : Nat → Option Spec := cfgL [(61, sp61 k)]
noncomputable def co60 : Code := codeAt (bodyOf Try.f60) []
theorem cfg60_ok (k : Nat) : CfgOK Try.prog (cfg60 k) := cfgL_cons (v61 k) (cfgL_nil)
noncomputable def bo60 (k : Nat) (x : AT (sp60 k).ps) := fnT Try.prog (cfg60 k) lim60 Try.f60 (bodyOf Try.f60) .go (sp60 k) x
theorem vv60 (k : Nat) (x : AT (sp60 k).ps) : (sp60 k).impl x = (bo60 k x).eval ∧ (bo60 k x).left = (bo60 k x).right := ⟨by kernel_rfl, by kernel_rfl⟩
theorem v60 (k : Nat) : Callable Try.prog 60 ∧ Valid Try.prog 60 (sp60 k) :=
 fn_of (n := lim60) (fn := Try.f60) (p := .go) (cfg60_ok k) (by kernel_rfl) (planOK_go _) (vv60 k)
def F36_0 (k : Nat) : Nat → (List Int) → Int → TY28 → Int → Int → Int → Int → TY18 → Int → TY32 → (List Int) → Option TY4
 | 0, _, _, _, _, _, _, _, _, _, _, _ => none
 | n + 1, t1, t8, t21, t22, t23, t30, t31, c3, c5, c10, c17 =>
  bif (decide (t31 < t30)) then
   if 0 ≤ t31 ∧ t31 < ((List.length c10.2.2.1 : Nat) : Int) then
    let x7 := (List.getD c10.2.2.1 (Int.toNat t31) (0 : Int))
    bif (decide (x7 < (1152921504606846976 : Int))) then
     (F60 k t31 c3 c10 c5).bind fun r8 =>
     bif r8.1.1 then
      if 0 ≤ (IntKind.wrap .i64 (t8 + t31)) ∧ (IntKind.wrap .i64 (t8 + t31)) < ((List.length c17 : Nat) : Int) then
       let x9 := (Int.toNat (IntKind.wrap .i64 (t8 + t31)))
       (F36_0 k n t1 t8 t21 t22 t23 t30 (IntKind.wrap .i64 (t31 + (1 : Int))) r8.2.1 r8.2.2.2.1 r8.2.2.1 (List.set c17 x9 (1 : Int))).bind some
      else none
     else
      (F36_0 k n t1 t8 t21 t22 t23 t30 (IntKind.wrap .i64 (t31 + (1 : Int))) r8.2.1 r8.2.2.2.1 r8.2.2.1 c17).bind some
    else
     (F36_0 k n t1 t8 t21 t22 t23 t30 (IntKind.wrap .i64 (t31 + (1 : Int))) c3 c5 c10 c17).bind some
   else none
  else
   some ((t1, t8, t21, t22, t23, ()), (c3, c5, c10, c17, ()))
def fr36_0 (k : Nat) : Frag := ⟨⟨[], [(1, .val KD63), (3, .ptr 3 []), (5, .ptr 5 []), (7, .at 17 []), (8, .val (.int .i64)), (10, .ptr 10 []), (11, .clo 60 [3, 10, 5]), (21, .val KD10), (22, .val (.int .i64)), (23, .val (.int .i64)), (30, .val (.int .i64)), (31, .val (.int .i64))], [(3, some 81, KD7), (5, some 3, (.int .i64)), (10, some 65, KD14), (17, none, KD65)]⟩, [(.exit 2, ⟨[], [(1, .val KD63), (3, .ptr 3 []), (5, .ptr 5 []), (7, .at 17 []), (8, .val (.int .i64)), (10, .ptr 10 []), (11, .clo 60 [3, 10, 5]), (21, .val KD10), (22, .val (.int .i64)), (23, .val (.int .i64))], [(3, some 81, KD7), (5, some 3, (.int .i64)), (10, some 65, KD14), (17, none, KD65)]⟩)], fun v => F36_0 k k v.1.1 v.1.2.1 v.1.2.2.1 v.1.2.2.2.1 v.1.2.2.2.2.1 v.1.2.2.2.2.2.1 v.1.2.2.2.2.2.2.1 v.2.1 v.2.2.1 v.2.2.2.1 v.2.2.2.2.1⟩
def F36_1 (k : Nat) : Nat → (List Int) → Int → TY28 → Int → Int → TY56 → Int → Int → TY18 → Int → TY32 → (List Int) → Option TY4
 | 0, _, _, _, _, _, _, _, _, _, _, _, _ => none
 | n + 1, t1, t8, t21, t22, t23, t52, t53, t54, c3, c5, c10, c17 =>
  bif (decide (t54 < t53)) then
   if 0 ≤ t54 ∧ t54 < ((List.length t52 : Nat) : Int) then
    let x24 := (List.getD t52 (Int.toNat t54) ((0 : Int), ((0 : Int), ((0 : Int), ()))))
    if 0 ≤ (IntKind.wrap .i64 (t8 + x24.2.1)) ∧ (IntKind.wrap .i64 (t8 + x24.2.1)) < ((List.length t1 : Nat) : Int) then
     let x25 := (List.getD t1 (Int.toNat (IntKind.wrap .i64 (t8 + x24.2.1))) (0 : Int))
     bif (x25 == (1 : Int)) then
      (F60 k x24.1 c3 c10 c5).bind fun r26 =>
      bif r26.1.1 then
       if 0 ≤ (IntKind.wrap .i64 (t8 + x24.1)) ∧ (IntKind.wrap .i64 (t8 + x24.1)) < ((List.length c17 : Nat) : Int) then
        let x27 := (Int.toNat (IntKind.wrap .i64 (t8 + x24.1)))
        (F36_1 k n t1 t8 t21 t22 t23 t52 t53 (IntKind.wrap .i64 (t54 + (1 : Int))) r26.2.1 r26.2.2.2.1 r26.2.2.1 (List.set c17 x27 (1 : Int))).bind some
       else none
      else
       (F36_1 k n t1 t8 t21 t22 t23 t52 t53 (IntKind.wrap .i64 (t54 + (1 : Int))) r26.2.1 r26.2.2.2.1 r26.2.2.1 c17).bind some
     else
      (F36_1 k n t1 t8 t21 t22 t23 t52 t53 (IntKind.wrap .i64 (t54 + (1 : Int))) c3 c5 c10 c17).bind some
    else none
   else none
  else
   some ((t1, t8, t21, t22, t23, ()), (c3, c5, c10, c17, ()))
def fr36_1 (k : Nat) : Frag := ⟨⟨[], [(1, .val KD63), (3, .ptr 3 []), (5, .ptr 5 []), (7, .at 17 []), (8, .val (.int .i64)), (10, .ptr 10 []), (11, .clo 60 [3, 10, 5]), (21, .val KD10), (22, .val (.int .i64)), (23, .val (.int .i64)), (52, .val (.sl false 67 KD44 none)), (53, .val (.int .i64)), (54, .val (.int .i64))], [(3, some 81, KD7), (5, some 3, (.int .i64)), (10, some 65, KD14), (17, none, KD65)]⟩, [(.exit 4, ⟨[], [(1, .val KD63), (3, .ptr 3 []), (5, .ptr 5 []), (7, .at 17 []), (8, .val (.int .i64)), (10, .ptr 10 []), (21, .val KD10), (22, .val (.int .i64)), (23, .val (.int .i64))], [(3, some 81, KD7), (5, some 3, (.int .i64)), (10, some 65, KD14), (17, none, KD65)]⟩)], fun v => F36_1 k k v.1.1 v.1.2.1 v.1.2.2.1 v.1.2.2.2.1 v.1.2.2.2.2.1 v.1.2.2.2.2.2.1 v.1.2.2.2.2.2.2.1 v.1.2.2.2.2.2.2.2.1 v.2.1 v.2.2.1 v.2.2.2.1 v.2.2.2.2.1⟩
def F36_2 (k : Nat) : Nat → (List Int) → Int → TY28 → Int → Int → TY18 → Int → (List Int) → Option TY62
 | 0, _, _, _, _, _, _, _, _ => none
 | n + 1, t1, t8, t21, t22, t23, c3, c5, c17 =>
  bif (decide (t23 < t22)) then
   if 0 ≤ t23 ∧ t23 < ((List.length t21 : Nat) : Int) then
    let x39 := (List.getD t21 (Int.toNat t23) (([] : (List Int)), (([] : (List Int)), (([] : (List Int)), (([] : TY56), ((0 : Int), ()))))))
    (F36_0 k k t1 t8 t21 t22 t23 ((List.length x39.1 : Nat) : Int) (0 : Int) c3 c5 x39 c17).bind fun r40 =>
    let y41 := r40.1.1
    let y42 := r40.1.2.1
    let y43 := r40.1.2.2.1
    let y44 := r40.1.2.2.2.1
    let y45 := r40.1.2.2.2.2.1
    let y46 := r40.2.1
    let y47 := r40.2.2.1
    let y48 := r40.2.2.2.1
    let y49 := r40.2.2.2.2.1
    (F36_1 k k y41 y42 y43 y44 y45 y48.2.2.2.1 ((List.length y48.2.2.2.1 : Nat) : Int) (0 : Int) y46 y47 y48 y49).bind fun r50 =>
    let y51 := r50.1.1
    let y52 := r50.1.2.1
    let y53 := r50.1.2.2.1
    let y54 := r50.1.2.2.2.1
    let y55 := r50.1.2.2.2.2.1
    let y56 := r50.2.1
    let y57 := r50.2.2.1
    let y58 := r50.2.2.2.1
    let y59 := r50.2.2.2.2.1
    let x60 := (IntKind.wrap .i64 (y52 + ((List.length y58.1 : Nat) : Int)))
    (F36_2 k n y51 x60 y53 y54 (IntKind.wrap .i64 (y55 + (1 : Int))) y56 y57 y59).bind some
   else none
  else
   some ((), (c17, ()))
def fr36_2 (k : Nat) : Frag := ⟨⟨[], [(1, .val KD63), (3, .ptr 3 []), (5, .ptr 5 []), (7, .at 17 []), (8, .val (.int .i64)), (21, .val KD10), (22, .val (.int .i64)), (23, .val (.int .i64))], [(3, some 81, KD7), (5, some 3, (.int .i64)), (17, none, KD65)]⟩, [(.exit 0, ⟨[], [(7, .at 17 [])], [(17, none, KD65)]⟩)], fun v => F36_2 k k v.1.1 v.1.2.1 v.1.2.2.1 v.1.2.2.2.1 v.1.2.2.2.2.1 v.2.1 v.2.2.1 v.2.2.2.1⟩
def F36 (k : Nat) (a0 : TY18) (a1 : (List Int)) (a2 : Int) : Option TY66 :=
 if (0 ≤ ((List.length a1 : Nat) : Int) ∧ ((List.length a1 : Nat) : Int) < ((List.length a1 : Nat) : Int) + 1) ∧ ((List.length a1 : Nat) : Int) ≤ 9223372036854775807 ∧ ((1 : Nat) : Int) * ((List.length a1 : Nat) : Int) ≤ 281474976710656 then
  let x1 := (List.replicate (Int.toNat ((List.length a1 : Nat) : Int)) (0 : Int))
  if (Option.isSome a0) = true then
   if (Option.isSome a0) = true then
    let x2 := (Option.getD a0 (((none : TY59), ()), (([] : TY28), (([] : (List (List Bool))), (([] : (List (List Int))), ()))))).2.1
    (F36_2 k k a1 (0 : Int) x2 ((List.length x2 : Nat) : Int) (0 : Int) a0 a2 x1).bind fun r61 =>
    let y62 := r61.2.1
    some ((y62, ()), ())
   else none
  else none
 else none
def sp36 (k : Nat) : Spec := ⟨[.val KD7, .val KD63, .val (.int .i64)], [.own KD65], fun x => F36 k x.1 x.2.1 x.2.2.1⟩
def lim36 : Lim := ⟨86, 3, false, false, [], []⟩
def cfg36 (k : Nat) : Nat → Option Spec := cfgL [(60, sp60 k)]
noncomputable def co36_0 : Code := codeAt (bodyOf Try.f36) [.r, .r, .r, .l, .r, .s, .b, .r, .r, .l, .s, .r, .r, .l, .r, .s]
noncomputable def cb36_0 : Code := codeAt (bodyOf Try.f36) [.r, .r, .r, .l, .r, .s, .b, .r, .r, .l, .s, .r, .r, .l, .r, .s, .b]
noncomputable def co36_1 : Code := codeAt (bodyOf Try.f36) [.r, .r, .r, .l, .r, .s, .b, .r, .r, .l, .s, .r, .r, .r, .l, .r, .s]
noncomputable def cb36_1 : Code := codeAt (bodyOf Try.f36) [.r, .r, .r, .l, .r, .s, .b, .r, .r, .l, .s, .r, .r, .r, .l, .r, .s, .b]
noncomputable def co36_2 : Code := codeAt (bodyOf Try.f36) [.r, .r, .r, .l, .r, .s]
noncomputable def cb36_2 : Code := codeAt (bodyOf Try.f36) [.r, .r, .r, .l, .r, .s, .b]
noncomputable def co36 : Code := codeAt (bodyOf Try.f36) []
theorem cfg36_ok (k : Nat) : CfgOK Try.prog (cfg36 k) := cfgL_cons (v60 k) (cfgL_nil)
noncomputable def bo36_0 (k m : Nat) (v : (fr36_0 k).sh.V) := body Try.prog (stepper Try.prog (cfg36 k) lim36) .go cb36_0 ((fr36_0 k).sh.st v) (loopK (fr36_0 k) fun v => F36_0 k m v.1.1 v.1.2.1 v.1.2.2.1 v.1.2.2.2.1 v.1.2.2.2.2.1 v.1.2.2.2.2.2.1 v.1.2.2.2.2.2.2.1 v.2.1 v.2.2.1 v.2.2.2.1 v.2.2.2.2.1)
theorem pp36_0 (k m : Nat) (v : (fr36_0 k).sh.V) : F36_0 k (m + 1) v.1.1 v.1.2.1 v.1.2.2.1 v.1.2.2.2.1 v.1.2.2.2.2.1 v.1.2.2.2.2.2.1 v.1.2.2.2.2.2.2.1 v.2.1 v.2.2.1 v.2.2.2.1 v.2.2.2.2.1 = (bo36_0 k m v).eval ∧ (bo36_0 k m v).left = (bo36_0 k m v).right := ⟨by kernel_rfl, by kernel_rfl⟩
theorem fr36_0_ok (k : Nat) : FragOK Try.prog lim36 (fr36_0 k) co36_0 :=
 frag_cast (by kernel_rfl) (loop_ok (cfg36_ok k) (planOK_go _) (fun m v => F36_0 k m v.1.1 v.1.2.1 v.1.2.2.1 v.1.2.2.2.1 v.1.2.2.2.2.1 v.1.2.2.2.2.2.1 v.1.2.2.2.2.2.2.1 v.2.1 v.2.2.1 v.2.2.2.1 v.2.2.2.2.1) k (fun _ => rfl) (fun _ => rfl) (pp36_0 k))
noncomputable def bo36_1 (k m : Nat) (v : (fr36_1 k).sh.V) := body Try.prog (stepper Try.prog (cfg36 k) lim36) .go cb36_1 ((fr36_1 k).sh.st v) (loopK (fr36_1 k) fun v => F36_1 k m v.1.1 v.1.2.1 v.1.2.2.1 v.1.2.2.2.1 v.1.2.2.2.2.1 v.1.2.2.2.2.2.1 v.1.2.2.2.2.2.2.1 v.1.2.2.2.2.2.2.2.1 v.2.1 v.2.2.1 v.2.2.2.1 v.2.2.2.2.1)
theorem pp36_1 (k m : Nat) (v : (fr36_1 k).sh.V) : F36_1 k (m + 1) v.1.1 v.1.2.1 v.1.2.2.1 v.1.2.2.2.1 v.1.2.2.2.2.1 v.1.2.2.2.2.2.1 v.1.2.2.2.2.2.2.1 v.1.2.2.2.2.2.2.2.1 v.2.1 v.2.2.1 v.2.2.2.1 v.2.2.2.2.1 = (bo36_1 k m v).eval ∧ (bo36_1 k m v).left = (bo36_1 k m v).right := ⟨by kernel_rfl, by kernel_rfl⟩
theorem fr36_1_ok (k : Nat) : FragOK Try.prog lim36 (fr36_1 k) co36_1 :=
 frag_cast (by kernel_rfl) (loop_ok (cfg36_ok k) (planOK_go _) (fun m v => F36_1 k m v.1.1 v.1.2.1 v.1.2.2.1 v.1.2.2.2.1 v.1.2.2.2.2.1 v.1.2.2.2.2.2.1 v.1.2.2.2.2.2.2.1 v.1.2.2.2.2.2.2.2.1 v.2.1 v.2.2.1 v.2.2.2.1 v.2.2.2.2.1) k (fun _ => rfl) (fun _ => rfl) (pp36_1 k))
def pl36_2 (k : Nat) : Plan := (.seq .go (.seq .go (.seq (.sub (.seq .go (.seq .go (.seq (.seq .go (.sub (.frag (fr36_0 k)))) (.seq (.seq .go (.sub (.frag (fr36_1 k)))) .go))))) .go)))
theorem pq36_2 (k : Nat) : PlanOK Try.prog lim36 (pl36_2 k) cb36_2 = (PlanOK Try.prog lim36 .go (codeAt (bodyOf Try.f36) [.r, .r, .r, .l, .r, .s, .b, .l]) ∧ (PlanOK Try.prog lim36 .go (codeAt (bodyOf Try.f36) [.r, .r, .r, .l, .r, .s, .b, .r, .l]) ∧ ((PlanOK Try.prog lim36 .go (codeAt (bodyOf Try.f36) [.r, .r, .r, .l, .r, .s, .b, .r, .r, .l, .s, .l]) ∧ (PlanOK Try.prog lim36 .go (codeAt (bodyOf Try.f36) [.r, .r, .r, .l, .r, .s, .b, .r, .r, .l, .s, .r, .l]) ∧ ((PlanOK Try.prog lim36 .go (codeAt (bodyOf Try.f36) [.r, .r, .r, .l, .r, .s, .b, .r, .r, .l, .s, .r, .r, .l, .l]) ∧ FragOK Try.prog lim36 (fr36_0 k) co36_0) ∧ ((PlanOK Try.prog lim36 .go (codeAt (bodyOf Try.f36) [.r, .r, .r, .l, .r, .s, .b, .r, .r, .l, .s, .r, .r, .r, .l, .l]) ∧ FragOK Try.prog lim36 (fr36_1 k) co36_1) ∧ PlanOK Try.prog lim36 .go (codeAt (bodyOf Try.f36) [.r, .r, .r, .l, .r, .s, .b, .r, .r, .l, .s, .r, .r, .r, .r]))))) ∧ PlanOK Try.prog lim36 .go (codeAt (bodyOf Try.f36) [.r, .r, .r, .l, .r, .s, .b, .r, .r, .r])))) := by kernel_rfl
noncomputable def bo36_2 (k m : Nat) (v : (fr36_2 k).sh.V) := body Try.prog (stepper Try.prog (cfg36 k) lim36) (pl36_2 k) cb36_2 ((fr36_2 k).sh.st v) (loopK (fr36_2 k) fun v => F36_2 k m v.1.1 v.1.2.1 v.1.2.2.1 v.1.2.2.2.1 v.1.2.2.2.2.1 v.2.1 v.2.2.1 v.2.2.2.1)
theorem pp36_2 (k m : Nat) (v : (fr36_2 k).sh.V) : F36_2 k (m + 1) v.1.1 v.1.2.1 v.1.2.2.1 v.1.2.2.2.1 v.1.2.2.2.2.1 v.2.1 v.2.2.1 v.2.2.2.1 = (bo36_2 k m v).eval ∧ (bo36_2 k m v).left = (bo36_2 k m v).right := ⟨by kernel_rfl, by kernel_rfl⟩
theorem fr36_2_ok (k : Nat) : FragOK Try.prog lim36 (fr36_2 k) co36_2 :=
 frag_cast (by kernel_rfl) (loop_ok (cfg36_ok k) (Eq.mpr (pq36_2 k) ⟨(planOK_go _), ⟨(planOK_go _), ⟨⟨(planOK_go _), ⟨(planOK_go _), ⟨⟨(planOK_go _), (fr36_0_ok k)⟩, ⟨⟨(planOK_go _), (fr36_1_ok k)⟩, (planOK_go _)⟩⟩⟩⟩, (planOK_go _)⟩⟩⟩) (fun m v => F36_2 k m v.1.1 v.1.2.1 v.1.2.2.1 v.1.2.2.2.1 v.1.2.2.2.2.1 v.2.1 v.2.2.1 v.2.2.2.1) k (fun _ => rfl) (fun _ => rfl) (pp36_2 k))
def pl36 (k : Nat) : Plan := (.seq .go (.seq .go (.seq .go (.seq (.seq .go (.sub (.frag (fr36_2 k)))) .go))))
theorem pq36 (k : Nat) : PlanOK Try.prog lim36 (pl36 k) co36 = (PlanOK Try.prog lim36 .go (codeAt (bodyOf Try.f36) [.l]) ∧ (PlanOK Try.prog lim36 .go (codeAt (bodyOf Try.f36) [.r, .l]) ∧ (PlanOK Try.prog lim36 .go (codeAt (bodyOf Try.f36) [.r, .r, .l]) ∧ ((PlanOK Try.prog lim36 .go (codeAt (bodyOf Try.f36) [.r, .r, .r, .l, .l]) ∧ FragOK Try.prog lim36 (fr36_2 k) co36_2) ∧ PlanOK Try.prog lim36 .go (codeAt (bodyOf Try.f36) [.r, .r, .r, .r]))))) := by kernel_rfl
noncomputable def bo36 (k : Nat) (x : AT (sp36 k).ps) := fnT Try.prog (cfg36 k) lim36 Try.f36 (bodyOf Try.f36) (pl36 k) (sp36 k) x
theorem vv36 (k : Nat) (x : AT (sp36 k).ps) : (sp36 k).impl x = (bo36 k x).eval ∧ (bo36 k x).left = (bo36 k x).right := ⟨by kernel_rfl, by kernel_rfl⟩
theorem v36 (k : Nat) : Callable Try.prog 36 ∧ Valid Try.prog 36 (sp36 k) :=
 fn_of (n := lim36) (fn := Try.f36) (p := (pl36 k)) (cfg36_ok k) (by kernel_rfl) (Eq.mpr (pq36 k) ⟨(planOK_go _), ⟨(planOK_go _), ⟨(planOK_go _), ⟨⟨(planOK_go _), (fr36_2_ok k)⟩, (planOK_go _)⟩⟩⟩⟩) (vv36 k)
def F62 (k : Nat) (a0 : (List Bool)) : Option (((List Bool) × Unit) × Unit) :=
 bif (((List.length a0 : Nat) : Int) == 0) then
  some (([], ()), ())
 else
  if (List.length (List.replicate 0 false) + List.length a0) * (1 * 2) ≤ 281474976710656 ∧ List.length (List.replicate 0 false) + List.length a0 ≤ 9223372036854775807 then
   some ((((List.replicate 0 false) ++ a0), ()), ())
  else none
def sp62 (k : Nat) : Spec := ⟨[.val (.sl false 4 .bool none)], [.own KD70], fun x => F62 k x.1⟩
def lim62 : Lim := ⟨8, 1, true, false, [], []⟩
def cfg62 (k : Nat) : Nat → Option Spec := cfgL []
noncomputable def co62 : Code := codeAt (bodyOf Try.f62) []
theorem cfg62_ok (k : Nat) : CfgOK Try.prog (cfg62 k) := cfgL_nil
def pl62 (k : Nat) : Plan := .go
theorem pq62 (k : Nat) : PlanOK Try.prog lim62 (pl62 k) co62 = PlanOK Try.prog lim62 .go co62 := by kernel_rfl
noncomputable def bo62 (k : Nat) (x : AT (sp62 k).ps) := fnT Try.prog (cfg62 k) lim62 Try.f62 (bodyOf Try.f62) (pl62 k) (sp62 k) x
theorem ev62 (k : Nat) (x : AT (sp62 k).ps) : (sp62 k).impl x = (bo62 k x).eval := by kernel_rfl
theorem tr62 (k : Nat) (x : AT (sp62 k).ps) : (bo62 k x) = (Tr.split (((List.length x.1 : Nat) : Int) == 0) (.both (.split true (.leaf (([], ()), ())) (.need ((List.length (List.replicate 0 false) + List.length x.1) * (1 * 2) ≤ 281474976710656 ∧ List.length (List.replicate 0 false) + List.length x.1 ≤ 9223372036854775807) (.leaf (([] ++ x.1, ()), ())))) (.split false (.leaf (([], ()), ())) (.need ((List.length (List.replicate 0 false) + List.length x.1) * (1 * 2) ≤ 281474976710656 ∧ List.length (List.replicate 0 false) + List.length x.1 ≤ 9223372036854775807) (.leaf (([] ++ x.1, ()), ()))))) (.split false (.leaf (([], ()), ())) (.need ((List.length (List.replicate 0 false) + List.length x.1) * (1 * 2) ≤ 281474976710656 ∧ List.length (List.replicate 0 false) + List.length x.1 ≤ 9223372036854775807) (.leaf (([] ++ x.1, ()), ()))))) := by kernel_rfl
theorem sa62 (k : Nat) (x : AT (sp62 k).ps) (r) (h : (sp62 k).impl x = some r) : (bo62 k x).sat (· = r) := sat_of_eq (tr62 k x) (clone_sat (a := x.1) (p := (List.length (List.replicate 0 false) + List.length x.1) * (1 * 2) ≤ 281474976710656 ∧ List.length (List.replicate 0 false) + List.length x.1 ≤ 9223372036854775807) (fun e => by rw [e]; simp) h)
theorem v62 (k : Nat) : Callable Try.prog 62 ∧ Valid Try.prog 62 (sp62 k) :=
 fn_sat (cfg62_ok k) (f := 62) (fn := Try.f62) (by kernel_rfl) (c := bodyOf Try.f62) (by kernel_rfl) (by kernel_rfl) rfl rfl (Nat.le_of_ble_eq_true rfl) (Nat.le_of_ble_eq_true rfl) (p := pl62 k) (Eq.mpr (pq62 k) (planOK_go _)) fun x r h => sa62 k x r h
def F37_0 (k : Nat) : Nat → (List Int) → Int → Bool → TY28 → Int → Int → (List Int) → Int → Int → TY32 → (List Bool) → Option ((((List Int) × Int × Bool × TY28 × Int × Int × Unit) × (TY32 × (List Bool) × Unit)))
 | 0, _, _, _, _, _, _, _, _, _, _, _ => none
 | n + 1, t1, t6, t9, t15, t16, t17, t25, t26, t27, c8, c2000005 =>
  bif (decide (t27 < t26)) then
   if 0 ≤ t27 ∧ t27 < ((List.length t25 : Nat) : Int) then
    bif t9 then
     (F37_0 k n t1 t6 true t15 t16 t17 t25 t26 (IntKind.wrap .i64 (t27 + (1 : Int))) c8 c2000005).bind some
    else
     let x4 := (decide ((List.getD t25 (Int.toNat t27) (0 : Int)) < (1152921504606846976 : Int)))
     bif x4 then
      if 0 ≤ (IntKind.wrap .i64 (t6 + t27)) ∧ (IntKind.wrap .i64 (t6 + t27)) < ((List.length t1 : Nat) : Int) then
       let x5 := (List.getD t1 (Int.toNat (IntKind.wrap .i64 (t6 + t27))) (0 : Int))
       (F37_0 k n t1 t6 (x5 == (1 : Int)) t15 t16 t17 t25 t26 (IntKind.wrap .i64 (t27 + (1 : Int))) c8 c2000005).bind some
      else none
     else
      (F37_0 k n t1 t6 false t15 t16 t17 t25 t26 (IntKind.wrap .i64 (t27 + (1 : Int))) c8 c2000005).bind some
   else none
  else
   some ((t1, t6, t9, t15, t16, t17, ()), (c8, c2000005, ()))
def fr37_0 (k : Nat) : Frag := ⟨⟨[(5, KD70)], [(1, .val KD63), (5, .at 2000005 []), (6, .val (.int .i64)), (8, .ptr 8 []), (9, .val .bool), (15, .val KD10), (16, .val (.int .i64)), (17, .val (.int .i64)), (25, .val KD61), (26, .val (.int .i64)), (27, .val (.int .i64))], [(8, some 65, KD14), (2000005, none, KD70)]⟩, [(.exit 2, ⟨[], [(1, .val KD63), (5, .at 2000005 []), (6, .val (.int .i64)), (8, .ptr 8 []), (9, .val .bool), (15, .val KD10), (16, .val (.int .i64)), (17, .val (.int .i64))], [(8, some 65, KD14), (2000005, none, KD70)]⟩)], fun v => F37_0 k k v.1.1 v.1.2.1 v.1.2.2.1 v.1.2.2.2.1 v.1.2.2.2.2.1 v.1.2.2.2.2.2.1 v.1.2.2.2.2.2.2.1 v.1.2.2.2.2.2.2.2.1 v.1.2.2.2.2.2.2.2.2.1 v.2.1 v.2.2.1⟩
def F37_1 (k : Nat) : Nat → (List Int) → Int → TY28 → Int → Int → (List Bool) → Option ((Unit × ((List Bool) × Unit)))
 | 0, _, _, _, _, _, _ => none
 | n + 1, t1, t6, t15, t16, t17, c2000005 =>
  bif (decide (t17 < t16)) then
   if 0 ≤ t17 ∧ t17 < ((List.length t15 : Nat) : Int) then
    let x2 := (List.getD t15 (Int.toNat t17) (([] : (List Int)), (([] : (List Int)), (([] : (List Int)), (([] : TY56), ((0 : Int), ()))))))
    let x3 := (decide (x2.2.2.2.2.1 < (1152921504606846976 : Int)))
    (F37_0 k k t1 t6 x3 t15 t16 t17 x2.2.1 ((List.length x2.2.1 : Nat) : Int) (0 : Int) x2 c2000005).bind fun r6 =>
    let y7 := r6.1.1
    let y8 := r6.1.2.1
    let y9 := r6.1.2.2.1
    let y10 := r6.1.2.2.2.1
    let y11 := r6.1.2.2.2.2.1
    let y12 := r6.1.2.2.2.2.2.1
    let y13 := r6.2.1
    let y14 := r6.2.2.1
    if (List.length y14 + List.length (List.set (List.replicate 1 false) 0 y9)) * (1 * 2) ≤ 281474976710656 ∧ List.length y14 + List.length (List.set (List.replicate 1 false) 0 y9) ≤ 9223372036854775807 then
     let x15 := (y14 ++ (List.set (List.replicate 1 false) 0 y9))
     let x16 := (IntKind.wrap .i64 (y8 + ((List.length y13.1 : Nat) : Int)))
     (F37_1 k n y7 x16 y10 y11 (IntKind.wrap .i64 (y12 + (1 : Int))) x15).bind some
    else none
   else none
  else
   some ((), (c2000005, ()))
def fr37_1 (k : Nat) : Frag := ⟨⟨[(5, KD70)], [(1, .val KD63), (5, .at 2000005 []), (6, .val (.int .i64)), (15, .val KD10), (16, .val (.int .i64)), (17, .val (.int .i64))], [(2000005, none, KD70)]⟩, [(.exit 0, ⟨[(5, KD70)], [(5, .at 2000005 [])], [(2000005, none, KD70)]⟩)], fun v => F37_1 k k v.1.1 v.1.2.1 v.1.2.2.1 v.1.2.2.2.1 v.1.2.2.2.2.1 v.2.1⟩
def F37 (k : Nat) (a0 : TY18) (a1 : (List Int)) : Option (((List Bool) × Unit) × Unit) :=
 if (Option.isSome a0) = true then
  if (Option.isSome a0) = true then
   let x1 := (Option.getD a0 (((none : TY59), ()), (([] : TY28), (([] : (List (List Bool))), (([] : (List (List Int))), ()))))).2.1
   (F37_1 k k a1 (0 : Int) x1 ((List.length x1 : Nat) : Int) (0 : Int) []).bind fun r17 =>
   let y18 := r17.2.1
   (F62 k y18).bind fun r19 =>
   some ((r19.1.1, ()), ())
  else none
 else none
def sp37 (k : Nat) : Spec := ⟨[.val KD7, .val KD63], [.own KD70], fun x => F37 k x.1 x.2.1⟩
def lim37 : Lim := ⟨59, 2, false, false, [], []⟩
def cfg37 (k : Nat) : Nat → Option Spec := cfgL [(62, sp62 k)]
noncomputable def co37_0 : Code := codeAt (bodyOf Try.f37) [.r, .r, .r, .l, .r, .s, .b, .r, .r, .l, .s, .r, .r, .l, .r, .s]
noncomputable def cb37_0 : Code := codeAt (bodyOf Try.f37) [.r, .r, .r, .l, .r, .s, .b, .r, .r, .l, .s, .r, .r, .l, .r, .s, .b]
noncomputable def co37_1 : Code := codeAt (bodyOf Try.f37) [.r, .r, .r, .l, .r, .s]
noncomputable def cb37_1 : Code := codeAt (bodyOf Try.f37) [.r, .r, .r, .l, .r, .s, .b]
noncomputable def co37 : Code := codeAt (bodyOf Try.f37) []
theorem cfg37_ok (k : Nat) : CfgOK Try.prog (cfg37 k) := cfgL_cons (v62 k) (cfgL_nil)
noncomputable def bo37_0 (k m : Nat) (v : (fr37_0 k).sh.V) := body Try.prog (stepper Try.prog (cfg37 k) lim37) .go cb37_0 ((fr37_0 k).sh.st v) (loopK (fr37_0 k) fun v => F37_0 k m v.1.1 v.1.2.1 v.1.2.2.1 v.1.2.2.2.1 v.1.2.2.2.2.1 v.1.2.2.2.2.2.1 v.1.2.2.2.2.2.2.1 v.1.2.2.2.2.2.2.2.1 v.1.2.2.2.2.2.2.2.2.1 v.2.1 v.2.2.1)
theorem pp37_0 (k m : Nat) (v : (fr37_0 k).sh.V) : F37_0 k (m + 1) v.1.1 v.1.2.1 v.1.2.2.1 v.1.2.2.2.1 v.1.2.2.2.2.1 v.1.2.2.2.2.2.1 v.1.2.2.2.2.2.2.1 v.1.2.2.2.2.2.2.2.1 v.1.2.2.2.2.2.2.2.2.1 v.2.1 v.2.2.1 = (bo37_0 k m v).eval ∧ (bo37_0 k m v).left = (bo37_0 k m v).right := ⟨by kernel_rfl, by kernel_rfl⟩
theorem fr37_0_ok (k : Nat) : FragOK Try.prog lim37 (fr37_0 k) co37_0 :=
 frag_cast (by kernel_rfl) (loop_ok (cfg37_ok k) (planOK_go _) (fun m v => F37_0 k m v.1.1 v.1.2.1 v.1.2.2.1 v.1.2.2.2.1 v.1.2.2.2.2.1 v.1.2.2.2.2.2.1 v.1.2.2.2.2.2.2.1 v.1.2.2.2.2.2.2.2.1 v.1.2.2.2.2.2.2.2.2.1 v.2.1 v.2.2.1) k (fun _ => rfl) (fun _ => rfl) (pp37_0 k))
def pl37_1 (k : Nat) : Plan := (.seq .go (.seq .go (.seq (.sub (.seq .go (.seq .go (.seq (.seq .go (.sub (.frag (fr37_0 k)))) .go)))) .go)))
theorem pq37_1 (k : Nat) : PlanOK Try.prog lim37 (pl37_1 k) cb37_1 = (PlanOK Try.prog lim37 .go (codeAt (bodyOf Try.f37) [.r, .r, .r, .l, .r, .s, .b, .l]) ∧ (PlanOK Try.prog lim37 .go (codeAt (bodyOf Try.f37) [.r, .r, .r, .l, .r, .s, .b, .r, .l]) ∧ ((PlanOK Try.prog lim37 .go (codeAt (bodyOf Try.f37) [.r, .r, .r, .l, .r, .s, .b, .r, .r, .l, .s, .l]) ∧ (PlanOK Try.prog lim37 .go (codeAt (bodyOf Try.f37) [.r, .r, .r, .l, .r, .s, .b, .r, .r, .l, .s, .r, .l]) ∧ ((PlanOK Try.prog lim37 .go (codeAt (bodyOf Try.f37) [.r, .r, .r, .l, .r, .s, .b, .r, .r, .l, .s, .r, .r, .l, .l]) ∧ FragOK Try.prog lim37 (fr37_0 k) co37_0) ∧ PlanOK Try.prog lim37 .go (codeAt (bodyOf Try.f37) [.r, .r, .r, .l, .r, .s, .b, .r, .r, .l, .s, .r, .r, .r])))) ∧ PlanOK Try.prog lim37 .go (codeAt (bodyOf Try.f37) [.r, .r, .r, .l, .r, .s, .b, .r, .r, .r])))) := by kernel_rfl
noncomputable def bo37_1 (k m : Nat) (v : (fr37_1 k).sh.V) := body Try.prog (stepper Try.prog (cfg37 k) lim37) (pl37_1 k) cb37_1 ((fr37_1 k).sh.st v) (loopK (fr37_1 k) fun v => F37_1 k m v.1.1 v.1.2.1 v.1.2.2.1 v.1.2.2.2.1 v.1.2.2.2.2.1 v.2.1)
theorem pp37_1 (k m : Nat) (v : (fr37_1 k).sh.V) : F37_1 k (m + 1) v.1.1 v.1.2.1 v.1.2.2.1 v.1.2.2.2.1 v.1.2.2.2.2.1 v.2.1 = (bo37_1 k m v).eval ∧ (bo37_1 k m v).left = (bo37_1 k m v).right := ⟨by kernel_rfl, by kernel_rfl⟩
theorem fr37_1_ok (k : Nat) : FragOK Try.prog lim37 (fr37_1 k) co37_1 :=
 frag_cast (by kernel_rfl) (loop_ok (cfg37_ok k) (Eq.mpr (pq37_1 k) ⟨(planOK_go _), ⟨(planOK_go _), ⟨⟨(planOK_go _), ⟨(planOK_go _), ⟨⟨(planOK_go _), (fr37_0_ok k)⟩, (planOK_go _)⟩⟩⟩, (planOK_go _)⟩⟩⟩) (fun m v => F37_1 k m v.1.1 v.1.2.1 v.1.2.2.1 v.1.2.2.2.1 v.1.2.2.2.2.1 v.2.1) k (fun _ => rfl) (fun _ => rfl) (pp37_1 k))
def pl37 (k : Nat) : Plan := (.seq .go (.seq .go (.seq .go (.seq (.seq .go (.sub (.frag (fr37_1 k)))) .go))))
theorem pq37 (k : Nat) : PlanOK Try.prog lim37 (pl37 k) co37 = (PlanOK Try.prog lim37 .go (codeAt (bodyOf Try.f37) [.l]) ∧ (PlanOK Try.prog lim37 .go (codeAt (bodyOf Try.f37) [.r, .l]) ∧ (PlanOK Try.prog lim37 .go (codeAt (bodyOf Try.f37) [.r, .r, .l]) ∧ ((PlanOK Try.prog lim37 .go (codeAt (bodyOf Try.f37) [.r, .r, .r, .l, .l]) ∧ FragOK Try.prog lim37 (fr37_1 k) co37_1) ∧ PlanOK Try.prog lim37 .go (codeAt (bodyOf Try.f37) [.r, .r, .r, .r]))))) := by kernel_rfl
noncomputable def bo37 (k : Nat) (x : AT (sp37 k).ps) := fnT Try.prog (cfg37 k) lim37 Try.f37 (bodyOf Try.f37) (pl37 k) (sp37 k) x
theorem vv37 (k : Nat) (x : AT (sp37 k).ps) : (sp37 k).impl x = (bo37 k x).eval ∧ (bo37 k x).left = (bo37 k x).right := ⟨by kernel_rfl, by kernel_rfl⟩
theorem v37 (k : Nat) : Callable Try.prog 37 ∧ Valid Try.prog 37 (sp37 k) :=
 fn_of (n := lim37) (fn := Try.f37) (p := (pl37 k)) (cfg37_ok k) (by kernel_rfl) (Eq.mpr (pq37 k) ⟨(planOK_go _), ⟨(planOK_go _), ⟨(planOK_go _), ⟨⟨(planOK_go _), (fr37_1_ok k)⟩, (planOK_go _)⟩⟩⟩⟩) (vv37 k)
def F39_0 (k : Nat) : Nat → (List (List Bool)) → Int → Int → (List Bool) → Int → Int → (List Int) → Option ((((List (List Bool)) × Int × Int × Unit) × ((List Int) × Unit)))
 | 0, _, _, _, _, _, _, _ => none
 | n + 1, t8, t9, t10, t14, t15, t16, c2000003 =>
  bif (decide (t16 < t15)) then
   if 0 ≤ t16 ∧ t16 < ((List.length t14 : Nat) : Int) then
    bif (List.getD t14 (Int.toNat t16) false) then
     let x2 := (List.set (List.replicate 1 (0 : Int)) 0 (1 : Int))
     if (List.length c2000003 + List.length x2) * (1 * 2) ≤ 281474976710656 ∧ List.length c2000003 + List.length x2 ≤ 9223372036854775807 then
      (F39_0 k n t8 t9 t10 t14 t15 (IntKind.wrap .i64 (t16 + (1 : Int))) (c2000003 ++ x2)).bind some
     else none
    else
     let x3 := (List.set (List.replicate 1 (0 : Int)) 0 (0 : Int))
     if (List.length c2000003 + List.length x3) * (1 * 2) ≤ 281474976710656 ∧ List.length c2000003 + List.length x3 ≤ 9223372036854775807 then
      (F39_0 k n t8 t9 t10 t14 t15 (IntKind.wrap .i64 (t16 + (1 : Int))) (c2000003 ++ x3)).bind some
     else none
   else none
  else
   some ((t8, t9, t10, ()), (c2000003, ()))
def fr39_0 (k : Nat) : Frag := ⟨⟨[(3, KD65)], [(3, .at 2000003 []), (8, .val KD51), (9, .val (.int .i64)), (10, .val (.int .i64)), (14, .val (.sl false 4 .bool none)), (15, .val (.int .i64)), (16, .val (.int .i64))], [(2000003, none, KD65)]⟩, [(.exit 2, ⟨[(3, KD65)], [(3, .at 2000003 []), (8, .val KD51), (9, .val (.int .i64)), (10, .val (.int .i64))], [(2000003, none, KD65)]⟩)], fun v => F39_0 k k v.1.1 v.1.2.1 v.1.2.2.1 v.1.2.2.2.1 v.1.2.2.2.2.1 v.1.2.2.2.2.2.1 v.2.1⟩
def F39_1 (k : Nat) : Nat → (List (List Bool)) → Int → Int → (List Int) → Option TY62
 | 0, _, _, _, _ => none
 | n + 1, t8, t9, t10, c2000003 =>
  bif (decide (t10 < t9)) then
   if 0 ≤ t10 ∧ t10 < ((List.length t8 : Nat) : Int) then
    let x1 := (List.getD t8 (Int.toNat t10) ([] : (List Bool)))
    (F39_0 k k t8 t9 t10 x1 ((List.length x1 : Nat) : Int) (0 : Int) c2000003).bind fun r4 =>
    let y5 := r4.1.1
    let y6 := r4.1.2.1
    let y7 := r4.1.2.2.1
    let y8 := r4.2.1
    (F39_1 k n y5 y6 (IntKind.wrap .i64 (y7 + (1 : Int))) y8).bind some
   else none
  else
   some ((), (c2000003, ()))
def fr39_1 (k : Nat) : Frag := ⟨⟨[(3, KD65)], [(3, .at 2000003 []), (8, .val KD51), (9, .val (.int .i64)), (10, .val (.int .i64))], [(2000003, none, KD65)]⟩, [(.exit 0, ⟨[(3, KD65)], [(3, .at 2000003 [])], [(2000003, none, KD65)]⟩)], fun v => F39_1 k k v.1.1 v.1.2.1 v.1.2.2.1 v.2.1⟩
def F39 (k : Nat) (a0 : (List (List Bool))) : Option ((ByteArray × Unit) × Unit) :=
 (F39_1 k k a0 ((List.length a0 : Nat) : Int) (0 : Int) []).bind fun r9 =>
 let y10 := r9.2.1
 if List.length y10 ≤ 9223372036854775807 then
  some (((bstr y10), ()), ())
 else none
def sp39 (k : Nat) : Spec := ⟨[.val KD51], [.val .str], fun x => F39 k x.1⟩
def lim39 : Lim := ⟨31, 1, false, false, [], []⟩
def cfg39 (k : Nat) : Nat → Option Spec := cfgL []
noncomputable def co39_0 : Code := codeAt (bodyOf Try.f39) [.r, .r, .l, .r, .s, .b, .r, .r, .l, .s, .r, .r, .s]
noncomputable def cb39_0 : Code := codeAt (bodyOf Try.f39) [.r, .r, .l, .r, .s, .b, .r, .r, .l, .s, .r, .r, .s, .b]
noncomputable def co39_1 : Code := codeAt (bodyOf Try.f39) [.r, .r, .l, .r, .s]
noncomputable def cb39_1 : Code := codeAt (bodyOf Try.f39) [.r, .r, .l, .r, .s, .b]
noncomputable def co39 : Code := codeAt (bodyOf Try.f39) []
theorem cfg39_ok (k : Nat) : CfgOK Try.prog (cfg39 k) := cfgL_nil
noncomputable def bo39_0 (k m : Nat) (v : (fr39_0 k).sh.V) := body Try.prog (stepper Try.prog (cfg39 k) lim39) .go cb39_0 ((fr39_0 k).sh.st v) (loopK (fr39_0 k) fun v => F39_0 k m v.1.1 v.1.2.1 v.1.2.2.1 v.1.2.2.2.1 v.1.2.2.2.2.1 v.1.2.2.2.2.2.1 v.2.1)
theorem pp39_0 (k m : Nat) (v : (fr39_0 k).sh.V) : F39_0 k (m + 1) v.1.1 v.1.2.1 v.1.2.2.1 v.1.2.2.2.1 v.1.2.2.2.2.1 v.1.2.2.2.2.2.1 v.2.1 = (bo39_0 k m v).eval ∧ (bo39_0 k m v).left = (bo39_0 k m v).right := ⟨by kernel_rfl, by kernel_rfl⟩
theorem fr39_0_ok (k : Nat) : FragOK Try.prog lim39 (fr39_0 k) co39_0 :=
 frag_cast (by kernel_rfl) (loop_ok (cfg39_ok k) (planOK_go _) (fun m v => F39_0 k m v.1.1 v.1.2.1 v.1.2.2.1 v.1.2.2.2.1 v.1.2.2.2.2.1 v.1.2.2.2.2.2.1 v.2.1) k (fun _ => rfl) (fun _ => rfl) (pp39_0 k))
def pl39_1 (k : Nat) : Plan := (.seq .go (.seq .go (.seq (.sub (.seq .go (.seq .go (.sub (.frag (fr39_0 k)))))) .go)))
theorem pq39_1 (k : Nat) : PlanOK Try.prog lim39 (pl39_1 k) cb39_1 = (PlanOK Try.prog lim39 .go (codeAt (bodyOf Try.f39) [.r, .r, .l, .r, .s, .b, .l]) ∧ (PlanOK Try.prog lim39 .go (codeAt (bodyOf Try.f39) [.r, .r, .l, .r, .s, .b, .r, .l]) ∧ ((PlanOK Try.prog lim39 .go (codeAt (bodyOf Try.f39) [.r, .r, .l, .r, .s, .b, .r, .r, .l, .s, .l]) ∧ (PlanOK Try.prog lim39 .go (codeAt (bodyOf Try.f39) [.r, .r, .l, .r, .s, .b, .r, .r, .l, .s, .r, .l]) ∧ FragOK Try.prog lim39 (fr39_0 k) co39_0)) ∧ PlanOK Try.prog lim39 .go (codeAt (bodyOf Try.f39) [.r, .r, .l, .r, .s, .b, .r, .r, .r])))) := by kernel_rfl
noncomputable def bo39_1 (k m : Nat) (v : (fr39_1 k).sh.V) := body Try.prog (stepper Try.prog (cfg39 k) lim39) (pl39_1 k) cb39_1 ((fr39_1 k).sh.st v) (loopK (fr39_1 k) fun v => F39_1 k m v.1.1 v.1.2.1 v.1.2.2.1 v.2.1)
theorem pp39_1 (k m : Nat) (v : (fr39_1 k).sh.V) : F39_1 k (m + 1) v.1.1 v.1.2.1 v.1.2.2.1 v.2.1 = (bo39_1 k m v).eval ∧ (bo39_1 k m v).left = (bo39_1 k m v).right := ⟨by kernel_rfl, by kernel_rfl⟩
theorem fr39_1_ok (k : Nat) : FragOK Try.prog lim39 (fr39_1 k) co39_1 :=
 frag_cast (by kernel_rfl) (loop_ok (cfg39_ok k) (Eq.mpr (pq39_1 k) ⟨(planOK_go _), ⟨(planOK_go _), ⟨⟨(planOK_go _), ⟨(planOK_go _), (fr39_0_ok k)⟩⟩, (planOK_go _)⟩⟩⟩) (fun m v => F39_1 k m v.1.1 v.1.2.1 v.1.2.2.1 v.2.1) k (fun _ => rfl) (fun _ => rfl) (pp39_1 k))
def pl39 (k : Nat) : Plan := (.seq .go (.seq .go (.seq (.seq .go (.sub (.frag (fr39_1 k)))) .go)))
theorem pq39 (k : Nat) : PlanOK Try.prog lim39 (pl39 k) co39 = (PlanOK Try.prog lim39 .go (codeAt (bodyOf Try.f39) [.l]) ∧ (PlanOK Try.prog lim39 .go (codeAt (bodyOf Try.f39) [.r, .l]) ∧ ((PlanOK Try.prog lim39 .go (codeAt (bodyOf Try.f39) [.r, .r, .l, .l]) ∧ FragOK Try.prog lim39 (fr39_1 k) co39_1) ∧ PlanOK Try.prog lim39 .go (codeAt (bodyOf Try.f39) [.r, .r, .r])))) := by kernel_rfl
noncomputable def bo39 (k : Nat) (x : AT (sp39 k).ps) := fnT Try.prog (cfg39 k) lim39 Try.f39 (bodyOf Try.f39) (pl39 k) (sp39 k) x
theorem vv39 (k : Nat) (x : AT (sp39 k).ps) : (sp39 k).impl x = (bo39 k x).eval ∧ (bo39 k x).left = (bo39 k x).right := ⟨by kernel_rfl, by kernel_rfl⟩
theorem v39 (k : Nat) : Callable Try.prog 39 ∧ Valid Try.prog 39 (sp39 k) :=
 fn_of (n := lim39) (fn := Try.f39) (p := (pl39 k)) (cfg39_ok k) (by kernel_rfl) (Eq.mpr (pq39 k) ⟨(planOK_go _), ⟨(planOK_go _), ⟨⟨(planOK_go _), (fr39_1_ok k)⟩, (planOK_go _)⟩⟩⟩) (vv39 k)
def F38 (k : Nat) (a0 : TY52) (a1 : ByteArray) : Option ((Int × Bool × Unit) × (TY52 × Unit)) :=
 bif (!(Option.isSome a0.1)) then
  let x1 := (findM (Option.getD (some [] : Option TY69) []) a1).1
  let x2 := (findM (Option.getD (some [] : Option TY69) []) a1).2
  bif (!x2) then
   if ((List.length (Option.getD (some [] : Option TY69) []) : Nat) : Int) ≤ 9223372036854775807 then
    let x3 := ((List.length (Option.getD (some [] : Option TY69) []) : Nat) : Int)
    if (Option.isSome (some [] : Option TY69)) = true then
     let x4 := (some (putM (Option.getD (some [] : Option TY69) []) a1 x3))
     some ((x3, (!x2), ()), ((x4, a0.2), ()))
    else none
   else none
  else
   some ((x1, (!x2), ()), (((some [] : Option TY69), a0.2), ()))
 else
  bif (!(findM (Option.getD a0.1 []) a1).2) then
   if ((List.length (Option.getD a0.1 []) : Nat) : Int) ≤ 9223372036854775807 then
    let x5 := ((List.length (Option.getD a0.1 []) : Nat) : Int)
    if (Option.isSome a0.1) = true then
     some ((x5, (!(findM (Option.getD a0.1 []) a1).2), ()), (((some (putM (Option.getD a0.1 []) a1 x5)), a0.2), ()))
    else none
   else none
  else
   some (((findM (Option.getD a0.1 []) a1).1, (!(findM (Option.getD a0.1 []) a1).2), ()), (a0, ()))
def sp38 (k : Nat) : Spec := ⟨[.ptr 84 KD60 [], .val .str], [.val (.int .i64), .val .bool], fun x => F38 k x.1 x.2.1⟩
def lim38 : Lim := ⟨42, 2, false, false, [], []⟩
def cfg38 (k : Nat) : Nat → Option Spec := cfgL []
noncomputable def co38 : Code := codeAt (bodyOf Try.f38) []
theorem cfg38_ok (k : Nat) : CfgOK Try.prog (cfg38 k) := cfgL_nil
noncomputable def bo38 (k : Nat) (x : AT (sp38 k).ps) := fnT Try.prog (cfg38 k) lim38 Try.f38 (bodyOf Try.f38) .go (sp38 k) x
theorem vv38 (k : Nat) (x : AT (sp38 k).ps) : (sp38 k).impl x = (bo38 k x).eval ∧ (bo38 k x).left = (bo38 k x).right := ⟨by kernel_rfl, by kernel_rfl⟩
theorem v38 (k : Nat) : Callable Try.prog 38 ∧ Valid Try.prog 38 (sp38 k) :=
 fn_of (n := lim38) (fn := Try.f38) (p := .go) (cfg38_ok k) (by kernel_rfl) (planOK_go _) (vv38 k)
def F40 (k : Nat) (a0 : (List Int)) : Option TY66 :=
 bif (((List.length a0 : Nat) : Int) == 0) then
  some (([], ()), ())
 else
  if (List.length (List.replicate 0 (0 : Int)) + List.length a0) * (8 * 2) ≤ 281474976710656 ∧ List.length (List.replicate 0 (0 : Int)) + List.length a0 ≤ 9223372036854775807 then
   some ((((List.replicate 0 (0 : Int)) ++ a0), ()), ())
  else none
def sp40 (k : Nat) : Spec := ⟨[.val KD61], [.own KD64], fun x => F40 k x.1⟩
def lim40 : Lim := ⟨8, 1, true, false, [], []⟩
def cfg40 (k : Nat) : Nat → Option Spec := cfgL []
noncomputable def co40 : Code := codeAt (bodyOf Try.f40) []
theorem cfg40_ok (k : Nat) : CfgOK Try.prog (cfg40 k) := cfgL_nil
def pl40 (k : Nat) : Plan := .go
theorem pq40 (k : Nat) : PlanOK Try.prog lim40 (pl40 k) co40 = PlanOK Try.prog lim40 .go co40 := by kernel_rfl
noncomputable def bo40 (k : Nat) (x : AT (sp40 k).ps) := fnT Try.prog (cfg40 k) lim40 Try.f40 (bodyOf Try.f40) (pl40 k) (sp40 k) x
theorem ev40 (k : Nat) (x : AT (sp40 k).ps) : (sp40 k).impl x = (bo40 k x).eval := by kernel_rfl
theorem tr40 (k : Nat) (x : AT (sp40 k).ps) : (bo40 k x) = (Tr.split (((List.length x.1 : Nat) : Int) == 0) (.both (.split true (.leaf (([], ()), ())) (.need ((List.length (List.replicate 0 (0 : Int)) + List.length x.1) * (8 * 2) ≤ 281474976710656 ∧ List.length (List.replicate 0 (0 : Int)) + List.length x.1 ≤ 9223372036854775807) (.leaf (([] ++ x.1, ()), ())))) (.split false (.leaf (([], ()), ())) (.need ((List.length (List.replicate 0 (0 : Int)) + List.length x.1) * (8 * 2) ≤ 281474976710656 ∧ List.length (List.replicate 0 (0 : Int)) + List.length x.1 ≤ 9223372036854775807) (.leaf (([] ++ x.1, ()), ()))))) (.split false (.leaf (([], ()), ())) (.need ((List.length (List.replicate 0 (0 : Int)) + List.length x.1) * (8 * 2) ≤ 281474976710656 ∧ List.length (List.replicate 0 (0 : Int)) + List.length x.1 ≤ 9223372036854775807) (.leaf (([] ++ x.1, ()), ()))))) := by kernel_rfl
theorem sa40 (k : Nat) (x : AT (sp40 k).ps) (r) (h : (sp40 k).impl x = some r) : (bo40 k x).sat (· = r) := sat_of_eq (tr40 k x) (clone_sat (a := x.1) (p := (List.length (List.replicate 0 (0 : Int)) + List.length x.1) * (8 * 2) ≤ 281474976710656 ∧ List.length (List.replicate 0 (0 : Int)) + List.length x.1 ≤ 9223372036854775807) (fun e => by rw [e]; simp) h)
theorem v40 (k : Nat) : Callable Try.prog 40 ∧ Valid Try.prog 40 (sp40 k) :=
 fn_sat (cfg40_ok k) (f := 40) (fn := Try.f40) (by kernel_rfl) (c := bodyOf Try.f40) (by kernel_rfl) (by kernel_rfl) rfl rfl (Nat.le_of_ble_eq_true rfl) (Nat.le_of_ble_eq_true rfl) (p := pl40 k) (Eq.mpr (pq40 k) (planOK_go _)) fun x r h => sa40 k x r h
def F41 (k : Nat) (a0 : (List (List Int))) : Option (((List (List Int)) × Unit) × Unit) :=
 bif (((List.length a0 : Nat) : Int) == 0) then
  some (([], ()), ())
 else
  if (List.length (List.replicate 0 ([] : (List Int))) + List.length a0) * (24 * 2) ≤ 281474976710656 ∧ List.length (List.replicate 0 ([] : (List Int))) + List.length a0 ≤ 9223372036854775807 then
   some ((((List.replicate 0 ([] : (List Int))) ++ a0), ()), ())
  else none
def sp41 (k : Nat) : Spec := ⟨[.own (.sl true 23 KD64 none)], [.own (.sl true 23 KD64 none)], fun x => F41 k x.1⟩
def lim41 : Lim := ⟨8, 1, true, false, [], []⟩
def cfg41 (k : Nat) : Nat → Option Spec := cfgL []
noncomputable def co41 : Code := codeAt (bodyOf Try.f41) []
theorem cfg41_ok (k : Nat) : CfgOK Try.prog (cfg41 k) := cfgL_nil
def pl41 (k : Nat) : Plan := .go
theorem pq41 (k : Nat) : PlanOK Try.prog lim41 (pl41 k) co41 = PlanOK Try.prog lim41 .go co41 := by kernel_rfl
noncomputable def bo41 (k : Nat) (x : AT (sp41 k).ps) := fnT Try.prog (cfg41 k) lim41 Try.f41 (bodyOf Try.f41) (pl41 k) (sp41 k) x
theorem ev41 (k : Nat) (x : AT (sp41 k).ps) : (sp41 k).impl x = (bo41 k x).eval := by kernel_rfl
theorem tr41 (k : Nat) (x : AT (sp41 k).ps) : (bo41 k x) = (Tr.split (((List.length x.1 : Nat) : Int) == 0) (.both (.split true (.leaf (([], ()), ())) (.need ((List.length (List.replicate 0 ([] : (List Int))) + List.length x.1) * (24 * 2) ≤ 281474976710656 ∧ List.length (List.replicate 0 ([] : (List Int))) + List.length x.1 ≤ 9223372036854775807) (.leaf (([] ++ x.1, ()), ())))) (.split false (.leaf (([], ()), ())) (.need ((List.length (List.replicate 0 ([] : (List Int))) + List.length x.1) * (24 * 2) ≤ 281474976710656 ∧ List.length (List.replicate 0 ([] : (List Int))) + List.length x.1 ≤ 9223372036854775807) (.leaf (([] ++ x.1, ()), ()))))) (.split false (.leaf (([], ()), ())) (.need ((List.length (List.replicate 0 ([] : (List Int))) + List.length x.1) * (24 * 2) ≤ 281474976710656 ∧ List.length (List.replicate 0 ([] : (List Int))) + List.length x.1 ≤ 9223372036854775807) (.leaf (([] ++ x.1, ()), ()))))) := by kernel_rfl
theorem sa41 (k : Nat) (x : AT (sp41 k).ps) (r) (h : (sp41 k).impl x = some r) : (bo41 k x).sat (· = r) := sat_of_eq (tr41 k x) (clone_sat (a := x.1) (p := (List.length (List.replicate 0 ([] : (List Int))) + List.length x.1) * (24 * 2) ≤ 281474976710656 ∧ List.length (List.replicate 0 ([] : (List Int))) + List.length x.1 ≤ 9223372036854775807) (fun e => by rw [e]; simp) h)
theorem v41 (k : Nat) : Callable Try.prog 41 ∧ Valid Try.prog 41 (sp41 k) :=
 fn_sat (cfg41_ok k) (f := 41) (fn := Try.f41) (by kernel_rfl) (c := bodyOf Try.f41) (by kernel_rfl) (by kernel_rfl) rfl rfl (Nat.le_of_ble_eq_true rfl) (Nat.le_of_ble_eq_true rfl) (p := pl41 k) (Eq.mpr (pq41 k) (planOK_go _)) fun x r h => sa41 k x r h
def F42 (k : Nat) (a0 : (List (List Bool))) : Option (((List (List Bool)) × Unit) × Unit) :=
 bif (((List.length a0 : Nat) : Int) == 0) then
  some (([], ()), ())
 else
  if (List.length (List.replicate 0 ([] : (List Bool))) + List.length a0) * (24 * 2) ≤ 281474976710656 ∧ List.length (List.replicate 0 ([] : (List Bool))) + List.length a0 ≤ 9223372036854775807 then
   some ((((List.replicate 0 ([] : (List Bool))) ++ a0), ()), ())
  else none
def sp42 (k : Nat) : Spec := ⟨[.own KD53], [.own KD53], fun x => F42 k x.1⟩
def lim42 : Lim := ⟨8, 1, true, false, [], []⟩
def cfg42 (k : Nat) : Nat → Option Spec := cfgL []
noncomputable def co42 : Code := codeAt (bodyOf Try.f42) []
theorem cfg42_ok (k : Nat) : CfgOK Try.prog (cfg42 k) := cfgL_nil
def pl42 (k : Nat) : Plan := .go
theorem pq42 (k : Nat) : PlanOK Try.prog lim42 (pl42 k) co42 = PlanOK Try.prog lim42 .go co42 := by kernel_rfl
noncomputable def bo42 (k : Nat) (x : AT (sp42 k).ps) := fnT Try.prog (cfg42 k) lim42 Try.f42 (bodyOf Try.f42) (pl42 k) (sp42 k) x
theorem ev42 (k : Nat) (x : AT (sp42 k).ps) : (sp42 k).impl x = (bo42 k x).eval := by kernel_rfl
theorem tr42 (k : Nat) (x : AT (sp42 k).ps) : (bo42 k x) = (Tr.split (((List.length x.1 : Nat) : Int) == 0) (.both (.split true (.leaf (([], ()), ())) (.need ((List.length (List.replicate 0 ([] : (List Bool))) + List.length x.1) * (24 * 2) ≤ 281474976710656 ∧ List.length (List.replicate 0 ([] : (List Bool))) + List.length x.1 ≤ 9223372036854775807) (.leaf (([] ++ x.1, ()), ())))) (.split false (.leaf (([], ()), ())) (.need ((List.length (List.replicate 0 ([] : (List Bool))) + List.length x.1) * (24 * 2) ≤ 281474976710656 ∧ List.length (List.replicate 0 ([] : (List Bool))) + List.length x.1 ≤ 9223372036854775807) (.leaf (([] ++ x.1, ()), ()))))) (.split false (.leaf (([], ()), ())) (.need ((List.length (List.replicate 0 ([] : (List Bool))) + List.length x.1) * (24 * 2) ≤ 281474976710656 ∧ List.length (List.replicate 0 ([] : (List Bool))) + List.length x.1 ≤ 9223372036854775807) (.leaf (([] ++ x.1, ()), ()))))) := by kernel_rfl
theorem sa42 (k : Nat) (x : AT (sp42 k).ps) (r) (h : (sp42 k).impl x = some r) : (bo42 k x).sat (· = r) := sat_of_eq (tr42 k x) (clone_sat (a := x.1) (p := (List.length (List.replicate 0 ([] : (List Bool))) + List.length x.1) * (24 * 2) ≤ 281474976710656 ∧ List.length (List.replicate 0 ([] : (List Bool))) + List.length x.1 ≤ 9223372036854775807) (fun e => by rw [e]; simp) h)
theorem v42 (k : Nat) : Callable Try.prog 42 ∧ Valid Try.prog 42 (sp42 k) :=
 fn_sat (cfg42_ok k) (f := 42) (fn := Try.f42) (by kernel_rfl) (c := bodyOf Try.f42) (by kernel_rfl) (by kernel_rfl) rfl rfl (Nat.le_of_ble_eq_true rfl) (Nat.le_of_ble_eq_true rfl) (p := pl42 k) (Eq.mpr (pq42 k) (planOK_go _)) fun x r h => sa42 k x r h
def F16_0 (k : Nat) : Nat → TY28 → (List (List Bool)) → Int → Int → Int → TY28 → Int → Int → TY54 → Option (((TY28 × (List (List Bool)) × Int × Int × Int × Unit) × (TY54 × Unit)))
 | 0, _, _, _, _, _, _, _, _, _ => none
 | n + 1, t0, t1, t2, t3, t11, t24, t25, t26, c8 =>
  bif (decide (t26 < t25)) then
   if 0 ≤ t26 ∧ t26 < ((List.length t24 : Nat) : Int) then
    let x1 := (List.getD t24 (Int.toNat t26) (([] : (List Int)), (([] : (List Int)), (([] : (List Int)), (([] : TY56), ((0 : Int), ()))))))
    let x2 := (IntKind.wrap .i64 (t11 + ((List.length x1.1 : Nat) : Int)))
    (F16_0 k n t0 t1 t2 t3 x2 t24 t25 (IntKind.wrap .i64 (t26 + (1 : Int))) c8).bind some
   else none
  else
   some ((t0, t1, t2, t3, t11, ()), (c8, ()))
def fr16_0 (k : Nat) : Frag := ⟨⟨[], [(0, .val KD10), (1, .val KD51), (2, .val (.int .i64)), (3, .val (.int .i64)), (8, .ptr 8 []), (9, .nilS), (11, .val (.int .i64)), (24, .val KD10), (25, .val (.int .i64)), (26, .val (.int .i64))], [(8, some 39, KD31)]⟩, [(.exit 0, ⟨[], [(0, .val KD10), (1, .val KD51), (2, .val (.int .i64)), (3, .val (.int .i64)), (8, .ptr 8 []), (9, .nilS), (11, .val (.int .i64))], [(8, some 39, KD31)]⟩)], fun v => F16_0 k k v.1.1 v.1.2.1 v.1.2.2.1 v.1.2.2.2.1 v.1.2.2.2.2.1 v.1.2.2.2.2.2.1 v.1.2.2.2.2.2.2.1 v.1.2.2.2.2.2.2.2.1 v.2.1⟩
def F16_1 (k : Nat) : Nat → Int → Int → Int → Int → Int → TY54 → TY20 → TY52 → (List (List Bool)) → (List Int) → Option (((Int × Int × Int × Unit) × (TY54 × TY20 × TY52 × (List (List Bool)) × (List Int) × Unit)) ⊕ TY41)
 | 0, _, _, _, _, _, _, _, _, _, _ => none
 | n + 1, t2, t3, t16, t67, t68, c8, c39, c45, c2000009, c2000017 =>
  bif (decide (t68 < t67)) then
   if 0 ≤ t16 ∧ t16 < ((List.length c39.2.2.2.1 : Nat) : Int) then
    (F36 k (some c39) (List.getD c39.2.2.2.1 (Int.toNat t16) ([] : (List Int))) t68).bind fun r14 =>
    (F35 k c39 r14.1.1).bind fun r15 =>
    let x16 := (List.set (List.replicate 1 (0 : Int)) 0 r15.1.1)
    if (List.length c2000017 + List.length x16) * (8 * 2) ≤ 281474976710656 ∧ List.length c2000017 + List.length x16 ≤ 9223372036854775807 then
     let x17 := (decide (((List.length r15.2.1.2.2.2.1 : Nat) : Int) > t3))
     bif x17 then
      some (.inr (((4 : Int), ()), ((([] : (List (List Int))), (([] : (List Int)), ())), ())))
     else
      (F16_1 k n t2 t3 t16 t67 (IntKind.wrap .i64 (t68 + (1 : Int))) c8 r15.2.1 c45 c2000009 (c2000017 ++ x16)).bind some
    else none
   else none
  else
   some (.inl ((t2, t3, t16, ()), (c8, c39, c45, c2000009, c2000017, ())))
def fr16_1 (k : Nat) : Frag := ⟨⟨[(9, KD53), (17, KD64)], [(2, .val (.int .i64)), (3, .val (.int .i64)), (8, .ptr 8 []), (9, .at 2000009 []), (14, .ptr 39 []), (15, .ptr 45 []), (16, .val (.int .i64)), (17, .at 2000017 []), (67, .val (.int .i64)), (68, .val (.int .i64))], [(8, some 39, KD31), (39, some 87, KD9), (45, some 84, KD60), (2000009, none, KD53), (2000017, none, KD64)]⟩, [(.exit 4, ⟨[], [(2, .val (.int .i64)), (3, .val (.int .i64)), (8, .ptr 8 []), (9, .at 2000009 []), (14, .ptr 39 []), (15, .ptr 45 []), (16, .val (.int .i64)), (17, .at 2000017 [])], [(8, some 39, KD31), (39, some 87, KD9), (45, some 84, KD60), (2000009, none, KD53), (2000017, none, KD64)]⟩), (.ret, ⟨[], [(8, .ptr 8 []), (9, .nilS), (10, .val (.int .i64))], [(8, some 39, KD31)]⟩)], fun v => F16_1 k k v.1.1 v.1.2.1 v.1.2.2.1 v.1.2.2.2.1 v.1.2.2.2.2.1 v.2.1 v.2.2.1 v.2.2.2.1 v.2.2.2.2.1 v.2.2.2.2.2.1⟩
def F16_2 (k : Nat) : Nat → Int → Int → Int → TY54 → TY20 → TY52 → (List (List Bool)) → Option ((Unit × (TY54 × (List (List Bool)) × Unit)) ⊕ TY41)
 | 0, _, _, _, _, _, _, _ => none
 | n + 1, t2, t3, t16, c8, c39, c45, c2000009 =>
  let x11 := (decide (t16 < ((List.length c39.2.2.2.1 : Nat) : Int)))
  bif x11 then
   let x12 := (decide (((List.length c39.2.2.2.1 : Nat) : Int) > t3))
   bif x12 then
    some (.inr (((4 : Int), ()), ((([] : (List (List Int))), (([] : (List Int)), ())), ())))
   else
    if (0 ≤ (0 : Int) ∧ (0 : Int) < (maxI t2 (0 : Int)) + 1) ∧ (maxI t2 (0 : Int)) ≤ 9223372036854775807 ∧ ((8 : Nat) : Int) * (maxI t2 (0 : Int)) ≤ 281474976710656 then
     let x13 := (List.replicate (Int.toNat (0 : Int)) (0 : Int))
     (F16_1 k k t2 t3 t16 (maxI t2 (0 : Int)) (0 : Int) c8 c39 c45 c2000009 x13).bind fun r18 =>
     match r18 with
     | .inl r19 =>
      let y20 := r19.1.1
      let y21 := r19.1.2.1
      let y22 := r19.1.2.2.1
      let y23 := r19.2.1
      let y24 := r19.2.2.1
      let y25 := r19.2.2.2.1
      let y26 := r19.2.2.2.2.1
      let y27 := r19.2.2.2.2.2.1
      if 0 ≤ y22 ∧ y22 < ((List.length y24.2.2.2.1 : Nat) : Int) then
       (F37 k (some y24) (List.getD y24.2.2.2.1 (Int.toNat y22) ([] : (List Int)))).bind fun r28 =>
       (F39 k [r28.1.1]).bind fun r29 =>
       (F38 k y25 r29.1.1).bind fun r30 =>
       bif r30.1.2.1 then
        if (List.length y26 + List.length [(List.getD [r28.1.1] 0 ([] : (List Bool)))]) * (24 * 2) ≤ 281474976710656 ∧ List.length y26 + List.length [(List.getD [r28.1.1] 0 ([] : (List Bool)))] ≤ 9223372036854775807 then
         let x31 := (y26 ++ [(List.getD [r28.1.1] 0 ([] : (List Bool)))])
         (F40 k y27).bind fun r32 =>
         if (List.length y23.1 + List.length [r32.1.1]) * (24 * 2) ≤ 281474976710656 ∧ List.length y23.1 + List.length [r32.1.1] ≤ 9223372036854775807 then
          let x33 := (List.set (List.replicate 1 (0 : Int)) 0 r30.1.1)
          if (List.length y23.2.1 + List.length x33) * (8 * 2) ≤ 281474976710656 ∧ List.length y23.2.1 + List.length x33 ≤ 9223372036854775807 then
           (F16_2 k n y20 y21 (IntKind.wrap .i64 (y22 + (1 : Int))) ((y23.1 ++ [r32.1.1]), ((y23.2.1 ++ x33), y23.2.2)) y24 r30.2.1 x31).bind some
          else none
         else none
        else none
       else
        (F40 k y27).bind fun r34 =>
        if (List.length y23.1 + List.length [r34.1.1]) * (24 * 2) ≤ 281474976710656 ∧ List.length y23.1 + List.length [r34.1.1] ≤ 9223372036854775807 then
         let x35 := (List.set (List.replicate 1 (0 : Int)) 0 r30.1.1)
         if (List.length y23.2.1 + List.length x35) * (8 * 2) ≤ 281474976710656 ∧ List.length y23.2.1 + List.length x35 ≤ 9223372036854775807 then
          (F16_2 k n y20 y21 (IntKind.wrap .i64 (y22 + (1 : Int))) ((y23.1 ++ [r34.1.1]), ((y23.2.1 ++ x35), y23.2.2)) y24 r30.2.1 y26).bind some
         else none
        else none
      else none
     | .inr r19 =>
      let y36 := r19.1.1
      let y37 := r19.2.1
      some (.inr ((y36, ()), (y37, ())))
    else none
  else
   some (.inl ((), (c8, c2000009, ())))
def fr16_2 (k : Nat) : Frag := ⟨⟨[(9, KD53)], [(2, .val (.int .i64)), (3, .val (.int .i64)), (8, .ptr 8 []), (9, .at 2000009 []), (14, .ptr 39 []), (15, .ptr 45 []), (16, .val (.int .i64))], [(8, some 39, KD31), (39, some 87, KD9), (45, some 84, KD60), (2000009, none, KD53)]⟩, [(.exit 2, ⟨[(9, KD53)], [(8, .ptr 8 []), (9, .at 2000009 [])], [(8, some 39, KD31), (2000009, none, KD53)]⟩), (.ret, ⟨[], [(8, .ptr 8 []), (9, .nilS), (10, .val (.int .i64))], [(8, some 39, KD31)]⟩)], fun v => F16_2 k k v.1.1 v.1.2.1 v.1.2.2.1 v.2.1 v.2.2.1 v.2.2.2.1 v.2.2.2.2.1⟩
def F16 (k : Nat) (a0 : TY28) (a1 : (List (List Bool))) (a2 : Int) (a3 : Int) : Option ((TY54 × (List (List Bool)) × Int × Unit) × Unit) :=
 (F16_0 k k a0 a1 a2 (minI a3 (100000 : Int)) (0 : Int) a0 ((List.length a0 : Nat) : Int) (0 : Int) (([] : (List (List Int))), (([] : (List Int)), ()))).bind fun r3 =>
 let y4 := r3.1.1
 let y5 := r3.1.2.1
 let y6 := r3.1.2.2.1
 let y7 := r3.1.2.2.2.1
 let y8 := r3.1.2.2.2.2.1
 let y9 := r3.2.1
 if (0 ≤ y8 ∧ y8 < y8 + 1) ∧ y8 ≤ 9223372036854775807 ∧ ((1 : Nat) : Int) * y8 ≤ 281474976710656 then
  (F35 k (((none : TY59), ()), (y4, (y5, (([] : (List (List Int))), ())))) (List.replicate (Int.toNat y8) (0 : Int))).bind fun r10 =>
  (F16_2 k k y6 y7 (0 : Int) y9 r10.2.1 ((none : TY59), ()) []).bind fun r38 =>
  match r38 with
  | .inl r39 =>
   let y40 := r39.2.1
   let y41 := r39.2.2.1
   (F41 k y40.1).bind fun r42 =>
   (F40 k y40.2.1).bind fun r43 =>
   (F42 k y41).bind fun r44 =>
   some (((r42.1.1, (r43.1.1, y40.2.2)), r44.1.1, (0 : Int), ()), ())
  | .inr r39 =>
   let y45 := r39.1.1
   let y46 := r39.2.1
   some ((y46, [], y45, ()), ())
 else none
def sp16 (k : Nat) : Spec := ⟨[.val KD10, .val KD51, .val (.int .i64), .val (.int .i64)], [.own KD31, .own KD53, .val (.int .i64)], fun x => F16 k x.1 x.2.1 x.2.2.1 x.2.2.2.1⟩
def lim16 : Lim := ⟨141, 4, false, false, [], []⟩
def cfg16 (k : Nat) : Nat → Option Spec := cfgL [(35, sp35 k), (36, sp36 k), (37, sp37 k), (38, sp38 k), (39, sp39 k), (40, sp40 k), (41, sp41 k), (42, sp42 k)]
noncomputable def co16_0 : Code := codeAt (bodyOf Try.f16) [.r, .r, .r, .l, .r, .s]
noncomputable def cb16_0 : Code := codeAt (bodyOf Try.f16) [.r, .r, .r, .l, .r, .s, .b]
noncomputable def co16_1 : Code := codeAt (bodyOf Try.f16) [.r, .r, .r, .r, .r, .r, .r, .l, .r, .s, .b, .r, .l, .s, .r, .r, .l, .r, .s]
noncomputable def cb16_1 : Code := codeAt (bodyOf Try.f16) [.r, .r, .r, .r, .r, .r, .r, .l, .r, .s, .b, .r, .l, .s, .r, .r, .l, .r, .s, .b]
noncomputable def co16_2 : Code := codeAt (bodyOf Try.f16) [.r, .r, .r, .r, .r, .r, .r, .l, .r, .s]
noncomputable def cb16_2 : Code := codeAt (bodyOf Try.f16) [.r, .r, .r, .r, .r, .r, .r, .l, .r, .s, .b]
noncomputable def co16 : Code := codeAt (bodyOf Try.f16) []
theorem cfg16_ok (k : Nat) : CfgOK Try.prog (cfg16 k) := cfgL_cons (v35 k) (cfgL_cons (v36 k) (cfgL_cons (v37 k) (cfgL_cons (v38 k) (cfgL_cons (v39 k) (cfgL_cons (v40 k) (cfgL_cons (v41 k) (cfgL_cons (v42 k) (cfgL_nil))))))))
noncomputable def bo16_0 (k m : Nat) (v : (fr16_0 k).sh.V) := body Try.prog (stepper Try.prog (cfg16 k) lim16) .go cb16_0 ((fr16_0 k).sh.st v) (loopK (fr16_0 k) fun v => F16_0 k m v.1.1 v.1.2.1 v.1.2.2.1 v.1.2.2.2.1 v.1.2.2.2.2.1 v.1.2.2.2.2.2.1 v.1.2.2.2.2.2.2.1 v.1.2.2.2.2.2.2.2.1 v.2.1)
theorem pp16_0 (k m : Nat) (v : (fr16_0 k).sh.V) : F16_0 k (m + 1) v.1.1 v.1.2.1 v.1.2.2.1 v.1.2.2.2.1 v.1.2.2.2.2.1 v.1.2.2.2.2.2.1 v.1.2.2.2.2.2.2.1 v.1.2.2.2.2.2.2.2.1 v.2.1 = (bo16_0 k m v).eval ∧ (bo16_0 k m v).left = (bo16_0 k m v).right := ⟨by kernel_rfl, by kernel_rfl⟩
theorem fr16_0_ok (k : Nat) : FragOK Try.prog lim16 (fr16_0 k) co16_0 :=
 frag_cast (by kernel_rfl) (loop_ok (cfg16_ok k) (planOK_go _) (fun m v => F16_0 k m v.1.1 v.1.2.1 v.1.2.2.1 v.1.2.2.2.1 v.1.2.2.2.2.1 v.1.2.2.2.2.2.1 v.1.2.2.2.2.2.2.1 v.1.2.2.2.2.2.2.2.1 v.2.1) k (fun _ => rfl) (fun _ => rfl) (pp16_0 k))
noncomputable def bo16_1 (k m : Nat) (v : (fr16_1 k).sh.V) := body Try.prog (stepper Try.prog (cfg16 k) lim16) .go cb16_1 ((fr16_1 k).sh.st v) (loopK (fr16_1 k) fun v => F16_1 k m v.1.1 v.1.2.1 v.1.2.2.1 v.1.2.2.2.1 v.1.2.2.2.2.1 v.2.1 v.2.2.1 v.2.2.2.1 v.2.2.2.2.1 v.2.2.2.2.2.1)
theorem pp16_1 (k m : Nat) (v : (fr16_1 k).sh.V) : F16_1 k (m + 1) v.1.1 v.1.2.1 v.1.2.2.1 v.1.2.2.2.1 v.1.2.2.2.2.1 v.2.1 v.2.2.1 v.2.2.2.1 v.2.2.2.2.1 v.2.2.2.2.2.1 = (bo16_1 k m v).eval ∧ (bo16_1 k m v).left = (bo16_1 k m v).right := ⟨by kernel_rfl, by kernel_rfl⟩
theorem fr16_1_ok (k : Nat) : FragOK Try.prog lim16 (fr16_1 k) co16_1 :=
 frag_cast (by kernel_rfl) (loop_ok (cfg16_ok k) (planOK_go _) (fun m v => F16_1 k m v.1.1 v.1.2.1 v.1.2.2.1 v.1.2.2.2.1 v.1.2.2.2.2.1 v.2.1 v.2.2.1 v.2.2.2.1 v.2.2.2.2.1 v.2.2.2.2.2.1) k (fun _ => rfl) (fun _ => rfl) (pp16_1 k))
def pl16_2 (k : Nat) : Plan := (.seq .go (.seq (.sub (.seq .go (.seq .go (.seq (.seq .go (.sub (.frag (fr16_1 k)))) .go)))) .go))
theorem pq16_2 (k : Nat) : PlanOK Try.prog lim16 (pl16_2 k) cb16_2 = (PlanOK Try.prog lim16 .go (codeAt (bodyOf Try.f16) [.r, .r, .r, .r, .r, .r, .r, .l, .r, .s, .b, .l]) ∧ ((PlanOK Try.prog lim16 .go (codeAt (bodyOf Try.f16) [.r, .r, .r, .r, .r, .r, .r, .l, .r, .s, .b, .r, .l, .s, .l]) ∧ (PlanOK Try.prog lim16 .go (codeAt (bodyOf Try.f16) [.r, .r, .r, .r, .r, .r, .r, .l, .r, .s, .b, .r, .l, .s, .r, .l]) ∧ ((PlanOK Try.prog lim16 .go (codeAt (bodyOf Try.f16) [.r, .r, .r, .r, .r, .r, .r, .l, .r, .s, .b, .r, .l, .s, .r, .r, .l, .l]) ∧ FragOK Try.prog lim16 (fr16_1 k) co16_1) ∧ PlanOK Try.prog lim16 .go (codeAt (bodyOf Try.f16) [.r, .r, .r, .r, .r, .r, .r, .l, .r, .s, .b, .r, .l, .s, .r, .r, .r])))) ∧ PlanOK Try.prog lim16 .go (codeAt (bodyOf Try.f16) [.r, .r, .r, .r, .r, .r, .r, .l, .r, .s, .b, .r, .r]))) := by kernel_rfl
noncomputable def bo16_2 (k m : Nat) (v : (fr16_2 k).sh.V) := body Try.prog (stepper Try.prog (cfg16 k) lim16) (pl16_2 k) cb16_2 ((fr16_2 k).sh.st v) (loopK (fr16_2 k) fun v => F16_2 k m v.1.1 v.1.2.1 v.1.2.2.1 v.2.1 v.2.2.1 v.2.2.2.1 v.2.2.2.2.1)
theorem pp16_2 (k m : Nat) (v : (fr16_2 k).sh.V) : F16_2 k (m + 1) v.1.1 v.1.2.1 v.1.2.2.1 v.2.1 v.2.2.1 v.2.2.2.1 v.2.2.2.2.1 = (bo16_2 k m v).eval ∧ (bo16_2 k m v).left = (bo16_2 k m v).right := ⟨by kernel_rfl, by kernel_rfl⟩
theorem fr16_2_ok (k : Nat) : FragOK Try.prog lim16 (fr16_2 k) co16_2 :=
 frag_cast (by kernel_rfl) (loop_ok (cfg16_ok k) (Eq.mpr (pq16_2 k) ⟨(planOK_go _), ⟨⟨(planOK_go _), ⟨(planOK_go _), ⟨⟨(planOK_go _), (fr16_1_ok k)⟩, (planOK_go _)⟩⟩⟩, (planOK_go _)⟩⟩) (fun m v => F16_2 k m v.1.1 v.1.2.1 v.1.2.2.1 v.2.1 v.2.2.1 v.2.2.2.1 v.2.2.2.2.1) k (fun _ => rfl) (fun _ => rfl) (pp16_2 k))
def pl16 (k : Nat) : Plan := (.seq .go (.seq .go (.seq .go (.seq (.seq .go (.sub (.frag (fr16_0 k)))) (.seq .go (.seq .go (.seq .go (.seq (.seq .go (.sub (.frag (fr16_2 k)))) .go))))))))
theorem pq16 (k : Nat) : PlanOK Try.prog lim16 (pl16 k) co16 = (PlanOK Try.prog lim16 .go (codeAt (bodyOf Try.f16) [.l]) ∧ (PlanOK Try.prog lim16 .go (codeAt (bodyOf Try.f16) [.r, .l]) ∧ (PlanOK Try.prog lim16 .go (codeAt (bodyOf Try.f16) [.r, .r, .l]) ∧ ((PlanOK Try.prog lim16 .go (codeAt (bodyOf Try.f16) [.r, .r, .r, .l, .l]) ∧ FragOK Try.prog lim16 (fr16_0 k) co16_0) ∧ (PlanOK Try.prog lim16 .go (codeAt (bodyOf Try.f16) [.r, .r, .r, .r, .l]) ∧ (PlanOK Try.prog lim16 .go (codeAt (bodyOf Try.f16) [.r, .r, .r, .r, .r, .l]) ∧ (PlanOK Try.prog lim16 .go (codeAt (bodyOf Try.f16) [.r, .r, .r, .r, .r, .r, .l]) ∧ ((PlanOK Try.prog lim16 .go (codeAt (bodyOf Try.f16) [.r, .r, .r, .r, .r, .r, .r, .l, .l]) ∧ FragOK Try.prog lim16 (fr16_2 k) co16_2) ∧ PlanOK Try.prog lim16 .go (codeAt (bodyOf Try.f16) [.r, .r, .r, .r, .r, .r, .r, .r]))))))))) := by kernel_rfl
noncomputable def bo16 (k : Nat) (x : AT (sp16 k).ps) := fnT Try.prog (cfg16 k) lim16 Try.f16 (bodyOf Try.f16) (pl16 k) (sp16 k) x
theorem vv16 (k : Nat) (x : AT (sp16 k).ps) : (sp16 k).impl x = (bo16 k x).eval ∧ (bo16 k x).left = (bo16 k x).right := ⟨by kernel_rfl, by kernel_rfl⟩
theorem v16 (k : Nat) : Callable Try.prog 16 ∧ Valid Try.prog 16 (sp16 k) :=
 fn_of (n := lim16) (fn := Try.f16) (p := (pl16 k)) (cfg16_ok k) (by kernel_rfl) (Eq.mpr (pq16 k) ⟨(planOK_go _), ⟨(planOK_go _), ⟨(planOK_go _), ⟨⟨(planOK_go _), (fr16_0_ok k)⟩, ⟨(planOK_go _), ⟨(planOK_go _), ⟨(planOK_go _), ⟨⟨(planOK_go _), (fr16_2_ok k)⟩, (planOK_go _)⟩⟩⟩⟩⟩⟩⟩⟩) (vv16 k)
def F22_0 (k : Nat) : Nat → (List Int) → Int → Int → TY54 → (List Int) → Option TY62
 | 0, _, _, _, _, _ => none
 | n + 1, t1, t6, t7, c2, c11 =>
  bif (decide (t6 ≥ (0 : Int))) then
   let x25 := (decide (t6 < ((List.length c2.2.1 : Nat) : Int)))
   bif x25 then
    if 0 ≤ t6 ∧ t6 < ((List.length c2.2.1 : Nat) : Int) then
     if 0 ≤ t7 ∧ t7 < ((List.length c11 : Nat) : Int) then
      let x26 := (List.set c11 (Int.toNat t7) (List.getD c2.2.1 (Int.toNat t6) (0 : Int)))
      bif (t7 == (0 : Int)) then
       some ((), (x26, ()))
      else
       bif (decide (t6 ≥ (0 : Int))) then
        let x27 := (decide (t6 < ((List.length c2.1 : Nat) : Int)))
        bif x27 then
         if 0 ≤ (IntKind.wrap .i64 (t7 - (1 : Int))) ∧ (IntKind.wrap .i64 (t7 - (1 : Int))) < ((List.length t1 : Nat) : Int) then
          let x28 := (List.getD t1 (Int.toNat (IntKind.wrap .i64 (t7 - (1 : Int)))) (0 : Int))
          bif (decide (x28 ≥ (0 : Int))) then
           if 0 ≤ (IntKind.wrap .i64 (t7 - (1 : Int))) ∧ (IntKind.wrap .i64 (t7 - (1 : Int))) < ((List.length t1 : Nat) : Int) then
            let x29 := (List.getD t1 (Int.toNat (IntKind.wrap .i64 (t7 - (1 : Int)))) (0 : Int))
            if 0 ≤ t6 ∧ t6 < ((List.length c2.1 : Nat) : Int) then
             let x30 := (List.getD c2.1 (Int.toNat t6) ([] : (List Int)))
             let x31 := (decide (x29 < ((List.length x30 : Nat) : Int)))
             bif x31 then
              if 0 ≤ t6 ∧ t6 < ((List.length c2.1 : Nat) : Int) then
               let x32 := (List.getD c2.1 (Int.toNat t6) ([] : (List Int)))
               if 0 ≤ (IntKind.wrap .i64 (t7 - (1 : Int))) ∧ (IntKind.wrap .i64 (t7 - (1 : Int))) < ((List.length t1 : Nat) : Int) then
                let x33 := (List.getD t1 (Int.toNat (IntKind.wrap .i64 (t7 - (1 : Int)))) (0 : Int))
                if 0 ≤ x33 ∧ x33 < ((List.length x32 : Nat) : Int) then
                 (F22_0 k n t1 (List.getD x32 (Int.toNat x33) (0 : Int)) (IntKind.wrap .i64 (t7 - (1 : Int))) c2 x26).bind some
                else none
               else none
              else none
             else
              (F22_0 k n t1 t6 (IntKind.wrap .i64 (t7 - (1 : Int))) c2 x26).bind some
            else none
           else none
          else
           (F22_0 k n t1 t6 (IntKind.wrap .i64 (t7 - (1 : Int))) c2 x26).bind some
         else none
        else
         (F22_0 k n t1 t6 (IntKind.wrap .i64 (t7 - (1 : Int))) c2 x26).bind some
       else
        (F22_0 k n t1 t6 (IntKind.wrap .i64 (t7 - (1 : Int))) c2 x26).bind some
     else none
    else none
   else
    bif (t7 == (0 : Int)) then
     some ((), (c11, ()))
    else
     bif (decide (t6 ≥ (0 : Int))) then
      let x34 := (decide (t6 < ((List.length c2.1 : Nat) : Int)))
      bif x34 then
       if 0 ≤ (IntKind.wrap .i64 (t7 - (1 : Int))) ∧ (IntKind.wrap .i64 (t7 - (1 : Int))) < ((List.length t1 : Nat) : Int) then
        let x35 := (List.getD t1 (Int.toNat (IntKind.wrap .i64 (t7 - (1 : Int)))) (0 : Int))
        bif (decide (x35 ≥ (0 : Int))) then
         if 0 ≤ (IntKind.wrap .i64 (t7 - (1 : Int))) ∧ (IntKind.wrap .i64 (t7 - (1 : Int))) < ((List.length t1 : Nat) : Int) then
          let x36 := (List.getD t1 (Int.toNat (IntKind.wrap .i64 (t7 - (1 : Int)))) (0 : Int))
          if 0 ≤ t6 ∧ t6 < ((List.length c2.1 : Nat) : Int) then
           let x37 := (List.getD c2.1 (Int.toNat t6) ([] : (List Int)))
           let x38 := (decide (x36 < ((List.length x37 : Nat) : Int)))
           bif x38 then
            if 0 ≤ t6 ∧ t6 < ((List.length c2.1 : Nat) : Int) then
             let x39 := (List.getD c2.1 (Int.toNat t6) ([] : (List Int)))
             if 0 ≤ (IntKind.wrap .i64 (t7 - (1 : Int))) ∧ (IntKind.wrap .i64 (t7 - (1 : Int))) < ((List.length t1 : Nat) : Int) then
              let x40 := (List.getD t1 (Int.toNat (IntKind.wrap .i64 (t7 - (1 : Int)))) (0 : Int))
              if 0 ≤ x40 ∧ x40 < ((List.length x39 : Nat) : Int) then
               (F22_0 k n t1 (List.getD x39 (Int.toNat x40) (0 : Int)) (IntKind.wrap .i64 (t7 - (1 : Int))) c2 c11).bind some
              else none
             else none
            else none
           else
            (F22_0 k n t1 t6 (IntKind.wrap .i64 (t7 - (1 : Int))) c2 c11).bind some
          else none
         else none
        else
         (F22_0 k n t1 t6 (IntKind.wrap .i64 (t7 - (1 : Int))) c2 c11).bind some
       else none
      else
       (F22_0 k n t1 t6 (IntKind.wrap .i64 (t7 - (1 : Int))) c2 c11).bind some
     else
      (F22_0 k n t1 t6 (IntKind.wrap .i64 (t7 - (1 : Int))) c2 c11).bind some
  else
   bif (t7 == (0 : Int)) then
    some ((), (c11, ()))
   else
    bif (decide (t6 ≥ (0 : Int))) then
     let x41 := (decide (t6 < ((List.length c2.1 : Nat) : Int)))
     bif x41 then
      if 0 ≤ (IntKind.wrap .i64 (t7 - (1 : Int))) ∧ (IntKind.wrap .i64 (t7 - (1 : Int))) < ((List.length t1 : Nat) : Int) then
       let x42 := (List.getD t1 (Int.toNat (IntKind.wrap .i64 (t7 - (1 : Int)))) (0 : Int))
       bif (decide (x42 ≥ (0 : Int))) then
        if 0 ≤ (IntKind.wrap .i64 (t7 - (1 : Int))) ∧ (IntKind.wrap .i64 (t7 - (1 : Int))) < ((List.length t1 : Nat) : Int) then
         let x43 := (List.getD t1 (Int.toNat (IntKind.wrap .i64 (t7 - (1 : Int)))) (0 : Int))
         if 0 ≤ t6 ∧ t6 < ((List.length c2.1 : Nat) : Int) then
          let x44 := (List.getD c2.1 (Int.toNat t6) ([] : (List Int)))
          let x45 := (decide (x43 < ((List.length x44 : Nat) : Int)))
          bif x45 then
           if 0 ≤ t6 ∧ t6 < ((List.length c2.1 : Nat) : Int) then
            let x46 := (List.getD c2.1 (Int.toNat t6) ([] : (List Int)))
            if 0 ≤ (IntKind.wrap .i64 (t7 - (1 : Int))) ∧ (IntKind.wrap .i64 (t7 - (1 : Int))) < ((List.length t1 : Nat) : Int) then
             let x47 := (List.getD t1 (Int.toNat (IntKind.wrap .i64 (t7 - (1 : Int)))) (0 : Int))
             if 0 ≤ x47 ∧ x47 < ((List.length x46 : Nat) : Int) then
              (F22_0 k n t1 (List.getD x46 (Int.toNat x47) (0 : Int)) (IntKind.wrap .i64 (t7 - (1 : Int))) c2 c11).bind some
             else none
            else none
           else none
          else
           (F22_0 k n t1 t6 (IntKind.wrap .i64 (t7 - (1 : Int))) c2 c11).bind some
         else none
        else none
       else
        (F22_0 k n t1 t6 (IntKind.wrap .i64 (t7 - (1 : Int))) c2 c11).bind some
      else none
     else
      (F22_0 k n t1 t6 (IntKind.wrap .i64 (t7 - (1 : Int))) c2 c11).bind some
    else
     (F22_0 k n t1 t6 (IntKind.wrap .i64 (t7 - (1 : Int))) c2 c11).bind some
def fr22_0 (k : Nat) : Frag := ⟨⟨[], [(1, .val KD61), (2, .ptr 2 []), (5, .at 11 []), (6, .val (.int .i64)), (7, .val (.int .i64))], [(2, some 39, KD29), (11, none, KD64)]⟩, [(.ret, ⟨[], [(4, .at 11 [])], [(11, none, KD64)]⟩)], fun v => F22_0 k k v.1.1 v.1.2.1 v.1.2.2.1 v.2.1 v.2.2.1⟩
def F22 (k : Nat) (a0 : TY54) (a1 : (List Int)) : Option TY66 :=
 let x1 := (IntKind.wrap .i64 (((List.length a1 : Nat) : Int) + (1 : Int)))
 if (0 ≤ x1 ∧ x1 < x1 + 1) ∧ x1 ≤ 9223372036854775807 ∧ ((8 : Nat) : Int) * x1 ≤ 281474976710656 then
  (F22_0 k k a1 (0 : Int) ((List.length a1 : Nat) : Int) a0 (List.replicate (Int.toNat x1) (0 : Int))).bind fun r48 =>
  let y49 := r48.2.1
  some ((y49, ()), ())
 else none
def sp22 (k : Nat) : Spec := ⟨[.val KD29, .val KD61], [.own KD64], fun x => F22 k x.1 x.2.1⟩
def lim22 : Lim := ⟨79, 2, false, false, [], []⟩
def cfg22 (k : Nat) : Nat → Option Spec := cfgL []
noncomputable def co22_0 : Code := codeAt (bodyOf Try.f22) [.r, .r, .r, .r, .s]
noncomputable def cb22_0 : Code := codeAt (bodyOf Try.f22) [.r, .r, .r, .r, .s, .b]
noncomputable def co22 : Code := codeAt (bodyOf Try.f22) []
theorem cfg22_ok (k : Nat) : CfgOK Try.prog (cfg22 k) := cfgL_nil
noncomputable def bo22_0 (k m : Nat) (v : (fr22_0 k).sh.V) := body Try.prog (stepper Try.prog (cfg22 k) lim22) .go cb22_0 ((fr22_0 k).sh.st v) (loopK (fr22_0 k) fun v => F22_0 k m v.1.1 v.1.2.1 v.1.2.2.1 v.2.1 v.2.2.1)
theorem pp22_0 (k m : Nat) (v : (fr22_0 k).sh.V) : F22_0 k (m + 1) v.1.1 v.1.2.1 v.1.2.2.1 v.2.1 v.2.2.1 = (bo22_0 k m v).eval ∧ (bo22_0 k m v).left = (bo22_0 k m v).right := ⟨by kernel_rfl, by kernel_rfl⟩
theorem fr22_0_ok (k : Nat) : FragOK Try.prog lim22 (fr22_0 k) co22_0 :=
 frag_cast (by kernel_rfl) (loop_ok (cfg22_ok k) (planOK_go _) (fun m v => F22_0 k m v.1.1 v.1.2.1 v.1.2.2.1 v.2.1 v.2.2.1) k (fun _ => rfl) (fun _ => rfl) (pp22_0 k))
def pl22 (k : Nat) : Plan := (.seq .go (.seq .go (.seq .go (.seq .go (.sub (.frag (fr22_0 k)))))))
theorem pq22 (k : Nat) : PlanOK Try.prog lim22 (pl22 k) co22 = (PlanOK Try.prog lim22 .go (codeAt (bodyOf Try.f22) [.l]) ∧ (PlanOK Try.prog lim22 .go (codeAt (bodyOf Try.f22) [.r, .l]) ∧ (PlanOK Try.prog lim22 .go (codeAt (bodyOf Try.f22) [.r, .r, .l]) ∧ (PlanOK Try.prog lim22 .go (codeAt (bodyOf Try.f22) [.r, .r, .r, .l]) ∧ FragOK Try.prog lim22 (fr22_0 k) co22_0)))) := by kernel_rfl
noncomputable def bo22 (k : Nat) (x : AT (sp22 k).ps) := fnT Try.prog (cfg22 k) lim22 Try.f22 (bodyOf Try.f22) (pl22 k) (sp22 k) x
theorem vv22 (k : Nat) (x : AT (sp22 k).ps) : (sp22 k).impl x = (bo22 k x).eval ∧ (bo22 k x).left = (bo22 k x).right := ⟨by kernel_rfl, by kernel_rfl⟩
theorem v22 (k : Nat) : Callable Try.prog 22 ∧ Valid Try.prog 22 (sp22 k) :=
 fn_of (n := lim22) (fn := Try.f22) (p := (pl22 k)) (cfg22_ok k) (by kernel_rfl) (Eq.mpr (pq22 k) ⟨(planOK_go _), ⟨(planOK_go _), ⟨(planOK_go _), ⟨(planOK_go _), (fr22_0_ok k)⟩⟩⟩⟩) (vv22 k)
def F12 (k : Nat) : Option TY71 :=
 (F16 k [] [] (1 : Int) (1 : Int)).bind fun r1 =>
 (F16 k [] [] (1 : Int) (0 : Int)).bind fun r2 =>
 let x3 := (List.set (List.set (List.replicate 2 (0 : Int)) 0 (0 : Int)) 1 (0 : Int))
 (F22 k r1.1.1 x3).bind fun r4 =>
 bif (r1.1.2.2.1 == (0 : Int)) then
  let x5 := (((List.length r1.1.1.1 : Nat) : Int) == (1 : Int))
  bif x5 then
   let x6 := (((List.length r1.1.1.2.1 : Nat) : Int) == (1 : Int))
   bif x6 then
    let x7 := (((List.length r1.1.2.1 : Nat) : Int) == (1 : Int))
    bif x7 then
     if 0 ≤ (0 : Int) ∧ (0 : Int) < ((List.length r1.1.2.1 : Nat) : Int) then
      let x8 := ((List.length (List.getD r1.1.2.1 (Int.toNat (0 : Int)) ([] : (List Bool))) : Nat) : Int)
      bif (x8 == (0 : Int)) then
       bif (r2.1.2.2.1 == (4 : Int)) then
        let x9 := (((List.length r4.1.1 : Nat) : Int) == (3 : Int))
        bif x9 then
         if 0 ≤ (0 : Int) ∧ (0 : Int) < ((List.length r4.1.1 : Nat) : Int) then
          let x10 := (List.getD r4.1.1 (Int.toNat (0 : Int)) (0 : Int))
          some (((x10 == (0 : Int)), ()), ())
         else none
        else
         some ((false, ()), ())
       else
        some ((false, ()), ())
      else
       some ((false, ()), ())
     else none
    else
     some ((false, ()), ())
   else
    some ((false, ()), ())
  else
   some ((false, ()), ())
 else
  some ((false, ()), ())
def sp12 (k : Nat) : Spec := ⟨[], [.val .bool], fun x => F12 k⟩
def lim12 : Lim := ⟨62, 0, false, false, [], []⟩
def cfg12 (k : Nat) : Nat → Option Spec := cfgL [(16, sp16 k), (22, sp22 k)]
noncomputable def co12 : Code := codeAt (bodyOf Try.f12) []
theorem cfg12_ok (k : Nat) : CfgOK Try.prog (cfg12 k) := cfgL_cons (v16 k) (cfgL_cons (v22 k) (cfgL_nil))
noncomputable def bo12 (k : Nat) (x : AT (sp12 k).ps) := fnT Try.prog (cfg12 k) lim12 Try.f12 (bodyOf Try.f12) .go (sp12 k) x
theorem vv12 (k : Nat) (x : AT (sp12 k).ps) : (sp12 k).impl x = (bo12 k x).eval ∧ (bo12 k x).left = (bo12 k x).right := ⟨by kernel_rfl, by kernel_rfl⟩
theorem v12 (k : Nat) : Callable Try.prog 12 ∧ Valid Try.prog 12 (sp12 k) :=
 fn_of (n := lim12) (fn := Try.f12) (p := .go) (cfg12_ok k) (by kernel_rfl) (planOK_go _) (vv12 k)
def rs27 (f27 : (TY57 → Int → Option TY72)) : Spec := ⟨[.val KD48, .val (.int .i64)], [.val (.int .i64)], fun x => f27 x.1 x.2.1⟩
def F27_0 (k : Nat) (f27 : (TY57 → Int → Option TY72)) : Nat → TY57 → Int → Int → Int → Option (TY72)
 | 0, _, _, _, _ => none
 | n + 1, t0, t1, t5, t6 =>
  let x5 := (decide (t6 < ((List.length t0 : Nat) : Int)))
  bif x5 then
   bif (decide (t5 ≤ (30 : Int))) then
    if 0 ≤ t6 ∧ t6 < ((List.length t0 : Nat) : Int) then
     let x6 := (List.getD t0 (Int.toNat t6) (Tree.mk ((0 : Int), ((0 : Int), ())) []))
     (f27 (Tree.l x6) (IntKind.wrap .i64 (t1 + (1 : Int)))).bind fun r7 =>
     let x8 := (IntKind.wrap .i64 ((IntKind.wrap .i64 (t5 + (1 : Int))) + r7.1.1))
     (F27_0 k f27 n t0 t1 x8 (IntKind.wrap .i64 (t6 + (1 : Int)))).bind some
    else none
   else
    some ((t5, ()), ())
  else
   some ((t5, ()), ())
def fr27_0 (k : Nat) (f27 : (TY57 → Int → Option TY72)) : Frag := ⟨⟨[], [(0, .val KD48), (1, .val (.int .i64)), (5, .val (.int .i64)), (6, .val (.int .i64))], []⟩, [(.exit 0, ⟨[], [(5, .val (.int .i64))], []⟩)], fun v => F27_0 k f27 k v.1.1 v.1.2.1 v.1.2.2.1 v.1.2.2.2.1⟩
def B27 (k : Nat) (f27 : (TY57 → Int → Option TY72)) (a0 : TY57) (a1 : Int) : Option TY72 :=
 bif (decide (a1 > (5 : Int))) then
  some (((1000 : Int), ()), ())
 else
  (F27_0 k f27 k a0 a1 (0 : Int) (0 : Int)).bind fun r9 =>
  let y10 := r9.1.1
  some ((y10, ()), ())
def sb27 (k : Nat) (f27 : (TY57 → Int → Option TY72)) : Spec := rs27 (B27 k f27)
def lim27 : Lim := ⟨31, 2, false, false, [], []⟩
def cfg27 (k : Nat) (f27 : (TY57 → Int → Option TY72)) : Nat → Option Spec := cfgL [(27, rs27 f27)]
noncomputable def co27_0 : Code := codeAt (bodyOf Try.f27) [.r, .r, .r, .l, .r, .s]
noncomputable def cb27_0 : Code := codeAt (bodyOf Try.f27) [.r, .r, .r, .l, .r, .s, .b]
noncomputable def co27 : Code := codeAt (bodyOf Try.f27) []
theorem cfg27_ok (k : Nat) (f27 : (TY57 → Int → Option TY72)) (h27 : Callable Try.prog 27 ∧ Valid Try.prog 27 (rs27 f27)) : CfgOK Try.prog (cfg27 k f27) := cfgL_cons h27 (cfgL_nil)
noncomputable def bo27_0 (k : Nat) (f27 : (TY57 → Int → Option TY72)) (m : Nat) (v : (fr27_0 k f27).sh.V) := body Try.prog (stepper Try.prog (cfg27 k f27) lim27) .go cb27_0 ((fr27_0 k f27).sh.st v) (loopK (fr27_0 k f27) fun v => F27_0 k f27 m v.1.1 v.1.2.1 v.1.2.2.1 v.1.2.2.2.1)
theorem pp27_0 (k : Nat) (f27 : (TY57 → Int → Option TY72)) (m : Nat) (v : (fr27_0 k f27).sh.V) : F27_0 k f27 (m + 1) v.1.1 v.1.2.1 v.1.2.2.1 v.1.2.2.2.1 = (bo27_0 k f27 m v).eval ∧ (bo27_0 k f27 m v).left = (bo27_0 k f27 m v).right := ⟨by kernel_rfl, by kernel_rfl⟩
theorem fr27_0_ok (k : Nat) (f27 : (TY57 → Int → Option TY72)) (h27 : Callable Try.prog 27 ∧ Valid Try.prog 27 (rs27 f27)) : FragOK Try.prog lim27 (fr27_0 k f27) co27_0 :=
 frag_cast (by kernel_rfl) (loop_ok (cfg27_ok k f27 h27) (planOK_go _) (fun m v => F27_0 k f27 m v.1.1 v.1.2.1 v.1.2.2.1 v.1.2.2.2.1) k (fun _ => rfl) (fun _ => rfl) (pp27_0 k f27))
def pl27 (k : Nat) (f27 : (TY57 → Int → Option TY72)) : Plan := (.seq .go (.seq .go (.seq .go (.seq (.seq .go (.sub (.frag (fr27_0 k f27)))) .go))))
theorem pq27 (k : Nat) (f27 : (TY57 → Int → Option TY72)) : PlanOK Try.prog lim27 (pl27 k f27) co27 = (PlanOK Try.prog lim27 .go (codeAt (bodyOf Try.f27) [.l]) ∧ (PlanOK Try.prog lim27 .go (codeAt (bodyOf Try.f27) [.r, .l]) ∧ (PlanOK Try.prog lim27 .go (codeAt (bodyOf Try.f27) [.r, .r, .l]) ∧ ((PlanOK Try.prog lim27 .go (codeAt (bodyOf Try.f27) [.r, .r, .r, .l, .l]) ∧ FragOK Try.prog lim27 (fr27_0 k f27) co27_0) ∧ PlanOK Try.prog lim27 .go (codeAt (bodyOf Try.f27) [.r, .r, .r, .r]))))) := by kernel_rfl
noncomputable def bo27 (k : Nat) (f27 : (TY57 → Int → Option TY72)) (x : AT (sb27 k f27).ps) := fnT Try.prog (cfg27 k f27) lim27 Try.f27 (bodyOf Try.f27) (pl27 k f27) (sb27 k f27) x
theorem vv27 (k : Nat) (f27 : (TY57 → Int → Option TY72)) (x : AT (sb27 k f27).ps) : (sb27 k f27).impl x = (bo27 k f27 x).eval ∧ (bo27 k f27 x).left = (bo27 k f27 x).right := ⟨by kernel_rfl, by kernel_rfl⟩
theorem b27 (k : Nat) (f27 : (TY57 → Int → Option TY72)) (h27 : Callable Try.prog 27 ∧ Valid Try.prog 27 (rs27 f27)) : Callable Try.prog 27 ∧ Valid Try.prog 27 (sb27 k f27) :=
 fn_of (n := lim27) (fn := Try.f27) (p := (pl27 k f27)) (cfg27_ok k f27 h27) (by kernel_rfl) (Eq.mpr (pq27 k f27) ⟨(planOK_go _), ⟨(planOK_go _), ⟨(planOK_go _), ⟨⟨(planOK_go _), (fr27_0_ok k f27 h27)⟩, (planOK_go _)⟩⟩⟩⟩) (vv27 k f27)
def R27 : Nat → (TY57 → Int → Option TY72)
 | 0 => fun _ _ => none
 | k + 1 => B27 k (R27 k)
def F27 (k : Nat) (a0_ : TY57) (a1_ : Int) : Option TY72 := (R27 k) a0_ a1_
def sp27 (k : Nat) : Spec := ⟨[.val KD48, .val (.int .i64)], [.val (.int .i64)], fun x => F27 k x.1 x.2.1⟩
theorem r27 (k : Nat) : (Callable Try.prog 27 ∧ Valid Try.prog 27 (rs27 (R27 k))) := by
 induction k with
 | zero => exact ⟨⟨Try.f27, by kernel_rfl, by kernel_rfl, by kernel_rfl⟩, fun x r h => by cases (show (none : Option _) = some r from h)⟩
 | succ k ih => exact b27 k (R27 k) ih
theorem v27 (k : Nat) : Callable Try.prog 27 ∧ Valid Try.prog 27 (sp27 k) := (r27 k)
def F13 (k : Nat) (a0 : TY57) : Option TY71 :=
 (F27 k a0 (0 : Int)).bind fun r1 =>
 some (((decide (r1.1.1 ≤ (30 : Int))), ()), ())
def sp13 (k : Nat) : Spec := ⟨[.val KD48], [.val .bool], fun x => F13 k x.1⟩
def lim13 : Lim := ⟨6, 1, false, false, [], []⟩
def cfg13 (k : Nat) : Nat → Option Spec := cfgL [(27, sp27 k)]
noncomputable def co13 : Code := codeAt (bodyOf Try.f13) []
theorem cfg13_ok (k : Nat) : CfgOK Try.prog (cfg13 k) := cfgL_cons (v27 k) (cfgL_nil)
noncomputable def bo13 (k : Nat) (x : AT (sp13 k).ps) := fnT Try.prog (cfg13 k) lim13 Try.f13 (bodyOf Try.f13) .go (sp13 k) x
theorem vv13 (k : Nat) (x : AT (sp13 k).ps) : (sp13 k).impl x = (bo13 k x).eval ∧ (bo13 k x).left = (bo13 k x).right := ⟨by kernel_rfl, by kernel_rfl⟩
theorem v13 (k : Nat) : Callable Try.prog 13 ∧ Valid Try.prog 13 (sp13 k) :=
 fn_of (n := lim13) (fn := Try.f13) (p := .go) (cfg13_ok k) (by kernel_rfl) (planOK_go _) (vv13 k)
def F70 (k : Nat) (a0 : Int) (a1 : Int) : Option ((TY49 × Unit) × Unit) :=
 let x6 := (Tree.a (Tree.mk ((0 : Int), ((0 : Int), ((0 : Int), (ByteArray.empty, ())))) [])).2.2.2.1
 let x7 := (Tree.l (Tree.mk ((0 : Int), ((0 : Int), ((0 : Int), (ByteArray.empty, ())))) []))
 let x8 := (Tree.mk ((1 : Int), (a0, (a1, (x6, ())))) x7)
 some ((x8, ()), ())
def sp70 (k : Nat) : Spec := ⟨[.val (.int .i64), .val (.int .i64)], [.val KD33], fun x => F70 k x.1 x.2.1⟩
def lim70 : Lim := ⟨8, 2, false, false, [], []⟩
def cfg70 (k : Nat) : Nat → Option Spec := cfgL []
noncomputable def co70 : Code := codeAt (bodyOf Try.f70) []
theorem cfg70_ok (k : Nat) : CfgOK Try.prog (cfg70 k) := cfgL_nil
noncomputable def bo70 (k : Nat) (x : AT (sp70 k).ps) := fnT Try.prog (cfg70 k) lim70 Try.f70 (bodyOf Try.f70) .go (sp70 k) x
theorem vv70 (k : Nat) (x : AT (sp70 k).ps) : (sp70 k).impl x = (bo70 k x).eval ∧ (bo70 k x).left = (bo70 k x).right := ⟨by kernel_rfl, by kernel_rfl⟩
theorem v70 (k : Nat) : Callable Try.prog 70 ∧ Valid Try.prog 70 (sp70 k) :=
 fn_of (n := lim70) (fn := Try.f70) (p := .go) (cfg70_ok k) (by kernel_rfl) (planOK_go _) (vv70 k)
def F71 (k : Nat) : Option (((List ByteArray) × Unit) × Unit) :=
 let x1 := (List.set (List.set (List.set (List.set (List.set (List.set (List.replicate 6 ByteArray.empty) 0 (⟨#[97]⟩ : ByteArray)) 1 (⟨#[118]⟩ : ByteArray)) 2 (⟨#[100]⟩ : ByteArray)) 3 (⟨#[115]⟩ : ByteArray)) 4 (⟨#[119, 49]⟩ : ByteArray)) 5 (⟨#[111, 116, 104, 101, 114]⟩ : ByteArray))
 some ((x1, ()), ())
def sp71 (k : Nat) : Spec := ⟨[], [.own (.sl true 9 .str none)], fun x => F71 k⟩
def lim71 : Lim := ⟨2, 0, false, false, [], []⟩
def cfg71 (k : Nat) : Nat → Option Spec := cfgL []
noncomputable def co71 : Code := codeAt (bodyOf Try.f71) []
theorem cfg71_ok (k : Nat) : CfgOK Try.prog (cfg71 k) := cfgL_nil
noncomputable def bo71 (k : Nat) (x : AT (sp71 k).ps) := fnT Try.prog (cfg71 k) lim71 Try.f71 (bodyOf Try.f71) .go (sp71 k) x
theorem vv71 (k : Nat) (x : AT (sp71 k).ps) : (sp71 k).impl x = (bo71 k x).eval ∧ (bo71 k x).left = (bo71 k x).right := ⟨by kernel_rfl, by kernel_rfl⟩
theorem v71 (k : Nat) : Callable Try.prog 71 ∧ Valid Try.prog 71 (sp71 k) :=
 fn_of (n := lim71) (fn := Try.f71) (p := .go) (cfg71_ok k) (by kernel_rfl) (planOK_go _) (vv71 k)
def F50 (k : Nat) (a0 : Int) (a1 : Int) : Option TY72 :=
 if a1 ≠ 0 then
  bif (decide ((Int.tmod a0 a1) < (0 : Int))) then
   some (((IntKind.wrap .i64 ((Int.tmod a0 a1) + a1)), ()), ())
  else
   some (((Int.tmod a0 a1), ()), ())
 else none
def sp50 (k : Nat) : Spec := ⟨[.val (.int .i64), .val (.int .i64)], [.val (.int .i64)], fun x => F50 k x.1 x.2.1⟩
def lim50 : Lim := ⟨15, 2, false, false, [], []⟩
def cfg50 (k : Nat) : Nat → Option Spec := cfgL []
noncomputable def co50 : Code := codeAt (bodyOf Try.f50) []
theorem cfg50_ok (k : Nat) : CfgOK Try.prog (cfg50 k) := cfgL_nil
noncomputable def bo50 (k : Nat) (x : AT (sp50 k).ps) := fnT Try.prog (cfg50 k) lim50 Try.f50 (bodyOf Try.f50) .go (sp50 k) x
theorem vv50 (k : Nat) (x : AT (sp50 k).ps) : (sp50 k).impl x = (bo50 k x).eval ∧ (bo50 k x).left = (bo50 k x).right := ⟨by kernel_rfl, by kernel_rfl⟩
theorem v50 (k : Nat) : Callable Try.prog 50 ∧ Valid Try.prog 50 (sp50 k) :=
 fn_of (n := lim50) (fn := Try.f50) (p := .go) (cfg50_ok k) (by kernel_rfl) (planOK_go _) (vv50 k)
def rs72 (f72 : (Int → TY39 → Int → Option TY22)) : Spec := ⟨[.val (.int .i64), .mut KD24, .val (.int .i64)], [.val KD33], fun x => f72 x.1 x.2.1 x.2.2.1⟩
def B72 (k : Nat) (f72 : (Int → TY39 → Int → Option TY22)) (a0 : Int) (a1 : TY39) (a2 : Int) : Option TY22 :=
 (F50 k a0 (16 : Int)).bind fun r6 =>
 bif (decide (r6.1.1 < (5 : Int))) then
  (F50 k (IntKind.wrap .i64 (Int.tdiv a0 (16 : Int))) (50 : Int)).bind fun r7 =>
  let x8 := (Int.tmod (IntKind.wrap .i64 (Int.tdiv a0 (16 : Int))) (5 : Int))
  let x9 := (IntKind.wrap .i64 ((IntKind.wrap .i64 (r7.1.1 + (40 : Int))) + x8))
  let x10 := (Tree.a (Tree.mk ((0 : Int), ((0 : Int), ((0 : Int), (ByteArray.empty, ())))) [])).2.2.2.1
  let x11 := (Tree.l (Tree.mk ((0 : Int), ((0 : Int), ((0 : Int), (ByteArray.empty, ())))) []))
  let x12 := (Tree.mk ((1 : Int), ((IntKind.wrap .i64 (r7.1.1 + (40 : Int))), (x9, (x10, ())))) x11)
  some ((x12, ()), (a1, ()))
 else
  bif (decide (a2 > (3 : Int))) then
   (F50 k (IntKind.wrap .i64 (Int.tdiv a0 (16 : Int))) (50 : Int)).bind fun r13 =>
   let x14 := (Int.tmod (IntKind.wrap .i64 (Int.tdiv a0 (16 : Int))) (5 : Int))
   let x15 := (IntKind.wrap .i64 ((IntKind.wrap .i64 (r13.1.1 + (40 : Int))) + x14))
   let x16 := (Tree.a (Tree.mk ((0 : Int), ((0 : Int), ((0 : Int), (ByteArray.empty, ())))) [])).2.2.2.1
   let x17 := (Tree.l (Tree.mk ((0 : Int), ((0 : Int), ((0 : Int), (ByteArray.empty, ())))) []))
   let x18 := (Tree.mk ((1 : Int), ((IntKind.wrap .i64 (r13.1.1 + (40 : Int))), (x15, (x16, ())))) x17)
   some ((x18, ()), (a1, ()))
  else
   bif (decide (r6.1.1 < (6 : Int))) then
    (F50 k (IntKind.wrap .i64 (Int.tdiv a0 (16 : Int))) (1114112 : Int)).bind fun r19 =>
    let x20 := (Int.tmod (IntKind.wrap .i64 (Int.tdiv a0 (16 : Int))) (9 : Int))
    let x21 := (minI (IntKind.wrap .i64 (r19.1.1 + x20)) (1114111 : Int))
    let x22 := (Tree.a (Tree.mk ((0 : Int), ((0 : Int), ((0 : Int), (ByteArray.empty, ())))) [])).2.2.2.1
    let x23 := (Tree.l (Tree.mk ((0 : Int), ((0 : Int), ((0 : Int), (ByteArray.empty, ())))) []))
    let x24 := (Tree.mk ((1 : Int), (r19.1.1, (x21, (x22, ())))) x23)
    some ((x24, ()), (a1, ()))
   else
    bif (decide (r6.1.1 < (8 : Int))) then
     let x25 := (decide (((List.length a1 : Nat) : Int) > (0 : Int)))
     bif x25 then
      (F50 k (IntKind.wrap .i64 (Int.tdiv a0 (16 : Int))) ((List.length a1 : Nat) : Int)).bind fun r26 =>
      if 0 ≤ r26.1.1 ∧ r26.1.1 < ((List.length a1 : Nat) : Int) then
       let x27 := (List.getD a1 (Int.toNat r26.1.1) (ByteArray.empty, ((Tree.mk ((0 : Int), ((0 : Int), ((0 : Int), (ByteArray.empty, ())))) []), ()))).1
       let x28 := (Tree.a (Tree.mk ((0 : Int), ((0 : Int), ((0 : Int), (ByteArray.empty, ())))) [])).2.1
       let x29 := (Tree.a (Tree.mk ((0 : Int), ((0 : Int), ((0 : Int), (ByteArray.empty, ())))) [])).2.2.1
       let x30 := (Tree.l (Tree.mk ((0 : Int), ((0 : Int), ((0 : Int), (ByteArray.empty, ())))) []))
       let x31 := (Tree.mk ((2 : Int), (x28, (x29, (x27, ())))) x30)
       some ((x31, ()), (a1, ()))
      else none
     else
      bif (decide (r6.1.1 < (9 : Int))) then
       let x32 := (Tree.a (Tree.mk ((0 : Int), ((0 : Int), ((0 : Int), (ByteArray.empty, ())))) [])).2.1
       let x33 := (Tree.a (Tree.mk ((0 : Int), ((0 : Int), ((0 : Int), (ByteArray.empty, ())))) [])).2.2.1
       let x34 := (Tree.a (Tree.mk ((0 : Int), ((0 : Int), ((0 : Int), (ByteArray.empty, ())))) [])).2.2.2.1
       let x35 := (Tree.l (Tree.mk ((0 : Int), ((0 : Int), ((0 : Int), (ByteArray.empty, ())))) []))
       let x36 := (Tree.mk ((3 : Int), (x32, (x33, (x34, ())))) x35)
       some ((x36, ()), (a1, ()))
      else
       bif (decide (r6.1.1 < (10 : Int))) then
        (f72 (IntKind.wrap .i64 (Int.tdiv a0 (16 : Int))) a1 (IntKind.wrap .i64 (a2 + (1 : Int)))).bind fun r37 =>
        let x38 := (List.set (List.replicate 1 (Tree.mk ((0 : Int), ((0 : Int), ((0 : Int), (ByteArray.empty, ())))) [])) 0 r37.1.1)
        let x39 := (Tree.a (Tree.mk ((0 : Int), ((0 : Int), ((0 : Int), (ByteArray.empty, ())))) [])).2.1
        let x40 := (Tree.a (Tree.mk ((0 : Int), ((0 : Int), ((0 : Int), (ByteArray.empty, ())))) [])).2.2.1
        let x41 := (Tree.a (Tree.mk ((0 : Int), ((0 : Int), ((0 : Int), (ByteArray.empty, ())))) [])).2.2.2.1
        let x42 := (Tree.mk ((4 : Int), (x39, (x40, (x41, ())))) x38)
        some ((x42, ()), (r37.2.1, ()))
       else
        let x43 := (Int.tmod (IntKind.wrap .i64 (Int.tdiv a0 (16 : Int))) (3 : Int))
        let x44 := (IntKind.wrap .i64 (Int.tdiv (IntKind.wrap .i64 (Int.tdiv a0 (16 : Int))) (3 : Int)))
        (f72 x44 a1 (IntKind.wrap .i64 (a2 + (1 : Int)))).bind fun r45 =>
        let x46 := (IntKind.wrap .i64 (Int.tdiv (IntKind.wrap .i64 (Int.tdiv a0 (16 : Int))) (48 : Int)))
        (f72 x46 r45.2.1 (IntKind.wrap .i64 (a2 + (1 : Int)))).bind fun r47 =>
        let x48 := (List.set (List.set (List.replicate 2 (Tree.mk ((0 : Int), ((0 : Int), ((0 : Int), (ByteArray.empty, ())))) [])) 0 r45.1.1) 1 r47.1.1)
        let x49 := (Tree.a (Tree.mk ((0 : Int), ((0 : Int), ((0 : Int), (ByteArray.empty, ())))) [])).2.1
        let x50 := (Tree.a (Tree.mk ((0 : Int), ((0 : Int), ((0 : Int), (ByteArray.empty, ())))) [])).2.2.1
        let x51 := (Tree.a (Tree.mk ((0 : Int), ((0 : Int), ((0 : Int), (ByteArray.empty, ())))) [])).2.2.2.1
        let x52 := (Tree.mk ((IntKind.wrap .i64 ((5 : Int) + x43)), (x49, (x50, (x51, ())))) x48)
        some ((x52, ()), (r47.2.1, ()))
    else
     bif (decide (r6.1.1 < (9 : Int))) then
      let x53 := (Tree.a (Tree.mk ((0 : Int), ((0 : Int), ((0 : Int), (ByteArray.empty, ())))) [])).2.1
      let x54 := (Tree.a (Tree.mk ((0 : Int), ((0 : Int), ((0 : Int), (ByteArray.empty, ())))) [])).2.2.1
      let x55 := (Tree.a (Tree.mk ((0 : Int), ((0 : Int), ((0 : Int), (ByteArray.empty, ())))) [])).2.2.2.1
      let x56 := (Tree.l (Tree.mk ((0 : Int), ((0 : Int), ((0 : Int), (ByteArray.empty, ())))) []))
      let x57 := (Tree.mk ((3 : Int), (x53, (x54, (x55, ())))) x56)
      some ((x57, ()), (a1, ()))
     else
      bif (decide (r6.1.1 < (10 : Int))) then
       (f72 (IntKind.wrap .i64 (Int.tdiv a0 (16 : Int))) a1 (IntKind.wrap .i64 (a2 + (1 : Int)))).bind fun r58 =>
       let x59 := (List.set (List.replicate 1 (Tree.mk ((0 : Int), ((0 : Int), ((0 : Int), (ByteArray.empty, ())))) [])) 0 r58.1.1)
       let x60 := (Tree.a (Tree.mk ((0 : Int), ((0 : Int), ((0 : Int), (ByteArray.empty, ())))) [])).2.1
       let x61 := (Tree.a (Tree.mk ((0 : Int), ((0 : Int), ((0 : Int), (ByteArray.empty, ())))) [])).2.2.1
       let x62 := (Tree.a (Tree.mk ((0 : Int), ((0 : Int), ((0 : Int), (ByteArray.empty, ())))) [])).2.2.2.1
       let x63 := (Tree.mk ((4 : Int), (x60, (x61, (x62, ())))) x59)
       some ((x63, ()), (r58.2.1, ()))
      else
       let x64 := (Int.tmod (IntKind.wrap .i64 (Int.tdiv a0 (16 : Int))) (3 : Int))
       let x65 := (IntKind.wrap .i64 (Int.tdiv (IntKind.wrap .i64 (Int.tdiv a0 (16 : Int))) (3 : Int)))
       (f72 x65 a1 (IntKind.wrap .i64 (a2 + (1 : Int)))).bind fun r66 =>
       let x67 := (IntKind.wrap .i64 (Int.tdiv (IntKind.wrap .i64 (Int.tdiv a0 (16 : Int))) (48 : Int)))
       (f72 x67 r66.2.1 (IntKind.wrap .i64 (a2 + (1 : Int)))).bind fun r68 =>
       let x69 := (List.set (List.set (List.replicate 2 (Tree.mk ((0 : Int), ((0 : Int), ((0 : Int), (ByteArray.empty, ())))) [])) 0 r66.1.1) 1 r68.1.1)
       let x70 := (Tree.a (Tree.mk ((0 : Int), ((0 : Int), ((0 : Int), (ByteArray.empty, ())))) [])).2.1
       let x71 := (Tree.a (Tree.mk ((0 : Int), ((0 : Int), ((0 : Int), (ByteArray.empty, ())))) [])).2.2.1
       let x72 := (Tree.a (Tree.mk ((0 : Int), ((0 : Int), ((0 : Int), (ByteArray.empty, ())))) [])).2.2.2.1
       let x73 := (Tree.mk ((IntKind.wrap .i64 ((5 : Int) + x64)), (x70, (x71, (x72, ())))) x69)
       some ((x73, ()), (r68.2.1, ()))
def sb72 (k : Nat) (f72 : (Int → TY39 → Int → Option TY22)) : Spec := rs72 (B72 k f72)
def lim72 : Lim := ⟨91, 3, false, false, [], []⟩
def cfg72 (k : Nat) (f72 : (Int → TY39 → Int → Option TY22)) : Nat → Option Spec := cfgL [(50, sp50 k), (72, rs72 f72)]
noncomputable def co72 : Code := codeAt (bodyOf Try.f72) []
theorem cfg72_ok (k : Nat) (f72 : (Int → TY39 → Int → Option TY22)) (h72 : Callable Try.prog 72 ∧ Valid Try.prog 72 (rs72 f72)) : CfgOK Try.prog (cfg72 k f72) := cfgL_cons (v50 k) (cfgL_cons h72 (cfgL_nil))
noncomputable def bo72 (k : Nat) (f72 : (Int → TY39 → Int → Option TY22)) (x : AT (sb72 k f72).ps) := fnT Try.prog (cfg72 k f72) lim72 Try.f72 (bodyOf Try.f72) .go (sb72 k f72) x
theorem vv72 (k : Nat) (f72 : (Int → TY39 → Int → Option TY22)) (x : AT (sb72 k f72).ps) : (sb72 k f72).impl x = (bo72 k f72 x).eval ∧ (bo72 k f72 x).left = (bo72 k f72 x).right := ⟨by kernel_rfl, by kernel_rfl⟩
theorem b72 (k : Nat) (f72 : (Int → TY39 → Int → Option TY22)) (h72 : Callable Try.prog 72 ∧ Valid Try.prog 72 (rs72 f72)) : Callable Try.prog 72 ∧ Valid Try.prog 72 (sb72 k f72) :=
 fn_of (n := lim72) (fn := Try.f72) (p := .go) (cfg72_ok k f72 h72) (by kernel_rfl) (planOK_go _) (vv72 k f72)
def R72 : Nat → (Int → TY39 → Int → Option TY22)
 | 0 => fun _ _ _ => none
 | k + 1 => B72 k (R72 k)
def F72 (k : Nat) (a0_ : Int) (a1_ : TY39) (a2_ : Int) : Option TY22 := (R72 k) a0_ a1_ a2_
def sp72 (k : Nat) : Spec := ⟨[.val (.int .i64), .mut KD24, .val (.int .i64)], [.val KD33], fun x => F72 k x.1 x.2.1 x.2.2.1⟩
theorem r72 (k : Nat) : (Callable Try.prog 72 ∧ Valid Try.prog 72 (rs72 (R72 k))) := by
 induction k with
 | zero => exact ⟨⟨Try.f72, by kernel_rfl, by kernel_rfl, by kernel_rfl⟩, fun x r h => by cases (show (none : Option _) = some r from h)⟩
 | succ k ih => exact b72 k (R72 k) ih
theorem v72 (k : Nat) : Callable Try.prog 72 ∧ Valid Try.prog 72 (sp72 k) := (r72 k)
def F49_0 (k : Nat) : Nat → (List Int) → Int → TY39 → Option ((Unit × TY34))
 | 0, _, _, _ => none
 | n + 1, t0, t4, c2000003 =>
  let x23 := (decide (t4 < ((List.length t0 : Nat) : Int)))
  bif x23 then
   bif (decide (t4 < (2 : Int))) then
    if 0 ≤ t4 ∧ t4 < ((List.length t0 : Nat) : Int) then
     (F71 k).bind fun r24 =>
     if 0 ≤ (IntKind.wrap .i64 ((4 : Int) + t4)) ∧ (IntKind.wrap .i64 ((4 : Int) + t4)) < ((List.length r24.1.1 : Nat) : Int) then
      let x25 := (Int.toNat (IntKind.wrap .i64 ((4 : Int) + t4)))
      (F50 k (List.getD t0 (Int.toNat t4) (0 : Int)) (1099511627776 : Int)).bind fun r26 =>
      (F72 k r26.1.1 c2000003 (0 : Int)).bind fun r27 =>
      let x28 := (List.set (List.replicate 1 (ByteArray.empty, ((Tree.mk ((0 : Int), ((0 : Int), ((0 : Int), (ByteArray.empty, ())))) []), ()))) 0 ((List.getD r24.1.1 x25 ByteArray.empty), (r27.1.1, ())))
      if (List.length r27.2.1 + List.length x28) * (80 * 2) ≤ 281474976710656 ∧ List.length r27.2.1 + List.length x28 ≤ 9223372036854775807 then
       (F49_0 k n t0 (IntKind.wrap .i64 (t4 + (1 : Int))) (r27.2.1 ++ x28)).bind some
      else none
     else none
    else none
   else
    some ((), (c2000003, ()))
  else
   some ((), (c2000003, ()))
def fr49_0 (k : Nat) : Frag := ⟨⟨[(3, KD24)], [(0, .val KD61), (3, .at 2000003 []), (4, .val (.int .i64))], [(2000003, none, KD24)]⟩, [(.exit 0, ⟨[(3, KD24)], [(3, .at 2000003 [])], [(2000003, none, KD24)]⟩)], fun v => F49_0 k k v.1.1 v.1.2.1 v.2.1⟩
def F49 (k : Nat) (a0 : (List Int)) : Option (TY34 × Unit) :=
 (F70 k (97 : Int) (97 : Int)).bind fun r1 =>
 (F70 k (97 : Int) (99 : Int)).bind fun r2 =>
 (F70 k (48 : Int) (57 : Int)).bind fun r3 =>
 (F70 k (19968 : Int) (20223 : Int)).bind fun r4 =>
 let x5 := (List.set (List.set (List.replicate 2 (Tree.mk ((0 : Int), ((0 : Int), ((0 : Int), (ByteArray.empty, ())))) [])) 0 r3.1.1) 1 r4.1.1)
 let x6 := (Tree.a (Tree.mk ((0 : Int), ((0 : Int), ((0 : Int), (ByteArray.empty, ())))) [])).2.1
 let x7 := (Tree.a (Tree.mk ((0 : Int), ((0 : Int), ((0 : Int), (ByteArray.empty, ())))) [])).2.2.1
 let x8 := (Tree.a (Tree.mk ((0 : Int), ((0 : Int), ((0 : Int), (ByteArray.empty, ())))) [])).2.2.2.1
 let x9 := (Tree.mk ((5 : Int), (x6, (x7, (x8, ())))) x5)
 let x10 := (Tree.a (Tree.mk ((0 : Int), ((0 : Int), ((0 : Int), (ByteArray.empty, ())))) [])).2.1
 let x11 := (Tree.a (Tree.mk ((0 : Int), ((0 : Int), ((0 : Int), (ByteArray.empty, ())))) [])).2.2.1
 let x12 := (Tree.a (Tree.mk ((0 : Int), ((0 : Int), ((0 : Int), (ByteArray.empty, ())))) [])).2.2.2.1
 let x13 := (Tree.l (Tree.mk ((0 : Int), ((0 : Int), ((0 : Int), (ByteArray.empty, ())))) []))
 let x14 := (Tree.a (Tree.mk ((0 : Int), ((0 : Int), ((0 : Int), (ByteArray.empty, ())))) [])).2.1
 let x15 := (Tree.a (Tree.mk ((0 : Int), ((0 : Int), ((0 : Int), (ByteArray.empty, ())))) [])).2.2.1
 let x16 := (Tree.l (Tree.mk ((0 : Int), ((0 : Int), ((0 : Int), (ByteArray.empty, ())))) []))
 let x17 := (List.set (List.set (List.replicate 2 (Tree.mk ((0 : Int), ((0 : Int), ((0 : Int), (ByteArray.empty, ())))) [])) 0 (Tree.mk ((3 : Int), (x10, (x11, (x12, ())))) x13)) 1 (Tree.mk ((2 : Int), (x14, (x15, ((⟨#[118]⟩ : ByteArray), ())))) x16))
 let x18 := (Tree.a (Tree.mk ((0 : Int), ((0 : Int), ((0 : Int), (ByteArray.empty, ())))) [])).2.1
 let x19 := (Tree.a (Tree.mk ((0 : Int), ((0 : Int), ((0 : Int), (ByteArray.empty, ())))) [])).2.2.1
 let x20 := (Tree.a (Tree.mk ((0 : Int), ((0 : Int), ((0 : Int), (ByteArray.empty, ())))) [])).2.2.2.1
 let x21 := (Tree.mk ((7 : Int), (x18, (x19, (x20, ())))) x17)
 let x22 := (List.set (List.set (List.set (List.set (List.replicate 4 (ByteArray.empty, ((Tree.mk ((0 : Int), ((0 : Int), ((0 : Int), (ByteArray.empty, ())))) []), ()))) 0 ((⟨#[97]⟩ : ByteArray), (r1.1.1, ()))) 1 ((⟨#[118]⟩ : ByteArray), (r2.1.1, ()))) 2 ((⟨#[100]⟩ : ByteArray), (x9, ()))) 3 ((⟨#[115]⟩ : ByteArray), (x21, ())))
 (F49_0 k k a0 (0 : Int) x22).bind fun r29 =>
 let y30 := r29.2.1
 some ((y30, ()), ())
def sp49 (k : Nat) : Spec := ⟨[.val KD61], [.own KD24], fun x => F49 k x.1⟩
def lim49 : Lim := ⟨47, 1, false, true, [], []⟩
def cfg49 (k : Nat) : Nat → Option Spec := cfgL [(50, sp50 k), (70, sp70 k), (71, sp71 k), (72, sp72 k)]
noncomputable def co49_0 : Code := codeAt (bodyOf Try.f49) [.r, .r, .l, .r, .s]
noncomputable def cb49_0 : Code := codeAt (bodyOf Try.f49) [.r, .r, .l, .r, .s, .b]
noncomputable def co49 : Code := codeAt (bodyOf Try.f49) []
theorem cfg49_ok (k : Nat) : CfgOK Try.prog (cfg49 k) := cfgL_cons (v50 k) (cfgL_cons (v70 k) (cfgL_cons (v71 k) (cfgL_cons (v72 k) (cfgL_nil))))
noncomputable def bo49_0 (k m : Nat) (v : (fr49_0 k).sh.V) := body Try.prog (stepper Try.prog (cfg49 k) lim49) .go cb49_0 ((fr49_0 k).sh.st v) (loopK (fr49_0 k) fun v => F49_0 k m v.1.1 v.1.2.1 v.2.1)
theorem pp49_0 (k m : Nat) (v : (fr49_0 k).sh.V) : F49_0 k (m + 1) v.1.1 v.1.2.1 v.2.1 = (bo49_0 k m v).eval ∧ (bo49_0 k m v).left = (bo49_0 k m v).right := ⟨by kernel_rfl, by kernel_rfl⟩
theorem fr49_0_ok (k : Nat) : FragOK Try.prog lim49 (fr49_0 k) co49_0 :=
 frag_cast (by kernel_rfl) (loop_ok (cfg49_ok k) (planOK_go _) (fun m v => F49_0 k m v.1.1 v.1.2.1 v.2.1) k (fun _ => rfl) (fun _ => rfl) (pp49_0 k))
def pl49 (k : Nat) : Plan := (.seq .go (.seq .go (.seq (.seq .go (.sub (.frag (fr49_0 k)))) .go)))
theorem pq49 (k : Nat) : PlanOK Try.prog lim49 (pl49 k) co49 = (PlanOK Try.prog lim49 .go (codeAt (bodyOf Try.f49) [.l]) ∧ (PlanOK Try.prog lim49 .go (codeAt (bodyOf Try.f49) [.r, .l]) ∧ ((PlanOK Try.prog lim49 .go (codeAt (bodyOf Try.f49) [.r, .r, .l, .l]) ∧ FragOK Try.prog lim49 (fr49_0 k) co49_0) ∧ PlanOK Try.prog lim49 .go (codeAt (bodyOf Try.f49) [.r, .r, .r])))) := by kernel_rfl
noncomputable def bo49 (k : Nat) (x : AT (sp49 k).ps) := fnT Try.prog (cfg49 k) lim49 Try.f49 (bodyOf Try.f49) (pl49 k) (sp49 k) x
theorem vv49 (k : Nat) (x : AT (sp49 k).ps) : (sp49 k).impl x = (bo49 k x).eval ∧ (bo49 k x).left = (bo49 k x).right := ⟨by kernel_rfl, by kernel_rfl⟩
theorem v49 (k : Nat) : Callable Try.prog 49 ∧ Valid Try.prog 49 (sp49 k) :=
 fn_of (n := lim49) (fn := Try.f49) (p := (pl49 k)) (cfg49_ok k) (by kernel_rfl) (Eq.mpr (pq49 k) ⟨(planOK_go _), ⟨(planOK_go _), ⟨⟨(planOK_go _), (fr49_0_ok k)⟩, (planOK_go _)⟩⟩⟩) (vv49 k)
def rs51 (f51 : (TY67 → Bool → Option TY40)) : Spec := ⟨[.val KD47, .val .bool], [.val KD27], fun x => f51 x.1 x.2.1⟩
def rs73 (f73 : (TY67 → Int → Bool → Option TY40)) : Spec := ⟨[.val KD47, .val (.int .i64), .val .bool], [.val KD27], fun x => f73 x.1 x.2.1 x.2.2.1⟩
def B51 (k : Nat) (f51 : (TY67 → Bool → Option TY40)) (f73 : (TY67 → Int → Bool → Option TY40)) (a0 : TY67) (a1 : Bool) : Option TY40 :=
 (F50 k (Tree.a a0).1 (20 : Int)).bind fun r7 =>
 bif (decide (r7.1.1 < (1 : Int))) then
  let x8 := (Tree.a (Tree.mk ((0 : Int), ((0 : Int), ((0 : Int), ((0 : Int), (ByteArray.empty, ()))))) [])).2.1
  let x9 := (Tree.a (Tree.mk ((0 : Int), ((0 : Int), ((0 : Int), ((0 : Int), (ByteArray.empty, ()))))) [])).2.2.1
  let x10 := (Tree.a (Tree.mk ((0 : Int), ((0 : Int), ((0 : Int), ((0 : Int), (ByteArray.empty, ()))))) [])).2.2.2.1
  let x11 := (Tree.a (Tree.mk ((0 : Int), ((0 : Int), ((0 : Int), ((0 : Int), (ByteArray.empty, ()))))) [])).2.2.2.2.1
  let x12 := (Tree.l (Tree.mk ((0 : Int), ((0 : Int), ((0 : Int), ((0 : Int), (ByteArray.empty, ()))))) []))
  let x13 := (Tree.mk ((1 : Int), (x8, (x9, (x10, (x11, ()))))) x12)
  some ((x13, ()), ())
 else
  bif (decide (r7.1.1 < (6 : Int))) then
   (F71 k).bind fun r14 =>
   (F50 k (Tree.a a0).2.1 (4 : Int)).bind fun r15 =>
   if 0 ≤ r15.1.1 ∧ r15.1.1 < ((List.length r14.1.1 : Nat) : Int) then
    let x16 := (List.getD r14.1.1 (Int.toNat r15.1.1) ByteArray.empty)
    let x17 := (Tree.a (Tree.mk ((0 : Int), ((0 : Int), ((0 : Int), ((0 : Int), (ByteArray.empty, ()))))) [])).2.1
    let x18 := (Tree.a (Tree.mk ((0 : Int), ((0 : Int), ((0 : Int), ((0 : Int), (ByteArray.empty, ()))))) [])).2.2.1
    let x19 := (Tree.a (Tree.mk ((0 : Int), ((0 : Int), ((0 : Int), ((0 : Int), (ByteArray.empty, ()))))) [])).2.2.2.1
    let x20 := (Tree.l (Tree.mk ((0 : Int), ((0 : Int), ((0 : Int), ((0 : Int), (ByteArray.empty, ()))))) []))
    let x21 := (Tree.mk ((2 : Int), (x17, (x18, (x19, (x16, ()))))) x20)
    some ((x21, ()), ())
   else none
  else
   bif (decide (r7.1.1 < (8 : Int))) then
    let x22 := (Tree.a (Tree.mk ((0 : Int), ((0 : Int), ((0 : Int), ((0 : Int), (ByteArray.empty, ()))))) [])).2.1
    let x23 := (Tree.a (Tree.mk ((0 : Int), ((0 : Int), ((0 : Int), ((0 : Int), (ByteArray.empty, ()))))) [])).2.2.1
    let x24 := (Tree.a (Tree.mk ((0 : Int), ((0 : Int), ((0 : Int), ((0 : Int), (ByteArray.empty, ()))))) [])).2.2.2.1
    let x25 := (Tree.a (Tree.mk ((0 : Int), ((0 : Int), ((0 : Int), ((0 : Int), (ByteArray.empty, ()))))) [])).2.2.2.2.1
    let x26 := (Tree.l (Tree.mk ((0 : Int), ((0 : Int), ((0 : Int), ((0 : Int), (ByteArray.empty, ()))))) []))
    let x27 := (Tree.mk ((3 : Int), (x22, (x23, (x24, (x25, ()))))) x26)
    some ((x27, ()), ())
   else
    bif (decide (r7.1.1 < (13 : Int))) then
     let x28 := (Tree.mk ((Tree.a a0).1, ((Tree.a a0).2.1, ())) (Tree.l a0))
     let x29 := (Tree.mk ((Tree.a a0).1, ((Tree.a a0).2.1, ())) (Tree.l a0))
     (f73 x28 (0 : Int) a1).bind fun r30 =>
     (f73 x29 (1 : Int) a1).bind fun r31 =>
     let x32 := (List.set (List.set (List.replicate 2 (Tree.mk ((0 : Int), ((0 : Int), ((0 : Int), ((0 : Int), (ByteArray.empty, ()))))) [])) 0 r30.1.1) 1 r31.1.1)
     let x33 := (Tree.a (Tree.mk ((0 : Int), ((0 : Int), ((0 : Int), ((0 : Int), (ByteArray.empty, ()))))) [])).2.1
     let x34 := (Tree.a (Tree.mk ((0 : Int), ((0 : Int), ((0 : Int), ((0 : Int), (ByteArray.empty, ()))))) [])).2.2.1
     let x35 := (Tree.a (Tree.mk ((0 : Int), ((0 : Int), ((0 : Int), ((0 : Int), (ByteArray.empty, ()))))) [])).2.2.2.1
     let x36 := (Tree.a (Tree.mk ((0 : Int), ((0 : Int), ((0 : Int), ((0 : Int), (ByteArray.empty, ()))))) [])).2.2.2.2.1
     let x37 := (Tree.mk ((4 : Int), (x33, (x34, (x35, (x36, ()))))) x32)
     some ((x37, ()), ())
    else
     bif (decide (r7.1.1 < (15 : Int))) then
      let x38 := (Tree.mk ((Tree.a a0).1, ((Tree.a a0).2.1, ())) (Tree.l a0))
      let x39 := (Tree.mk ((Tree.a a0).1, ((Tree.a a0).2.1, ())) (Tree.l a0))
      (f73 x38 (0 : Int) a1).bind fun r40 =>
      (f73 x39 (1 : Int) a1).bind fun r41 =>
      let x42 := (List.set (List.set (List.replicate 2 (Tree.mk ((0 : Int), ((0 : Int), ((0 : Int), ((0 : Int), (ByteArray.empty, ()))))) [])) 0 r40.1.1) 1 r41.1.1)
      let x43 := (Tree.a (Tree.mk ((0 : Int), ((0 : Int), ((0 : Int), ((0 : Int), (ByteArray.empty, ()))))) [])).2.1
      let x44 := (Tree.a (Tree.mk ((0 : Int), ((0 : Int), ((0 : Int), ((0 : Int), (ByteArray.empty, ()))))) [])).2.2.1
      let x45 := (Tree.a (Tree.mk ((0 : Int), ((0 : Int), ((0 : Int), ((0 : Int), (ByteArray.empty, ()))))) [])).2.2.2.1
      let x46 := (Tree.a (Tree.mk ((0 : Int), ((0 : Int), ((0 : Int), ((0 : Int), (ByteArray.empty, ()))))) [])).2.2.2.2.1
      let x47 := (Tree.mk ((5 : Int), (x43, (x44, (x45, (x46, ()))))) x42)
      some ((x47, ()), ())
     else
      bif (decide (r7.1.1 < (16 : Int))) then
       let x48 := (Tree.mk ((Tree.a a0).1, ((Tree.a a0).2.1, ())) (Tree.l a0))
       (f73 x48 (0 : Int) a1).bind fun r49 =>
       let x50 := (List.set (List.replicate 1 (Tree.mk ((0 : Int), ((0 : Int), ((0 : Int), ((0 : Int), (ByteArray.empty, ()))))) [])) 0 r49.1.1)
       let x51 := (Tree.a (Tree.mk ((0 : Int), ((0 : Int), ((0 : Int), ((0 : Int), (ByteArray.empty, ()))))) [])).2.1
       let x52 := (Tree.a (Tree.mk ((0 : Int), ((0 : Int), ((0 : Int), ((0 : Int), (ByteArray.empty, ()))))) [])).2.2.1
       let x53 := (Tree.a (Tree.mk ((0 : Int), ((0 : Int), ((0 : Int), ((0 : Int), (ByteArray.empty, ()))))) [])).2.2.2.1
       let x54 := (Tree.a (Tree.mk ((0 : Int), ((0 : Int), ((0 : Int), ((0 : Int), (ByteArray.empty, ()))))) [])).2.2.2.2.1
       let x55 := (Tree.mk ((6 : Int), (x51, (x52, (x53, (x54, ()))))) x50)
       some ((x55, ()), ())
      else
       bif (decide (r7.1.1 < (18 : Int))) then
        (F50 k (Tree.a a0).2.1 (3 : Int)).bind fun r56 =>
        let x57 := (Tree.mk ((Tree.a a0).1, ((Tree.a a0).2.1, ())) (Tree.l a0))
        let x58 := (IntKind.wrap .i64 (Int.tdiv (Tree.a a0).2.1 (3 : Int)))
        (f73 x57 (0 : Int) a1).bind fun r59 =>
        let x60 := (List.set (List.replicate 1 (Tree.mk ((0 : Int), ((0 : Int), ((0 : Int), ((0 : Int), (ByteArray.empty, ()))))) [])) 0 r59.1.1)
        (F50 k x58 (3 : Int)).bind fun r61 =>
        let x62 := (Tree.a (Tree.mk ((0 : Int), ((0 : Int), ((0 : Int), ((0 : Int), (ByteArray.empty, ()))))) [])).2.2.2.1
        let x63 := (Tree.a (Tree.mk ((0 : Int), ((0 : Int), ((0 : Int), ((0 : Int), (ByteArray.empty, ()))))) [])).2.2.2.2.1
        let x64 := (Tree.mk ((7 : Int), (r56.1.1, ((IntKind.wrap .i64 (r56.1.1 + r61.1.1)), (x62, (x63, ()))))) x60)
        some ((x64, ()), ())
       else
        bif a1 then
         let x65 := (Tree.mk ((Tree.a a0).1, ((Tree.a a0).2.1, ())) (Tree.l a0))
         (f73 x65 (0 : Int) a1).bind fun r66 =>
         some ((r66.1.1, ()), ())
        else
         let x67 := (Tree.mk ((Tree.a a0).1, ((Tree.a a0).2.1, ())) (Tree.l a0))
         (f73 x67 (0 : Int) a1).bind fun r68 =>
         let x69 := (List.set (List.replicate 1 (Tree.mk ((0 : Int), ((0 : Int), ((0 : Int), ((0 : Int), (ByteArray.empty, ()))))) [])) 0 r68.1.1)
         (F50 k (Tree.a a0).2.1 (7 : Int)).bind fun r70 =>
         let x71 := (Tree.a (Tree.mk ((0 : Int), ((0 : Int), ((0 : Int), ((0 : Int), (ByteArray.empty, ()))))) [])).2.1
         let x72 := (Tree.a (Tree.mk ((0 : Int), ((0 : Int), ((0 : Int), ((0 : Int), (ByteArray.empty, ()))))) [])).2.2.1
         let x73 := (Tree.a (Tree.mk ((0 : Int), ((0 : Int), ((0 : Int), ((0 : Int), (ByteArray.empty, ()))))) [])).2.2.2.2.1
         let x74 := (Tree.mk ((8 : Int), (x71, (x72, (r70.1.1, (x73, ()))))) x69)
         some ((x74, ()), ())
def sb51 (k : Nat) (f51 : (TY67 → Bool → Option TY40)) (f73 : (TY67 → Int → Bool → Option TY40)) : Spec := rs51 (B51 k f51 f73)
def lim51 : Lim := ⟨88, 2, false, false, [], []⟩
def cfg51 (k : Nat) (f51 : (TY67 → Bool → Option TY40)) (f73 : (TY67 → Int → Bool → Option TY40)) : Nat → Option Spec := cfgL [(50, sp50 k), (71, sp71 k), (73, rs73 f73)]
noncomputable def co51 : Code := codeAt (bodyOf Try.f51) []
theorem cfg51_ok (k : Nat) (f51 : (TY67 → Bool → Option TY40)) (f73 : (TY67 → Int → Bool → Option TY40)) (h51 : Callable Try.prog 51 ∧ Valid Try.prog 51 (rs51 f51)) (h73 : Callable Try.prog 73 ∧ Valid Try.prog 73 (rs73 f73)) : CfgOK Try.prog (cfg51 k f51 f73) := cfgL_cons (v50 k) (cfgL_cons (v71 k) (cfgL_cons h73 (cfgL_nil)))
noncomputable def bo51 (k : Nat) (f51 : (TY67 → Bool → Option TY40)) (f73 : (TY67 → Int → Bool → Option TY40)) (x : AT (sb51 k f51 f73).ps) := fnT Try.prog (cfg51 k f51 f73) lim51 Try.f51 (bodyOf Try.f51) .go (sb51 k f51 f73) x
theorem vv51 (k : Nat) (f51 : (TY67 → Bool → Option TY40)) (f73 : (TY67 → Int → Bool → Option TY40)) (x : AT (sb51 k f51 f73).ps) : (sb51 k f51 f73).impl x = (bo51 k f51 f73 x).eval ∧ (bo51 k f51 f73 x).left = (bo51 k f51 f73 x).right := ⟨by kernel_rfl, by kernel_rfl⟩
theorem b51 (k : Nat) (f51 : (TY67 → Bool → Option TY40)) (f73 : (TY67 → Int → Bool → Option TY40)) (h51 : Callable Try.prog 51 ∧ Valid Try.prog 51 (rs51 f51)) (h73 : Callable Try.prog 73 ∧ Valid Try.prog 73 (rs73 f73)) : Callable Try.prog 51 ∧ Valid Try.prog 51 (sb51 k f51 f73) :=
 fn_of (n := lim51) (fn := Try.f51) (p := .go) (cfg51_ok k f51 f73 h51 h73) (by kernel_rfl) (planOK_go _) (vv51 k f51 f73)
def B73 (k : Nat) (f51 : (TY67 → Bool → Option TY40)) (f73 : (TY67 → Int → Bool → Option TY40)) (a0 : TY67) (a1 : Int) (a2 : Bool) : Option TY40 :=
 let x7 := (decide (a1 < ((List.length (Tree.l a0) : Nat) : Int)))
 bif x7 then
  if 0 ≤ a1 ∧ a1 < ((List.length (Tree.l a0) : Nat) : Int) then
   let x8 := (List.getD (Tree.l a0) (Int.toNat a1) (Tree.mk ((0 : Int), ((0 : Int), ())) []))
   (f51 x8 a2).bind fun r9 =>
   some ((r9.1.1, ()), ())
  else none
 else
  (F71 k).bind fun r10 =>
  (F50 k (IntKind.wrap .i64 ((Tree.a a0).2.1 + a1)) (4 : Int)).bind fun r11 =>
  if 0 ≤ r11.1.1 ∧ r11.1.1 < ((List.length r10.1.1 : Nat) : Int) then
   let x12 := (List.getD r10.1.1 (Int.toNat r11.1.1) ByteArray.empty)
   let x13 := (Tree.a (Tree.mk ((0 : Int), ((0 : Int), ((0 : Int), ((0 : Int), (ByteArray.empty, ()))))) [])).2.1
   let x14 := (Tree.a (Tree.mk ((0 : Int), ((0 : Int), ((0 : Int), ((0 : Int), (ByteArray.empty, ()))))) [])).2.2.1
   let x15 := (Tree.a (Tree.mk ((0 : Int), ((0 : Int), ((0 : Int), ((0 : Int), (ByteArray.empty, ()))))) [])).2.2.2.1
   let x16 := (Tree.l (Tree.mk ((0 : Int), ((0 : Int), ((0 : Int), ((0 : Int), (ByteArray.empty, ()))))) []))
   let x17 := (Tree.mk ((2 : Int), (x13, (x14, (x15, (x12, ()))))) x16)
   some ((x17, ()), ())
  else none
def sb73 (k : Nat) (f51 : (TY67 → Bool → Option TY40)) (f73 : (TY67 → Int → Bool → Option TY40)) : Spec := rs73 (B73 k f51 f73)
def lim73 : Lim := ⟨28, 3, false, false, [], []⟩
def cfg73 (k : Nat) (f51 : (TY67 → Bool → Option TY40)) (f73 : (TY67 → Int → Bool → Option TY40)) : Nat → Option Spec := cfgL [(50, sp50 k), (51, rs51 f51), (71, sp71 k)]
noncomputable def co73 : Code := codeAt (bodyOf Try.f73) []
theorem cfg73_ok (k : Nat) (f51 : (TY67 → Bool → Option TY40)) (f73 : (TY67 → Int → Bool → Option TY40)) (h51 : Callable Try.prog 51 ∧ Valid Try.prog 51 (rs51 f51)) (h73 : Callable Try.prog 73 ∧ Valid Try.prog 73 (rs73 f73)) : CfgOK Try.prog (cfg73 k f51 f73) := cfgL_cons (v50 k) (cfgL_cons h51 (cfgL_cons (v71 k) (cfgL_nil)))
noncomputable def bo73 (k : Nat) (f51 : (TY67 → Bool → Option TY40)) (f73 : (TY67 → Int → Bool → Option TY40)) (x : AT (sb73 k f51 f73).ps) := fnT Try.prog (cfg73 k f51 f73) lim73 Try.f73 (bodyOf Try.f73) .go (sb73 k f51 f73) x
theorem vv73 (k : Nat) (f51 : (TY67 → Bool → Option TY40)) (f73 : (TY67 → Int → Bool → Option TY40)) (x : AT (sb73 k f51 f73).ps) : (sb73 k f51 f73).impl x = (bo73 k f51 f73 x).eval ∧ (bo73 k f51 f73 x).left = (bo73 k f51 f73 x).right := ⟨by kernel_rfl, by kernel_rfl⟩
theorem b73 (k : Nat) (f51 : (TY67 → Bool → Option TY40)) (f73 : (TY67 → Int → Bool → Option TY40)) (h51 : Callable Try.prog 51 ∧ Valid Try.prog 51 (rs51 f51)) (h73 : Callable Try.prog 73 ∧ Valid Try.prog 73 (rs73 f73)) : Callable Try.prog 73 ∧ Valid Try.prog 73 (sb73 k f51 f73) :=
 fn_of (n := lim73) (fn := Try.f73) (p := .go) (cfg73_ok k f51 f73 h51 h73) (by kernel_rfl) (planOK_go _) (vv73 k f51 f73)
def R51 : Nat → (TY67 → Bool → Option TY40) × (TY67 → Int → Bool → Option TY40)
 | 0 => (fun _ _ => none, fun _ _ _ => none)
 | k + 1 => (B51 k (R51 k).1 (R51 k).2, B73 k (R51 k).1 (R51 k).2)
def F51 (k : Nat) (a0_ : TY67) (a1_ : Bool) : Option TY40 := (R51 k).1 a0_ a1_
def sp51 (k : Nat) : Spec := ⟨[.val KD47, .val .bool], [.val KD27], fun x => F51 k x.1 x.2.1⟩
def F73 (k : Nat) (a0_ : TY67) (a1_ : Int) (a2_ : Bool) : Option TY40 := (R51 k).2 a0_ a1_ a2_
def sp73 (k : Nat) : Spec := ⟨[.val KD47, .val (.int .i64), .val .bool], [.val KD27], fun x => F73 k x.1 x.2.1 x.2.2.1⟩
theorem r51 (k : Nat) : (Callable Try.prog 51 ∧ Valid Try.prog 51 (rs51 (R51 k).1)) ∧ (Callable Try.prog 73 ∧ Valid Try.prog 73 (rs73 (R51 k).2)) := by
 induction k with
 | zero => exact ⟨⟨⟨Try.f51, by kernel_rfl, by kernel_rfl, by kernel_rfl⟩, fun x r h => by cases (show (none : Option _) = some r from h)⟩, ⟨⟨Try.f73, by kernel_rfl, by kernel_rfl, by kernel_rfl⟩, fun x r h => by cases (show (none : Option _) = some r from h)⟩⟩
 | succ k ih => exact ⟨b51 k (R51 k).1 (R51 k).2 ih.1 ih.2, b73 k (R51 k).1 (R51 k).2 ih.1 ih.2⟩
theorem v51 (k : Nat) : Callable Try.prog 51 ∧ Valid Try.prog 51 (sp51 k) := (r51 k).1
theorem v73 (k : Nat) : Callable Try.prog 73 ∧ Valid Try.prog 73 (sp73 k) := (r51 k).2
def F28_0 (k : Nat) : Nat → TY57 → (List Int) → Int → TY12 → TY12 → Option ((Unit × (TY12 × TY12 × Unit)))
 | 0, _, _, _, _, _ => none
 | n + 1, t0, t1, t8, c6, c7 =>
  let x23 := (decide ((IntKind.wrap .i64 (t8 + (1 : Int))) < ((List.length t0 : Nat) : Int)))
  bif x23 then
   bif (decide (t8 < (8 : Int))) then
    let x24 := (decide ((IntKind.wrap .i64 (Int.tdiv t8 (2 : Int))) < ((List.length t1 : Nat) : Int)))
    bif x24 then
     if 0 ≤ (IntKind.wrap .i64 (Int.tdiv t8 (2 : Int))) ∧ (IntKind.wrap .i64 (Int.tdiv t8 (2 : Int))) < ((List.length t1 : Nat) : Int) then
      let x25 := (List.getD t1 (Int.toNat (IntKind.wrap .i64 (Int.tdiv t8 (2 : Int)))) (0 : Int))
      (F50 k x25 (1073741824 : Int)).bind fun r26 =>
      let x27 := (IntKind.wrap .i64 (Int.tdiv r26.1.1 (3 : Int)))
      if 0 ≤ t8 ∧ t8 < ((List.length t0 : Nat) : Int) then
       let x28 := (List.getD t0 (Int.toNat t8) (Tree.mk ((0 : Int), ((0 : Int), ())) []))
       if 0 ≤ (IntKind.wrap .i64 (t8 + (1 : Int))) ∧ (IntKind.wrap .i64 (t8 + (1 : Int))) < ((List.length t0 : Nat) : Int) then
        let x29 := (List.getD t0 (Int.toNat (IntKind.wrap .i64 (t8 + (1 : Int)))) (Tree.mk ((0 : Int), ((0 : Int), ())) []))
        (F51 k x28 false).bind fun r30 =>
        (F51 k x29 true).bind fun r31 =>
        let x32 := (List.set (List.replicate 1 ((0 : Int), ((0 : Int), ((Tree.mk ((0 : Int), ((0 : Int), ((0 : Int), ((0 : Int), (ByteArray.empty, ()))))) []), ((Tree.mk ((0 : Int), ((0 : Int), ((0 : Int), ((0 : Int), (ByteArray.empty, ()))))) []), ()))))) 0 ((Int.tmod r26.1.1 (3 : Int)), ((Int.tmod x27 (20 : Int)), (r30.1.1, (r31.1.1, ())))))
        if (List.length c7.2.1 + List.length x32) * (160 * 2) ≤ 281474976710656 ∧ List.length c7.2.1 + List.length x32 ≤ 9223372036854775807 then
         (F28_0 k n t0 t1 (IntKind.wrap .i64 (t8 + (2 : Int))) c6 (c7.1, ((c7.2.1 ++ x32), c7.2.2))).bind some
        else none
       else none
      else none
     else none
    else
     let x33 := (Int.tmod (IntKind.wrap .i64 (Int.tdiv t8 (3 : Int))) (20 : Int))
     if 0 ≤ t8 ∧ t8 < ((List.length t0 : Nat) : Int) then
      let x34 := (List.getD t0 (Int.toNat t8) (Tree.mk ((0 : Int), ((0 : Int), ())) []))
      if 0 ≤ (IntKind.wrap .i64 (t8 + (1 : Int))) ∧ (IntKind.wrap .i64 (t8 + (1 : Int))) < ((List.length t0 : Nat) : Int) then
       let x35 := (List.getD t0 (Int.toNat (IntKind.wrap .i64 (t8 + (1 : Int)))) (Tree.mk ((0 : Int), ((0 : Int), ())) []))
       (F51 k x34 false).bind fun r36 =>
       (F51 k x35 true).bind fun r37 =>
       let x38 := (List.set (List.replicate 1 ((0 : Int), ((0 : Int), ((Tree.mk ((0 : Int), ((0 : Int), ((0 : Int), ((0 : Int), (ByteArray.empty, ()))))) []), ((Tree.mk ((0 : Int), ((0 : Int), ((0 : Int), ((0 : Int), (ByteArray.empty, ()))))) []), ()))))) 0 ((Int.tmod t8 (3 : Int)), (x33, (r36.1.1, (r37.1.1, ())))))
       if (List.length c7.2.1 + List.length x38) * (160 * 2) ≤ 281474976710656 ∧ List.length c7.2.1 + List.length x38 ≤ 9223372036854775807 then
        (F28_0 k n t0 t1 (IntKind.wrap .i64 (t8 + (2 : Int))) c6 (c7.1, ((c7.2.1 ++ x38), c7.2.2))).bind some
       else none
      else none
     else none
   else
    some ((), (c6, c7, ()))
  else
   some ((), (c6, c7, ()))
def fr28_0 (k : Nat) : Frag := ⟨⟨[], [(0, .val KD48), (1, .val KD61), (6, .ptr 6 []), (7, .ptr 7 []), (8, .val (.int .i64))], [(6, some 29, KD6), (7, some 29, KD6)]⟩, [(.exit 0, ⟨[], [(6, .ptr 6 []), (7, .ptr 7 [])], [(6, some 29, KD6), (7, some 29, KD6)]⟩)], fun v => F28_0 k k v.1.1 v.1.2.1 v.1.2.2.1 v.2.1 v.2.2.1⟩
def F28 (k : Nat) (a0 : TY57) (a1 : (List Int)) (a2 : (List Int)) : Option ((TY12 × Unit) × Unit) :=
 let x1 := ([] : TY39)
 let x2 := ([] : TY23)
 (F49 k a2).bind fun r3 =>
 let x4 := ([] : TY23)
 (F28_0 k k a0 a1 (0 : Int) (x1, (x2, ())) (r3.1.1, (x4, ()))).bind fun r39 =>
 let y41 := r39.2.2.1
 some ((y41, ()), ())
def sp28 (k : Nat) : Spec := ⟨[.val KD48, .val KD61, .val KD61], [.own KD6], fun x => F28 k x.1 x.2.1 x.2.2.1⟩
def lim28 : Lim := ⟨59, 3, false, false, [], []⟩
def cfg28 (k : Nat) : Nat → Option Spec := cfgL [(49, sp49 k), (50, sp50 k), (51, sp51 k)]
noncomputable def co28_0 : Code := codeAt (bodyOf Try.f28) [.r, .r, .l, .r, .s]
noncomputable def cb28_0 : Code := codeAt (bodyOf Try.f28) [.r, .r, .l, .r, .s, .b]
noncomputable def co28 : Code := codeAt (bodyOf Try.f28) []
theorem cfg28_ok (k : Nat) : CfgOK Try.prog (cfg28 k) := cfgL_cons (v49 k) (cfgL_cons (v50 k) (cfgL_cons (v51 k) (cfgL_nil)))
noncomputable def bo28_0 (k m : Nat) (v : (fr28_0 k).sh.V) := body Try.prog (stepper Try.prog (cfg28 k) lim28) .go cb28_0 ((fr28_0 k).sh.st v) (loopK (fr28_0 k) fun v => F28_0 k m v.1.1 v.1.2.1 v.1.2.2.1 v.2.1 v.2.2.1)
theorem pp28_0 (k m : Nat) (v : (fr28_0 k).sh.V) : F28_0 k (m + 1) v.1.1 v.1.2.1 v.1.2.2.1 v.2.1 v.2.2.1 = (bo28_0 k m v).eval ∧ (bo28_0 k m v).left = (bo28_0 k m v).right := ⟨by kernel_rfl, by kernel_rfl⟩
theorem fr28_0_ok (k : Nat) : FragOK Try.prog lim28 (fr28_0 k) co28_0 :=
 frag_cast (by kernel_rfl) (loop_ok (cfg28_ok k) (planOK_go _) (fun m v => F28_0 k m v.1.1 v.1.2.1 v.1.2.2.1 v.2.1 v.2.2.1) k (fun _ => rfl) (fun _ => rfl) (pp28_0 k))
def pl28 (k : Nat) : Plan := (.seq .go (.seq .go (.seq (.seq .go (.sub (.frag (fr28_0 k)))) .go)))
theorem pq28 (k : Nat) : PlanOK Try.prog lim28 (pl28 k) co28 = (PlanOK Try.prog lim28 .go (codeAt (bodyOf Try.f28) [.l]) ∧ (PlanOK Try.prog lim28 .go (codeAt (bodyOf Try.f28) [.r, .l]) ∧ ((PlanOK Try.prog lim28 .go (codeAt (bodyOf Try.f28) [.r, .r, .l, .l]) ∧ FragOK Try.prog lim28 (fr28_0 k) co28_0) ∧ PlanOK Try.prog lim28 .go (codeAt (bodyOf Try.f28) [.r, .r, .r])))) := by kernel_rfl
noncomputable def bo28 (k : Nat) (x : AT (sp28 k).ps) := fnT Try.prog (cfg28 k) lim28 Try.f28 (bodyOf Try.f28) (pl28 k) (sp28 k) x
theorem vv28 (k : Nat) (x : AT (sp28 k).ps) : (sp28 k).impl x = (bo28 k x).eval ∧ (bo28 k x).left = (bo28 k x).right := ⟨by kernel_rfl, by kernel_rfl⟩
theorem v28 (k : Nat) : Callable Try.prog 28 ∧ Valid Try.prog 28 (sp28 k) :=
 fn_of (n := lim28) (fn := Try.f28) (p := (pl28 k)) (cfg28_ok k) (by kernel_rfl) (Eq.mpr (pq28 k) ⟨(planOK_go _), ⟨(planOK_go _), ⟨⟨(planOK_go _), (fr28_0_ok k)⟩, (planOK_go _)⟩⟩⟩) (vv28 k)
def F84_0 (k : Nat) : Nat → TY68 → Int → Int → TY73 → TY68 → Option (((TY68 × Int × Int × Unit) × (TY73 × TY68 × Unit)))
 | 0, _, _, _, _, _ => none
 | n + 1, t0, t4, t6, c5, c2000003 =>
  bif (decide (t6 > (0 : Int))) then
   if 0 ≤ (IntKind.wrap .i64 (t6 - (1 : Int))) ∧ (IntKind.wrap .i64 (t6 - (1 : Int))) < ((List.length c2000003 : Nat) : Int) then
    let x5 := (Int.toNat (IntKind.wrap .i64 (t6 - (1 : Int))))
    let x6 := (List.getD c2000003 x5 ((0 : Int), ((0 : Int), ()))).1
    bif (decide (c5.1 < x6)) then
     (F84_0 k n t0 t4 (IntKind.wrap .i64 (t6 - (1 : Int))) c5 c2000003).bind some
    else
     some ((t0, t4, t6, ()), (c5, c2000003, ()))
   else none
  else
   some ((t0, t4, t6, ()), (c5, c2000003, ()))
def fr84_0 (k : Nat) : Frag := ⟨⟨[(3, KD45)], [(0, .val KD43), (3, .at 2000003 []), (4, .val (.int .i64)), (5, .ptr 5 []), (6, .val (.int .i64))], [(5, some 140, (.pair (.int .i64) (.pair (.int .i64) .unit))), (2000003, none, KD45)]⟩, [(.exit 2, ⟨[], [(0, .val KD43), (3, .at 2000003 []), (4, .val (.int .i64)), (5, .ptr 5 []), (6, .val (.int .i64))], [(5, some 140, (.pair (.int .i64) (.pair (.int .i64) .unit))), (2000003, none, KD45)]⟩)], fun v => F84_0 k k v.1.1 v.1.2.1 v.1.2.2.1 v.2.1 v.2.2.1⟩
def F84_1 (k : Nat) : Nat → TY68 → Int → TY68 → Option ((Unit × TY55))
 | 0, _, _, _ => none
 | n + 1, t0, t4, c2000003 =>
  let x1 := (decide (t4 < ((List.length t0 : Nat) : Int)))
  bif x1 then
   if 0 ≤ t4 ∧ t4 < ((List.length t0 : Nat) : Int) then
    let x2 := (List.getD t0 (Int.toNat t4) ((0 : Int), ((0 : Int), ())))
    if 0 ≤ t4 ∧ t4 < ((List.length t0 : Nat) : Int) then
     let x3 := (List.getD t0 (Int.toNat t4) ((0 : Int), ((0 : Int), ())))
     let x4 := (decide ((maxI x2.1 (0 : Int)) > (minI x3.2.1 (1114111 : Int))))
     bif x4 then
      (F84_1 k n t0 (IntKind.wrap .i64 (t4 + (1 : Int))) c2000003).bind some
     else
      (F84_0 k k t0 t4 ((List.length c2000003 : Nat) : Int) ((maxI x2.1 (0 : Int)), ((minI x3.2.1 (1114111 : Int)), ())) c2000003).bind fun r7 =>
      let y8 := r7.1.1
      let y9 := r7.1.2.1
      let y10 := r7.1.2.2.1
      let y11 := r7.2.1
      let y12 := r7.2.2.1
      if 0 ≤ (0 : Int) ∧ (0 : Int) ≤ y10 ∧ y10 ≤ ((List.length y12 : Nat) : Int) then
       let x13 := (Int.toNat y10 - Int.toNat (0 : Int))
       if 0 ≤ y10 ∧ y10 ≤ ((List.length y12 : Nat) : Int) ∧ ((List.length y12 : Nat) : Int) ≤ ((List.length y12 : Nat) : Int) then
        let x14 := (Int.toNat ((List.length y12 : Nat) : Int) - Int.toNat y10)
        let x15 := (List.replicate 0 ((0 : Int), ((0 : Int), ())))
        if (List.length x15 + List.length (List.take x13 (List.drop (Int.toNat (0 : Int)) y12))) * (16 * 2) ≤ 281474976710656 ∧ List.length x15 + List.length (List.take x13 (List.drop (Int.toNat (0 : Int)) y12)) ≤ 9223372036854775807 then
         let x16 := (x15 ++ (List.take x13 (List.drop (Int.toNat (0 : Int)) y12)))
         let x17 := (List.set (List.replicate 1 ((0 : Int), ((0 : Int), ()))) 0 y11)
         if (List.length x16 + List.length x17) * (16 * 2) ≤ 281474976710656 ∧ List.length x16 + List.length x17 ≤ 9223372036854775807 then
          if (List.length (x16 ++ x17) + List.length (List.take x14 (List.drop (Int.toNat y10) y12))) * (16 * 2) ≤ 281474976710656 ∧ List.length (x16 ++ x17) + List.length (List.take x14 (List.drop (Int.toNat y10) y12)) ≤ 9223372036854775807 then
           let x18 := ((x16 ++ x17) ++ (List.take x14 (List.drop (Int.toNat y10) y12)))
           (F84_1 k n y8 (IntKind.wrap .i64 (y9 + (1 : Int))) x18).bind some
          else none
         else none
        else none
       else none
      else none
    else none
   else none
  else
   some ((), (c2000003, ()))
def fr84_1 (k : Nat) : Frag := ⟨⟨[(3, KD45)], [(0, .val KD43), (3, .at 2000003 []), (4, .val (.int .i64))], [(2000003, none, KD45)]⟩, [(.exit 0, ⟨[(3, KD45)], [(3, .at 2000003 [])], [(2000003, none, KD45)]⟩)], fun v => F84_1 k k v.1.1 v.1.2.1 v.2.1⟩
def F84 (k : Nat) (a0 : TY68) : Option TY50 :=
 (F84_1 k k a0 (0 : Int) []).bind fun r19 =>
 let y20 := r19.2.1
 some ((y20, ()), ())
def sp84 (k : Nat) : Spec := ⟨[.val KD43], [.own KD45], fun x => F84 k x.1⟩
def lim84 : Lim := ⟨61, 1, false, false, [], []⟩
def cfg84 (k : Nat) : Nat → Option Spec := cfgL []
noncomputable def co84_0 : Code := codeAt (bodyOf Try.f84) [.r, .r, .l, .r, .s, .b, .r, .l, .s, .r, .r, .r, .l, .s]
noncomputable def cb84_0 : Code := codeAt (bodyOf Try.f84) [.r, .r, .l, .r, .s, .b, .r, .l, .s, .r, .r, .r, .l, .s, .b]
noncomputable def co84_1 : Code := codeAt (bodyOf Try.f84) [.r, .r, .l, .r, .s]
noncomputable def cb84_1 : Code := codeAt (bodyOf Try.f84) [.r, .r, .l, .r, .s, .b]
noncomputable def co84 : Code := codeAt (bodyOf Try.f84) []
theorem cfg84_ok (k : Nat) : CfgOK Try.prog (cfg84 k) := cfgL_nil
noncomputable def bo84_0 (k m : Nat) (v : (fr84_0 k).sh.V) := body Try.prog (stepper Try.prog (cfg84 k) lim84) .go cb84_0 ((fr84_0 k).sh.st v) (loopK (fr84_0 k) fun v => F84_0 k m v.1.1 v.1.2.1 v.1.2.2.1 v.2.1 v.2.2.1)
theorem pp84_0 (k m : Nat) (v : (fr84_0 k).sh.V) : F84_0 k (m + 1) v.1.1 v.1.2.1 v.1.2.2.1 v.2.1 v.2.2.1 = (bo84_0 k m v).eval ∧ (bo84_0 k m v).left = (bo84_0 k m v).right := ⟨by kernel_rfl, by kernel_rfl⟩
theorem fr84_0_ok (k : Nat) : FragOK Try.prog lim84 (fr84_0 k) co84_0 :=
 frag_cast (by kernel_rfl) (loop_ok (cfg84_ok k) (planOK_go _) (fun m v => F84_0 k m v.1.1 v.1.2.1 v.1.2.2.1 v.2.1 v.2.2.1) k (fun _ => rfl) (fun _ => rfl) (pp84_0 k))
def pl84_1 (k : Nat) : Plan := (.seq .go (.seq (.sub (.seq .go (.seq .go (.seq .go (.seq (.sub (.frag (fr84_0 k))) .go))))) .go))
theorem pq84_1 (k : Nat) : PlanOK Try.prog lim84 (pl84_1 k) cb84_1 = (PlanOK Try.prog lim84 .go (codeAt (bodyOf Try.f84) [.r, .r, .l, .r, .s, .b, .l]) ∧ ((PlanOK Try.prog lim84 .go (codeAt (bodyOf Try.f84) [.r, .r, .l, .r, .s, .b, .r, .l, .s, .l]) ∧ (PlanOK Try.prog lim84 .go (codeAt (bodyOf Try.f84) [.r, .r, .l, .r, .s, .b, .r, .l, .s, .r, .l]) ∧ (PlanOK Try.prog lim84 .go (codeAt (bodyOf Try.f84) [.r, .r, .l, .r, .s, .b, .r, .l, .s, .r, .r, .l]) ∧ (FragOK Try.prog lim84 (fr84_0 k) co84_0 ∧ PlanOK Try.prog lim84 .go (codeAt (bodyOf Try.f84) [.r, .r, .l, .r, .s, .b, .r, .l, .s, .r, .r, .r, .r]))))) ∧ PlanOK Try.prog lim84 .go (codeAt (bodyOf Try.f84) [.r, .r, .l, .r, .s, .b, .r, .r]))) := by kernel_rfl
noncomputable def bo84_1 (k m : Nat) (v : (fr84_1 k).sh.V) := body Try.prog (stepper Try.prog (cfg84 k) lim84) (pl84_1 k) cb84_1 ((fr84_1 k).sh.st v) (loopK (fr84_1 k) fun v => F84_1 k m v.1.1 v.1.2.1 v.2.1)
theorem pp84_1 (k m : Nat) (v : (fr84_1 k).sh.V) : F84_1 k (m + 1) v.1.1 v.1.2.1 v.2.1 = (bo84_1 k m v).eval ∧ (bo84_1 k m v).left = (bo84_1 k m v).right := ⟨by kernel_rfl, by kernel_rfl⟩
theorem fr84_1_ok (k : Nat) : FragOK Try.prog lim84 (fr84_1 k) co84_1 :=
 frag_cast (by kernel_rfl) (loop_ok (cfg84_ok k) (Eq.mpr (pq84_1 k) ⟨(planOK_go _), ⟨⟨(planOK_go _), ⟨(planOK_go _), ⟨(planOK_go _), ⟨(fr84_0_ok k), (planOK_go _)⟩⟩⟩⟩, (planOK_go _)⟩⟩) (fun m v => F84_1 k m v.1.1 v.1.2.1 v.2.1) k (fun _ => rfl) (fun _ => rfl) (pp84_1 k))
def pl84 (k : Nat) : Plan := (.seq .go (.seq .go (.seq (.seq .go (.sub (.frag (fr84_1 k)))) .go)))
theorem pq84 (k : Nat) : PlanOK Try.prog lim84 (pl84 k) co84 = (PlanOK Try.prog lim84 .go (codeAt (bodyOf Try.f84) [.l]) ∧ (PlanOK Try.prog lim84 .go (codeAt (bodyOf Try.f84) [.r, .l]) ∧ ((PlanOK Try.prog lim84 .go (codeAt (bodyOf Try.f84) [.r, .r, .l, .l]) ∧ FragOK Try.prog lim84 (fr84_1 k) co84_1) ∧ PlanOK Try.prog lim84 .go (codeAt (bodyOf Try.f84) [.r, .r, .r])))) := by kernel_rfl
noncomputable def bo84 (k : Nat) (x : AT (sp84 k).ps) := fnT Try.prog (cfg84 k) lim84 Try.f84 (bodyOf Try.f84) (pl84 k) (sp84 k) x
theorem vv84 (k : Nat) (x : AT (sp84 k).ps) : (sp84 k).impl x = (bo84 k x).eval ∧ (bo84 k x).left = (bo84 k x).right := ⟨by kernel_rfl, by kernel_rfl⟩
theorem v84 (k : Nat) : Callable Try.prog 84 ∧ Valid Try.prog 84 (sp84 k) :=
 fn_of (n := lim84) (fn := Try.f84) (p := (pl84 k)) (cfg84_ok k) (by kernel_rfl) (Eq.mpr (pq84 k) ⟨(planOK_go _), ⟨(planOK_go _), ⟨⟨(planOK_go _), (fr84_1_ok k)⟩, (planOK_go _)⟩⟩⟩) (vv84 k)
def F74_0 (k : Nat) : Nat → Int → TY68 → TY68 → Option ((Unit × TY55))
 | 0, _, _, _ => none
 | n + 1, t5, c1000128, c2000003 =>
  let x2 := (decide (t5 < ((List.length c1000128 : Nat) : Int)))
  bif x2 then
   let x3 := (IntKind.wrap .i64 (((List.length c2000003 : Nat) : Int) - (1 : Int)))
   bif (decide (x3 ≥ (0 : Int))) then
    if 0 ≤ t5 ∧ t5 < ((List.length c1000128 : Nat) : Int) then
     let x4 := (List.getD c1000128 (Int.toNat t5) ((0 : Int), ((0 : Int), ()))).1
     if 0 ≤ x3 ∧ x3 < ((List.length c2000003 : Nat) : Int) then
      let x5 := (List.getD c2000003 (Int.toNat x3) ((0 : Int), ((0 : Int), ()))).2.1
      let x6 := (decide (x4 ≤ (IntKind.wrap .i64 (x5 + (1 : Int)))))
      bif x6 then
       if 0 ≤ x3 ∧ x3 < ((List.length c2000003 : Nat) : Int) then
        let x7 := (List.getD c2000003 (Int.toNat x3) ((0 : Int), ((0 : Int), ()))).2.1
        if 0 ≤ t5 ∧ t5 < ((List.length c1000128 : Nat) : Int) then
         let x8 := (List.getD c1000128 (Int.toNat t5) ((0 : Int), ((0 : Int), ()))).2.1
         if 0 ≤ x3 ∧ x3 < ((List.length c2000003 : Nat) : Int) then
          let x9 := (List.set c2000003 (Int.toNat x3) ((List.getD c2000003 (Int.toNat x3) ((0 : Int), ((0 : Int), ()))).1, ((maxI x7 x8), (List.getD c2000003 (Int.toNat x3) ((0 : Int), ((0 : Int), ()))).2.2)))
          (F74_0 k n (IntKind.wrap .i64 (t5 + (1 : Int))) c1000128 x9).bind some
         else none
        else none
       else none
      else
       if 0 ≤ t5 ∧ t5 < ((List.length c1000128 : Nat) : Int) then
        let x10 := (List.getD c1000128 (Int.toNat t5) ((0 : Int), ((0 : Int), ())))
        let x11 := (List.set (List.replicate 1 ((0 : Int), ((0 : Int), ()))) 0 x10)
        if (List.length c2000003 + List.length x11) * (16 * 2) ≤ 281474976710656 ∧ List.length c2000003 + List.length x11 ≤ 9223372036854775807 then
         (F74_0 k n (IntKind.wrap .i64 (t5 + (1 : Int))) c1000128 (c2000003 ++ x11)).bind some
        else none
       else none
     else none
    else none
   else
    if 0 ≤ t5 ∧ t5 < ((List.length c1000128 : Nat) : Int) then
     let x12 := (List.getD c1000128 (Int.toNat t5) ((0 : Int), ((0 : Int), ())))
     let x13 := (List.set (List.replicate 1 ((0 : Int), ((0 : Int), ()))) 0 x12)
     if (List.length c2000003 + List.length x13) * (16 * 2) ≤ 281474976710656 ∧ List.length c2000003 + List.length x13 ≤ 9223372036854775807 then
      (F74_0 k n (IntKind.wrap .i64 (t5 + (1 : Int))) c1000128 (c2000003 ++ x13)).bind some
     else none
    else none
  else
   some ((), (c2000003, ()))
def fr74_0 (k : Nat) : Frag := ⟨⟨[(3, KD45)], [(3, .at 2000003 []), (4, .at 1000128 []), (5, .val (.int .i64))], [(1000128, none, KD45), (2000003, none, KD45)]⟩, [(.exit 0, ⟨[(3, KD45)], [(3, .at 2000003 [])], [(2000003, none, KD45)]⟩)], fun v => F74_0 k k v.1.1 v.2.1 v.2.2.1⟩
def F74 (k : Nat) (a0 : TY68) : Option TY50 :=
 (F84 k a0).bind fun r1 =>
 (F74_0 k k (0 : Int) r1.1.1 []).bind fun r14 =>
 let y15 := r14.2.1
 some ((y15, ()), ())
def sp74 (k : Nat) : Spec := ⟨[.val KD43], [.own KD45], fun x => F74 k x.1⟩
def lim74 : Lim := ⟨57, 1, false, false, [], []⟩
def cfg74 (k : Nat) : Nat → Option Spec := cfgL [(84, sp84 k)]
noncomputable def co74_0 : Code := codeAt (bodyOf Try.f74) [.r, .r, .r, .l, .r, .s]
noncomputable def cb74_0 : Code := codeAt (bodyOf Try.f74) [.r, .r, .r, .l, .r, .s, .b]
noncomputable def co74 : Code := codeAt (bodyOf Try.f74) []
theorem cfg74_ok (k : Nat) : CfgOK Try.prog (cfg74 k) := cfgL_cons (v84 k) (cfgL_nil)
noncomputable def bo74_0 (k m : Nat) (v : (fr74_0 k).sh.V) := body Try.prog (stepper Try.prog (cfg74 k) lim74) .go cb74_0 ((fr74_0 k).sh.st v) (loopK (fr74_0 k) fun v => F74_0 k m v.1.1 v.2.1 v.2.2.1)
theorem pp74_0 (k m : Nat) (v : (fr74_0 k).sh.V) : F74_0 k (m + 1) v.1.1 v.2.1 v.2.2.1 = (bo74_0 k m v).eval ∧ (bo74_0 k m v).left = (bo74_0 k m v).right := ⟨by kernel_rfl, by kernel_rfl⟩
theorem fr74_0_ok (k : Nat) : FragOK Try.prog lim74 (fr74_0 k) co74_0 :=
 frag_cast (by kernel_rfl) (loop_ok (cfg74_ok k) (planOK_go _) (fun m v => F74_0 k m v.1.1 v.2.1 v.2.2.1) k (fun _ => rfl) (fun _ => rfl) (pp74_0 k))
def pl74 (k : Nat) : Plan := (.seq .go (.seq .go (.seq .go (.seq (.seq .go (.sub (.frag (fr74_0 k)))) .go))))
theorem pq74 (k : Nat) : PlanOK Try.prog lim74 (pl74 k) co74 = (PlanOK Try.prog lim74 .go (codeAt (bodyOf Try.f74) [.l]) ∧ (PlanOK Try.prog lim74 .go (codeAt (bodyOf Try.f74) [.r, .l]) ∧ (PlanOK Try.prog lim74 .go (codeAt (bodyOf Try.f74) [.r, .r, .l]) ∧ ((PlanOK Try.prog lim74 .go (codeAt (bodyOf Try.f74) [.r, .r, .r, .l, .l]) ∧ FragOK Try.prog lim74 (fr74_0 k) co74_0) ∧ PlanOK Try.prog lim74 .go (codeAt (bodyOf Try.f74) [.r, .r, .r, .r]))))) := by kernel_rfl
noncomputable def bo74 (k : Nat) (x : AT (sp74 k).ps) := fnT Try.prog (cfg74 k) lim74 Try.f74 (bodyOf Try.f74) (pl74 k) (sp74 k) x
theorem vv74 (k : Nat) (x : AT (sp74 k).ps) : (sp74 k).impl x = (bo74 k x).eval ∧ (bo74 k x).left = (bo74 k x).right := ⟨by kernel_rfl, by kernel_rfl⟩
theorem v74 (k : Nat) : Callable Try.prog 74 ∧ Valid Try.prog 74 (sp74 k) :=
 fn_of (n := lim74) (fn := Try.f74) (p := (pl74 k)) (cfg74_ok k) (by kernel_rfl) (Eq.mpr (pq74 k) ⟨(planOK_go _), ⟨(planOK_go _), ⟨(planOK_go _), ⟨⟨(planOK_go _), (fr74_0_ok k)⟩, (planOK_go _)⟩⟩⟩⟩) (vv74 k)
def F66_0 (k : Nat) : Nat → ByteArray → Int → TY12 → Option ((Unit × Unit) ⊕ TY72)
 | 0, _, _, _ => none
 | n + 1, t1, t5, c2 =>
  let x4 := (decide (t5 < ((List.length c2.1 : Nat) : Int)))
  bif x4 then
   if 0 ≤ t5 ∧ t5 < ((List.length c2.1 : Nat) : Int) then
    let x5 := (List.getD c2.1 (Int.toNat t5) (ByteArray.empty, ((Tree.mk ((0 : Int), ((0 : Int), ((0 : Int), (ByteArray.empty, ())))) []), ())))
    let x6 := (ByteArray.toList x5.1 == ByteArray.toList t1)
    bif x6 then
     some (.inr ((t5, ()), ()))
    else
     (F66_0 k n t1 (IntKind.wrap .i64 (t5 + (1 : Int))) c2).bind some
   else none
  else
   some (.inl ((), ()))
def fr66_0 (k : Nat) : Frag := ⟨⟨[], [(1, .val .str), (2, .ptr 2 []), (5, .val (.int .i64))], [(2, some 29, KD5)]⟩, [(.exit 0, ⟨[], [], []⟩), (.ret, ⟨[], [(4, .val (.int .i64))], []⟩)], fun v => F66_0 k k v.1.1 v.1.2.1 v.2.1⟩
def F66 (k : Nat) (a0 : TY12) (a1 : ByteArray) : Option TY72 :=
 (F66_0 k k a1 (0 : Int) a0).bind fun r7 =>
 match r7 with
 | .inl r8 =>
  some (((-1 : Int), ()), ())
 | .inr r8 =>
  let y9 := r8.1.1
  some ((y9, ()), ())
def sp66 (k : Nat) : Spec := ⟨[.val KD5, .val .str], [.val (.int .i64)], fun x => F66 k x.1 x.2.1⟩
def lim66 : Lim := ⟨22, 2, false, false, [], []⟩
def cfg66 (k : Nat) : Nat → Option Spec := cfgL []
noncomputable def co66_0 : Code := codeAt (bodyOf Try.f66) [.r, .l, .r, .s]
noncomputable def cb66_0 : Code := codeAt (bodyOf Try.f66) [.r, .l, .r, .s, .b]
noncomputable def co66 : Code := codeAt (bodyOf Try.f66) []
theorem cfg66_ok (k : Nat) : CfgOK Try.prog (cfg66 k) := cfgL_nil
noncomputable def bo66_0 (k m : Nat) (v : (fr66_0 k).sh.V) := body Try.prog (stepper Try.prog (cfg66 k) lim66) .go cb66_0 ((fr66_0 k).sh.st v) (loopK (fr66_0 k) fun v => F66_0 k m v.1.1 v.1.2.1 v.2.1)
theorem pp66_0 (k m : Nat) (v : (fr66_0 k).sh.V) : F66_0 k (m + 1) v.1.1 v.1.2.1 v.2.1 = (bo66_0 k m v).eval ∧ (bo66_0 k m v).left = (bo66_0 k m v).right := ⟨by kernel_rfl, by kernel_rfl⟩
theorem fr66_0_ok (k : Nat) : FragOK Try.prog lim66 (fr66_0 k) co66_0 :=
 frag_cast (by kernel_rfl) (loop_ok (cfg66_ok k) (planOK_go _) (fun m v => F66_0 k m v.1.1 v.1.2.1 v.2.1) k (fun _ => rfl) (fun _ => rfl) (pp66_0 k))
def pl66 (k : Nat) : Plan := (.seq .go (.seq (.seq .go (.sub (.frag (fr66_0 k)))) .go))
theorem pq66 (k : Nat) : PlanOK Try.prog lim66 (pl66 k) co66 = (PlanOK Try.prog lim66 .go (codeAt (bodyOf Try.f66) [.l]) ∧ ((PlanOK Try.prog lim66 .go (codeAt (bodyOf Try.f66) [.r, .l, .l]) ∧ FragOK Try.prog lim66 (fr66_0 k) co66_0) ∧ PlanOK Try.prog lim66 .go (codeAt (bodyOf Try.f66) [.r, .r]))) := by kernel_rfl
noncomputable def bo66 (k : Nat) (x : AT (sp66 k).ps) := fnT Try.prog (cfg66 k) lim66 Try.f66 (bodyOf Try.f66) (pl66 k) (sp66 k) x
theorem vv66 (k : Nat) (x : AT (sp66 k).ps) : (sp66 k).impl x = (bo66 k x).eval ∧ (bo66 k x).left = (bo66 k x).right := ⟨by kernel_rfl, by kernel_rfl⟩
theorem v66 (k : Nat) : Callable Try.prog 66 ∧ Valid Try.prog 66 (sp66 k) :=
 fn_of (n := lim66) (fn := Try.f66) (p := (pl66 k)) (cfg66_ok k) (by kernel_rfl) (Eq.mpr (pq66 k) ⟨(planOK_go _), ⟨⟨(planOK_go _), (fr66_0_ok k)⟩, (planOK_go _)⟩⟩) (vv66 k)
def F75_0 (k : Nat) : Nat → TY68 → Int → Int → TY68 → Option (((Int × Unit) × TY55))
 | 0, _, _, _, _ => none
 | n + 1, t0, t4, t5, c2000003 =>
  let x1 := (decide (t5 < ((List.length t0 : Nat) : Int)))
  bif x1 then
   if 0 ≤ t5 ∧ t5 < ((List.length t0 : Nat) : Int) then
    let x2 := (List.getD t0 (Int.toNat t5) ((0 : Int), ((0 : Int), ())))
    let x3 := (List.set (List.replicate 1 ((0 : Int), ((0 : Int), ()))) 0 (t4, ((IntKind.wrap .i64 (x2.1 - (1 : Int))), ())))
    if (List.length c2000003 + List.length x3) * (16 * 2) ≤ 281474976710656 ∧ List.length c2000003 + List.length x3 ≤ 9223372036854775807 then
     if 0 ≤ t5 ∧ t5 < ((List.length t0 : Nat) : Int) then
      let x4 := (List.getD t0 (Int.toNat t5) ((0 : Int), ((0 : Int), ())))
      (F75_0 k n t0 (IntKind.wrap .i64 (x4.2.1 + (1 : Int))) (IntKind.wrap .i64 (t5 + (1 : Int))) (c2000003 ++ x3)).bind some
     else none
    else none
   else none
  else
   some ((t4, ()), (c2000003, ()))
def fr75_0 (k : Nat) : Frag := ⟨⟨[(3, KD45)], [(0, .val KD43), (3, .at 2000003 []), (4, .val (.int .i64)), (5, .val (.int .i64))], [(2000003, none, KD45)]⟩, [(.exit 0, ⟨[(3, KD45)], [(3, .at 2000003 []), (4, .val (.int .i64))], [(2000003, none, KD45)]⟩)], fun v => F75_0 k k v.1.1 v.1.2.1 v.1.2.2.1 v.2.1⟩
def F75 (k : Nat) (a0 : TY68) : Option TY50 :=
 (F75_0 k k a0 (0 : Int) (0 : Int) []).bind fun r5 =>
 let y6 := r5.1.1
 let y7 := r5.2.1
 let x8 := (List.set (List.replicate 1 ((0 : Int), ((0 : Int), ()))) 0 (y6, ((1114111 : Int), ())))
 if (List.length y7 + List.length x8) * (16 * 2) ≤ 281474976710656 ∧ List.length y7 + List.length x8 ≤ 9223372036854775807 then
  (F74 k (y7 ++ x8)).bind fun r9 =>
  some ((r9.1.1, ()), ())
 else none
def sp75 (k : Nat) : Spec := ⟨[.val KD43], [.own KD45], fun x => F75 k x.1⟩
def lim75 : Lim := ⟨35, 1, false, false, [], []⟩
def cfg75 (k : Nat) : Nat → Option Spec := cfgL [(74, sp74 k)]
noncomputable def co75_0 : Code := codeAt (bodyOf Try.f75) [.r, .r, .r, .l, .r, .s]
noncomputable def cb75_0 : Code := codeAt (bodyOf Try.f75) [.r, .r, .r, .l, .r, .s, .b]
noncomputable def co75 : Code := codeAt (bodyOf Try.f75) []
theorem cfg75_ok (k : Nat) : CfgOK Try.prog (cfg75 k) := cfgL_cons (v74 k) (cfgL_nil)
noncomputable def bo75_0 (k m : Nat) (v : (fr75_0 k).sh.V) := body Try.prog (stepper Try.prog (cfg75 k) lim75) .go cb75_0 ((fr75_0 k).sh.st v) (loopK (fr75_0 k) fun v => F75_0 k m v.1.1 v.1.2.1 v.1.2.2.1 v.2.1)
theorem pp75_0 (k m : Nat) (v : (fr75_0 k).sh.V) : F75_0 k (m + 1) v.1.1 v.1.2.1 v.1.2.2.1 v.2.1 = (bo75_0 k m v).eval ∧ (bo75_0 k m v).left = (bo75_0 k m v).right := ⟨by kernel_rfl, by kernel_rfl⟩
theorem fr75_0_ok (k : Nat) : FragOK Try.prog lim75 (fr75_0 k) co75_0 :=
 frag_cast (by kernel_rfl) (loop_ok (cfg75_ok k) (planOK_go _) (fun m v => F75_0 k m v.1.1 v.1.2.1 v.1.2.2.1 v.2.1) k (fun _ => rfl) (fun _ => rfl) (pp75_0 k))
def pl75 (k : Nat) : Plan := (.seq .go (.seq .go (.seq .go (.seq (.seq .go (.sub (.frag (fr75_0 k)))) .go))))
theorem pq75 (k : Nat) : PlanOK Try.prog lim75 (pl75 k) co75 = (PlanOK Try.prog lim75 .go (codeAt (bodyOf Try.f75) [.l]) ∧ (PlanOK Try.prog lim75 .go (codeAt (bodyOf Try.f75) [.r, .l]) ∧ (PlanOK Try.prog lim75 .go (codeAt (bodyOf Try.f75) [.r, .r, .l]) ∧ ((PlanOK Try.prog lim75 .go (codeAt (bodyOf Try.f75) [.r, .r, .r, .l, .l]) ∧ FragOK Try.prog lim75 (fr75_0 k) co75_0) ∧ PlanOK Try.prog lim75 .go (codeAt (bodyOf Try.f75) [.r, .r, .r, .r]))))) := by kernel_rfl
noncomputable def bo75 (k : Nat) (x : AT (sp75 k).ps) := fnT Try.prog (cfg75 k) lim75 Try.f75 (bodyOf Try.f75) (pl75 k) (sp75 k) x
theorem vv75 (k : Nat) (x : AT (sp75 k).ps) : (sp75 k).impl x = (bo75 k x).eval ∧ (bo75 k x).left = (bo75 k x).right := ⟨by kernel_rfl, by kernel_rfl⟩
theorem v75 (k : Nat) : Callable Try.prog 75 ∧ Valid Try.prog 75 (sp75 k) :=
 fn_of (n := lim75) (fn := Try.f75) (p := (pl75 k)) (cfg75_ok k) (by kernel_rfl) (Eq.mpr (pq75 k) ⟨(planOK_go _), ⟨(planOK_go _), ⟨(planOK_go _), ⟨⟨(planOK_go _), (fr75_0_ok k)⟩, (planOK_go _)⟩⟩⟩⟩) (vv75 k)
def F76 (k : Nat) (a0 : TY68) (a1 : TY68) : Option TY50 :=
 let x1 := (List.replicate 0 ((0 : Int), ((0 : Int), ())))
 if (List.length x1 + List.length a0) * (16 * 2) ≤ 281474976710656 ∧ List.length x1 + List.length a0 ≤ 9223372036854775807 then
  if (List.length (x1 ++ a0) + List.length a1) * (16 * 2) ≤ 281474976710656 ∧ List.length (x1 ++ a0) + List.length a1 ≤ 9223372036854775807 then
   (F74 k ((x1 ++ a0) ++ a1)).bind fun r2 =>
   some ((r2.1.1, ()), ())
  else none
 else none
def sp76 (k : Nat) : Spec := ⟨[.val KD43, .val KD43], [.own KD45], fun x => F76 k x.1 x.2.1⟩
def lim76 : Lim := ⟨11, 2, false, false, [], []⟩
def cfg76 (k : Nat) : Nat → Option Spec := cfgL [(74, sp74 k)]
noncomputable def co76 : Code := codeAt (bodyOf Try.f76) []
theorem cfg76_ok (k : Nat) : CfgOK Try.prog (cfg76 k) := cfgL_cons (v74 k) (cfgL_nil)
noncomputable def bo76 (k : Nat) (x : AT (sp76 k).ps) := fnT Try.prog (cfg76 k) lim76 Try.f76 (bodyOf Try.f76) .go (sp76 k) x
theorem vv76 (k : Nat) (x : AT (sp76 k).ps) : (sp76 k).impl x = (bo76 k x).eval ∧ (bo76 k x).left = (bo76 k x).right := ⟨by kernel_rfl, by kernel_rfl⟩
theorem v76 (k : Nat) : Callable Try.prog 76 ∧ Valid Try.prog 76 (sp76 k) :=
 fn_of (n := lim76) (fn := Try.f76) (p := .go) (cfg76_ok k) (by kernel_rfl) (planOK_go _) (vv76 k)
def F77 (k : Nat) (a0 : TY68) (a1 : TY68) : Option TY50 :=
 (F75 k a0).bind fun r1 =>
 (F75 k a1).bind fun r2 =>
 (F76 k r1.1.1 r2.1.1).bind fun r3 =>
 (F75 k r3.1.1).bind fun r4 =>
 some ((r4.1.1, ()), ())
def sp77 (k : Nat) : Spec := ⟨[.val KD43, .val KD43], [.own KD45], fun x => F77 k x.1 x.2.1⟩
def lim77 : Lim := ⟨11, 2, false, false, [], []⟩
def cfg77 (k : Nat) : Nat → Option Spec := cfgL [(75, sp75 k), (76, sp76 k)]
noncomputable def co77 : Code := codeAt (bodyOf Try.f77) []
theorem cfg77_ok (k : Nat) : CfgOK Try.prog (cfg77 k) := cfgL_cons (v75 k) (cfgL_cons (v76 k) (cfgL_nil))
noncomputable def bo77 (k : Nat) (x : AT (sp77 k).ps) := fnT Try.prog (cfg77 k) lim77 Try.f77 (bodyOf Try.f77) .go (sp77 k) x
theorem vv77 (k : Nat) (x : AT (sp77 k).ps) : (sp77 k).impl x = (bo77 k x).eval ∧ (bo77 k x).left = (bo77 k x).right := ⟨by kernel_rfl, by kernel_rfl⟩
theorem v77 (k : Nat) : Callable Try.prog 77 ∧ Valid Try.prog 77 (sp77 k) :=
 fn_of (n := lim77) (fn := Try.f77) (p := .go) (cfg77_ok k) (by kernel_rfl) (planOK_go _) (vv77 k)
def F78 (k : Nat) (a0 : TY68) (a1 : TY68) : Option TY50 :=
 (F75 k a1).bind fun r1 =>
 (F77 k a0 r1.1.1).bind fun r2 =>
 some ((r2.1.1, ()), ())
def sp78 (k : Nat) : Spec := ⟨[.val KD43, .val KD43], [.own KD45], fun x => F78 k x.1 x.2.1⟩
def lim78 : Lim := ⟨9, 2, false, false, [], []⟩
def cfg78 (k : Nat) : Nat → Option Spec := cfgL [(75, sp75 k), (77, sp77 k)]
noncomputable def co78 : Code := codeAt (bodyOf Try.f78) []
theorem cfg78_ok (k : Nat) : CfgOK Try.prog (cfg78 k) := cfgL_cons (v75 k) (cfgL_cons (v77 k) (cfgL_nil))
noncomputable def bo78 (k : Nat) (x : AT (sp78 k).ps) := fnT Try.prog (cfg78 k) lim78 Try.f78 (bodyOf Try.f78) .go (sp78 k) x
theorem vv78 (k : Nat) (x : AT (sp78 k).ps) : (sp78 k).impl x = (bo78 k x).eval ∧ (bo78 k x).left = (bo78 k x).right := ⟨by kernel_rfl, by kernel_rfl⟩
theorem v78 (k : Nat) : Callable Try.prog 78 ∧ Valid Try.prog 78 (sp78 k) :=
 fn_of (n := lim78) (fn := Try.f78) (p := .go) (cfg78_ok k) (by kernel_rfl) (planOK_go _) (vv78 k)
def rs52 (f52 : (TY49 → TY12 → TY58 → Option TY37)) : Spec := ⟨[.val KD33, .val KD5, .mut KD36], [.val KD43], fun x => f52 x.1 x.2.1 x.2.2.1⟩
def F52_0 (k : Nat) (f52 : (TY49 → TY12 → TY58 → Option TY37)) : Nat → Int → TY58 → TY30 → TY12 → TY58 → Option ((Unit × (TY58 × TY30 × TY12 × TY58 × Unit)))
 | 0, _, _, _, _, _ => none
 | n + 1, t8, c2, c3, c4, c2000007 =>
  let x1 := (decide (t8 < ((List.length c3.2.2.2.2.1 : Nat) : Int)))
  bif x1 then
   if 0 ≤ t8 ∧ t8 < ((List.length c3.2.2.2.2.1 : Nat) : Int) then
    let x2 := (List.getD c3.2.2.2.2.1 (Int.toNat t8) (Tree.mk ((0 : Int), ((0 : Int), ((0 : Int), (ByteArray.empty, ())))) []))
    (f52 x2 c4 c2).bind fun r3 =>
    let x4 := (List.set (List.replicate 1 ([] : TY68)) 0 r3.1.1)
    if (List.length c2000007 + List.length x4) * (24 * 2) ≤ 281474976710656 ∧ List.length c2000007 + List.length x4 ≤ 9223372036854775807 then
     (F52_0 k f52 n (IntKind.wrap .i64 (t8 + (1 : Int))) r3.2.1 c3 c4 (c2000007 ++ x4)).bind some
    else none
   else none
  else
   some ((), (c2, c3, c4, c2000007, ()))
def fr52_0 (k : Nat) (f52 : (TY49 → TY12 → TY58 → Option TY37)) : Frag := ⟨⟨[(7, KD36)], [(2, .at 2 []), (3, .ptr 3 []), (4, .ptr 4 []), (7, .at 2000007 []), (8, .val (.int .i64))], [(2, none, KD36), (3, some 115, KD21), (4, some 29, KD5), (2000007, none, KD36)]⟩, [(.exit 0, ⟨[(7, KD36)], [(2, .at 2 []), (3, .ptr 3 []), (4, .ptr 4 []), (7, .at 2000007 [])], [(2, none, KD36), (3, some 115, KD21), (4, some 29, KD5), (2000007, none, KD36)]⟩)], fun v => F52_0 k f52 k v.1.1 v.2.1 v.2.2.1 v.2.2.2.1 v.2.2.2.2.1⟩
def B52 (k : Nat) (f52 : (TY49 → TY12 → TY58 → Option TY37)) (a0 : TY49) (a1 : TY12) (a2 : TY58) : Option TY37 :=
 (F52_0 k f52 k (0 : Int) a2 ((Tree.a a0).1, ((Tree.a a0).2.1, ((Tree.a a0).2.2.1, ((Tree.a a0).2.2.2.1, ((Tree.l a0), ()))))) a1 []).bind fun r5 =>
 let y6 := r5.2.1
 let y7 := r5.2.2.1
 let y8 := r5.2.2.2.1
 let y9 := r5.2.2.2.2.1
 bif (y7.1 == (1 : Int)) then
  let x10 := (List.set (List.replicate 1 ((0 : Int), ((0 : Int), ()))) 0 (y7.2.1, (y7.2.2.1, ())))
  (F74 k x10).bind fun r11 =>
  some ((r11.1.1, ()), (y6, ()))
 else
  bif (y7.1 == (2 : Int)) then
   (F66 k y8 y7.2.2.2.1).bind fun r12 =>
   if 0 ≤ r12.1.1 ∧ r12.1.1 < ((List.length y6 : Nat) : Int) then
    let x13 := (List.getD y6 (Int.toNat r12.1.1) ([] : TY68))
    some ((x13, ()), (y6, ()))
   else none
  else
   bif (y7.1 == (3 : Int)) then
    (F75 k []).bind fun r14 =>
    some ((r14.1.1, ()), (y6, ()))
   else
    bif (y7.1 == (4 : Int)) then
     if 0 ≤ (0 : Int) ∧ (0 : Int) < ((List.length y9 : Nat) : Int) then
      let x15 := (List.getD y9 (Int.toNat (0 : Int)) ([] : TY68))
      (F75 k x15).bind fun r16 =>
      some ((r16.1.1, ()), (y6, ()))
     else none
    else
     bif (y7.1 == (5 : Int)) then
      if 0 ≤ (0 : Int) ∧ (0 : Int) < ((List.length y9 : Nat) : Int) then
       let x17 := (List.getD y9 (Int.toNat (0 : Int)) ([] : TY68))
       if 0 ≤ (1 : Int) ∧ (1 : Int) < ((List.length y9 : Nat) : Int) then
        let x18 := (List.getD y9 (Int.toNat (1 : Int)) ([] : TY68))
        (F76 k x17 x18).bind fun r19 =>
        some ((r19.1.1, ()), (y6, ()))
       else none
      else none
     else
      bif (y7.1 == (6 : Int)) then
       if 0 ≤ (0 : Int) ∧ (0 : Int) < ((List.length y9 : Nat) : Int) then
        let x20 := (List.getD y9 (Int.toNat (0 : Int)) ([] : TY68))
        if 0 ≤ (1 : Int) ∧ (1 : Int) < ((List.length y9 : Nat) : Int) then
         let x21 := (List.getD y9 (Int.toNat (1 : Int)) ([] : TY68))
         (F77 k x20 x21).bind fun r22 =>
         some ((r22.1.1, ()), (y6, ()))
        else none
       else none
      else
       if 0 ≤ (0 : Int) ∧ (0 : Int) < ((List.length y9 : Nat) : Int) then
        let x23 := (List.getD y9 (Int.toNat (0 : Int)) ([] : TY68))
        if 0 ≤ (1 : Int) ∧ (1 : Int) < ((List.length y9 : Nat) : Int) then
         let x24 := (List.getD y9 (Int.toNat (1 : Int)) ([] : TY68))
         (F78 k x23 x24).bind fun r25 =>
         some ((r25.1.1, ()), (y6, ()))
        else none
       else none
def sb52 (k : Nat) (f52 : (TY49 → TY12 → TY58 → Option TY37)) : Spec := rs52 (B52 k f52)
def lim52 : Lim := ⟨81, 3, false, false, [37, 49, 55, 64, 73, 80], []⟩
def cfg52 (k : Nat) (f52 : (TY49 → TY12 → TY58 → Option TY37)) : Nat → Option Spec := cfgL [(52, rs52 f52), (66, sp66 k), (74, sp74 k), (75, sp75 k), (76, sp76 k), (77, sp77 k), (78, sp78 k)]
noncomputable def co52_0 : Code := codeAt (bodyOf Try.f52) [.r, .r, .l, .r, .s]
noncomputable def cb52_0 : Code := codeAt (bodyOf Try.f52) [.r, .r, .l, .r, .s, .b]
noncomputable def co52 : Code := codeAt (bodyOf Try.f52) []
theorem cfg52_ok (k : Nat) (f52 : (TY49 → TY12 → TY58 → Option TY37)) (h52 : Callable Try.prog 52 ∧ Valid Try.prog 52 (rs52 f52)) : CfgOK Try.prog (cfg52 k f52) := cfgL_cons h52 (cfgL_cons (v66 k) (cfgL_cons (v74 k) (cfgL_cons (v75 k) (cfgL_cons (v76 k) (cfgL_cons (v77 k) (cfgL_cons (v78 k) (cfgL_nil)))))))
noncomputable def bo52_0 (k : Nat) (f52 : (TY49 → TY12 → TY58 → Option TY37)) (m : Nat) (v : (fr52_0 k f52).sh.V) := body Try.prog (stepper Try.prog (cfg52 k f52) lim52) .go cb52_0 ((fr52_0 k f52).sh.st v) (loopK (fr52_0 k f52) fun v => F52_0 k f52 m v.1.1 v.2.1 v.2.2.1 v.2.2.2.1 v.2.2.2.2.1)
theorem pp52_0 (k : Nat) (f52 : (TY49 → TY12 → TY58 → Option TY37)) (m : Nat) (v : (fr52_0 k f52).sh.V) : F52_0 k f52 (m + 1) v.1.1 v.2.1 v.2.2.1 v.2.2.2.1 v.2.2.2.2.1 = (bo52_0 k f52 m v).eval ∧ (bo52_0 k f52 m v).left = (bo52_0 k f52 m v).right := ⟨by kernel_rfl, by kernel_rfl⟩
theorem fr52_0_ok (k : Nat) (f52 : (TY49 → TY12 → TY58 → Option TY37)) (h52 : Callable Try.prog 52 ∧ Valid Try.prog 52 (rs52 f52)) : FragOK Try.prog lim52 (fr52_0 k f52) co52_0 :=
 frag_cast (by kernel_rfl) (loop_ok (cfg52_ok k f52 h52) (planOK_go _) (fun m v => F52_0 k f52 m v.1.1 v.2.1 v.2.2.1 v.2.2.2.1 v.2.2.2.2.1) k (fun _ => rfl) (fun _ => rfl) (pp52_0 k f52))
def pl52 (k : Nat) (f52 : (TY49 → TY12 → TY58 → Option TY37)) : Plan := (.seq .go (.seq .go (.seq (.seq .go (.sub (.frag (fr52_0 k f52)))) .go)))
theorem pq52 (k : Nat) (f52 : (TY49 → TY12 → TY58 → Option TY37)) : PlanOK Try.prog lim52 (pl52 k f52) co52 = (PlanOK Try.prog lim52 .go (codeAt (bodyOf Try.f52) [.l]) ∧ (PlanOK Try.prog lim52 .go (codeAt (bodyOf Try.f52) [.r, .l]) ∧ ((PlanOK Try.prog lim52 .go (codeAt (bodyOf Try.f52) [.r, .r, .l, .l]) ∧ FragOK Try.prog lim52 (fr52_0 k f52) co52_0) ∧ PlanOK Try.prog lim52 .go (codeAt (bodyOf Try.f52) [.r, .r, .r])))) := by kernel_rfl
noncomputable def bo52 (k : Nat) (f52 : (TY49 → TY12 → TY58 → Option TY37)) (x : AT (sb52 k f52).ps) := fnT Try.prog (cfg52 k f52) lim52 Try.f52 (bodyOf Try.f52) (pl52 k f52) (sb52 k f52) x
theorem vv52 (k : Nat) (f52 : (TY49 → TY12 → TY58 → Option TY37)) (x : AT (sb52 k f52).ps) : (sb52 k f52).impl x = (bo52 k f52 x).eval ∧ (bo52 k f52 x).left = (bo52 k f52 x).right := ⟨by kernel_rfl, by kernel_rfl⟩
theorem b52 (k : Nat) (f52 : (TY49 → TY12 → TY58 → Option TY37)) (h52 : Callable Try.prog 52 ∧ Valid Try.prog 52 (rs52 f52)) : Callable Try.prog 52 ∧ Valid Try.prog 52 (sb52 k f52) :=
 fn_of (n := lim52) (fn := Try.f52) (p := (pl52 k f52)) (cfg52_ok k f52 h52) (by kernel_rfl) (Eq.mpr (pq52 k f52) ⟨(planOK_go _), ⟨(planOK_go _), ⟨⟨(planOK_go _), (fr52_0_ok k f52 h52)⟩, (planOK_go _)⟩⟩⟩) (vv52 k f52)
def R52 : Nat → (TY49 → TY12 → TY58 → Option TY37)
 | 0 => fun _ _ _ => none
 | k + 1 => B52 k (R52 k)
def F52 (k : Nat) (a0_ : TY49) (a1_ : TY12) (a2_ : TY58) : Option TY37 := (R52 k) a0_ a1_ a2_
def sp52 (k : Nat) : Spec := ⟨[.val KD33, .val KD5, .mut KD36], [.val KD43], fun x => F52 k x.1 x.2.1 x.2.2.1⟩
theorem r52 (k : Nat) : (Callable Try.prog 52 ∧ Valid Try.prog 52 (rs52 (R52 k))) := by
 induction k with
 | zero => exact ⟨⟨Try.f52, by kernel_rfl, by kernel_rfl, by kernel_rfl⟩, fun x r h => by cases (show (none : Option _) = some r from h)⟩
 | succ k ih => exact b52 k (R52 k) ih
theorem v52 (k : Nat) : Callable Try.prog 52 ∧ Valid Try.prog 52 (sp52 k) := (r52 k)
def F29_0 (k : Nat) : Nat → Int → TY12 → TY58 → Option ((Unit × (TY58 × Unit)))
 | 0, _, _, _ => none
 | n + 1, t4, c1, c2000003 =>
  let x1 := (decide (t4 < ((List.length c1.1 : Nat) : Int)))
  bif x1 then
   if 0 ≤ t4 ∧ t4 < ((List.length c1.1 : Nat) : Int) then
    let x2 := (List.getD c1.1 (Int.toNat t4) (ByteArray.empty, ((Tree.mk ((0 : Int), ((0 : Int), ((0 : Int), (ByteArray.empty, ())))) []), ())))
    (F52 k x2.2.1 c1 c2000003).bind fun r3 =>
    let x4 := (List.set (List.replicate 1 ([] : TY68)) 0 r3.1.1)
    if (List.length r3.2.1 + List.length x4) * (24 * 2) ≤ 281474976710656 ∧ List.length r3.2.1 + List.length x4 ≤ 9223372036854775807 then
     (F29_0 k n (IntKind.wrap .i64 (t4 + (1 : Int))) c1 (r3.2.1 ++ x4)).bind some
    else none
   else none
  else
   some ((), (c2000003, ()))
def fr29_0 (k : Nat) : Frag := ⟨⟨[(3, KD36)], [(1, .ptr 1 []), (3, .at 2000003 []), (4, .val (.int .i64))], [(1, some 29, KD5), (2000003, none, KD36)]⟩, [(.exit 0, ⟨[(3, KD36)], [(3, .at 2000003 [])], [(2000003, none, KD36)]⟩)], fun v => F29_0 k k v.1.1 v.2.1 v.2.2.1⟩
def F29 (k : Nat) (a0 : TY12) : Option ((TY58 × Unit) × Unit) :=
 (F29_0 k k (0 : Int) a0 []).bind fun r5 =>
 let y6 := r5.2.1
 some ((y6, ()), ())
def sp29 (k : Nat) : Spec := ⟨[.val KD5], [.own KD36], fun x => F29 k x.1⟩
def lim29 : Lim := ⟨25, 1, false, false, [], []⟩
def cfg29 (k : Nat) : Nat → Option Spec := cfgL [(52, sp52 k)]
noncomputable def co29_0 : Code := codeAt (bodyOf Try.f29) [.r, .r, .l, .r, .s]
noncomputable def cb29_0 : Code := codeAt (bodyOf Try.f29) [.r, .r, .l, .r, .s, .b]
noncomputable def co29 : Code := codeAt (bodyOf Try.f29) []
theorem cfg29_ok (k : Nat) : CfgOK Try.prog (cfg29 k) := cfgL_cons (v52 k) (cfgL_nil)
noncomputable def bo29_0 (k m : Nat) (v : (fr29_0 k).sh.V) := body Try.prog (stepper Try.prog (cfg29 k) lim29) .go cb29_0 ((fr29_0 k).sh.st v) (loopK (fr29_0 k) fun v => F29_0 k m v.1.1 v.2.1 v.2.2.1)
theorem pp29_0 (k m : Nat) (v : (fr29_0 k).sh.V) : F29_0 k (m + 1) v.1.1 v.2.1 v.2.2.1 = (bo29_0 k m v).eval ∧ (bo29_0 k m v).left = (bo29_0 k m v).right := ⟨by kernel_rfl, by kernel_rfl⟩
theorem fr29_0_ok (k : Nat) : FragOK Try.prog lim29 (fr29_0 k) co29_0 :=
 frag_cast (by kernel_rfl) (loop_ok (cfg29_ok k) (planOK_go _) (fun m v => F29_0 k m v.1.1 v.2.1 v.2.2.1) k (fun _ => rfl) (fun _ => rfl) (pp29_0 k))
def pl29 (k : Nat) : Plan := (.seq .go (.seq .go (.seq (.seq .go (.sub (.frag (fr29_0 k)))) .go)))
theorem pq29 (k : Nat) : PlanOK Try.prog lim29 (pl29 k) co29 = (PlanOK Try.prog lim29 .go (codeAt (bodyOf Try.f29) [.l]) ∧ (PlanOK Try.prog lim29 .go (codeAt (bodyOf Try.f29) [.r, .l]) ∧ ((PlanOK Try.prog lim29 .go (codeAt (bodyOf Try.f29) [.r, .r, .l, .l]) ∧ FragOK Try.prog lim29 (fr29_0 k) co29_0) ∧ PlanOK Try.prog lim29 .go (codeAt (bodyOf Try.f29) [.r, .r, .r])))) := by kernel_rfl
noncomputable def bo29 (k : Nat) (x : AT (sp29 k).ps) := fnT Try.prog (cfg29 k) lim29 Try.f29 (bodyOf Try.f29) (pl29 k) (sp29 k) x
theorem vv29 (k : Nat) (x : AT (sp29 k).ps) : (sp29 k).impl x = (bo29 k x).eval ∧ (bo29 k x).left = (bo29 k x).right := ⟨by kernel_rfl, by kernel_rfl⟩
theorem v29 (k : Nat) : Callable Try.prog 29 ∧ Valid Try.prog 29 (sp29 k) :=
 fn_of (n := lim29) (fn := Try.f29) (p := (pl29 k)) (cfg29_ok k) (by kernel_rfl) (Eq.mpr (pq29 k) ⟨(planOK_go _), ⟨(planOK_go _), ⟨⟨(planOK_go _), (fr29_0_ok k)⟩, (planOK_go _)⟩⟩⟩) (vv29 k)
def F53_0 (k : Nat) : Nat → TY58 → Int → Int → Int → Int → (List Int) → (List Int) → Option ((TY42 × ((List Int) × (List Int) × Unit)))
 | 0, _, _, _, _, _, _, _ => none
 | n + 1, t0, t4, t5, t7, t8, c42, c2000003 =>
  bif (decide (t8 > (0 : Int))) then
   if 0 ≤ t7 ∧ t7 < ((List.length c42 : Nat) : Int) then
    if 0 ≤ (IntKind.wrap .i64 (t8 - (1 : Int))) ∧ (IntKind.wrap .i64 (t8 - (1 : Int))) < ((List.length c2000003 : Nat) : Int) then
     let x10 := (Int.toNat (IntKind.wrap .i64 (t8 - (1 : Int))))
     let x11 := (decide ((List.getD c42 (Int.toNat t7) (0 : Int)) < (List.getD c2000003 x10 (0 : Int))))
     bif x11 then
      (F53_0 k n t0 t4 t5 t7 (IntKind.wrap .i64 (t8 - (1 : Int))) c42 c2000003).bind some
     else
      some ((t0, t4, t5, t7, t8, ()), (c42, c2000003, ()))
    else none
   else none
  else
   some ((t0, t4, t5, t7, t8, ()), (c42, c2000003, ()))
def fr53_0 (k : Nat) : Frag := ⟨⟨[(3, KD64)], [(0, .val KD35), (3, .at 2000003 []), (4, .val (.int .i64)), (5, .val (.int .i64)), (6, .at 42 []), (7, .val (.int .i64)), (8, .val (.int .i64))], [(42, none, KD64), (2000003, none, KD64)]⟩, [(.exit 6, ⟨[], [(0, .val KD35), (3, .at 2000003 []), (4, .val (.int .i64)), (5, .val (.int .i64)), (6, .at 42 []), (7, .val (.int .i64)), (8, .val (.int .i64))], [(42, none, KD64), (2000003, none, KD64)]⟩)], fun v => F53_0 k k v.1.1 v.1.2.1 v.1.2.2.1 v.1.2.2.2.1 v.1.2.2.2.2.1 v.2.1 v.2.2.1⟩
def F53_1 (k : Nat) : Nat → TY58 → Int → Int → Int → (List Int) → (List Int) → Option (((TY58 × Int × Int × Unit) × ((List Int) × Unit)))
 | 0, _, _, _, _, _, _ => none
 | n + 1, t0, t4, t5, t7, c42, c2000003 =>
  bif (decide (t7 < (2 : Int))) then
   (F53_0 k k t0 t4 t5 t7 ((List.length c2000003 : Nat) : Int) c42 c2000003).bind fun r12 =>
   let y13 := r12.1.1
   let y14 := r12.1.2.1
   let y15 := r12.1.2.2.1
   let y16 := r12.1.2.2.2.1
   let y17 := r12.1.2.2.2.2.1
   let y18 := r12.2.1
   let y19 := r12.2.2.1
   if 0 ≤ y16 ∧ y16 < ((List.length y18 : Nat) : Int) then
    let x20 := (decide ((List.getD y18 (Int.toNat y16) (0 : Int)) ≤ (1114111 : Int)))
    bif x20 then
     bif (y17 == (0 : Int)) then
      if 0 ≤ (0 : Int) ∧ (0 : Int) ≤ y17 ∧ y17 ≤ ((List.length y19 : Nat) : Int) then
       let x21 := (Int.toNat y17 - Int.toNat (0 : Int))
       if 0 ≤ y16 ∧ y16 < ((List.length y18 : Nat) : Int) then
        if 0 ≤ y17 ∧ y17 ≤ ((List.length y19 : Nat) : Int) ∧ ((List.length y19 : Nat) : Int) ≤ ((List.length y19 : Nat) : Int) then
         let x22 := (Int.toNat ((List.length y19 : Nat) : Int) - Int.toNat y17)
         if (List.length (List.replicate 0 (0 : Int)) + List.length (List.take x21 (List.drop (Int.toNat (0 : Int)) y19))) * (8 * 2) ≤ 281474976710656 ∧ List.length (List.replicate 0 (0 : Int)) + List.length (List.take x21 (List.drop (Int.toNat (0 : Int)) y19)) ≤ 9223372036854775807 then
          let x23 := ((List.replicate 0 (0 : Int)) ++ (List.take x21 (List.drop (Int.toNat (0 : Int)) y19)))
          let x24 := (List.set (List.replicate 1 (0 : Int)) 0 (List.getD y18 (Int.toNat y16) (0 : Int)))
          if (List.length x23 + List.length x24) * (8 * 2) ≤ 281474976710656 ∧ List.length x23 + List.length x24 ≤ 9223372036854775807 then
           if (List.length (x23 ++ x24) + List.length (List.take x22 (List.drop (Int.toNat y17) y19))) * (8 * 2) ≤ 281474976710656 ∧ List.length (x23 ++ x24) + List.length (List.take x22 (List.drop (Int.toNat y17) y19)) ≤ 9223372036854775807 then
            let x25 := ((x23 ++ x24) ++ (List.take x22 (List.drop (Int.toNat y17) y19)))
            (F53_1 k n y13 y14 y15 (IntKind.wrap .i64 (y16 + (1 : Int))) y18 x25).bind some
           else none
          else none
         else none
        else none
       else none
      else none
     else
      if 0 ≤ (IntKind.wrap .i64 (y17 - (1 : Int))) ∧ (IntKind.wrap .i64 (y17 - (1 : Int))) < ((List.length y19 : Nat) : Int) then
       let x26 := (Int.toNat (IntKind.wrap .i64 (y17 - (1 : Int))))
       if 0 ≤ y16 ∧ y16 < ((List.length y18 : Nat) : Int) then
        let x27 := ((List.getD y19 x26 (0 : Int)) != (List.getD y18 (Int.toNat y16) (0 : Int)))
        bif x27 then
         if 0 ≤ (0 : Int) ∧ (0 : Int) ≤ y17 ∧ y17 ≤ ((List.length y19 : Nat) : Int) then
          let x28 := (Int.toNat y17 - Int.toNat (0 : Int))
          if 0 ≤ y16 ∧ y16 < ((List.length y18 : Nat) : Int) then
           if 0 ≤ y17 ∧ y17 ≤ ((List.length y19 : Nat) : Int) ∧ ((List.length y19 : Nat) : Int) ≤ ((List.length y19 : Nat) : Int) then
            let x29 := (Int.toNat ((List.length y19 : Nat) : Int) - Int.toNat y17)
            if (List.length (List.replicate 0 (0 : Int)) + List.length (List.take x28 (List.drop (Int.toNat (0 : Int)) y19))) * (8 * 2) ≤ 281474976710656 ∧ List.length (List.replicate 0 (0 : Int)) + List.length (List.take x28 (List.drop (Int.toNat (0 : Int)) y19)) ≤ 9223372036854775807 then
             let x30 := ((List.replicate 0 (0 : Int)) ++ (List.take x28 (List.drop (Int.toNat (0 : Int)) y19)))
             let x31 := (List.set (List.replicate 1 (0 : Int)) 0 (List.getD y18 (Int.toNat y16) (0 : Int)))
             if (List.length x30 + List.length x31) * (8 * 2) ≤ 281474976710656 ∧ List.length x30 + List.length x31 ≤ 9223372036854775807 then
              if (List.length (x30 ++ x31) + List.length (List.take x29 (List.drop (Int.toNat y17) y19))) * (8 * 2) ≤ 281474976710656 ∧ List.length (x30 ++ x31) + List.length (List.take x29 (List.drop (Int.toNat y17) y19)) ≤ 9223372036854775807 then
               let x32 := ((x30 ++ x31) ++ (List.take x29 (List.drop (Int.toNat y17) y19)))
               (F53_1 k n y13 y14 y15 (IntKind.wrap .i64 (y16 + (1 : Int))) y18 x32).bind some
              else none
             else none
            else none
           else none
          else none
         else none
        else
         (F53_1 k n y13 y14 y15 (IntKind.wrap .i64 (y16 + (1 : Int))) y18 y19).bind some
       else none
      else none
    else
     (F53_1 k n y13 y14 y15 (IntKind.wrap .i64 (y16 + (1 : Int))) y18 y19).bind some
   else none
  else
   some ((t0, t4, t5, ()), (c2000003, ()))
def fr53_1 (k : Nat) : Frag := ⟨⟨[(3, KD64)], [(0, .val KD35), (3, .at 2000003 []), (4, .val (.int .i64)), (5, .val (.int .i64)), (6, .at 42 []), (7, .val (.int .i64))], [(42, none, KD64), (2000003, none, KD64)]⟩, [(.exit 4, ⟨[(3, KD64)], [(0, .val KD35), (3, .at 2000003 []), (4, .val (.int .i64)), (5, .val (.int .i64))], [(2000003, none, KD64)]⟩)], fun v => F53_1 k k v.1.1 v.1.2.1 v.1.2.2.1 v.1.2.2.2.1 v.2.1 v.2.2.1⟩
def F53_2 (k : Nat) : Nat → TY58 → Int → Int → (List Int) → Option (((TY58 × Int × Unit) × ((List Int) × Unit)))
 | 0, _, _, _, _ => none
 | n + 1, t0, t4, t5, c2000003 =>
  if 0 ≤ t4 ∧ t4 < ((List.length t0 : Nat) : Int) then
   let x3 := (List.getD t0 (Int.toNat t4) ([] : TY68))
   let x4 := (decide (t5 < ((List.length x3 : Nat) : Int)))
   bif x4 then
    if 0 ≤ t4 ∧ t4 < ((List.length t0 : Nat) : Int) then
     let x5 := (List.getD t0 (Int.toNat t4) ([] : TY68))
     if 0 ≤ t5 ∧ t5 < ((List.length x5 : Nat) : Int) then
      let x6 := (List.getD x5 (Int.toNat t5) ((0 : Int), ((0 : Int), ())))
      if 0 ≤ t4 ∧ t4 < ((List.length t0 : Nat) : Int) then
       let x7 := (List.getD t0 (Int.toNat t4) ([] : TY68))
       if 0 ≤ t5 ∧ t5 < ((List.length x7 : Nat) : Int) then
        let x8 := (List.getD x7 (Int.toNat t5) ((0 : Int), ((0 : Int), ())))
        let x9 := (List.set (List.set (List.replicate 2 (0 : Int)) 0 x6.1) 1 (IntKind.wrap .i64 (x8.2.1 + (1 : Int))))
        (F53_1 k k t0 t4 t5 (0 : Int) x9 c2000003).bind fun r33 =>
        let y34 := r33.1.1
        let y35 := r33.1.2.1
        let y36 := r33.1.2.2.1
        let y37 := r33.2.1
        (F53_2 k n y34 y35 (IntKind.wrap .i64 (y36 + (1 : Int))) y37).bind some
       else none
      else none
     else none
    else none
   else
    some ((t0, t4, ()), (c2000003, ()))
  else none
def fr53_2 (k : Nat) : Frag := ⟨⟨[(3, KD64)], [(0, .val KD35), (3, .at 2000003 []), (4, .val (.int .i64)), (5, .val (.int .i64))], [(2000003, none, KD64)]⟩, [(.exit 2, ⟨[(3, KD64)], [(0, .val KD35), (3, .at 2000003 []), (4, .val (.int .i64))], [(2000003, none, KD64)]⟩)], fun v => F53_2 k k v.1.1 v.1.2.1 v.1.2.2.1 v.2.1⟩
def F53_3 (k : Nat) : Nat → TY58 → Int → (List Int) → Option TY62
 | 0, _, _, _ => none
 | n + 1, t0, t4, c2000003 =>
  let x2 := (decide (t4 < ((List.length t0 : Nat) : Int)))
  bif x2 then
   (F53_2 k k t0 t4 (0 : Int) c2000003).bind fun r38 =>
   let y39 := r38.1.1
   let y40 := r38.1.2.1
   let y41 := r38.2.1
   (F53_3 k n y39 (IntKind.wrap .i64 (y40 + (1 : Int))) y41).bind some
  else
   some ((), (c2000003, ()))
def fr53_3 (k : Nat) : Frag := ⟨⟨[(3, KD64)], [(0, .val KD35), (3, .at 2000003 []), (4, .val (.int .i64))], [(2000003, none, KD64)]⟩, [(.exit 0, ⟨[(3, KD64)], [(3, .at 2000003 [])], [(2000003, none, KD64)]⟩)], fun v => F53_3 k k v.1.1 v.1.2.1 v.2.1⟩
def F53 (k : Nat) (a0 : TY58) : Option TY66 :=
 let x1 := (List.set (List.replicate 1 (0 : Int)) 0 (0 : Int))
 (F53_3 k k a0 (0 : Int) x1).bind fun r42 =>
 let y43 := r42.2.1
 some ((y43, ()), ())
def sp53 (k : Nat) : Spec := ⟨[.val KD35], [.own KD64], fun x => F53 k x.1⟩
def lim53 : Lim := ⟨102, 1, false, true, [], []⟩
def cfg53 (k : Nat) : Nat → Option Spec := cfgL []
noncomputable def co53_0 : Code := codeAt (bodyOf Try.f53) [.r, .r, .l, .r, .s, .b, .r, .l, .s, .r, .s, .b, .r, .l, .s, .r, .r, .s, .b, .r, .l, .s, .r, .l, .s]
noncomputable def cb53_0 : Code := codeAt (bodyOf Try.f53) [.r, .r, .l, .r, .s, .b, .r, .l, .s, .r, .s, .b, .r, .l, .s, .r, .r, .s, .b, .r, .l, .s, .r, .l, .s, .b]
noncomputable def co53_1 : Code := codeAt (bodyOf Try.f53) [.r, .r, .l, .r, .s, .b, .r, .l, .s, .r, .s, .b, .r, .l, .s, .r, .r, .s]
noncomputable def cb53_1 : Code := codeAt (bodyOf Try.f53) [.r, .r, .l, .r, .s, .b, .r, .l, .s, .r, .s, .b, .r, .l, .s, .r, .r, .s, .b]
noncomputable def co53_2 : Code := codeAt (bodyOf Try.f53) [.r, .r, .l, .r, .s, .b, .r, .l, .s, .r, .s]
noncomputable def cb53_2 : Code := codeAt (bodyOf Try.f53) [.r, .r, .l, .r, .s, .b, .r, .l, .s, .r, .s, .b]
noncomputable def co53_3 : Code := codeAt (bodyOf Try.f53) [.r, .r, .l, .r, .s]
noncomputable def cb53_3 : Code := codeAt (bodyOf Try.f53) [.r, .r, .l, .r, .s, .b]
noncomputable def co53 : Code := codeAt (bodyOf Try.f53) []
theorem cfg53_ok (k : Nat) : CfgOK Try.prog (cfg53 k) := cfgL_nil
noncomputable def bo53_0 (k m : Nat) (v : (fr53_0 k).sh.V) := body Try.prog (stepper Try.prog (cfg53 k) lim53) .go cb53_0 ((fr53_0 k).sh.st v) (loopK (fr53_0 k) fun v => F53_0 k m v.1.1 v.1.2.1 v.1.2.2.1 v.1.2.2.2.1 v.1.2.2.2.2.1 v.2.1 v.2.2.1)
theorem pp53_0 (k m : Nat) (v : (fr53_0 k).sh.V) : F53_0 k (m + 1) v.1.1 v.1.2.1 v.1.2.2.1 v.1.2.2.2.1 v.1.2.2.2.2.1 v.2.1 v.2.2.1 = (bo53_0 k m v).eval ∧ (bo53_0 k m v).left = (bo53_0 k m v).right := ⟨by kernel_rfl, by kernel_rfl⟩
theorem fr53_0_ok (k : Nat) : FragOK Try.prog lim53 (fr53_0 k) co53_0 :=
 frag_cast (by kernel_rfl) (loop_ok (cfg53_ok k) (planOK_go _) (fun m v => F53_0 k m v.1.1 v.1.2.1 v.1.2.2.1 v.1.2.2.2.1 v.1.2.2.2.2.1 v.2.1 v.2.2.1) k (fun _ => rfl) (fun _ => rfl) (pp53_0 k))
def pl53_1 (k : Nat) : Plan := (.seq .go (.seq (.sub (.seq .go (.seq (.sub (.frag (fr53_0 k))) .go))) .go))
theorem pq53_1 (k : Nat) : PlanOK Try.prog lim53 (pl53_1 k) cb53_1 = (PlanOK Try.prog lim53 .go (codeAt (bodyOf Try.f53) [.r, .r, .l, .r, .s, .b, .r, .l, .s, .r, .s, .b, .r, .l, .s, .r, .r, .s, .b, .l]) ∧ ((PlanOK Try.prog lim53 .go (codeAt (bodyOf Try.f53) [.r, .r, .l, .r, .s, .b, .r, .l, .s, .r, .s, .b, .r, .l, .s, .r, .r, .s, .b, .r, .l, .s, .l]) ∧ (FragOK Try.prog lim53 (fr53_0 k) co53_0 ∧ PlanOK Try.prog lim53 .go (codeAt (bodyOf Try.f53) [.r, .r, .l, .r, .s, .b, .r, .l, .s, .r, .s, .b, .r, .l, .s, .r, .r, .s, .b, .r, .l, .s, .r, .r]))) ∧ PlanOK Try.prog lim53 .go (codeAt (bodyOf Try.f53) [.r, .r, .l, .r, .s, .b, .r, .l, .s, .r, .s, .b, .r, .l, .s, .r, .r, .s, .b, .r, .r]))) := by kernel_rfl
noncomputable def bo53_1 (k m : Nat) (v : (fr53_1 k).sh.V) := body Try.prog (stepper Try.prog (cfg53 k) lim53) (pl53_1 k) cb53_1 ((fr53_1 k).sh.st v) (loopK (fr53_1 k) fun v => F53_1 k m v.1.1 v.1.2.1 v.1.2.2.1 v.1.2.2.2.1 v.2.1 v.2.2.1)
theorem pp53_1 (k m : Nat) (v : (fr53_1 k).sh.V) : F53_1 k (m + 1) v.1.1 v.1.2.1 v.1.2.2.1 v.1.2.2.2.1 v.2.1 v.2.2.1 = (bo53_1 k m v).eval ∧ (bo53_1 k m v).left = (bo53_1 k m v).right := ⟨by kernel_rfl, by kernel_rfl⟩
theorem fr53_1_ok (k : Nat) : FragOK Try.prog lim53 (fr53_1 k) co53_1 :=
 frag_cast (by kernel_rfl) (loop_ok (cfg53_ok k) (Eq.mpr (pq53_1 k) ⟨(planOK_go _), ⟨⟨(planOK_go _), ⟨(fr53_0_ok k), (planOK_go _)⟩⟩, (planOK_go _)⟩⟩) (fun m v => F53_1 k m v.1.1 v.1.2.1 v.1.2.2.1 v.1.2.2.2.1 v.2.1 v.2.2.1) k (fun _ => rfl) (fun _ => rfl) (pp53_1 k))
def pl53_2 (k : Nat) : Plan := (.seq .go (.seq (.sub (.seq .go (.seq .go (.sub (.frag (fr53_1 k)))))) .go))
theorem pq53_2 (k : Nat) : PlanOK Try.prog lim53 (pl53_2 k) cb53_2 = (PlanOK Try.prog lim53 .go (codeAt (bodyOf Try.f53) [.r, .r, .l, .r, .s, .b, .r, .l, .s, .r, .s, .b, .l]) ∧ ((PlanOK Try.prog lim53 .go (codeAt (bodyOf Try.f53) [.r, .r, .l, .r, .s, .b, .r, .l, .s, .r, .s, .b, .r, .l, .s, .l]) ∧ (PlanOK Try.prog lim53 .go (codeAt (bodyOf Try.f53) [.r, .r, .l, .r, .s, .b, .r, .l, .s, .r, .s, .b, .r, .l, .s, .r, .l]) ∧ FragOK Try.prog lim53 (fr53_1 k) co53_1)) ∧ PlanOK Try.prog lim53 .go (codeAt (bodyOf Try.f53) [.r, .r, .l, .r, .s, .b, .r, .l, .s, .r, .s, .b, .r, .r]))) := by kernel_rfl
noncomputable def bo53_2 (k m : Nat) (v : (fr53_2 k).sh.V) := body Try.prog (stepper Try.prog (cfg53 k) lim53) (pl53_2 k) cb53_2 ((fr53_2 k).sh.st v) (loopK (fr53_2 k) fun v => F53_2 k m v.1.1 v.1.2.1 v.1.2.2.1 v.2.1)
theorem pp53_2 (k m : Nat) (v : (fr53_2 k).sh.V) : F53_2 k (m + 1) v.1.1 v.1.2.1 v.1.2.2.1 v.2.1 = (bo53_2 k m v).eval ∧ (bo53_2 k m v).left = (bo53_2 k m v).right := ⟨by kernel_rfl, by kernel_rfl⟩
theorem fr53_2_ok (k : Nat) : FragOK Try.prog lim53 (fr53_2 k) co53_2 :=
 frag_cast (by kernel_rfl) (loop_ok (cfg53_ok k) (Eq.mpr (pq53_2 k) ⟨(planOK_go _), ⟨⟨(planOK_go _), ⟨(planOK_go _), (fr53_1_ok k)⟩⟩, (planOK_go _)⟩⟩) (fun m v => F53_2 k m v.1.1 v.1.2.1 v.1.2.2.1 v.2.1) k (fun _ => rfl) (fun _ => rfl) (pp53_2 k))
def pl53_3 (k : Nat) : Plan := (.seq .go (.seq (.sub (.seq .go (.sub (.frag (fr53_2 k))))) .go))
theorem pq53_3 (k : Nat) : PlanOK Try.prog lim53 (pl53_3 k) cb53_3 = (PlanOK Try.prog lim53 .go (codeAt (bodyOf Try.f53) [.r, .r, .l, .r, .s, .b, .l]) ∧ ((PlanOK Try.prog lim53 .go (codeAt (bodyOf Try.f53) [.r, .r, .l, .r, .s, .b, .r, .l, .s, .l]) ∧ FragOK Try.prog lim53 (fr53_2 k) co53_2) ∧ PlanOK Try.prog lim53 .go (codeAt (bodyOf Try.f53) [.r, .r, .l, .r, .s, .b, .r, .r]))) := by kernel_rfl
noncomputable def bo53_3 (k m : Nat) (v : (fr53_3 k).sh.V) := body Try.prog (stepper Try.prog (cfg53 k) lim53) (pl53_3 k) cb53_3 ((fr53_3 k).sh.st v) (loopK (fr53_3 k) fun v => F53_3 k m v.1.1 v.1.2.1 v.2.1)
theorem pp53_3 (k m : Nat) (v : (fr53_3 k).sh.V) : F53_3 k (m + 1) v.1.1 v.1.2.1 v.2.1 = (bo53_3 k m v).eval ∧ (bo53_3 k m v).left = (bo53_3 k m v).right := ⟨by kernel_rfl, by kernel_rfl⟩
theorem fr53_3_ok (k : Nat) : FragOK Try.prog lim53 (fr53_3 k) co53_3 :=
 frag_cast (by kernel_rfl) (loop_ok (cfg53_ok k) (Eq.mpr (pq53_3 k) ⟨(planOK_go _), ⟨⟨(planOK_go _), (fr53_2_ok k)⟩, (planOK_go _)⟩⟩) (fun m v => F53_3 k m v.1.1 v.1.2.1 v.2.1) k (fun _ => rfl) (fun _ => rfl) (pp53_3 k))
def pl53 (k : Nat) : Plan := (.seq .go (.seq .go (.seq (.seq .go (.sub (.frag (fr53_3 k)))) .go)))
theorem pq53 (k : Nat) : PlanOK Try.prog lim53 (pl53 k) co53 = (PlanOK Try.prog lim53 .go (codeAt (bodyOf Try.f53) [.l]) ∧ (PlanOK Try.prog lim53 .go (codeAt (bodyOf Try.f53) [.r, .l]) ∧ ((PlanOK Try.prog lim53 .go (codeAt (bodyOf Try.f53) [.r, .r, .l, .l]) ∧ FragOK Try.prog lim53 (fr53_3 k) co53_3) ∧ PlanOK Try.prog lim53 .go (codeAt (bodyOf Try.f53) [.r, .r, .r])))) := by kernel_rfl
noncomputable def bo53 (k : Nat) (x : AT (sp53 k).ps) := fnT Try.prog (cfg53 k) lim53 Try.f53 (bodyOf Try.f53) (pl53 k) (sp53 k) x
theorem vv53 (k : Nat) (x : AT (sp53 k).ps) : (sp53 k).impl x = (bo53 k x).eval ∧ (bo53 k x).left = (bo53 k x).right := ⟨by kernel_rfl, by kernel_rfl⟩
theorem v53 (k : Nat) : Callable Try.prog 53 ∧ Valid Try.prog 53 (sp53 k) :=
 fn_of (n := lim53) (fn := Try.f53) (p := (pl53 k)) (cfg53_ok k) (by kernel_rfl) (Eq.mpr (pq53 k) ⟨(planOK_go _), ⟨(planOK_go _), ⟨⟨(planOK_go _), (fr53_3_ok k)⟩, (planOK_go _)⟩⟩⟩) (vv53 k)
def F55_0 (k : Nat) : Nat → TY68 → Int → Int → Option ((Unit × Unit) ⊕ TY71)
 | 0, _, _, _ => none
 | n + 1, t0, t1, t5 =>
  let x4 := (decide (t5 < ((List.length t0 : Nat) : Int)))
  bif x4 then
   if 0 ≤ t5 ∧ t5 < ((List.length t0 : Nat) : Int) then
    let x5 := (List.getD t0 (Int.toNat t5) ((0 : Int), ((0 : Int), ())))
    bif (decide (t1 ≥ x5.1)) then
     if 0 ≤ t5 ∧ t5 < ((List.length t0 : Nat) : Int) then
      let x6 := (List.getD t0 (Int.toNat t5) ((0 : Int), ((0 : Int), ())))
      bif (decide (t1 ≤ x6.2.1)) then
       some (.inr ((true, ()), ()))
      else
       (F55_0 k n t0 t1 (IntKind.wrap .i64 (t5 + (1 : Int)))).bind some
     else none
    else
     (F55_0 k n t0 t1 (IntKind.wrap .i64 (t5 + (1 : Int)))).bind some
   else none
  else
   some (.inl ((), ()))
def fr55_0 (k : Nat) : Frag := ⟨⟨[], [(0, .val KD43), (1, .val (.int .i64)), (5, .val (.int .i64))], []⟩, [(.exit 0, ⟨[], [], []⟩), (.ret, ⟨[], [(4, .val .bool)], []⟩)], fun v => F55_0 k k v.1.1 v.1.2.1 v.1.2.2.1⟩
def F55 (k : Nat) (a0 : TY68) (a1 : Int) : Option TY71 :=
 (F55_0 k k a0 a1 (0 : Int)).bind fun r7 =>
 match r7 with
 | .inl r8 =>
  some ((false, ()), ())
 | .inr r8 =>
  let y9 := r8.1.1
  some ((y9, ()), ())
def sp55 (k : Nat) : Spec := ⟨[.val KD43, .val (.int .i64)], [.val .bool], fun x => F55 k x.1 x.2.1⟩
def lim55 : Lim := ⟨28, 2, false, false, [], []⟩
def cfg55 (k : Nat) : Nat → Option Spec := cfgL []
noncomputable def co55_0 : Code := codeAt (bodyOf Try.f55) [.r, .l, .r, .s]
noncomputable def cb55_0 : Code := codeAt (bodyOf Try.f55) [.r, .l, .r, .s, .b]
noncomputable def co55 : Code := codeAt (bodyOf Try.f55) []
theorem cfg55_ok (k : Nat) : CfgOK Try.prog (cfg55 k) := cfgL_nil
noncomputable def bo55_0 (k m : Nat) (v : (fr55_0 k).sh.V) := body Try.prog (stepper Try.prog (cfg55 k) lim55) .go cb55_0 ((fr55_0 k).sh.st v) (loopK (fr55_0 k) fun v => F55_0 k m v.1.1 v.1.2.1 v.1.2.2.1)
theorem pp55_0 (k m : Nat) (v : (fr55_0 k).sh.V) : F55_0 k (m + 1) v.1.1 v.1.2.1 v.1.2.2.1 = (bo55_0 k m v).eval ∧ (bo55_0 k m v).left = (bo55_0 k m v).right := ⟨by kernel_rfl, by kernel_rfl⟩
theorem fr55_0_ok (k : Nat) : FragOK Try.prog lim55 (fr55_0 k) co55_0 :=
 frag_cast (by kernel_rfl) (loop_ok (cfg55_ok k) (planOK_go _) (fun m v => F55_0 k m v.1.1 v.1.2.1 v.1.2.2.1) k (fun _ => rfl) (fun _ => rfl) (pp55_0 k))
def pl55 (k : Nat) : Plan := (.seq .go (.seq (.seq .go (.sub (.frag (fr55_0 k)))) .go))
theorem pq55 (k : Nat) : PlanOK Try.prog lim55 (pl55 k) co55 = (PlanOK Try.prog lim55 .go (codeAt (bodyOf Try.f55) [.l]) ∧ ((PlanOK Try.prog lim55 .go (codeAt (bodyOf Try.f55) [.r, .l, .l]) ∧ FragOK Try.prog lim55 (fr55_0 k) co55_0) ∧ PlanOK Try.prog lim55 .go (codeAt (bodyOf Try.f55) [.r, .r]))) := by kernel_rfl
noncomputable def bo55 (k : Nat) (x : AT (sp55 k).ps) := fnT Try.prog (cfg55 k) lim55 Try.f55 (bodyOf Try.f55) (pl55 k) (sp55 k) x
theorem vv55 (k : Nat) (x : AT (sp55 k).ps) : (sp55 k).impl x = (bo55 k x).eval ∧ (bo55 k x).left = (bo55 k x).right := ⟨by kernel_rfl, by kernel_rfl⟩
theorem v55 (k : Nat) : Callable Try.prog 55 ∧ Valid Try.prog 55 (sp55 k) :=
 fn_of (n := lim55) (fn := Try.f55) (p := (pl55 k)) (cfg55_ok k) (by kernel_rfl) (Eq.mpr (pq55 k) ⟨(planOK_go _), ⟨⟨(planOK_go _), (fr55_0_ok k)⟩, (planOK_go _)⟩⟩) (vv55 k)
def F54_0 (k : Nat) : Nat → TY58 → Int → Int → Int → Option (TY72)
 | 0, _, _, _, _ => none
 | n + 1, t0, t1, t5, t6 =>
  let x5 := (decide (t6 < ((List.length t0 : Nat) : Int)))
  bif x5 then
   if 0 ≤ t6 ∧ t6 < ((List.length t0 : Nat) : Int) then
    let x6 := (List.getD t0 (Int.toNat t6) ([] : TY68))
    (F55 k x6 t1).bind fun r7 =>
    bif r7.1.1 then
     let x8 := (IntKind.wrap .i64 ((IntKind.wrap .i64 ((2 : Int) * t5)) + (1 : Int)))
     (F54_0 k n t0 t1 x8 (IntKind.wrap .i64 (t6 + (1 : Int)))).bind some
    else
     (F54_0 k n t0 t1 (IntKind.wrap .i64 ((2 : Int) * t5)) (IntKind.wrap .i64 (t6 + (1 : Int)))).bind some
   else none
  else
   some ((t5, ()), ())
def fr54_0 (k : Nat) : Frag := ⟨⟨[], [(0, .val KD35), (1, .val (.int .i64)), (5, .val (.int .i64)), (6, .val (.int .i64))], []⟩, [(.exit 0, ⟨[], [(5, .val (.int .i64))], []⟩)], fun v => F54_0 k k v.1.1 v.1.2.1 v.1.2.2.1 v.1.2.2.2.1⟩
def F54 (k : Nat) (a0 : TY58) (a1 : Int) : Option TY72 :=
 (F54_0 k k a0 a1 (0 : Int) (0 : Int)).bind fun r9 =>
 let y10 := r9.1.1
 some ((y10, ()), ())
def sp54 (k : Nat) : Spec := ⟨[.val KD35, .val (.int .i64)], [.val (.int .i64)], fun x => F54 k x.1 x.2.1⟩
def lim54 : Lim := ⟨24, 2, false, false, [], []⟩
def cfg54 (k : Nat) : Nat → Option Spec := cfgL [(55, sp55 k)]
noncomputable def co54_0 : Code := codeAt (bodyOf Try.f54) [.r, .r, .l, .r, .s]
noncomputable def cb54_0 : Code := codeAt (bodyOf Try.f54) [.r, .r, .l, .r, .s, .b]
noncomputable def co54 : Code := codeAt (bodyOf Try.f54) []
theorem cfg54_ok (k : Nat) : CfgOK Try.prog (cfg54 k) := cfgL_cons (v55 k) (cfgL_nil)
noncomputable def bo54_0 (k m : Nat) (v : (fr54_0 k).sh.V) := body Try.prog (stepper Try.prog (cfg54 k) lim54) .go cb54_0 ((fr54_0 k).sh.st v) (loopK (fr54_0 k) fun v => F54_0 k m v.1.1 v.1.2.1 v.1.2.2.1 v.1.2.2.2.1)
theorem pp54_0 (k m : Nat) (v : (fr54_0 k).sh.V) : F54_0 k (m + 1) v.1.1 v.1.2.1 v.1.2.2.1 v.1.2.2.2.1 = (bo54_0 k m v).eval ∧ (bo54_0 k m v).left = (bo54_0 k m v).right := ⟨by kernel_rfl, by kernel_rfl⟩
theorem fr54_0_ok (k : Nat) : FragOK Try.prog lim54 (fr54_0 k) co54_0 :=
 frag_cast (by kernel_rfl) (loop_ok (cfg54_ok k) (planOK_go _) (fun m v => F54_0 k m v.1.1 v.1.2.1 v.1.2.2.1 v.1.2.2.2.1) k (fun _ => rfl) (fun _ => rfl) (pp54_0 k))
def pl54 (k : Nat) : Plan := (.seq .go (.seq .go (.seq (.seq .go (.sub (.frag (fr54_0 k)))) .go)))
theorem pq54 (k : Nat) : PlanOK Try.prog lim54 (pl54 k) co54 = (PlanOK Try.prog lim54 .go (codeAt (bodyOf Try.f54) [.l]) ∧ (PlanOK Try.prog lim54 .go (codeAt (bodyOf Try.f54) [.r, .l]) ∧ ((PlanOK Try.prog lim54 .go (codeAt (bodyOf Try.f54) [.r, .r, .l, .l]) ∧ FragOK Try.prog lim54 (fr54_0 k) co54_0) ∧ PlanOK Try.prog lim54 .go (codeAt (bodyOf Try.f54) [.r, .r, .r])))) := by kernel_rfl
noncomputable def bo54 (k : Nat) (x : AT (sp54 k).ps) := fnT Try.prog (cfg54 k) lim54 Try.f54 (bodyOf Try.f54) (pl54 k) (sp54 k) x
theorem vv54 (k : Nat) (x : AT (sp54 k).ps) : (sp54 k).impl x = (bo54 k x).eval ∧ (bo54 k x).left = (bo54 k x).right := ⟨by kernel_rfl, by kernel_rfl⟩
theorem v54 (k : Nat) : Callable Try.prog 54 ∧ Valid Try.prog 54 (sp54 k) :=
 fn_of (n := lim54) (fn := Try.f54) (p := (pl54 k)) (cfg54_ok k) (by kernel_rfl) (Eq.mpr (pq54 k) ⟨(planOK_go _), ⟨(planOK_go _), ⟨⟨(planOK_go _), (fr54_0_ok k)⟩, (planOK_go _)⟩⟩⟩) (vv54 k)
def F30_0 (k : Nat) : Nat → TY58 → Int → Int → Int → Int → (List Int) → (List Int) → (List Int) → (List Int) → Option ((TY42 × ((List Int) × (List Int) × (List Int) × (List Int) × Unit)))
 | 0, _, _, _, _, _, _, _, _, _ => none
 | n + 1, t0, t8, t9, t10, t11, c1000208, c2000004, c2000005, c2000006 =>
  let x5 := (decide (t11 < ((List.length c2000006 : Nat) : Int)))
  bif x5 then
   if 0 ≤ t11 ∧ t11 < ((List.length c2000006 : Nat) : Int) then
    let x6 := (List.getD c2000006 (Int.toNat t11) (0 : Int))
    bif (x6 != t10) then
     (F30_0 k n t0 t8 t9 t10 (IntKind.wrap .i64 (t11 + (1 : Int))) c1000208 c2000004 c2000005 c2000006).bind some
    else
     some ((t0, t8, t9, t10, t11, ()), (c1000208, c2000004, c2000005, c2000006, ()))
   else none
  else
   some ((t0, t8, t9, t10, t11, ()), (c1000208, c2000004, c2000005, c2000006, ()))
def fr30_0 (k : Nat) : Frag := ⟨⟨[(4, KD64), (5, KD64), (6, KD64)], [(0, .val KD35), (4, .at 2000004 []), (5, .at 2000005 []), (6, .at 2000006 []), (7, .at 1000208 []), (8, .val (.int .i64)), (9, .val (.int .i64)), (10, .val (.int .i64)), (11, .val (.int .i64))], [(1000208, none, KD64), (2000004, none, KD64), (2000005, none, KD64), (2000006, none, KD64)]⟩, [(.exit 2, ⟨[], [(0, .val KD35), (4, .at 2000004 []), (5, .at 2000005 []), (6, .at 2000006 []), (7, .at 1000208 []), (8, .val (.int .i64)), (9, .val (.int .i64)), (10, .val (.int .i64)), (11, .val (.int .i64))], [(1000208, none, KD64), (2000004, none, KD64), (2000005, none, KD64), (2000006, none, KD64)]⟩)], fun v => F30_0 k k v.1.1 v.1.2.1 v.1.2.2.1 v.1.2.2.2.1 v.1.2.2.2.2.1 v.2.1 v.2.2.1 v.2.2.2.1 v.2.2.2.2.1⟩
def F30_1 (k : Nat) : Nat → TY58 → Int → Int → (List Int) → (List Int) → (List Int) → (List Int) → Option ((Unit × ((List Int) × (List Int) × Unit)))
 | 0, _, _, _, _, _, _, _ => none
 | n + 1, t0, t8, t9, c1000208, c2000004, c2000005, c2000006 =>
  let x2 := (decide (t9 < ((List.length c1000208 : Nat) : Int)))
  bif x2 then
   if 0 ≤ t9 ∧ t9 < ((List.length c1000208 : Nat) : Int) then
    let x3 := (List.getD c1000208 (Int.toNat t9) (0 : Int))
    (F54 k t0 x3).bind fun r4 =>
    bif (r4.1.1 == t8) then
     (F30_1 k n t0 t8 (IntKind.wrap .i64 (t9 + (1 : Int))) c1000208 c2000004 c2000005 c2000006).bind some
    else
     (F30_0 k k t0 r4.1.1 t9 r4.1.1 (0 : Int) c1000208 c2000004 c2000005 c2000006).bind fun r7 =>
     let y8 := r7.1.1
     let y9 := r7.1.2.1
     let y10 := r7.1.2.2.1
     let y11 := r7.1.2.2.2.1
     let y12 := r7.1.2.2.2.2.1
     let y13 := r7.2.1
     let y14 := r7.2.2.1
     let y15 := r7.2.2.2.1
     let y16 := r7.2.2.2.2.1
     bif (y12 == ((List.length y16 : Nat) : Int)) then
      let x17 := (List.set (List.replicate 1 (0 : Int)) 0 y11)
      if (List.length y16 + List.length x17) * (8 * 2) ≤ 281474976710656 ∧ List.length y16 + List.length x17 ≤ 9223372036854775807 then
       if 0 ≤ y10 ∧ y10 < ((List.length y13 : Nat) : Int) then
        let x18 := (List.set (List.replicate 1 (0 : Int)) 0 (List.getD y13 (Int.toNat y10) (0 : Int)))
        if (List.length y14 + List.length x18) * (8 * 2) ≤ 281474976710656 ∧ List.length y14 + List.length x18 ≤ 9223372036854775807 then
         let x19 := (List.set (List.replicate 1 (0 : Int)) 0 y12)
         if (List.length y15 + List.length x19) * (8 * 2) ≤ 281474976710656 ∧ List.length y15 + List.length x19 ≤ 9223372036854775807 then
          (F30_1 k n y8 y9 (IntKind.wrap .i64 (y10 + (1 : Int))) y13 (y14 ++ x18) (y15 ++ x19) (y16 ++ x17)).bind some
         else none
        else none
       else none
      else none
     else
      if 0 ≤ y10 ∧ y10 < ((List.length y13 : Nat) : Int) then
       let x20 := (List.set (List.replicate 1 (0 : Int)) 0 (List.getD y13 (Int.toNat y10) (0 : Int)))
       if (List.length y14 + List.length x20) * (8 * 2) ≤ 281474976710656 ∧ List.length y14 + List.length x20 ≤ 9223372036854775807 then
        let x21 := (List.set (List.replicate 1 (0 : Int)) 0 y12)
        if (List.length y15 + List.length x21) * (8 * 2) ≤ 281474976710656 ∧ List.length y15 + List.length x21 ≤ 9223372036854775807 then
         (F30_1 k n y8 y9 (IntKind.wrap .i64 (y10 + (1 : Int))) y13 (y14 ++ x20) (y15 ++ x21) y16).bind some
        else none
       else none
      else none
   else none
  else
   some ((), (c2000004, c2000005, ()))
def fr30_1 (k : Nat) : Frag := ⟨⟨[(4, KD64), (5, KD64), (6, KD64)], [(0, .val KD35), (4, .at 2000004 []), (5, .at 2000005 []), (6, .at 2000006 []), (7, .at 1000208 []), (8, .val (.int .i64)), (9, .val (.int .i64))], [(1000208, none, KD64), (2000004, none, KD64), (2000005, none, KD64), (2000006, none, KD64)]⟩, [(.exit 0, ⟨[(4, KD64), (5, KD64)], [(4, .at 2000004 []), (5, .at 2000005 [])], [(2000004, none, KD64), (2000005, none, KD64)]⟩)], fun v => F30_1 k k v.1.1 v.1.2.1 v.1.2.2.1 v.2.1 v.2.2.1 v.2.2.2.1 v.2.2.2.2.1⟩
def F30 (k : Nat) (a0 : TY58) : Option (((List Int) × (List Int) × Unit) × Unit) :=
 (F53 k a0).bind fun r1 =>
 (F30_1 k k a0 (-1 : Int) (0 : Int) r1.1.1 [] [] []).bind fun r22 =>
 let y23 := r22.2.1
 let y24 := r22.2.2.1
 some ((y23, y24, ()), ())
def sp30 (k : Nat) : Spec := ⟨[.val KD35], [.own KD64, .own KD64], fun x => F30 k x.1⟩
def lim30 : Lim := ⟨65, 1, false, false, [], []⟩
def cfg30 (k : Nat) : Nat → Option Spec := cfgL [(53, sp53 k), (54, sp54 k)]
noncomputable def co30_0 : Code := codeAt (bodyOf Try.f30) [.r, .r, .r, .r, .l, .r, .s, .b, .r, .l, .s, .r, .r, .r, .r, .l, .s]
noncomputable def cb30_0 : Code := codeAt (bodyOf Try.f30) [.r, .r, .r, .r, .l, .r, .s, .b, .r, .l, .s, .r, .r, .r, .r, .l, .s, .b]
noncomputable def co30_1 : Code := codeAt (bodyOf Try.f30) [.r, .r, .r, .r, .l, .r, .s]
noncomputable def cb30_1 : Code := codeAt (bodyOf Try.f30) [.r, .r, .r, .r, .l, .r, .s, .b]
noncomputable def co30 : Code := codeAt (bodyOf Try.f30) []
theorem cfg30_ok (k : Nat) : CfgOK Try.prog (cfg30 k) := cfgL_cons (v53 k) (cfgL_cons (v54 k) (cfgL_nil))
noncomputable def bo30_0 (k m : Nat) (v : (fr30_0 k).sh.V) := body Try.prog (stepper Try.prog (cfg30 k) lim30) .go cb30_0 ((fr30_0 k).sh.st v) (loopK (fr30_0 k) fun v => F30_0 k m v.1.1 v.1.2.1 v.1.2.2.1 v.1.2.2.2.1 v.1.2.2.2.2.1 v.2.1 v.2.2.1 v.2.2.2.1 v.2.2.2.2.1)
theorem pp30_0 (k m : Nat) (v : (fr30_0 k).sh.V) : F30_0 k (m + 1) v.1.1 v.1.2.1 v.1.2.2.1 v.1.2.2.2.1 v.1.2.2.2.2.1 v.2.1 v.2.2.1 v.2.2.2.1 v.2.2.2.2.1 = (bo30_0 k m v).eval ∧ (bo30_0 k m v).left = (bo30_0 k m v).right := ⟨by kernel_rfl, by kernel_rfl⟩
theorem fr30_0_ok (k : Nat) : FragOK Try.prog lim30 (fr30_0 k) co30_0 :=
 frag_cast (by kernel_rfl) (loop_ok (cfg30_ok k) (planOK_go _) (fun m v => F30_0 k m v.1.1 v.1.2.1 v.1.2.2.1 v.1.2.2.2.1 v.1.2.2.2.2.1 v.2.1 v.2.2.1 v.2.2.2.1 v.2.2.2.2.1) k (fun _ => rfl) (fun _ => rfl) (pp30_0 k))
def pl30_1 (k : Nat) : Plan := (.seq .go (.seq (.sub (.seq .go (.seq .go (.seq .go (.seq .go (.seq (.sub (.frag (fr30_0 k))) .go)))))) .go))
theorem pq30_1 (k : Nat) : PlanOK Try.prog lim30 (pl30_1 k) cb30_1 = (PlanOK Try.prog lim30 .go (codeAt (bodyOf Try.f30) [.r, .r, .r, .r, .l, .r, .s, .b, .l]) ∧ ((PlanOK Try.prog lim30 .go (codeAt (bodyOf Try.f30) [.r, .r, .r, .r, .l, .r, .s, .b, .r, .l, .s, .l]) ∧ (PlanOK Try.prog lim30 .go (codeAt (bodyOf Try.f30) [.r, .r, .r, .r, .l, .r, .s, .b, .r, .l, .s, .r, .l]) ∧ (PlanOK Try.prog lim30 .go (codeAt (bodyOf Try.f30) [.r, .r, .r, .r, .l, .r, .s, .b, .r, .l, .s, .r, .r, .l]) ∧ (PlanOK Try.prog lim30 .go (codeAt (bodyOf Try.f30) [.r, .r, .r, .r, .l, .r, .s, .b, .r, .l, .s, .r, .r, .r, .l]) ∧ (FragOK Try.prog lim30 (fr30_0 k) co30_0 ∧ PlanOK Try.prog lim30 .go (codeAt (bodyOf Try.f30) [.r, .r, .r, .r, .l, .r, .s, .b, .r, .l, .s, .r, .r, .r, .r, .r])))))) ∧ PlanOK Try.prog lim30 .go (codeAt (bodyOf Try.f30) [.r, .r, .r, .r, .l, .r, .s, .b, .r, .r]))) := by kernel_rfl
noncomputable def bo30_1 (k m : Nat) (v : (fr30_1 k).sh.V) := body Try.prog (stepper Try.prog (cfg30 k) lim30) (pl30_1 k) cb30_1 ((fr30_1 k).sh.st v) (loopK (fr30_1 k) fun v => F30_1 k m v.1.1 v.1.2.1 v.1.2.2.1 v.2.1 v.2.2.1 v.2.2.2.1 v.2.2.2.2.1)
theorem pp30_1 (k m : Nat) (v : (fr30_1 k).sh.V) : F30_1 k (m + 1) v.1.1 v.1.2.1 v.1.2.2.1 v.2.1 v.2.2.1 v.2.2.2.1 v.2.2.2.2.1 = (bo30_1 k m v).eval ∧ (bo30_1 k m v).left = (bo30_1 k m v).right := ⟨by kernel_rfl, by kernel_rfl⟩
theorem fr30_1_ok (k : Nat) : FragOK Try.prog lim30 (fr30_1 k) co30_1 :=
 frag_cast (by kernel_rfl) (loop_ok (cfg30_ok k) (Eq.mpr (pq30_1 k) ⟨(planOK_go _), ⟨⟨(planOK_go _), ⟨(planOK_go _), ⟨(planOK_go _), ⟨(planOK_go _), ⟨(fr30_0_ok k), (planOK_go _)⟩⟩⟩⟩⟩, (planOK_go _)⟩⟩) (fun m v => F30_1 k m v.1.1 v.1.2.1 v.1.2.2.1 v.2.1 v.2.2.1 v.2.2.2.1 v.2.2.2.2.1) k (fun _ => rfl) (fun _ => rfl) (pp30_1 k))
def pl30 (k : Nat) : Plan := (.seq .go (.seq .go (.seq .go (.seq .go (.seq (.seq .go (.sub (.frag (fr30_1 k)))) .go)))))
theorem pq30 (k : Nat) : PlanOK Try.prog lim30 (pl30 k) co30 = (PlanOK Try.prog lim30 .go (codeAt (bodyOf Try.f30) [.l]) ∧ (PlanOK Try.prog lim30 .go (codeAt (bodyOf Try.f30) [.r, .l]) ∧ (PlanOK Try.prog lim30 .go (codeAt (bodyOf Try.f30) [.r, .r, .l]) ∧ (PlanOK Try.prog lim30 .go (codeAt (bodyOf Try.f30) [.r, .r, .r, .l]) ∧ ((PlanOK Try.prog lim30 .go (codeAt (bodyOf Try.f30) [.r, .r, .r, .r, .l, .l]) ∧ FragOK Try.prog lim30 (fr30_1 k) co30_1) ∧ PlanOK Try.prog lim30 .go (codeAt (bodyOf Try.f30) [.r, .r, .r, .r, .r])))))) := by kernel_rfl
noncomputable def bo30 (k : Nat) (x : AT (sp30 k).ps) := fnT Try.prog (cfg30 k) lim30 Try.f30 (bodyOf Try.f30) (pl30 k) (sp30 k) x
theorem vv30 (k : Nat) (x : AT (sp30 k).ps) : (sp30 k).impl x = (bo30 k x).eval ∧ (bo30 k x).left = (bo30 k x).right := ⟨by kernel_rfl, by kernel_rfl⟩
theorem v30 (k : Nat) : Callable Try.prog 30 ∧ Valid Try.prog 30 (sp30 k) :=
 fn_of (n := lim30) (fn := Try.f30) (p := (pl30 k)) (cfg30_ok k) (by kernel_rfl) (Eq.mpr (pq30 k) ⟨(planOK_go _), ⟨(planOK_go _), ⟨(planOK_go _), ⟨(planOK_go _), ⟨⟨(planOK_go _), (fr30_1_ok k)⟩, (planOK_go _)⟩⟩⟩⟩⟩) (vv30 k)
def F32_0 (k : Nat) : Nat → (List Int) → Int → Int → Option (TY72)
 | 0, _, _, _ => none
 | n + 1, t0, t3, t4 =>
  let x3 := (decide (t4 < ((List.length t0 : Nat) : Int)))
  bif x3 then
   if 0 ≤ t4 ∧ t4 < ((List.length t0 : Nat) : Int) then
    let x4 := (IntKind.wrap .i64 ((List.getD t0 (Int.toNat t4) (0 : Int)) + (1 : Int)))
    (F32_0 k n t0 (maxI t3 x4) (IntKind.wrap .i64 (t4 + (1 : Int)))).bind some
   else none
  else
   some ((t3, ()), ())
def fr32_0 (k : Nat) : Frag := ⟨⟨[], [(0, .val KD61), (3, .val (.int .i64)), (4, .val (.int .i64))], []⟩, [(.exit 0, ⟨[], [(3, .val (.int .i64))], []⟩)], fun v => F32_0 k k v.1.1 v.1.2.1 v.1.2.2.1⟩
def F32 (k : Nat) (a0 : (List Int)) : Option TY72 :=
 (F32_0 k k a0 (0 : Int) (0 : Int)).bind fun r5 =>
 let y6 := r5.1.1
 some ((y6, ()), ())
def sp32 (k : Nat) : Spec := ⟨[.val KD61], [.val (.int .i64)], fun x => F32 k x.1⟩
def lim32 : Lim := ⟨19, 1, false, false, [], []⟩
def cfg32 (k : Nat) : Nat → Option Spec := cfgL []
noncomputable def co32_0 : Code := codeAt (bodyOf Try.f32) [.r, .r, .l, .r, .s]
noncomputable def cb32_0 : Code := codeAt (bodyOf Try.f32) [.r, .r, .l, .r, .s, .b]
noncomputable def co32 : Code := codeAt (bodyOf Try.f32) []
theorem cfg32_ok (k : Nat) : CfgOK Try.prog (cfg32 k) := cfgL_nil
noncomputable def bo32_0 (k m : Nat) (v : (fr32_0 k).sh.V) := body Try.prog (stepper Try.prog (cfg32 k) lim32) .go cb32_0 ((fr32_0 k).sh.st v) (loopK (fr32_0 k) fun v => F32_0 k m v.1.1 v.1.2.1 v.1.2.2.1)
theorem pp32_0 (k m : Nat) (v : (fr32_0 k).sh.V) : F32_0 k (m + 1) v.1.1 v.1.2.1 v.1.2.2.1 = (bo32_0 k m v).eval ∧ (bo32_0 k m v).left = (bo32_0 k m v).right := ⟨by kernel_rfl, by kernel_rfl⟩
theorem fr32_0_ok (k : Nat) : FragOK Try.prog lim32 (fr32_0 k) co32_0 :=
 frag_cast (by kernel_rfl) (loop_ok (cfg32_ok k) (planOK_go _) (fun m v => F32_0 k m v.1.1 v.1.2.1 v.1.2.2.1) k (fun _ => rfl) (fun _ => rfl) (pp32_0 k))
def pl32 (k : Nat) : Plan := (.seq .go (.seq .go (.seq (.seq .go (.sub (.frag (fr32_0 k)))) .go)))
theorem pq32 (k : Nat) : PlanOK Try.prog lim32 (pl32 k) co32 = (PlanOK Try.prog lim32 .go (codeAt (bodyOf Try.f32) [.l]) ∧ (PlanOK Try.prog lim32 .go (codeAt (bodyOf Try.f32) [.r, .l]) ∧ ((PlanOK Try.prog lim32 .go (codeAt (bodyOf Try.f32) [.r, .r, .l, .l]) ∧ FragOK Try.prog lim32 (fr32_0 k) co32_0) ∧ PlanOK Try.prog lim32 .go (codeAt (bodyOf Try.f32) [.r, .r, .r])))) := by kernel_rfl
noncomputable def bo32 (k : Nat) (x : AT (sp32 k).ps) := fnT Try.prog (cfg32 k) lim32 Try.f32 (bodyOf Try.f32) (pl32 k) (sp32 k) x
theorem vv32 (k : Nat) (x : AT (sp32 k).ps) : (sp32 k).impl x = (bo32 k x).eval ∧ (bo32 k x).left = (bo32 k x).right := ⟨by kernel_rfl, by kernel_rfl⟩
theorem v32 (k : Nat) : Callable Try.prog 32 ∧ Valid Try.prog 32 (sp32 k) :=
 fn_of (n := lim32) (fn := Try.f32) (p := (pl32 k)) (cfg32_ok k) (by kernel_rfl) (Eq.mpr (pq32 k) ⟨(planOK_go _), ⟨(planOK_go _), ⟨⟨(planOK_go _), (fr32_0_ok k)⟩, (planOK_go _)⟩⟩⟩) (vv32 k)
def F31_0 (k : Nat) : Nat → TY58 → (List Int) → (List Int) → Int → Int → (List Bool) → (List (List Bool)) → Option (((TY58 × (List Int) × (List Int) × Int × Unit) × ((List Bool) × (List (List Bool)) × Unit)))
 | 0, _, _, _, _, _, _, _ => none
 | n + 1, t0, t1, t2, t8, t10, c19, c2000007 =>
  let x3 := (decide (t10 < ((List.length t1 : Nat) : Int)))
  bif x3 then
   if 0 ≤ t10 ∧ t10 < ((List.length t2 : Nat) : Int) then
    if 0 ≤ t8 ∧ t8 < ((List.length t0 : Nat) : Int) then
     let x4 := (List.getD t0 (Int.toNat t8) ([] : TY68))
     if 0 ≤ t10 ∧ t10 < ((List.length t1 : Nat) : Int) then
      (F55 k x4 (List.getD t1 (Int.toNat t10) (0 : Int))).bind fun r5 =>
      if 0 ≤ (List.getD t2 (Int.toNat t10) (0 : Int)) ∧ (List.getD t2 (Int.toNat t10) (0 : Int)) < ((List.length c19 : Nat) : Int) then
       let x6 := (Int.toNat (List.getD t2 (Int.toNat t10) (0 : Int)))
       (F31_0 k n t0 t1 t2 t8 (IntKind.wrap .i64 (t10 + (1 : Int))) (List.set c19 x6 r5.1.1) c2000007).bind some
      else none
     else none
    else none
   else none
  else
   some ((t0, t1, t2, t8, ()), (c19, c2000007, ()))
def fr31_0 (k : Nat) : Frag := ⟨⟨[(7, KD53)], [(0, .val KD35), (1, .val KD61), (2, .val KD61), (7, .at 2000007 []), (8, .val (.int .i64)), (9, .at 19 []), (10, .val (.int .i64))], [(19, none, KD70), (2000007, none, KD53)]⟩, [(.exit 2, ⟨[], [(0, .val KD35), (1, .val KD61), (2, .val KD61), (7, .at 2000007 []), (8, .val (.int .i64)), (9, .at 19 [])], [(19, none, KD70), (2000007, none, KD53)]⟩)], fun v => F31_0 k k v.1.1 v.1.2.1 v.1.2.2.1 v.1.2.2.2.1 v.1.2.2.2.2.1 v.2.1 v.2.2.1⟩
def F31_1 (k : Nat) : Nat → TY58 → (List Int) → (List Int) → Int → (List (List Bool)) → Option ((Unit × ((List (List Bool)) × Unit)))
 | 0, _, _, _, _, _ => none
 | n + 1, t0, t1, t2, t8, c2000007 =>
  let x1 := (decide (t8 < ((List.length t0 : Nat) : Int)))
  bif x1 then
   (F32 k t2).bind fun r2 =>
   if (0 ≤ r2.1.1 ∧ r2.1.1 < r2.1.1 + 1) ∧ r2.1.1 ≤ 9223372036854775807 ∧ ((1 : Nat) : Int) * r2.1.1 ≤ 281474976710656 then
    (F31_0 k k t0 t1 t2 t8 (0 : Int) (List.replicate (Int.toNat r2.1.1) false) c2000007).bind fun r7 =>
    let y8 := r7.1.1
    let y9 := r7.1.2.1
    let y10 := r7.1.2.2.1
    let y11 := r7.1.2.2.2.1
    let y12 := r7.2.1
    let y13 := r7.2.2.1
    if (List.length y13 + List.length [y12]) * (24 * 2) ≤ 281474976710656 ∧ List.length y13 + List.length [y12] ≤ 9223372036854775807 then
     (F31_1 k n y8 y9 y10 (IntKind.wrap .i64 (y11 + (1 : Int))) (y13 ++ [y12])).bind some
    else none
   else none
  else
   some ((), (c2000007, ()))
def fr31_1 (k : Nat) : Frag := ⟨⟨[(7, KD53)], [(0, .val KD35), (1, .val KD61), (2, .val KD61), (7, .at 2000007 []), (8, .val (.int .i64))], [(2000007, none, KD53)]⟩, [(.exit 0, ⟨[(7, KD53)], [(7, .at 2000007 [])], [(2000007, none, KD53)]⟩)], fun v => F31_1 k k v.1.1 v.1.2.1 v.1.2.2.1 v.1.2.2.2.1 v.2.1⟩
def F31 (k : Nat) (a0 : TY58) (a1 : (List Int)) (a2 : (List Int)) : Option (((List (List Bool)) × Unit) × Unit) :=
 (F31_1 k k a0 a1 a2 (0 : Int) []).bind fun r14 =>
 let y15 := r14.2.1
 some ((y15, ()), ())
def sp31 (k : Nat) : Spec := ⟨[.val KD35, .val KD61, .val KD61], [.own KD53], fun x => F31 k x.1 x.2.1 x.2.2.1⟩
def lim31 : Lim := ⟨46, 3, false, false, [], []⟩
def cfg31 (k : Nat) : Nat → Option Spec := cfgL [(32, sp32 k), (55, sp55 k)]
noncomputable def co31_0 : Code := codeAt (bodyOf Try.f31) [.r, .r, .l, .r, .s, .b, .r, .l, .s, .r, .l, .r, .s]
noncomputable def cb31_0 : Code := codeAt (bodyOf Try.f31) [.r, .r, .l, .r, .s, .b, .r, .l, .s, .r, .l, .r, .s, .b]
noncomputable def co31_1 : Code := codeAt (bodyOf Try.f31) [.r, .r, .l, .r, .s]
noncomputable def cb31_1 : Code := codeAt (bodyOf Try.f31) [.r, .r, .l, .r, .s, .b]
noncomputable def co31 : Code := codeAt (bodyOf Try.f31) []
theorem cfg31_ok (k : Nat) : CfgOK Try.prog (cfg31 k) := cfgL_cons (v32 k) (cfgL_cons (v55 k) (cfgL_nil))
noncomputable def bo31_0 (k m : Nat) (v : (fr31_0 k).sh.V) := body Try.prog (stepper Try.prog (cfg31 k) lim31) .go cb31_0 ((fr31_0 k).sh.st v) (loopK (fr31_0 k) fun v => F31_0 k m v.1.1 v.1.2.1 v.1.2.2.1 v.1.2.2.2.1 v.1.2.2.2.2.1 v.2.1 v.2.2.1)
theorem pp31_0 (k m : Nat) (v : (fr31_0 k).sh.V) : F31_0 k (m + 1) v.1.1 v.1.2.1 v.1.2.2.1 v.1.2.2.2.1 v.1.2.2.2.2.1 v.2.1 v.2.2.1 = (bo31_0 k m v).eval ∧ (bo31_0 k m v).left = (bo31_0 k m v).right := ⟨by kernel_rfl, by kernel_rfl⟩
theorem fr31_0_ok (k : Nat) : FragOK Try.prog lim31 (fr31_0 k) co31_0 :=
 frag_cast (by kernel_rfl) (loop_ok (cfg31_ok k) (planOK_go _) (fun m v => F31_0 k m v.1.1 v.1.2.1 v.1.2.2.1 v.1.2.2.2.1 v.1.2.2.2.2.1 v.2.1 v.2.2.1) k (fun _ => rfl) (fun _ => rfl) (pp31_0 k))
def pl31_1 (k : Nat) : Plan := (.seq .go (.seq (.sub (.seq .go (.seq (.seq .go (.sub (.frag (fr31_0 k)))) .go))) .go))
theorem pq31_1 (k : Nat) : PlanOK Try.prog lim31 (pl31_1 k) cb31_1 = (PlanOK Try.prog lim31 .go (codeAt (bodyOf Try.f31) [.r, .r, .l, .r, .s, .b, .l]) ∧ ((PlanOK Try.prog lim31 .go (codeAt (bodyOf Try.f31) [.r, .r, .l, .r, .s, .b, .r, .l, .s, .l]) ∧ ((PlanOK Try.prog lim31 .go (codeAt (bodyOf Try.f31) [.r, .r, .l, .r, .s, .b, .r, .l, .s, .r, .l, .l]) ∧ FragOK Try.prog lim31 (fr31_0 k) co31_0) ∧ PlanOK Try.prog lim31 .go (codeAt (bodyOf Try.f31) [.r, .r, .l, .r, .s, .b, .r, .l, .s, .r, .r]))) ∧ PlanOK Try.prog lim31 .go (codeAt (bodyOf Try.f31) [.r, .r, .l, .r, .s, .b, .r, .r]))) := by kernel_rfl
noncomputable def bo31_1 (k m : Nat) (v : (fr31_1 k).sh.V) := body Try.prog (stepper Try.prog (cfg31 k) lim31) (pl31_1 k) cb31_1 ((fr31_1 k).sh.st v) (loopK (fr31_1 k) fun v => F31_1 k m v.1.1 v.1.2.1 v.1.2.2.1 v.1.2.2.2.1 v.2.1)
theorem pp31_1 (k m : Nat) (v : (fr31_1 k).sh.V) : F31_1 k (m + 1) v.1.1 v.1.2.1 v.1.2.2.1 v.1.2.2.2.1 v.2.1 = (bo31_1 k m v).eval ∧ (bo31_1 k m v).left = (bo31_1 k m v).right := ⟨by kernel_rfl, by kernel_rfl⟩
theorem fr31_1_ok (k : Nat) : FragOK Try.prog lim31 (fr31_1 k) co31_1 :=
 frag_cast (by kernel_rfl) (loop_ok (cfg31_ok k) (Eq.mpr (pq31_1 k) ⟨(planOK_go _), ⟨⟨(planOK_go _), ⟨⟨(planOK_go _), (fr31_0_ok k)⟩, (planOK_go _)⟩⟩, (planOK_go _)⟩⟩) (fun m v => F31_1 k m v.1.1 v.1.2.1 v.1.2.2.1 v.1.2.2.2.1 v.2.1) k (fun _ => rfl) (fun _ => rfl) (pp31_1 k))
def pl31 (k : Nat) : Plan := (.seq .go (.seq .go (.seq (.seq .go (.sub (.frag (fr31_1 k)))) .go)))
theorem pq31 (k : Nat) : PlanOK Try.prog lim31 (pl31 k) co31 = (PlanOK Try.prog lim31 .go (codeAt (bodyOf Try.f31) [.l]) ∧ (PlanOK Try.prog lim31 .go (codeAt (bodyOf Try.f31) [.r, .l]) ∧ ((PlanOK Try.prog lim31 .go (codeAt (bodyOf Try.f31) [.r, .r, .l, .l]) ∧ FragOK Try.prog lim31 (fr31_1 k) co31_1) ∧ PlanOK Try.prog lim31 .go (codeAt (bodyOf Try.f31) [.r, .r, .r])))) := by kernel_rfl
noncomputable def bo31 (k : Nat) (x : AT (sp31 k).ps) := fnT Try.prog (cfg31 k) lim31 Try.f31 (bodyOf Try.f31) (pl31 k) (sp31 k) x
theorem vv31 (k : Nat) (x : AT (sp31 k).ps) : (sp31 k).impl x = (bo31 k x).eval ∧ (bo31 k x).left = (bo31 k x).right := ⟨by kernel_rfl, by kernel_rfl⟩
theorem v31 (k : Nat) : Callable Try.prog 31 ∧ Valid Try.prog 31 (sp31 k) :=
 fn_of (n := lim31) (fn := Try.f31) (p := (pl31 k)) (cfg31_ok k) (by kernel_rfl) (Eq.mpr (pq31 k) ⟨(planOK_go _), ⟨(planOK_go _), ⟨⟨(planOK_go _), (fr31_1_ok k)⟩, (planOK_go _)⟩⟩⟩) (vv31 k)
def rs56 (f56 : (TY46 → Option TY72)) : Spec := ⟨[.val KD27], [.val (.int .i64)], fun x => f56 x.1⟩
def F56_0 (k : Nat) (f56 : (TY46 → Option TY72)) : Nat → Int → Int → TY25 → Option (((Int × Unit) × (TY25 × Unit)))
 | 0, _, _, _ => none
 | n + 1, t3, t4, c1 =>
  let x5 := (decide (t4 < ((List.length c1.2.2.2.2.2.1 : Nat) : Int)))
  bif x5 then
   if 0 ≤ t4 ∧ t4 < ((List.length c1.2.2.2.2.2.1 : Nat) : Int) then
    let x6 := (List.getD c1.2.2.2.2.2.1 (Int.toNat t4) (Tree.mk ((0 : Int), ((0 : Int), ((0 : Int), ((0 : Int), (ByteArray.empty, ()))))) []))
    (f56 x6).bind fun r7 =>
    let x8 := (minI (IntKind.wrap .i64 (t3 + r7.1.1)) (1000000000 : Int))
    (F56_0 k f56 n x8 (IntKind.wrap .i64 (t4 + (1 : Int))) c1).bind some
   else none
  else
   some ((t3, ()), (c1, ()))
def fr56_0 (k : Nat) (f56 : (TY46 → Option TY72)) : Frag := ⟨⟨[], [(1, .ptr 1 []), (3, .val (.int .i64)), (4, .val (.int .i64))], [(1, some 55, KD19)]⟩, [(.exit 1, ⟨[], [(1, .ptr 1 []), (3, .val (.int .i64))], [(1, some 55, KD19)]⟩)], fun v => F56_0 k f56 k v.1.1 v.1.2.1 v.2.1⟩
def B56 (k : Nat) (f56 : (TY46 → Option TY72)) (a0 : TY46) : Option TY72 :=
 bif ((Tree.a a0).1 == (1 : Int)) then
  some (((0 : Int), ()), ())
 else
  bif ((Tree.a a0).1 == (2 : Int)) then
   some (((1 : Int), ()), ())
  else
   bif ((Tree.a a0).1 == (3 : Int)) then
    some (((1 : Int), ()), ())
   else
    (F56_0 k f56 k (0 : Int) (0 : Int) ((Tree.a a0).1, ((Tree.a a0).2.1, ((Tree.a a0).2.2.1, ((Tree.a a0).2.2.2.1, ((Tree.a a0).2.2.2.2.1, ((Tree.l a0), ()))))))).bind fun r9 =>
    let y10 := r9.1.1
    let y11 := r9.2.1
    bif (y11.1 == (7 : Int)) then
     let x12 := (minI (IntKind.wrap .i64 (y10 * y11.2.2.1)) (1000000000 : Int))
     some ((x12, ()), ())
    else
     some ((y10, ()), ())
def sb56 (k : Nat) (f56 : (TY46 → Option TY72)) : Spec := rs56 (B56 k f56)
def lim56 : Lim := ⟨37, 1, false, false, [], []⟩
def cfg56 (k : Nat) (f56 : (TY46 → Option TY72)) : Nat → Option Spec := cfgL [(56, rs56 f56)]
noncomputable def co56_0 : Code := codeAt (bodyOf Try.f56) [.r, .r, .r, .l, .r, .s]
noncomputable def cb56_0 : Code := codeAt (bodyOf Try.f56) [.r, .r, .r, .l, .r, .s, .b]
noncomputable def co56 : Code := codeAt (bodyOf Try.f56) []
theorem cfg56_ok (k : Nat) (f56 : (TY46 → Option TY72)) (h56 : Callable Try.prog 56 ∧ Valid Try.prog 56 (rs56 f56)) : CfgOK Try.prog (cfg56 k f56) := cfgL_cons h56 (cfgL_nil)
noncomputable def bo56_0 (k : Nat) (f56 : (TY46 → Option TY72)) (m : Nat) (v : (fr56_0 k f56).sh.V) := body Try.prog (stepper Try.prog (cfg56 k f56) lim56) .go cb56_0 ((fr56_0 k f56).sh.st v) (loopK (fr56_0 k f56) fun v => F56_0 k f56 m v.1.1 v.1.2.1 v.2.1)
theorem pp56_0 (k : Nat) (f56 : (TY46 → Option TY72)) (m : Nat) (v : (fr56_0 k f56).sh.V) : F56_0 k f56 (m + 1) v.1.1 v.1.2.1 v.2.1 = (bo56_0 k f56 m v).eval ∧ (bo56_0 k f56 m v).left = (bo56_0 k f56 m v).right := ⟨by kernel_rfl, by kernel_rfl⟩
theorem fr56_0_ok (k : Nat) (f56 : (TY46 → Option TY72)) (h56 : Callable Try.prog 56 ∧ Valid Try.prog 56 (rs56 f56)) : FragOK Try.prog lim56 (fr56_0 k f56) co56_0 :=
 frag_cast (by kernel_rfl) (loop_ok (cfg56_ok k f56 h56) (planOK_go _) (fun m v => F56_0 k f56 m v.1.1 v.1.2.1 v.2.1) k (fun _ => rfl) (fun _ => rfl) (pp56_0 k f56))
def pl56 (k : Nat) (f56 : (TY46 → Option TY72)) : Plan := (.seq .go (.seq .go (.seq .go (.seq (.seq .go (.sub (.frag (fr56_0 k f56)))) .go))))
theorem pq56 (k : Nat) (f56 : (TY46 → Option TY72)) : PlanOK Try.prog lim56 (pl56 k f56) co56 = (PlanOK Try.prog lim56 .go (codeAt (bodyOf Try.f56) [.l]) ∧ (PlanOK Try.prog lim56 .go (codeAt (bodyOf Try.f56) [.r, .l]) ∧ (PlanOK Try.prog lim56 .go (codeAt (bodyOf Try.f56) [.r, .r, .l]) ∧ ((PlanOK Try.prog lim56 .go (codeAt (bodyOf Try.f56) [.r, .r, .r, .l, .l]) ∧ FragOK Try.prog lim56 (fr56_0 k f56) co56_0) ∧ PlanOK Try.prog lim56 .go (codeAt (bodyOf Try.f56) [.r, .r, .r, .r]))))) := by kernel_rfl
noncomputable def bo56 (k : Nat) (f56 : (TY46 → Option TY72)) (x : AT (sb56 k f56).ps) := fnT Try.prog (cfg56 k f56) lim56 Try.f56 (bodyOf Try.f56) (pl56 k f56) (sb56 k f56) x
theorem vv56 (k : Nat) (f56 : (TY46 → Option TY72)) (x : AT (sb56 k f56).ps) : (sb56 k f56).impl x = (bo56 k f56 x).eval ∧ (bo56 k f56 x).left = (bo56 k f56 x).right := ⟨by kernel_rfl, by kernel_rfl⟩
theorem b56 (k : Nat) (f56 : (TY46 → Option TY72)) (h56 : Callable Try.prog 56 ∧ Valid Try.prog 56 (rs56 f56)) : Callable Try.prog 56 ∧ Valid Try.prog 56 (sb56 k f56) :=
 fn_of (n := lim56) (fn := Try.f56) (p := (pl56 k f56)) (cfg56_ok k f56 h56) (by kernel_rfl) (Eq.mpr (pq56 k f56) ⟨(planOK_go _), ⟨(planOK_go _), ⟨(planOK_go _), ⟨⟨(planOK_go _), (fr56_0_ok k f56 h56)⟩, (planOK_go _)⟩⟩⟩⟩) (vv56 k f56)
def R56 : Nat → (TY46 → Option TY72)
 | 0 => fun _ => none
 | k + 1 => B56 k (R56 k)
def F56 (k : Nat) (a0_ : TY46) : Option TY72 := (R56 k) a0_
def sp56 (k : Nat) : Spec := ⟨[.val KD27], [.val (.int .i64)], fun x => F56 k x.1⟩
theorem r56 (k : Nat) : (Callable Try.prog 56 ∧ Valid Try.prog 56 (rs56 (R56 k))) := by
 induction k with
 | zero => exact ⟨⟨Try.f56, by kernel_rfl, by kernel_rfl, by kernel_rfl⟩, fun x r h => by cases (show (none : Option _) = some r from h)⟩
 | succ k ih => exact b56 k (R56 k) ih
theorem v56 (k : Nat) : Callable Try.prog 56 ∧ Valid Try.prog 56 (sp56 k) := (r56 k)
def F80_0 (k : Nat) : Nat → Int → Int → TY32 → TY32 → Option TY16
 | 0, _, _, _, _ => none
 | n + 1, t0, t4, c2, c3 =>
  bif (decide (t4 < t0)) then
   let x4 := (List.set (List.replicate 1 (0 : Int)) 0 (0 : Int))
   if (List.length c3.1 + List.length x4) * (8 * 2) ≤ 281474976710656 ∧ List.length c3.1 + List.length x4 ≤ 9223372036854775807 then
    let x5 := (List.set (List.replicate 1 (0 : Int)) 0 (1152921504606846976 : Int))
    if (List.length c3.2.1 + List.length x5) * (8 * 2) ≤ 281474976710656 ∧ List.length c3.2.1 + List.length x5 ≤ 9223372036854775807 then
     let x6 := (List.set (List.replicate 1 (0 : Int)) 0 (1152921504606846976 : Int))
     if (List.length c3.2.2.1 + List.length x6) * (8 * 2) ≤ 281474976710656 ∧ List.length c3.2.2.1 + List.length x6 ≤ 9223372036854775807 then
      (F80_0 k n t0 (IntKind.wrap .i64 (t4 + (1 : Int))) c2 ((c3.1 ++ x4), ((c3.2.1 ++ x5), ((c3.2.2.1 ++ x6), c3.2.2.2)))).bind some
     else none
    else none
   else none
  else
   some ((), (c2, c3, ()))
def fr80_0 (k : Nat) : Frag := ⟨⟨[], [(0, .val (.int .i64)), (2, .ptr 2 []), (3, .ptr 3 []), (4, .val (.int .i64))], [(2, some 65, KD15), (3, some 65, KD15)]⟩, [(.exit 0, ⟨[], [(2, .ptr 2 []), (3, .ptr 3 [])], [(2, some 65, KD15), (3, some 65, KD15)]⟩)], fun v => F80_0 k k v.1.1 v.1.2.1 v.2.1 v.2.2.1⟩
def F80 (k : Nat) (a0 : Int) : Option TY26 :=
 (F80_0 k k a0 (0 : Int) (([] : (List Int)), (([] : (List Int)), (([] : (List Int)), (([] : TY56), ((0 : Int), ()))))) (([] : (List Int)), (([] : (List Int)), (([] : (List Int)), (([] : TY56), ((1152921504606846976 : Int), ())))))).bind fun r7 =>
 let y9 := r7.2.2.1
 some ((y9, ()), ())
def sp80 (k : Nat) : Spec := ⟨[.val (.int .i64)], [.own KD15], fun x => F80 k x.1⟩
def lim80 : Lim := ⟨27, 1, false, false, [], []⟩
def cfg80 (k : Nat) : Nat → Option Spec := cfgL []
noncomputable def co80_0 : Code := codeAt (bodyOf Try.f80) [.r, .r, .l, .r, .s]
noncomputable def cb80_0 : Code := codeAt (bodyOf Try.f80) [.r, .r, .l, .r, .s, .b]
noncomputable def co80 : Code := codeAt (bodyOf Try.f80) []
theorem cfg80_ok (k : Nat) : CfgOK Try.prog (cfg80 k) := cfgL_nil
noncomputable def bo80_0 (k m : Nat) (v : (fr80_0 k).sh.V) := body Try.prog (stepper Try.prog (cfg80 k) lim80) .go cb80_0 ((fr80_0 k).sh.st v) (loopK (fr80_0 k) fun v => F80_0 k m v.1.1 v.1.2.1 v.2.1 v.2.2.1)
theorem pp80_0 (k m : Nat) (v : (fr80_0 k).sh.V) : F80_0 k (m + 1) v.1.1 v.1.2.1 v.2.1 v.2.2.1 = (bo80_0 k m v).eval ∧ (bo80_0 k m v).left = (bo80_0 k m v).right := ⟨by kernel_rfl, by kernel_rfl⟩
theorem fr80_0_ok (k : Nat) : FragOK Try.prog lim80 (fr80_0 k) co80_0 :=
 frag_cast (by kernel_rfl) (loop_ok (cfg80_ok k) (planOK_go _) (fun m v => F80_0 k m v.1.1 v.1.2.1 v.2.1 v.2.2.1) k (fun _ => rfl) (fun _ => rfl) (pp80_0 k))
def pl80 (k : Nat) : Plan := (.seq .go (.seq .go (.seq (.seq .go (.sub (.frag (fr80_0 k)))) .go)))
theorem pq80 (k : Nat) : PlanOK Try.prog lim80 (pl80 k) co80 = (PlanOK Try.prog lim80 .go (codeAt (bodyOf Try.f80) [.l]) ∧ (PlanOK Try.prog lim80 .go (codeAt (bodyOf Try.f80) [.r, .l]) ∧ ((PlanOK Try.prog lim80 .go (codeAt (bodyOf Try.f80) [.r, .r, .l, .l]) ∧ FragOK Try.prog lim80 (fr80_0 k) co80_0) ∧ PlanOK Try.prog lim80 .go (codeAt (bodyOf Try.f80) [.r, .r, .r])))) := by kernel_rfl
noncomputable def bo80 (k : Nat) (x : AT (sp80 k).ps) := fnT Try.prog (cfg80 k) lim80 Try.f80 (bodyOf Try.f80) (pl80 k) (sp80 k) x
theorem vv80 (k : Nat) (x : AT (sp80 k).ps) : (sp80 k).impl x = (bo80 k x).eval ∧ (bo80 k x).left = (bo80 k x).right := ⟨by kernel_rfl, by kernel_rfl⟩
theorem v80 (k : Nat) : Callable Try.prog 80 ∧ Valid Try.prog 80 (sp80 k) :=
 fn_of (n := lim80) (fn := Try.f80) (p := (pl80 k)) (cfg80_ok k) (by kernel_rfl) (Eq.mpr (pq80 k) ⟨(planOK_go _), ⟨(planOK_go _), ⟨⟨(planOK_go _), (fr80_0_ok k)⟩, (planOK_go _)⟩⟩⟩) (vv80 k)
def F79 (k : Nat) : Option TY26 :=
 (F80 k (0 : Int)).bind fun r1 =>
 some (((r1.1.1.1, (r1.1.1.2.1, (r1.1.1.2.2.1, (r1.1.1.2.2.2.1, ((0 : Int), r1.1.1.2.2.2.2.2))))), ()), ())
def sp79 (k : Nat) : Spec := ⟨[], [.own KD15], fun x => F79 k⟩
def lim79 : Lim := ⟨5, 0, false, false, [], []⟩
def cfg79 (k : Nat) : Nat → Option Spec := cfgL [(80, sp80 k)]
noncomputable def co79 : Code := codeAt (bodyOf Try.f79) []
theorem cfg79_ok (k : Nat) : CfgOK Try.prog (cfg79 k) := cfgL_cons (v80 k) (cfgL_nil)
noncomputable def bo79 (k : Nat) (x : AT (sp79 k).ps) := fnT Try.prog (cfg79 k) lim79 Try.f79 (bodyOf Try.f79) .go (sp79 k) x
theorem vv79 (k : Nat) (x : AT (sp79 k).ps) : (sp79 k).impl x = (bo79 k x).eval ∧ (bo79 k x).left = (bo79 k x).right := ⟨by kernel_rfl, by kernel_rfl⟩
theorem v79 (k : Nat) : Callable Try.prog 79 ∧ Valid Try.prog 79 (sp79 k) :=
 fn_of (n := lim79) (fn := Try.f79) (p := .go) (cfg79_ok k) (by kernel_rfl) (planOK_go _) (vv79 k)
def F85_0 (k : Nat) : Nat → Int → Int → TY32 → TY32 → TY32 → TY32 → Option TY8
 | 0, _, _, _, _, _, _ => none
 | n + 1, t5, t7, c2, c3, c4, c6 =>
  bif (decide (t7 < t5)) then
   if 0 ≤ t7 ∧ t7 < ((List.length c2.1 : Nat) : Int) then
    if 0 ≤ t7 ∧ t7 < ((List.length c6.1 : Nat) : Int) then
     let x4 := (List.set c6.1 (Int.toNat t7) (List.getD c2.1 (Int.toNat t7) (0 : Int)))
     (F85_0 k n t5 (IntKind.wrap .i64 (t7 + (1 : Int))) c2 c3 c4 (x4, c6.2)).bind some
    else none
   else none
  else
   some ((t5, ()), (c2, c3, c4, c6, ()))
def fr85_0 (k : Nat) : Frag := ⟨⟨[], [(2, .ptr 2 []), (3, .ptr 3 []), (4, .ptr 4 []), (5, .val (.int .i64)), (6, .ptr 6 []), (7, .val (.int .i64))], [(2, some 65, KD14), (3, some 65, KD14), (4, some 65, KD15), (6, some 65, KD15)]⟩, [(.exit 0, ⟨[], [(2, .ptr 2 []), (3, .ptr 3 []), (4, .ptr 4 []), (5, .val (.int .i64)), (6, .ptr 6 [])], [(2, some 65, KD14), (3, some 65, KD14), (4, some 65, KD15), (6, some 65, KD15)]⟩)], fun v => F85_0 k k v.1.1 v.1.2.1 v.2.1 v.2.2.1 v.2.2.2.1 v.2.2.2.2.1⟩
def F85_1 (k : Nat) : Nat → Int → Int → TY32 → TY32 → TY32 → TY32 → Option TY8
 | 0, _, _, _, _, _, _ => none
 | n + 1, t5, t8, c2, c3, c4, c6 =>
  let x14 := (decide (t8 < ((List.length c3.1 : Nat) : Int)))
  bif x14 then
   if 0 ≤ t8 ∧ t8 < ((List.length c3.1 : Nat) : Int) then
    if 0 ≤ (IntKind.wrap .i64 (t5 + t8)) ∧ (IntKind.wrap .i64 (t5 + t8)) < ((List.length c6.1 : Nat) : Int) then
     let x15 := (Int.toNat (IntKind.wrap .i64 (t5 + t8)))
     let x16 := (List.set c6.1 x15 (List.getD c3.1 (Int.toNat t8) (0 : Int)))
     (F85_1 k n t5 (IntKind.wrap .i64 (t8 + (1 : Int))) c2 c3 c4 (x16, c6.2)).bind some
    else none
   else none
  else
   some ((t5, ()), (c2, c3, c4, c6, ()))
def fr85_1 (k : Nat) : Frag := ⟨⟨[], [(2, .ptr 2 []), (3, .ptr 3 []), (4, .ptr 4 []), (5, .val (.int .i64)), (6, .ptr 6 []), (8, .val (.int .i64))], [(2, some 65, KD14), (3, some 65, KD14), (4, some 65, KD15), (6, some 65, KD15)]⟩, [(.exit 2, ⟨[], [(2, .ptr 2 []), (3, .ptr 3 []), (4, .ptr 4 []), (5, .val (.int .i64)), (6, .ptr 6 [])], [(2, some 65, KD14), (3, some 65, KD14), (4, some 65, KD15), (6, some 65, KD15)]⟩)], fun v => F85_1 k k v.1.1 v.1.2.1 v.2.1 v.2.2.1 v.2.2.2.1 v.2.2.2.2.1⟩
def F85_2 (k : Nat) : Nat → Int → Int → TY32 → TY32 → TY32 → Option TY16
 | 0, _, _, _, _, _ => none
 | n + 1, t5, t9, c3, c4, c6 =>
  let x28 := (decide (t9 < ((List.length c3.2.2.2.1 : Nat) : Int)))
  bif x28 then
   if 0 ≤ t9 ∧ t9 < ((List.length c3.2.2.2.1 : Nat) : Int) then
    let x29 := (List.getD c3.2.2.2.1 (Int.toNat t9) ((0 : Int), ((0 : Int), ((0 : Int), ()))))
    if 0 ≤ t9 ∧ t9 < ((List.length c3.2.2.2.1 : Nat) : Int) then
     let x30 := (List.getD c3.2.2.2.1 (Int.toNat t9) ((0 : Int), ((0 : Int), ((0 : Int), ()))))
     if 0 ≤ t9 ∧ t9 < ((List.length c3.2.2.2.1 : Nat) : Int) then
      let x31 := (List.getD c3.2.2.2.1 (Int.toNat t9) ((0 : Int), ((0 : Int), ((0 : Int), ()))))
      let x32 := (List.set (List.replicate 1 ((0 : Int), ((0 : Int), ((0 : Int), ())))) 0 ((IntKind.wrap .i64 (x29.1 + t5)), ((IntKind.wrap .i64 (x30.2.1 + t5)), (x31.2.2.1, ()))))
      if (List.length c6.2.2.2.1 + List.length x32) * (24 * 2) ≤ 281474976710656 ∧ List.length c6.2.2.2.1 + List.length x32 ≤ 9223372036854775807 then
       (F85_2 k n t5 (IntKind.wrap .i64 (t9 + (1 : Int))) c3 c4 (c6.1, (c6.2.1, (c6.2.2.1, ((c6.2.2.2.1 ++ x32), c6.2.2.2.2))))).bind some
      else none
     else none
    else none
   else none
  else
   some ((), (c4, c6, ()))
def fr85_2 (k : Nat) : Frag := ⟨⟨[], [(3, .ptr 3 []), (4, .ptr 4 []), (5, .val (.int .i64)), (6, .ptr 6 []), (9, .val (.int .i64))], [(3, some 65, KD14), (4, some 65, KD15), (6, some 65, KD15)]⟩, [(.exit 4, ⟨[], [(4, .ptr 4 []), (6, .ptr 6 [])], [(4, some 65, KD15), (6, some 65, KD15)]⟩)], fun v => F85_2 k k v.1.1 v.1.2.1 v.2.1 v.2.2.1 v.2.2.2.1⟩
def F85 (k : Nat) (a0 : TY32) (a1 : TY32) : Option TY26 :=
 let x1 := (IntKind.wrap .i64 (((List.length a0.1 : Nat) : Int) + ((List.length a1.1 : Nat) : Int)))
 (F80 k x1).bind fun r2 =>
 (F85_0 k k ((List.length a0.1 : Nat) : Int) (0 : Int) a0 a1 (([] : (List Int)), (([] : (List Int)), (([] : (List Int)), (([] : TY56), ((0 : Int), ()))))) r2.1.1).bind fun r5 =>
 let y6 := r5.1.1
 let y7 := r5.2.1
 let y8 := r5.2.2.1
 let y9 := r5.2.2.2.1
 let y10 := r5.2.2.2.2.1
 (F85_1 k k y6 (0 : Int) y7 y8 y9 y10).bind fun r17 =>
 let y18 := r17.1.1
 let y19 := r17.2.1
 let y20 := r17.2.2.1
 let y21 := r17.2.2.2.1
 let y22 := r17.2.2.2.2.1
 if (List.length y22.2.2.2.1 + List.length y19.2.2.2.1) * (24 * 2) ≤ 281474976710656 ∧ List.length y22.2.2.2.1 + List.length y19.2.2.2.1 ≤ 9223372036854775807 then
  (F85_2 k k y18 (0 : Int) y20 y21 (y22.1, (y22.2.1, (y22.2.2.1, ((y22.2.2.2.1 ++ y19.2.2.2.1), y22.2.2.2.2))))).bind fun r33 =>
  let y35 := r33.2.2.1
  some ((y35, ()), ())
 else none
def sp85 (k : Nat) : Spec := ⟨[.val KD14, .val KD14], [.own KD15], fun x => F85 k x.1 x.2.1⟩
def lim85 : Lim := ⟨93, 2, false, false, [], []⟩
def cfg85 (k : Nat) : Nat → Option Spec := cfgL [(80, sp80 k)]
noncomputable def co85_0 : Code := codeAt (bodyOf Try.f85) [.r, .r, .r, .l, .r, .s]
noncomputable def cb85_0 : Code := codeAt (bodyOf Try.f85) [.r, .r, .r, .l, .r, .s, .b]
noncomputable def co85_1 : Code := codeAt (bodyOf Try.f85) [.r, .r, .r, .r, .l, .r, .s]
noncomputable def cb85_1 : Code := codeAt (bodyOf Try.f85) [.r, .r, .r, .r, .l, .r, .s, .b]
noncomputable def co85_2 : Code := codeAt (bodyOf Try.f85) [.r, .r, .r, .r, .r, .r, .l, .r, .s]
noncomputable def cb85_2 : Code := codeAt (bodyOf Try.f85) [.r, .r, .r, .r, .r, .r, .l, .r, .s, .b]
noncomputable def co85 : Code := codeAt (bodyOf Try.f85) []
theorem cfg85_ok (k : Nat) : CfgOK Try.prog (cfg85 k) := cfgL_cons (v80 k) (cfgL_nil)
noncomputable def bo85_0 (k m : Nat) (v : (fr85_0 k).sh.V) := body Try.prog (stepper Try.prog (cfg85 k) lim85) .go cb85_0 ((fr85_0 k).sh.st v) (loopK (fr85_0 k) fun v => F85_0 k m v.1.1 v.1.2.1 v.2.1 v.2.2.1 v.2.2.2.1 v.2.2.2.2.1)
theorem pp85_0 (k m : Nat) (v : (fr85_0 k).sh.V) : F85_0 k (m + 1) v.1.1 v.1.2.1 v.2.1 v.2.2.1 v.2.2.2.1 v.2.2.2.2.1 = (bo85_0 k m v).eval ∧ (bo85_0 k m v).left = (bo85_0 k m v).right := ⟨by kernel_rfl, by kernel_rfl⟩
theorem fr85_0_ok (k : Nat) : FragOK Try.prog lim85 (fr85_0 k) co85_0 :=
 frag_cast (by kernel_rfl) (loop_ok (cfg85_ok k) (planOK_go _) (fun m v => F85_0 k m v.1.1 v.1.2.1 v.2.1 v.2.2.1 v.2.2.2.1 v.2.2.2.2.1) k (fun _ => rfl) (fun _ => rfl) (pp85_0 k))
noncomputable def bo85_1 (k m : Nat) (v : (fr85_1 k).sh.V) := body Try.prog (stepper Try.prog (cfg85 k) lim85) .go cb85_1 ((fr85_1 k).sh.st v) (loopK (fr85_1 k) fun v => F85_1 k m v.1.1 v.1.2.1 v.2.1 v.2.2.1 v.2.2.2.1 v.2.2.2.2.1)
theorem pp85_1 (k m : Nat) (v : (fr85_1 k).sh.V) : F85_1 k (m + 1) v.1.1 v.1.2.1 v.2.1 v.2.2.1 v.2.2.2.1 v.2.2.2.2.1 = (bo85_1 k m v).eval ∧ (bo85_1 k m v).left = (bo85_1 k m v).right := ⟨by kernel_rfl, by kernel_rfl⟩
theorem fr85_1_ok (k : Nat) : FragOK Try.prog lim85 (fr85_1 k) co85_1 :=
 frag_cast (by kernel_rfl) (loop_ok (cfg85_ok k) (planOK_go _) (fun m v => F85_1 k m v.1.1 v.1.2.1 v.2.1 v.2.2.1 v.2.2.2.1 v.2.2.2.2.1) k (fun _ => rfl) (fun _ => rfl) (pp85_1 k))
noncomputable def bo85_2 (k m : Nat) (v : (fr85_2 k).sh.V) := body Try.prog (stepper Try.prog (cfg85 k) lim85) .go cb85_2 ((fr85_2 k).sh.st v) (loopK (fr85_2 k) fun v => F85_2 k m v.1.1 v.1.2.1 v.2.1 v.2.2.1 v.2.2.2.1)
theorem pp85_2 (k m : Nat) (v : (fr85_2 k).sh.V) : F85_2 k (m + 1) v.1.1 v.1.2.1 v.2.1 v.2.2.1 v.2.2.2.1 = (bo85_2 k m v).eval ∧ (bo85_2 k m v).left = (bo85_2 k m v).right := ⟨by kernel_rfl, by kernel_rfl⟩
theorem fr85_2_ok (k : Nat) : FragOK Try.prog lim85 (fr85_2 k) co85_2 :=
 frag_cast (by kernel_rfl) (loop_ok (cfg85_ok k) (planOK_go _) (fun m v => F85_2 k m v.1.1 v.1.2.1 v.2.1 v.2.2.1 v.2.2.2.1) k (fun _ => rfl) (fun _ => rfl) (pp85_2 k))
def pl85 (k : Nat) : Plan := (.seq .go (.seq .go (.seq .go (.seq (.seq .go (.sub (.frag (fr85_0 k)))) (.seq (.seq .go (.sub (.frag (fr85_1 k)))) (.seq .go (.seq (.seq .go (.sub (.frag (fr85_2 k)))) .go)))))))
theorem pq85 (k : Nat) : PlanOK Try.prog lim85 (pl85 k) co85 = (PlanOK Try.prog lim85 .go (codeAt (bodyOf Try.f85) [.l]) ∧ (PlanOK Try.prog lim85 .go (codeAt (bodyOf Try.f85) [.r, .l]) ∧ (PlanOK Try.prog lim85 .go (codeAt (bodyOf Try.f85) [.r, .r, .l]) ∧ ((PlanOK Try.prog lim85 .go (codeAt (bodyOf Try.f85) [.r, .r, .r, .l, .l]) ∧ FragOK Try.prog lim85 (fr85_0 k) co85_0) ∧ ((PlanOK Try.prog lim85 .go (codeAt (bodyOf Try.f85) [.r, .r, .r, .r, .l, .l]) ∧ FragOK Try.prog lim85 (fr85_1 k) co85_1) ∧ (PlanOK Try.prog lim85 .go (codeAt (bodyOf Try.f85) [.r, .r, .r, .r, .r, .l]) ∧ ((PlanOK Try.prog lim85 .go (codeAt (bodyOf Try.f85) [.r, .r, .r, .r, .r, .r, .l, .l]) ∧ FragOK Try.prog lim85 (fr85_2 k) co85_2) ∧ PlanOK Try.prog lim85 .go (codeAt (bodyOf Try.f85) [.r, .r, .r, .r, .r, .r, .r])))))))) := by kernel_rfl
noncomputable def bo85 (k : Nat) (x : AT (sp85 k).ps) := fnT Try.prog (cfg85 k) lim85 Try.f85 (bodyOf Try.f85) (pl85 k) (sp85 k) x
theorem vv85 (k : Nat) (x : AT (sp85 k).ps) : (sp85 k).impl x = (bo85 k x).eval ∧ (bo85 k x).left = (bo85 k x).right := ⟨by kernel_rfl, by kernel_rfl⟩
theorem v85 (k : Nat) : Callable Try.prog 85 ∧ Valid Try.prog 85 (sp85 k) :=
 fn_of (n := lim85) (fn := Try.f85) (p := (pl85 k)) (cfg85_ok k) (by kernel_rfl) (Eq.mpr (pq85 k) ⟨(planOK_go _), ⟨(planOK_go _), ⟨(planOK_go _), ⟨⟨(planOK_go _), (fr85_0_ok k)⟩, ⟨⟨(planOK_go _), (fr85_1_ok k)⟩, ⟨(planOK_go _), ⟨⟨(planOK_go _), (fr85_2_ok k)⟩, (planOK_go _)⟩⟩⟩⟩⟩⟩⟩) (vv85 k)
def F69 (k : Nat) (a0 : Int) (a1 : Int) : Option TY72 :=
 let x1 := (minI (IntKind.wrap .i64 (a0 + a1)) (1152921504606846976 : Int))
 some ((x1, ()), ())
def sp69 (k : Nat) : Spec := ⟨[.val (.int .i64), .val (.int .i64)], [.val (.int .i64)], fun x => F69 k x.1 x.2.1⟩
def lim69 : Lim := ⟨9, 2, false, false, [], []⟩
def cfg69 (k : Nat) : Nat → Option Spec := cfgL []
noncomputable def co69 : Code := codeAt (bodyOf Try.f69) []
theorem cfg69_ok (k : Nat) : CfgOK Try.prog (cfg69 k) := cfgL_nil
noncomputable def bo69 (k : Nat) (x : AT (sp69 k).ps) := fnT Try.prog (cfg69 k) lim69 Try.f69 (bodyOf Try.f69) .go (sp69 k) x
theorem vv69 (k : Nat) (x : AT (sp69 k).ps) : (sp69 k).impl x = (bo69 k x).eval ∧ (bo69 k x).left = (bo69 k x).right := ⟨by kernel_rfl, by kernel_rfl⟩
theorem v69 (k : Nat) : Callable Try.prog 69 ∧ Valid Try.prog 69 (sp69 k) :=
 fn_of (n := lim69) (fn := Try.f69) (p := .go) (cfg69_ok k) (by kernel_rfl) (planOK_go _) (vv69 k)
def F86_0 (k : Nat) : Nat → Int → TY56 → (Int × TY73) → Option (((Int × Unit) × (TY56 × (Int × TY73) × Unit)))
 | 0, _, _, _ => none
 | n + 1, t5, c0, c3 =>
  let x6 := (decide (t5 < ((List.length c0 : Nat) : Int)))
  bif x6 then
   if 0 ≤ t5 ∧ t5 < ((List.length c0 : Nat) : Int) then
    let x7 := (List.getD c0 (Int.toNat t5) ((0 : Int), ((0 : Int), ((0 : Int), ())))).1
    bif (decide (x7 < c3.1)) then
     (F86_0 k n (IntKind.wrap .i64 (t5 + (1 : Int))) c0 c3).bind some
    else
     if 0 ≤ t5 ∧ t5 < ((List.length c0 : Nat) : Int) then
      let x8 := (List.getD c0 (Int.toNat t5) ((0 : Int), ((0 : Int), ((0 : Int), ())))).1
      bif (x8 == c3.1) then
       if 0 ≤ t5 ∧ t5 < ((List.length c0 : Nat) : Int) then
        let x9 := (List.getD c0 (Int.toNat t5) ((0 : Int), ((0 : Int), ((0 : Int), ())))).2.1
        bif (decide (x9 < c3.2.1)) then
         (F86_0 k n (IntKind.wrap .i64 (t5 + (1 : Int))) c0 c3).bind some
        else
         some ((t5, ()), (c0, c3, ()))
       else none
      else
       some ((t5, ()), (c0, c3, ()))
     else none
   else none
  else
   some ((t5, ()), (c0, c3, ()))
def fr86_0 (k : Nat) : Frag := ⟨⟨[], [(0, .at 0 []), (3, .ptr 3 []), (5, .val (.int .i64))], [(0, none, KD38), (3, some 67, KD44)]⟩, [(.exit 0, ⟨[], [(0, .at 0 []), (3, .ptr 3 []), (5, .val (.int .i64))], [(0, none, KD38), (3, some 67, KD44)]⟩)], fun v => F86_0 k k v.1.1 v.2.1 v.2.2.1⟩
def F86 (k : Nat) (a0 : TY56) (a1 : (Int × TY73)) : Option ((TY56 × Unit) × Unit) :=
 let x1 := (decide (a1.2.2.1 ≥ (1152921504606846976 : Int)))
 bif x1 then
  some ((a0, ()), ())
 else
  (F86_0 k k (0 : Int) a0 a1).bind fun r10 =>
  let y11 := r10.1.1
  let y12 := r10.2.1
  let y13 := r10.2.2.1
  let x14 := (decide (y11 < ((List.length y12 : Nat) : Int)))
  bif x14 then
   if 0 ≤ y11 ∧ y11 < ((List.length y12 : Nat) : Int) then
    let x15 := (List.getD y12 (Int.toNat y11) ((0 : Int), ((0 : Int), ((0 : Int), ())))).1
    bif (x15 == y13.1) then
     if 0 ≤ y11 ∧ y11 < ((List.length y12 : Nat) : Int) then
      let x16 := (List.getD y12 (Int.toNat y11) ((0 : Int), ((0 : Int), ((0 : Int), ())))).2.1
      bif (x16 == y13.2.1) then
       let x17 := (List.replicate 0 ((0 : Int), ((0 : Int), ((0 : Int), ()))))
       if (List.length x17 + List.length y12) * (24 * 2) ≤ 281474976710656 ∧ List.length x17 + List.length y12 ≤ 9223372036854775807 then
        if 0 ≤ y11 ∧ y11 < ((List.length (x17 ++ y12) : Nat) : Int) then
         let x18 := (List.getD (x17 ++ y12) (Int.toNat y11) ((0 : Int), ((0 : Int), ((0 : Int), ())))).2.2.1
         if 0 ≤ y11 ∧ y11 < ((List.length (x17 ++ y12) : Nat) : Int) then
          let x19 := (List.set (x17 ++ y12) (Int.toNat y11) ((List.getD (x17 ++ y12) (Int.toNat y11) ((0 : Int), ((0 : Int), ((0 : Int), ())))).1, ((List.getD (x17 ++ y12) (Int.toNat y11) ((0 : Int), ((0 : Int), ((0 : Int), ())))).2.1, ((minI x18 y13.2.2.1), (List.getD (x17 ++ y12) (Int.toNat y11) ((0 : Int), ((0 : Int), ((0 : Int), ())))).2.2.2))))
          some ((x19, ()), ())
         else none
        else none
       else none
      else
       if 0 ≤ (0 : Int) ∧ (0 : Int) ≤ y11 ∧ y11 ≤ ((List.length y12 : Nat) : Int) then
        let x20 := (Int.toNat y11 - Int.toNat (0 : Int))
        if 0 ≤ y11 ∧ y11 ≤ ((List.length y12 : Nat) : Int) ∧ ((List.length y12 : Nat) : Int) ≤ ((List.length y12 : Nat) : Int) then
         let x21 := (Int.toNat ((List.length y12 : Nat) : Int) - Int.toNat y11)
         let x22 := (List.replicate 0 ((0 : Int), ((0 : Int), ((0 : Int), ()))))
         if (List.length x22 + List.length (List.take x20 (List.drop (Int.toNat (0 : Int)) y12))) * (24 * 2) ≤ 281474976710656 ∧ List.length x22 + List.length (List.take x20 (List.drop (Int.toNat (0 : Int)) y12)) ≤ 9223372036854775807 then
          let x23 := (x22 ++ (List.take x20 (List.drop (Int.toNat (0 : Int)) y12)))
          let x24 := (List.set (List.replicate 1 ((0 : Int), ((0 : Int), ((0 : Int), ())))) 0 y13)
          if (List.length x23 + List.length x24) * (24 * 2) ≤ 281474976710656 ∧ List.length x23 + List.length x24 ≤ 9223372036854775807 then
           if (List.length (x23 ++ x24) + List.length (List.take x21 (List.drop (Int.toNat y11) y12))) * (24 * 2) ≤ 281474976710656 ∧ List.length (x23 ++ x24) + List.length (List.take x21 (List.drop (Int.toNat y11) y12)) ≤ 9223372036854775807 then
            let x25 := ((x23 ++ x24) ++ (List.take x21 (List.drop (Int.toNat y11) y12)))
            some ((x25, ()), ())
           else none
          else none
         else none
        else none
       else none
     else none
    else
     if 0 ≤ (0 : Int) ∧ (0 : Int) ≤ y11 ∧ y11 ≤ ((List.length y12 : Nat) : Int) then
      let x26 := (Int.toNat y11 - Int.toNat (0 : Int))
      if 0 ≤ y11 ∧ y11 ≤ ((List.length y12 : Nat) : Int) ∧ ((List.length y12 : Nat) : Int) ≤ ((List.length y12 : Nat) : Int) then
       let x27 := (Int.toNat ((List.length y12 : Nat) : Int) - Int.toNat y11)
       let x28 := (List.replicate 0 ((0 : Int), ((0 : Int), ((0 : Int), ()))))
       if (List.length x28 + List.length (List.take x26 (List.drop (Int.toNat (0 : Int)) y12))) * (24 * 2) ≤ 281474976710656 ∧ List.length x28 + List.length (List.take x26 (List.drop (Int.toNat (0 : Int)) y12)) ≤ 9223372036854775807 then
        let x29 := (x28 ++ (List.take x26 (List.drop (Int.toNat (0 : Int)) y12)))
        let x30 := (List.set (List.replicate 1 ((0 : Int), ((0 : Int), ((0 : Int), ())))) 0 y13)
        if (List.length x29 + List.length x30) * (24 * 2) ≤ 281474976710656 ∧ List.length x29 + List.length x30 ≤ 9223372036854775807 then
         if (List.length (x29 ++ x30) + List.length (List.take x27 (List.drop (Int.toNat y11) y12))) * (24 * 2) ≤ 281474976710656 ∧ List.length (x29 ++ x30) + List.length (List.take x27 (List.drop (Int.toNat y11) y12)) ≤ 9223372036854775807 then
          let x31 := ((x29 ++ x30) ++ (List.take x27 (List.drop (Int.toNat y11) y12)))
          some ((x31, ()), ())
         else none
        else none
       else none
      else none
     else none
   else none
  else
   if 0 ≤ (0 : Int) ∧ (0 : Int) ≤ y11 ∧ y11 ≤ ((List.length y12 : Nat) : Int) then
    let x32 := (Int.toNat y11 - Int.toNat (0 : Int))
    if 0 ≤ y11 ∧ y11 ≤ ((List.length y12 : Nat) : Int) ∧ ((List.length y12 : Nat) : Int) ≤ ((List.length y12 : Nat) : Int) then
     let x33 := (Int.toNat ((List.length y12 : Nat) : Int) - Int.toNat y11)
     let x34 := (List.replicate 0 ((0 : Int), ((0 : Int), ((0 : Int), ()))))
     if (List.length x34 + List.length (List.take x32 (List.drop (Int.toNat (0 : Int)) y12))) * (24 * 2) ≤ 281474976710656 ∧ List.length x34 + List.length (List.take x32 (List.drop (Int.toNat (0 : Int)) y12)) ≤ 9223372036854775807 then
      let x35 := (x34 ++ (List.take x32 (List.drop (Int.toNat (0 : Int)) y12)))
      let x36 := (List.set (List.replicate 1 ((0 : Int), ((0 : Int), ((0 : Int), ())))) 0 y13)
      if (List.length x35 + List.length x36) * (24 * 2) ≤ 281474976710656 ∧ List.length x35 + List.length x36 ≤ 9223372036854775807 then
       if (List.length (x35 ++ x36) + List.length (List.take x33 (List.drop (Int.toNat y11) y12))) * (24 * 2) ≤ 281474976710656 ∧ List.length (x35 ++ x36) + List.length (List.take x33 (List.drop (Int.toNat y11) y12)) ≤ 9223372036854775807 then
        let x37 := ((x35 ++ x36) ++ (List.take x33 (List.drop (Int.toNat y11) y12)))
        some ((x37, ()), ())
       else none
      else none
     else none
    else none
   else none
def sp86 (k : Nat) : Spec := ⟨[.own KD38, .val KD44], [.own KD38], fun x => F86 k x.1 x.2.1⟩
def lim86 : Lim := ⟨99, 2, false, false, [], []⟩
def cfg86 (k : Nat) : Nat → Option Spec := cfgL []
noncomputable def co86_0 : Code := codeAt (bodyOf Try.f86) [.r, .r, .r, .l, .s]
noncomputable def cb86_0 : Code := codeAt (bodyOf Try.f86) [.r, .r, .r, .l, .s, .b]
noncomputable def co86 : Code := codeAt (bodyOf Try.f86) []
theorem cfg86_ok (k : Nat) : CfgOK Try.prog (cfg86 k) := cfgL_nil
noncomputable def bo86_0 (k m : Nat) (v : (fr86_0 k).sh.V) := body Try.prog (stepper Try.prog (cfg86 k) lim86) .go cb86_0 ((fr86_0 k).sh.st v) (loopK (fr86_0 k) fun v => F86_0 k m v.1.1 v.2.1 v.2.2.1)
theorem pp86_0 (k m : Nat) (v : (fr86_0 k).sh.V) : F86_0 k (m + 1) v.1.1 v.2.1 v.2.2.1 = (bo86_0 k m v).eval ∧ (bo86_0 k m v).left = (bo86_0 k m v).right := ⟨by kernel_rfl, by kernel_rfl⟩
theorem fr86_0_ok (k : Nat) : FragOK Try.prog lim86 (fr86_0 k) co86_0 :=
 frag_cast (by kernel_rfl) (loop_ok (cfg86_ok k) (planOK_go _) (fun m v => F86_0 k m v.1.1 v.2.1 v.2.2.1) k (fun _ => rfl) (fun _ => rfl) (pp86_0 k))
def pl86 (k : Nat) : Plan := (.seq .go (.seq .go (.seq .go (.seq (.sub (.frag (fr86_0 k))) .go))))
theorem pq86 (k : Nat) : PlanOK Try.prog lim86 (pl86 k) co86 = (PlanOK Try.prog lim86 .go (codeAt (bodyOf Try.f86) [.l]) ∧ (PlanOK Try.prog lim86 .go (codeAt (bodyOf Try.f86) [.r, .l]) ∧ (PlanOK Try.prog lim86 .go (codeAt (bodyOf Try.f86) [.r, .r, .l]) ∧ (FragOK Try.prog lim86 (fr86_0 k) co86_0 ∧ PlanOK Try.prog lim86 .go (codeAt (bodyOf Try.f86) [.r, .r, .r, .r]))))) := by kernel_rfl
noncomputable def bo86 (k : Nat) (x : AT (sp86 k).ps) := fnT Try.prog (cfg86 k) lim86 Try.f86 (bodyOf Try.f86) (pl86 k) (sp86 k) x
theorem vv86 (k : Nat) (x : AT (sp86 k).ps) : (sp86 k).impl x = (bo86 k x).eval ∧ (bo86 k x).left = (bo86 k x).right := ⟨by kernel_rfl, by kernel_rfl⟩
theorem v86 (k : Nat) : Callable Try.prog 86 ∧ Valid Try.prog 86 (sp86 k) :=
 fn_of (n := lim86) (fn := Try.f86) (p := (pl86 k)) (cfg86_ok k) (by kernel_rfl) (Eq.mpr (pq86 k) ⟨(planOK_go _), ⟨(planOK_go _), ⟨(planOK_go _), ⟨(fr86_0_ok k), (planOK_go _)⟩⟩⟩⟩) (vv86 k)
end Go.Proofs.YtibammoednhnoaaE

