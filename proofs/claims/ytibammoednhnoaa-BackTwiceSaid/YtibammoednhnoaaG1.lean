/- Functions of the program, as Lean functions, with their contracts; printed by gen.py. Conditions: none. -/
import Derived.Test.YtibammoednhnoaaG0
set_option linter.unusedVariables false
namespace Go.Proofs.YtibammoednhnoaaE
open Kd
set_option maxRecDepth 20000
def F81_0 (k : Nat) : Nat → Int → Int → Int → TY31 → TY31 → TY31 → TY31 → Option (((Int × Int × Unit) × (TY31 × TY31 × TY31 × TY31 × Unit)))
 | 0, _, _, _, _, _, _, _ => none
 | n + 1, t5, t7, t8, c2, c3, c4, c6 =>
  let x10 := (decide (t8 < ((List.length c3.1 : Nat) : Int)))
  bif x10 then
   if 0 ≤ t7 ∧ t7 < ((List.length c2.2.2.1 : Nat) : Int) then
    let x11 := (List.getD c2.2.2.1 (Int.toNat t7) (0 : Int))
    if 0 ≤ t8 ∧ t8 < ((List.length c3.2.1 : Nat) : Int) then
     (F69 k x11 (List.getD c3.2.1 (Int.toNat t8) (0 : Int))).bind fun r12 =>
     (F86 k c6.2.2.2.1 (t7, ((IntKind.wrap .i64 (t5 + t8)), (r12.1.1, ())))).bind fun r13 =>
     (F81_0 k n t5 t7 (IntKind.wrap .i64 (t8 + (1 : Int))) c2 c3 c4 (c6.1, (c6.2.1, (c6.2.2.1, (r13.1.1, c6.2.2.2.2))))).bind some
    else none
   else none
  else
   some ((t5, t7, ()), (c2, c3, c4, c6, ()))
def fr81_0 (k : Nat) : Frag := ⟨⟨[], [(2, .ptr 2 []), (3, .ptr 3 []), (4, .ptr 4 []), (5, .val (.int .i64)), (6, .ptr 6 []), (7, .val (.int .i64)), (8, .val (.int .i64))], [(2, some 65, KD13), (3, some 65, KD13), (4, some 65, KD14), (6, some 65, KD14)]⟩, [(.exit 2, ⟨[], [(2, .ptr 2 []), (3, .ptr 3 []), (4, .ptr 4 []), (5, .val (.int .i64)), (6, .ptr 6 []), (7, .val (.int .i64))], [(2, some 65, KD13), (3, some 65, KD13), (4, some 65, KD14), (6, some 65, KD14)]⟩)], fun v => F81_0 k k v.1.1 v.1.2.1 v.1.2.2.1 v.2.1 v.2.2.1 v.2.2.2.1 v.2.2.2.2.1⟩
def F81_1 (k : Nat) : Nat → Int → Int → TY31 → TY31 → TY31 → TY31 → Option TY7
 | 0, _, _, _, _, _, _ => none
 | n + 1, t5, t7, c2, c3, c4, c6 =>
  bif (decide (t7 < t5)) then
   if 0 ≤ t7 ∧ t7 < ((List.length c2.2.1 : Nat) : Int) then
    if 0 ≤ t7 ∧ t7 < ((List.length c2.2.2.1 : Nat) : Int) then
     let x21 := (List.getD c2.2.2.1 (Int.toNat t7) (0 : Int))
     (F69 k x21 c3.2.2.2.2.1).bind fun r22 =>
     if 0 ≤ t7 ∧ t7 < ((List.length c6.2.1 : Nat) : Int) then
      let x23 := (List.set c6.2.1 (Int.toNat t7) (List.getD c2.2.1 (Int.toNat t7) (0 : Int)))
      if 0 ≤ t7 ∧ t7 < ((List.length c6.2.2.1 : Nat) : Int) then
       (F81_0 k k t5 t7 (0 : Int) c2 c3 c4 (c6.1, (x23, ((List.set c6.2.2.1 (Int.toNat t7) r22.1.1), c6.2.2.2)))).bind fun r24 =>
       let y25 := r24.1.1
       let y26 := r24.1.2.1
       let y27 := r24.2.1
       let y28 := r24.2.2.1
       let y29 := r24.2.2.2.1
       let y30 := r24.2.2.2.2.1
       (F81_1 k n y25 (IntKind.wrap .i64 (y26 + (1 : Int))) y27 y28 y29 y30).bind some
      else none
     else none
    else none
   else none
  else
   some ((t5, ()), (c2, c3, c4, c6, ()))
def fr81_1 (k : Nat) : Frag := ⟨⟨[], [(2, .ptr 2 []), (3, .ptr 3 []), (4, .ptr 4 []), (5, .val (.int .i64)), (6, .ptr 6 []), (7, .val (.int .i64))], [(2, some 65, KD13), (3, some 65, KD13), (4, some 65, KD14), (6, some 65, KD14)]⟩, [(.exit 0, ⟨[], [(2, .ptr 2 []), (3, .ptr 3 []), (4, .ptr 4 []), (5, .val (.int .i64)), (6, .ptr 6 [])], [(2, some 65, KD13), (3, some 65, KD13), (4, some 65, KD14), (6, some 65, KD14)]⟩)], fun v => F81_1 k k v.1.1 v.1.2.1 v.2.1 v.2.2.1 v.2.2.2.1 v.2.2.2.2.1⟩
def F81_2 (k : Nat) : Nat → Int → Int → TY31 → TY31 → TY31 → TY31 → Option TY15
 | 0, _, _, _, _, _, _ => none
 | n + 1, t5, t9, c2, c3, c4, c6 =>
  let x42 := (decide (t9 < ((List.length c3.1 : Nat) : Int)))
  bif x42 then
   if 0 ≤ t9 ∧ t9 < ((List.length c3.2.1 : Nat) : Int) then
    if 0 ≤ t9 ∧ t9 < ((List.length c3.2.2.1 : Nat) : Int) then
     let x43 := (List.getD c3.2.2.1 (Int.toNat t9) (0 : Int))
     (F69 k c2.2.2.2.2.1 (List.getD c3.2.1 (Int.toNat t9) (0 : Int))).bind fun r44 =>
     if 0 ≤ (IntKind.wrap .i64 (t5 + t9)) ∧ (IntKind.wrap .i64 (t5 + t9)) < ((List.length c6.2.1 : Nat) : Int) then
      let x45 := (Int.toNat (IntKind.wrap .i64 (t5 + t9)))
      if 0 ≤ (IntKind.wrap .i64 (t5 + t9)) ∧ (IntKind.wrap .i64 (t5 + t9)) < ((List.length c6.2.2.1 : Nat) : Int) then
       let x46 := (Int.toNat (IntKind.wrap .i64 (t5 + t9)))
       (F81_2 k n t5 (IntKind.wrap .i64 (t9 + (1 : Int))) c2 c3 c4 (c6.1, ((List.set c6.2.1 x45 r44.1.1), ((List.set c6.2.2.1 x46 x43), c6.2.2.2)))).bind some
      else none
     else none
    else none
   else none
  else
   some ((), (c4, c6, ()))
def fr81_2 (k : Nat) : Frag := ⟨⟨[], [(2, .ptr 2 []), (3, .ptr 3 []), (4, .ptr 4 []), (5, .val (.int .i64)), (6, .ptr 6 []), (9, .val (.int .i64))], [(2, some 65, KD13), (3, some 65, KD13), (4, some 65, KD14), (6, some 65, KD14)]⟩, [(.exit 4, ⟨[], [(4, .ptr 4 []), (6, .ptr 6 [])], [(4, some 65, KD14), (6, some 65, KD14)]⟩)], fun v => F81_2 k k v.1.1 v.1.2.1 v.2.1 v.2.2.1 v.2.2.2.1 v.2.2.2.2.1⟩
def F81 (k : Nat) (a0 : TY31) (a1 : TY31) : Option TY25 :=
 (F85 k a0 a1).bind fun r1 =>
 (F69 k a0.2.2.2.2.1 a1.2.2.2.2.1).bind fun r2 =>
 (F81_1 k k ((List.length a0.1 : Nat) : Int) (0 : Int) a0 a1 (([] : (List Int)), (([] : (List Int)), (([] : (List Int)), (([] : TY56), ((0 : Int), ()))))) (r1.1.1.1, (r1.1.1.2.1, (r1.1.1.2.2.1, (r1.1.1.2.2.2.1, (r2.1.1, r1.1.1.2.2.2.2.2)))))).bind fun r31 =>
 let y32 := r31.1.1
 let y33 := r31.2.1
 let y34 := r31.2.2.1
 let y35 := r31.2.2.2.1
 let y36 := r31.2.2.2.2.1
 (F81_2 k k y32 (0 : Int) y33 y34 y35 y36).bind fun r47 =>
 let y49 := r47.2.2.1
 some ((y49, ()), ())
def sp81 (k : Nat) : Spec := ⟨[.val KD13, .val KD13], [.own KD14], fun x => F81 k x.1 x.2.1⟩
def lim81 : Lim := ⟨108, 2, false, false, [], []⟩
def cfg81 (k : Nat) : Nat → Option Spec := cfgL [(69, sp69 k), (85, sp85 k), (86, sp86 k)]
noncomputable def co81_0 : Code := codeAt (bodyOf Try.f81) [.r, .r, .r, .r, .l, .r, .s, .b, .r, .l, .s, .r, .r, .s]
noncomputable def cb81_0 : Code := codeAt (bodyOf Try.f81) [.r, .r, .r, .r, .l, .r, .s, .b, .r, .l, .s, .r, .r, .s, .b]
noncomputable def co81_1 : Code := codeAt (bodyOf Try.f81) [.r, .r, .r, .r, .l, .r, .s]
noncomputable def cb81_1 : Code := codeAt (bodyOf Try.f81) [.r, .r, .r, .r, .l, .r, .s, .b]
noncomputable def co81_2 : Code := codeAt (bodyOf Try.f81) [.r, .r, .r, .r, .r, .l, .r, .s]
noncomputable def cb81_2 : Code := codeAt (bodyOf Try.f81) [.r, .r, .r, .r, .r, .l, .r, .s, .b]
noncomputable def co81 : Code := codeAt (bodyOf Try.f81) []
theorem cfg81_ok (k : Nat) : CfgOK Try.prog (cfg81 k) := cfgL_cons (v69 k) (cfgL_cons (v85 k) (cfgL_cons (v86 k) (cfgL_nil)))
noncomputable def bo81_0 (k m : Nat) (v : (fr81_0 k).sh.V) := body Try.prog (stepper Try.prog (cfg81 k) lim81) .go cb81_0 ((fr81_0 k).sh.st v) (loopK (fr81_0 k) fun v => F81_0 k m v.1.1 v.1.2.1 v.1.2.2.1 v.2.1 v.2.2.1 v.2.2.2.1 v.2.2.2.2.1)
theorem pp81_0 (k m : Nat) (v : (fr81_0 k).sh.V) : F81_0 k (m + 1) v.1.1 v.1.2.1 v.1.2.2.1 v.2.1 v.2.2.1 v.2.2.2.1 v.2.2.2.2.1 = (bo81_0 k m v).eval ∧ (bo81_0 k m v).left = (bo81_0 k m v).right := ⟨by kernel_rfl, by kernel_rfl⟩
theorem fr81_0_ok (k : Nat) : FragOK Try.prog lim81 (fr81_0 k) co81_0 :=
 frag_cast (by kernel_rfl) (loop_ok (cfg81_ok k) (planOK_go _) (fun m v => F81_0 k m v.1.1 v.1.2.1 v.1.2.2.1 v.2.1 v.2.2.1 v.2.2.2.1 v.2.2.2.2.1) k (fun _ => rfl) (fun _ => rfl) (pp81_0 k))
def pl81_1 (k : Nat) : Plan := (.seq .go (.seq (.sub (.seq .go (.seq .go (.sub (.frag (fr81_0 k)))))) .go))
theorem pq81_1 (k : Nat) : PlanOK Try.prog lim81 (pl81_1 k) cb81_1 = (PlanOK Try.prog lim81 .go (codeAt (bodyOf Try.f81) [.r, .r, .r, .r, .l, .r, .s, .b, .l]) ∧ ((PlanOK Try.prog lim81 .go (codeAt (bodyOf Try.f81) [.r, .r, .r, .r, .l, .r, .s, .b, .r, .l, .s, .l]) ∧ (PlanOK Try.prog lim81 .go (codeAt (bodyOf Try.f81) [.r, .r, .r, .r, .l, .r, .s, .b, .r, .l, .s, .r, .l]) ∧ FragOK Try.prog lim81 (fr81_0 k) co81_0)) ∧ PlanOK Try.prog lim81 .go (codeAt (bodyOf Try.f81) [.r, .r, .r, .r, .l, .r, .s, .b, .r, .r]))) := by kernel_rfl
noncomputable def bo81_1 (k m : Nat) (v : (fr81_1 k).sh.V) := body Try.prog (stepper Try.prog (cfg81 k) lim81) (pl81_1 k) cb81_1 ((fr81_1 k).sh.st v) (loopK (fr81_1 k) fun v => F81_1 k m v.1.1 v.1.2.1 v.2.1 v.2.2.1 v.2.2.2.1 v.2.2.2.2.1)
theorem pp81_1 (k m : Nat) (v : (fr81_1 k).sh.V) : F81_1 k (m + 1) v.1.1 v.1.2.1 v.2.1 v.2.2.1 v.2.2.2.1 v.2.2.2.2.1 = (bo81_1 k m v).eval ∧ (bo81_1 k m v).left = (bo81_1 k m v).right := ⟨by kernel_rfl, by kernel_rfl⟩
theorem fr81_1_ok (k : Nat) : FragOK Try.prog lim81 (fr81_1 k) co81_1 :=
 frag_cast (by kernel_rfl) (loop_ok (cfg81_ok k) (Eq.mpr (pq81_1 k) ⟨(planOK_go _), ⟨⟨(planOK_go _), ⟨(planOK_go _), (fr81_0_ok k)⟩⟩, (planOK_go _)⟩⟩) (fun m v => F81_1 k m v.1.1 v.1.2.1 v.2.1 v.2.2.1 v.2.2.2.1 v.2.2.2.2.1) k (fun _ => rfl) (fun _ => rfl) (pp81_1 k))
noncomputable def bo81_2 (k m : Nat) (v : (fr81_2 k).sh.V) := body Try.prog (stepper Try.prog (cfg81 k) lim81) .go cb81_2 ((fr81_2 k).sh.st v) (loopK (fr81_2 k) fun v => F81_2 k m v.1.1 v.1.2.1 v.2.1 v.2.2.1 v.2.2.2.1 v.2.2.2.2.1)
theorem pp81_2 (k m : Nat) (v : (fr81_2 k).sh.V) : F81_2 k (m + 1) v.1.1 v.1.2.1 v.2.1 v.2.2.1 v.2.2.2.1 v.2.2.2.2.1 = (bo81_2 k m v).eval ∧ (bo81_2 k m v).left = (bo81_2 k m v).right := ⟨by kernel_rfl, by kernel_rfl⟩
theorem fr81_2_ok (k : Nat) : FragOK Try.prog lim81 (fr81_2 k) co81_2 :=
 frag_cast (by kernel_rfl) (loop_ok (cfg81_ok k) (planOK_go _) (fun m v => F81_2 k m v.1.1 v.1.2.1 v.2.1 v.2.2.1 v.2.2.2.1 v.2.2.2.2.1) k (fun _ => rfl) (fun _ => rfl) (pp81_2 k))
def pl81 (k : Nat) : Plan := (.seq .go (.seq .go (.seq .go (.seq .go (.seq (.seq .go (.sub (.frag (fr81_1 k)))) (.seq (.seq .go (.sub (.frag (fr81_2 k)))) .go))))))
theorem pq81 (k : Nat) : PlanOK Try.prog lim81 (pl81 k) co81 = (PlanOK Try.prog lim81 .go (codeAt (bodyOf Try.f81) [.l]) ∧ (PlanOK Try.prog lim81 .go (codeAt (bodyOf Try.f81) [.r, .l]) ∧ (PlanOK Try.prog lim81 .go (codeAt (bodyOf Try.f81) [.r, .r, .l]) ∧ (PlanOK Try.prog lim81 .go (codeAt (bodyOf Try.f81) [.r, .r, .r, .l]) ∧ ((PlanOK Try.prog lim81 .go (codeAt (bodyOf Try.f81) [.r, .r, .r, .r, .l, .l]) ∧ FragOK Try.prog lim81 (fr81_1 k) co81_1) ∧ ((PlanOK Try.prog lim81 .go (codeAt (bodyOf Try.f81) [.r, .r, .r, .r, .r, .l, .l]) ∧ FragOK Try.prog lim81 (fr81_2 k) co81_2) ∧ PlanOK Try.prog lim81 .go (codeAt (bodyOf Try.f81) [.r, .r, .r, .r, .r, .r]))))))) := by kernel_rfl
noncomputable def bo81 (k : Nat) (x : AT (sp81 k).ps) := fnT Try.prog (cfg81 k) lim81 Try.f81 (bodyOf Try.f81) (pl81 k) (sp81 k) x
theorem vv81 (k : Nat) (x : AT (sp81 k).ps) : (sp81 k).impl x = (bo81 k x).eval ∧ (bo81 k x).left = (bo81 k x).right := ⟨by kernel_rfl, by kernel_rfl⟩
theorem v81 (k : Nat) : Callable Try.prog 81 ∧ Valid Try.prog 81 (sp81 k) :=
 fn_of (n := lim81) (fn := Try.f81) (p := (pl81 k)) (cfg81_ok k) (by kernel_rfl) (Eq.mpr (pq81 k) ⟨(planOK_go _), ⟨(planOK_go _), ⟨(planOK_go _), ⟨(planOK_go _), ⟨⟨(planOK_go _), (fr81_1_ok k)⟩, ⟨⟨(planOK_go _), (fr81_2_ok k)⟩, (planOK_go _)⟩⟩⟩⟩⟩⟩) (vv81 k)
def F82_0 (k : Nat) : Nat → Int → Int → TY31 → TY31 → TY31 → TY31 → Option (((Int × Unit) × (TY31 × TY31 × TY31 × Unit)))
 | 0, _, _, _, _, _, _ => none
 | n + 1, t5, t7, c2, c3, c4, c6 =>
  bif (decide (t7 < t5)) then
   if 0 ≤ t7 ∧ t7 < ((List.length c2.2.1 : Nat) : Int) then
    if 0 ≤ t7 ∧ t7 < ((List.length c2.2.2.1 : Nat) : Int) then
     let x4 := (List.getD c2.2.2.1 (Int.toNat t7) (0 : Int))
     if 0 ≤ t7 ∧ t7 < ((List.length c6.2.1 : Nat) : Int) then
      let x5 := (List.set c6.2.1 (Int.toNat t7) (List.getD c2.2.1 (Int.toNat t7) (0 : Int)))
      if 0 ≤ t7 ∧ t7 < ((List.length c6.2.2.1 : Nat) : Int) then
       (F82_0 k n t5 (IntKind.wrap .i64 (t7 + (1 : Int))) c2 c3 c4 (c6.1, (x5, ((List.set c6.2.2.1 (Int.toNat t7) x4), c6.2.2.2)))).bind some
      else none
     else none
    else none
   else none
  else
   some ((t5, ()), (c3, c4, c6, ()))
def fr82_0 (k : Nat) : Frag := ⟨⟨[], [(2, .ptr 2 []), (3, .ptr 3 []), (4, .ptr 4 []), (5, .val (.int .i64)), (6, .ptr 6 []), (7, .val (.int .i64))], [(2, some 65, KD13), (3, some 65, KD13), (4, some 65, KD14), (6, some 65, KD14)]⟩, [(.exit 0, ⟨[], [(3, .ptr 3 []), (4, .ptr 4 []), (5, .val (.int .i64)), (6, .ptr 6 [])], [(3, some 65, KD13), (4, some 65, KD14), (6, some 65, KD14)]⟩)], fun v => F82_0 k k v.1.1 v.1.2.1 v.2.1 v.2.2.1 v.2.2.2.1 v.2.2.2.2.1⟩
def F82_1 (k : Nat) : Nat → Int → Int → TY31 → TY31 → TY31 → Option TY15
 | 0, _, _, _, _, _ => none
 | n + 1, t5, t8, c3, c4, c6 =>
  let x16 := (decide (t8 < ((List.length c3.1 : Nat) : Int)))
  bif x16 then
   if 0 ≤ t8 ∧ t8 < ((List.length c3.2.1 : Nat) : Int) then
    if 0 ≤ t8 ∧ t8 < ((List.length c3.2.2.1 : Nat) : Int) then
     let x17 := (List.getD c3.2.2.1 (Int.toNat t8) (0 : Int))
     if 0 ≤ (IntKind.wrap .i64 (t5 + t8)) ∧ (IntKind.wrap .i64 (t5 + t8)) < ((List.length c6.2.1 : Nat) : Int) then
      let x18 := (Int.toNat (IntKind.wrap .i64 (t5 + t8)))
      let x19 := (List.set c6.2.1 x18 (List.getD c3.2.1 (Int.toNat t8) (0 : Int)))
      if 0 ≤ (IntKind.wrap .i64 (t5 + t8)) ∧ (IntKind.wrap .i64 (t5 + t8)) < ((List.length c6.2.2.1 : Nat) : Int) then
       let x20 := (Int.toNat (IntKind.wrap .i64 (t5 + t8)))
       (F82_1 k n t5 (IntKind.wrap .i64 (t8 + (1 : Int))) c3 c4 (c6.1, (x19, ((List.set c6.2.2.1 x20 x17), c6.2.2.2)))).bind some
      else none
     else none
    else none
   else none
  else
   some ((), (c4, c6, ()))
def fr82_1 (k : Nat) : Frag := ⟨⟨[], [(3, .ptr 3 []), (4, .ptr 4 []), (5, .val (.int .i64)), (6, .ptr 6 []), (8, .val (.int .i64))], [(3, some 65, KD13), (4, some 65, KD14), (6, some 65, KD14)]⟩, [(.exit 2, ⟨[], [(4, .ptr 4 []), (6, .ptr 6 [])], [(4, some 65, KD14), (6, some 65, KD14)]⟩)], fun v => F82_1 k k v.1.1 v.1.2.1 v.2.1 v.2.2.1 v.2.2.2.1⟩
def F82 (k : Nat) (a0 : TY31) (a1 : TY31) : Option TY25 :=
 (F85 k a0 a1).bind fun r1 =>
 (F82_0 k k ((List.length a0.1 : Nat) : Int) (0 : Int) a0 a1 (([] : (List Int)), (([] : (List Int)), (([] : (List Int)), (([] : TY56), ((0 : Int), ()))))) (r1.1.1.1, (r1.1.1.2.1, (r1.1.1.2.2.1, (r1.1.1.2.2.2.1, ((minI a0.2.2.2.2.1 a1.2.2.2.2.1), r1.1.1.2.2.2.2.2)))))).bind fun r6 =>
 let y7 := r6.1.1
 let y8 := r6.2.1
 let y9 := r6.2.2.1
 let y10 := r6.2.2.2.1
 (F82_1 k k y7 (0 : Int) y8 y9 y10).bind fun r21 =>
 let y23 := r21.2.2.1
 some ((y23, ()), ())
def sp82 (k : Nat) : Spec := ⟨[.val KD13, .val KD13], [.own KD14], fun x => F82 k x.1 x.2.1⟩
def lim82 : Lim := ⟨74, 2, false, false, [], []⟩
def cfg82 (k : Nat) : Nat → Option Spec := cfgL [(85, sp85 k)]
noncomputable def co82_0 : Code := codeAt (bodyOf Try.f82) [.r, .r, .r, .r, .l, .r, .s]
noncomputable def cb82_0 : Code := codeAt (bodyOf Try.f82) [.r, .r, .r, .r, .l, .r, .s, .b]
noncomputable def co82_1 : Code := codeAt (bodyOf Try.f82) [.r, .r, .r, .r, .r, .l, .r, .s]
noncomputable def cb82_1 : Code := codeAt (bodyOf Try.f82) [.r, .r, .r, .r, .r, .l, .r, .s, .b]
noncomputable def co82 : Code := codeAt (bodyOf Try.f82) []
theorem cfg82_ok (k : Nat) : CfgOK Try.prog (cfg82 k) := cfgL_cons (v85 k) (cfgL_nil)
noncomputable def bo82_0 (k m : Nat) (v : (fr82_0 k).sh.V) := body Try.prog (stepper Try.prog (cfg82 k) lim82) .go cb82_0 ((fr82_0 k).sh.st v) (loopK (fr82_0 k) fun v => F82_0 k m v.1.1 v.1.2.1 v.2.1 v.2.2.1 v.2.2.2.1 v.2.2.2.2.1)
theorem pp82_0 (k m : Nat) (v : (fr82_0 k).sh.V) : F82_0 k (m + 1) v.1.1 v.1.2.1 v.2.1 v.2.2.1 v.2.2.2.1 v.2.2.2.2.1 = (bo82_0 k m v).eval ∧ (bo82_0 k m v).left = (bo82_0 k m v).right := ⟨by kernel_rfl, by kernel_rfl⟩
theorem fr82_0_ok (k : Nat) : FragOK Try.prog lim82 (fr82_0 k) co82_0 :=
 frag_cast (by kernel_rfl) (loop_ok (cfg82_ok k) (planOK_go _) (fun m v => F82_0 k m v.1.1 v.1.2.1 v.2.1 v.2.2.1 v.2.2.2.1 v.2.2.2.2.1) k (fun _ => rfl) (fun _ => rfl) (pp82_0 k))
noncomputable def bo82_1 (k m : Nat) (v : (fr82_1 k).sh.V) := body Try.prog (stepper Try.prog (cfg82 k) lim82) .go cb82_1 ((fr82_1 k).sh.st v) (loopK (fr82_1 k) fun v => F82_1 k m v.1.1 v.1.2.1 v.2.1 v.2.2.1 v.2.2.2.1)
theorem pp82_1 (k m : Nat) (v : (fr82_1 k).sh.V) : F82_1 k (m + 1) v.1.1 v.1.2.1 v.2.1 v.2.2.1 v.2.2.2.1 = (bo82_1 k m v).eval ∧ (bo82_1 k m v).left = (bo82_1 k m v).right := ⟨by kernel_rfl, by kernel_rfl⟩
theorem fr82_1_ok (k : Nat) : FragOK Try.prog lim82 (fr82_1 k) co82_1 :=
 frag_cast (by kernel_rfl) (loop_ok (cfg82_ok k) (planOK_go _) (fun m v => F82_1 k m v.1.1 v.1.2.1 v.2.1 v.2.2.1 v.2.2.2.1) k (fun _ => rfl) (fun _ => rfl) (pp82_1 k))
def pl82 (k : Nat) : Plan := (.seq .go (.seq .go (.seq .go (.seq .go (.seq (.seq .go (.sub (.frag (fr82_0 k)))) (.seq (.seq .go (.sub (.frag (fr82_1 k)))) .go))))))
theorem pq82 (k : Nat) : PlanOK Try.prog lim82 (pl82 k) co82 = (PlanOK Try.prog lim82 .go (codeAt (bodyOf Try.f82) [.l]) ∧ (PlanOK Try.prog lim82 .go (codeAt (bodyOf Try.f82) [.r, .l]) ∧ (PlanOK Try.prog lim82 .go (codeAt (bodyOf Try.f82) [.r, .r, .l]) ∧ (PlanOK Try.prog lim82 .go (codeAt (bodyOf Try.f82) [.r, .r, .r, .l]) ∧ ((PlanOK Try.prog lim82 .go (codeAt (bodyOf Try.f82) [.r, .r, .r, .r, .l, .l]) ∧ FragOK Try.prog lim82 (fr82_0 k) co82_0) ∧ ((PlanOK Try.prog lim82 .go (codeAt (bodyOf Try.f82) [.r, .r, .r, .r, .r, .l, .l]) ∧ FragOK Try.prog lim82 (fr82_1 k) co82_1) ∧ PlanOK Try.prog lim82 .go (codeAt (bodyOf Try.f82) [.r, .r, .r, .r, .r, .r]))))))) := by kernel_rfl
noncomputable def bo82 (k : Nat) (x : AT (sp82 k).ps) := fnT Try.prog (cfg82 k) lim82 Try.f82 (bodyOf Try.f82) (pl82 k) (sp82 k) x
theorem vv82 (k : Nat) (x : AT (sp82 k).ps) : (sp82 k).impl x = (bo82 k x).eval ∧ (bo82 k x).left = (bo82 k x).right := ⟨by kernel_rfl, by kernel_rfl⟩
theorem v82 (k : Nat) : Callable Try.prog 82 ∧ Valid Try.prog 82 (sp82 k) :=
 fn_of (n := lim82) (fn := Try.f82) (p := (pl82 k)) (cfg82_ok k) (by kernel_rfl) (Eq.mpr (pq82 k) ⟨(planOK_go _), ⟨(planOK_go _), ⟨(planOK_go _), ⟨(planOK_go _), ⟨⟨(planOK_go _), (fr82_0_ok k)⟩, ⟨⟨(planOK_go _), (fr82_1_ok k)⟩, (planOK_go _)⟩⟩⟩⟩⟩⟩) (vv82 k)
def F83_0 (k : Nat) : Nat → Int → Int → TY31 → TY31 → TY56 → Option (((Int × Unit) × TY12))
 | 0, _, _, _, _, _ => none
 | n + 1, t4, t5, c1, c2, c2000003 =>
  let x3 := (decide (t5 < ((List.length c1.1 : Nat) : Int)))
  bif x3 then
   if 0 ≤ t4 ∧ t4 < ((List.length c1.2.2.1 : Nat) : Int) then
    let x4 := (List.getD c1.2.2.1 (Int.toNat t4) (0 : Int))
    if 0 ≤ t5 ∧ t5 < ((List.length c1.2.1 : Nat) : Int) then
     (F69 k x4 (List.getD c1.2.1 (Int.toNat t5) (0 : Int))).bind fun r5 =>
     (F86 k c2000003 (t4, (t5, (r5.1.1, ())))).bind fun r6 =>
     (F83_0 k n t4 (IntKind.wrap .i64 (t5 + (1 : Int))) c1 c2 r6.1.1).bind some
    else none
   else none
  else
   some ((t4, ()), (c1, c2, c2000003, ()))
def fr83_0 (k : Nat) : Frag := ⟨⟨[(3, KD38)], [(1, .ptr 1 []), (2, .ptr 2 []), (3, .at 2000003 []), (4, .val (.int .i64)), (5, .val (.int .i64))], [(1, some 65, KD14), (2, some 65, KD14), (2000003, none, KD38)]⟩, [(.exit 2, ⟨[(3, KD38)], [(1, .ptr 1 []), (2, .ptr 2 []), (3, .at 2000003 []), (4, .val (.int .i64))], [(1, some 65, KD14), (2, some 65, KD14), (2000003, none, KD38)]⟩)], fun v => F83_0 k k v.1.1 v.1.2.1 v.2.1 v.2.2.1 v.2.2.2.1⟩
def F83_1 (k : Nat) : Nat → Int → TY31 → TY31 → TY56 → Option ((Unit × TY12))
 | 0, _, _, _, _ => none
 | n + 1, t4, c1, c2, c2000003 =>
  let x2 := (decide (t4 < ((List.length c1.1 : Nat) : Int)))
  bif x2 then
   (F83_0 k k t4 (0 : Int) c1 c2 c2000003).bind fun r7 =>
   let y8 := r7.1.1
   let y9 := r7.2.1
   let y10 := r7.2.2.1
   let y11 := r7.2.2.2.1
   (F83_1 k n (IntKind.wrap .i64 (y8 + (1 : Int))) y9 y10 y11).bind some
  else
   some ((), (c1, c2, c2000003, ()))
def fr83_1 (k : Nat) : Frag := ⟨⟨[(3, KD38)], [(1, .ptr 1 []), (2, .ptr 2 []), (3, .at 2000003 []), (4, .val (.int .i64))], [(1, some 65, KD14), (2, some 65, KD14), (2000003, none, KD38)]⟩, [(.exit 0, ⟨[(3, KD38)], [(1, .ptr 1 []), (2, .ptr 2 []), (3, .at 2000003 [])], [(1, some 65, KD14), (2, some 65, KD14), (2000003, none, KD38)]⟩)], fun v => F83_1 k k v.1.1 v.2.1 v.2.2.1 v.2.2.2.1⟩
def F83 (k : Nat) (a0 : TY31) : Option TY25 :=
 let x1 := (List.replicate 0 ((0 : Int), ((0 : Int), ((0 : Int), ()))))
 if (List.length x1 + List.length a0.2.2.2.1) * (24 * 2) ≤ 281474976710656 ∧ List.length x1 + List.length a0.2.2.2.1 ≤ 9223372036854775807 then
  (F83_1 k k (0 : Int) (a0.1, (a0.2.1, (a0.2.2.1, (a0.2.2.2.1, ((0 : Int), a0.2.2.2.2.2))))) (([] : (List Int)), (([] : (List Int)), (([] : (List Int)), (([] : TY56), ((0 : Int), ()))))) (x1 ++ a0.2.2.2.1)).bind fun r12 =>
  let y13 := r12.2.1
  let y15 := r12.2.2.2.1
  some (((y13.1, (y13.2.1, (y13.2.2.1, (y15, y13.2.2.2.2)))), ()), ())
 else none
def sp83 (k : Nat) : Spec := ⟨[.own KD14], [.own KD14], fun x => F83 k x.1⟩
def lim83 : Lim := ⟨44, 1, false, false, [], []⟩
def cfg83 (k : Nat) : Nat → Option Spec := cfgL [(69, sp69 k), (86, sp86 k)]
noncomputable def co83_0 : Code := codeAt (bodyOf Try.f83) [.r, .r, .r, .l, .r, .s, .b, .r, .l, .s, .r, .s]
noncomputable def cb83_0 : Code := codeAt (bodyOf Try.f83) [.r, .r, .r, .l, .r, .s, .b, .r, .l, .s, .r, .s, .b]
noncomputable def co83_1 : Code := codeAt (bodyOf Try.f83) [.r, .r, .r, .l, .r, .s]
noncomputable def cb83_1 : Code := codeAt (bodyOf Try.f83) [.r, .r, .r, .l, .r, .s, .b]
noncomputable def co83 : Code := codeAt (bodyOf Try.f83) []
theorem cfg83_ok (k : Nat) : CfgOK Try.prog (cfg83 k) := cfgL_cons (v69 k) (cfgL_cons (v86 k) (cfgL_nil))
noncomputable def bo83_0 (k m : Nat) (v : (fr83_0 k).sh.V) := body Try.prog (stepper Try.prog (cfg83 k) lim83) .go cb83_0 ((fr83_0 k).sh.st v) (loopK (fr83_0 k) fun v => F83_0 k m v.1.1 v.1.2.1 v.2.1 v.2.2.1 v.2.2.2.1)
theorem pp83_0 (k m : Nat) (v : (fr83_0 k).sh.V) : F83_0 k (m + 1) v.1.1 v.1.2.1 v.2.1 v.2.2.1 v.2.2.2.1 = (bo83_0 k m v).eval ∧ (bo83_0 k m v).left = (bo83_0 k m v).right := ⟨by kernel_rfl, by kernel_rfl⟩
theorem fr83_0_ok (k : Nat) : FragOK Try.prog lim83 (fr83_0 k) co83_0 :=
 frag_cast (by kernel_rfl) (loop_ok (cfg83_ok k) (planOK_go _) (fun m v => F83_0 k m v.1.1 v.1.2.1 v.2.1 v.2.2.1 v.2.2.2.1) k (fun _ => rfl) (fun _ => rfl) (pp83_0 k))
def pl83_1 (k : Nat) : Plan := (.seq .go (.seq (.sub (.seq .go (.sub (.frag (fr83_0 k))))) .go))
theorem pq83_1 (k : Nat) : PlanOK Try.prog lim83 (pl83_1 k) cb83_1 = (PlanOK Try.prog lim83 .go (codeAt (bodyOf Try.f83) [.r, .r, .r, .l, .r, .s, .b, .l]) ∧ ((PlanOK Try.prog lim83 .go (codeAt (bodyOf Try.f83) [.r, .r, .r, .l, .r, .s, .b, .r, .l, .s, .l]) ∧ FragOK Try.prog lim83 (fr83_0 k) co83_0) ∧ PlanOK Try.prog lim83 .go (codeAt (bodyOf Try.f83) [.r, .r, .r, .l, .r, .s, .b, .r, .r]))) := by kernel_rfl
noncomputable def bo83_1 (k m : Nat) (v : (fr83_1 k).sh.V) := body Try.prog (stepper Try.prog (cfg83 k) lim83) (pl83_1 k) cb83_1 ((fr83_1 k).sh.st v) (loopK (fr83_1 k) fun v => F83_1 k m v.1.1 v.2.1 v.2.2.1 v.2.2.2.1)
theorem pp83_1 (k m : Nat) (v : (fr83_1 k).sh.V) : F83_1 k (m + 1) v.1.1 v.2.1 v.2.2.1 v.2.2.2.1 = (bo83_1 k m v).eval ∧ (bo83_1 k m v).left = (bo83_1 k m v).right := ⟨by kernel_rfl, by kernel_rfl⟩
theorem fr83_1_ok (k : Nat) : FragOK Try.prog lim83 (fr83_1 k) co83_1 :=
 frag_cast (by kernel_rfl) (loop_ok (cfg83_ok k) (Eq.mpr (pq83_1 k) ⟨(planOK_go _), ⟨⟨(planOK_go _), (fr83_0_ok k)⟩, (planOK_go _)⟩⟩) (fun m v => F83_1 k m v.1.1 v.2.1 v.2.2.1 v.2.2.2.1) k (fun _ => rfl) (fun _ => rfl) (pp83_1 k))
def pl83 (k : Nat) : Plan := (.seq .go (.seq .go (.seq .go (.seq (.seq .go (.sub (.frag (fr83_1 k)))) .go))))
theorem pq83 (k : Nat) : PlanOK Try.prog lim83 (pl83 k) co83 = (PlanOK Try.prog lim83 .go (codeAt (bodyOf Try.f83) [.l]) ∧ (PlanOK Try.prog lim83 .go (codeAt (bodyOf Try.f83) [.r, .l]) ∧ (PlanOK Try.prog lim83 .go (codeAt (bodyOf Try.f83) [.r, .r, .l]) ∧ ((PlanOK Try.prog lim83 .go (codeAt (bodyOf Try.f83) [.r, .r, .r, .l, .l]) ∧ FragOK Try.prog lim83 (fr83_1 k) co83_1) ∧ PlanOK Try.prog lim83 .go (codeAt (bodyOf Try.f83) [.r, .r, .r, .r]))))) := by kernel_rfl
noncomputable def bo83 (k : Nat) (x : AT (sp83 k).ps) := fnT Try.prog (cfg83 k) lim83 Try.f83 (bodyOf Try.f83) (pl83 k) (sp83 k) x
theorem vv83 (k : Nat) (x : AT (sp83 k).ps) : (sp83 k).impl x = (bo83 k x).eval ∧ (bo83 k x).left = (bo83 k x).right := ⟨by kernel_rfl, by kernel_rfl⟩
theorem v83 (k : Nat) : Callable Try.prog 83 ∧ Valid Try.prog 83 (sp83 k) :=
 fn_of (n := lim83) (fn := Try.f83) (p := (pl83 k)) (cfg83_ok k) (by kernel_rfl) (Eq.mpr (pq83 k) ⟨(planOK_go _), ⟨(planOK_go _), ⟨(planOK_go _), ⟨⟨(planOK_go _), (fr83_1_ok k)⟩, (planOK_go _)⟩⟩⟩⟩) (vv83 k)
def rs57 (f57 : (TY46 → TY11 → Option TY25)) : Spec := ⟨[.val KD26, .val KD4], [.own KD14], fun x => f57 x.1 x.2.1⟩
def F57_0 (k : Nat) (f57 : (TY46 → TY11 → Option TY25)) : Nat → Int → TY24 → TY31 → TY31 → Option TY15
 | 0, _, _, _, _ => none
 | n + 1, t7, c2, c4, c6 =>
  let x30 := (decide (t7 < ((List.length c6.2.1 : Nat) : Int)))
  bif x30 then
   if 0 ≤ t7 ∧ t7 < ((List.length c6.2.1 : Nat) : Int) then
    (F69 k (List.getD c6.2.1 (Int.toNat t7) (0 : Int)) c2.2.2.2.1).bind fun r31 =>
    if 0 ≤ t7 ∧ t7 < ((List.length c6.2.1 : Nat) : Int) then
     (F57_0 k f57 n (IntKind.wrap .i64 (t7 + (1 : Int))) c2 c4 (c6.1, ((List.set c6.2.1 (Int.toNat t7) r31.1.1), c6.2.2))).bind some
    else none
   else none
  else
   some ((), (c4, c6, ()))
def fr57_0 (k : Nat) (f57 : (TY46 → TY11 → Option TY25)) : Frag := ⟨⟨[], [(2, .ptr 2 []), (4, .ptr 4 []), (6, .ptr 6 []), (7, .val (.int .i64))], [(2, some 55, KD18), (4, some 65, KD14), (6, some 65, KD14)]⟩, [(.exit 1, ⟨[], [(4, .ptr 4 []), (6, .ptr 6 [])], [(4, some 65, KD14), (6, some 65, KD14)]⟩)], fun v => F57_0 k f57 k v.1.1 v.2.1 v.2.2.1 v.2.2.2.1⟩
def F57_1 (k : Nat) (f57 : (TY46 → TY11 → Option TY25)) : Nat → Int → TY24 → TY31 → TY31 → TY31 → Option TY15
 | 0, _, _, _, _, _ => none
 | n + 1, t10, c2, c4, c8, c9 =>
  bif (decide (t10 ≥ (1 : Int))) then
   (F81 k c9 c8).bind fun r39 =>
   bif (decide (t10 > c2.2.1)) then
    (F57_1 k f57 n (IntKind.wrap .i64 (t10 - (1 : Int))) c2 c4 (r39.1.1.1, (r39.1.1.2.1, (r39.1.1.2.2.1, (r39.1.1.2.2.2.1, ((0 : Int), r39.1.1.2.2.2.2.2))))) c9).bind some
   else
    (F57_1 k f57 n (IntKind.wrap .i64 (t10 - (1 : Int))) c2 c4 r39.1.1 c9).bind some
  else
   some ((), (c4, c8, ()))
def fr57_1 (k : Nat) (f57 : (TY46 → TY11 → Option TY25)) : Frag := ⟨⟨[], [(2, .ptr 2 []), (4, .ptr 4 []), (8, .ptr 8 []), (9, .ptr 9 []), (10, .val (.int .i64))], [(2, some 55, KD18), (4, some 65, KD14), (8, some 65, KD14), (9, some 65, KD14)]⟩, [(.exit 3, ⟨[], [(4, .ptr 4 []), (8, .ptr 8 [])], [(4, some 65, KD14), (8, some 65, KD14)]⟩)], fun v => F57_1 k f57 k v.1.1 v.2.1 v.2.2.1 v.2.2.2.1 v.2.2.2.2.1⟩
def B57 (k : Nat) (f57 : (TY46 → TY11 → Option TY25)) (a0 : TY46) (a1 : TY11) : Option TY25 :=
 bif ((Tree.a a0).1 == (1 : Int)) then
  (F79 k).bind fun r1 =>
  some ((r1.1.1, ()), ())
 else
  bif ((Tree.a a0).1 == (2 : Int)) then
   (F80 k (1 : Int)).bind fun r2 =>
   if 0 ≤ (0 : Int) ∧ (0 : Int) < ((List.length r2.1.1.1 : Nat) : Int) then
    let x3 := (List.set r2.1.1.1 (Int.toNat (0 : Int)) (-1 : Int))
    if 0 ≤ (0 : Int) ∧ (0 : Int) < ((List.length r2.1.1.2.1 : Nat) : Int) then
     let x4 := (List.set r2.1.1.2.1 (Int.toNat (0 : Int)) (0 : Int))
     if 0 ≤ (0 : Int) ∧ (0 : Int) < ((List.length r2.1.1.2.2.1 : Nat) : Int) then
      let x5 := (List.set r2.1.1.2.2.1 (Int.toNat (0 : Int)) (0 : Int))
      bif ((Tree.a a0).1 == (2 : Int)) then
       (F66 k a1 (Tree.a a0).2.2.2.2.1).bind fun r6 =>
       if 0 ≤ (0 : Int) ∧ (0 : Int) < ((List.length x3 : Nat) : Int) then
        some ((((List.set x3 (Int.toNat (0 : Int)) r6.1.1), (x4, (x5, r2.1.1.2.2.2))), ()), ())
       else none
      else
       some (((x3, (x4, (x5, r2.1.1.2.2.2))), ()), ())
     else none
    else none
   else none
  else
   bif ((Tree.a a0).1 == (3 : Int)) then
    (F80 k (1 : Int)).bind fun r7 =>
    if 0 ≤ (0 : Int) ∧ (0 : Int) < ((List.length r7.1.1.1 : Nat) : Int) then
     let x8 := (List.set r7.1.1.1 (Int.toNat (0 : Int)) (-1 : Int))
     if 0 ≤ (0 : Int) ∧ (0 : Int) < ((List.length r7.1.1.2.1 : Nat) : Int) then
      let x9 := (List.set r7.1.1.2.1 (Int.toNat (0 : Int)) (0 : Int))
      if 0 ≤ (0 : Int) ∧ (0 : Int) < ((List.length r7.1.1.2.2.1 : Nat) : Int) then
       let x10 := (List.set r7.1.1.2.2.1 (Int.toNat (0 : Int)) (0 : Int))
       bif ((Tree.a a0).1 == (2 : Int)) then
        (F66 k a1 (Tree.a a0).2.2.2.2.1).bind fun r11 =>
        if 0 ≤ (0 : Int) ∧ (0 : Int) < ((List.length x8 : Nat) : Int) then
         some ((((List.set x8 (Int.toNat (0 : Int)) r11.1.1), (x9, (x10, r7.1.1.2.2.2))), ()), ())
        else none
       else
        some (((x8, (x9, (x10, r7.1.1.2.2.2))), ()), ())
      else none
     else none
    else none
   else
    bif ((Tree.a a0).1 == (4 : Int)) then
     if 0 ≤ (0 : Int) ∧ (0 : Int) < ((List.length (Tree.l a0) : Nat) : Int) then
      let x12 := (List.getD (Tree.l a0) (Int.toNat (0 : Int)) (Tree.mk ((0 : Int), ((0 : Int), ((0 : Int), ((0 : Int), (ByteArray.empty, ()))))) []))
      if 0 ≤ (1 : Int) ∧ (1 : Int) < ((List.length (Tree.l a0) : Nat) : Int) then
       let x13 := (List.getD (Tree.l a0) (Int.toNat (1 : Int)) (Tree.mk ((0 : Int), ((0 : Int), ((0 : Int), ((0 : Int), (ByteArray.empty, ()))))) []))
       (f57 x12 a1).bind fun r14 =>
       (f57 x13 a1).bind fun r15 =>
       (F81 k r14.1.1 r15.1.1).bind fun r16 =>
       some ((r16.1.1, ()), ())
      else none
     else none
    else
     bif ((Tree.a a0).1 == (5 : Int)) then
      if 0 ≤ (0 : Int) ∧ (0 : Int) < ((List.length (Tree.l a0) : Nat) : Int) then
       let x17 := (List.getD (Tree.l a0) (Int.toNat (0 : Int)) (Tree.mk ((0 : Int), ((0 : Int), ((0 : Int), ((0 : Int), (ByteArray.empty, ()))))) []))
       if 0 ≤ (1 : Int) ∧ (1 : Int) < ((List.length (Tree.l a0) : Nat) : Int) then
        let x18 := (List.getD (Tree.l a0) (Int.toNat (1 : Int)) (Tree.mk ((0 : Int), ((0 : Int), ((0 : Int), ((0 : Int), (ByteArray.empty, ()))))) []))
        (f57 x17 a1).bind fun r19 =>
        (f57 x18 a1).bind fun r20 =>
        (F82 k r19.1.1 r20.1.1).bind fun r21 =>
        some ((r21.1.1, ()), ())
       else none
      else none
     else
      bif ((Tree.a a0).1 == (6 : Int)) then
       if 0 ≤ (0 : Int) ∧ (0 : Int) < ((List.length (Tree.l a0) : Nat) : Int) then
        let x22 := (List.getD (Tree.l a0) (Int.toNat (0 : Int)) (Tree.mk ((0 : Int), ((0 : Int), ((0 : Int), ((0 : Int), (ByteArray.empty, ()))))) []))
        (f57 x22 a1).bind fun r23 =>
        (F83 k r23.1.1).bind fun r24 =>
        some ((r24.1.1, ()), ())
       else none
      else
       bif ((Tree.a a0).1 == (8 : Int)) then
        if 0 ≤ (0 : Int) ∧ (0 : Int) < ((List.length (Tree.l a0) : Nat) : Int) then
         let x25 := (List.getD (Tree.l a0) (Int.toNat (0 : Int)) (Tree.mk ((0 : Int), ((0 : Int), ((0 : Int), ((0 : Int), (ByteArray.empty, ()))))) []))
         (f57 x25 a1).bind fun r26 =>
         (F69 k r26.1.1.2.2.2.2.1 (Tree.a a0).2.2.2.1).bind fun r27 =>
         (F57_0 k f57 k (0 : Int) ((Tree.a a0).1, ((Tree.a a0).2.1, ((Tree.a a0).2.2.1, ((Tree.a a0).2.2.2.1, ((Tree.a a0).2.2.2.2.1, ((Tree.l a0), ())))))) (([] : (List Int)), (([] : (List Int)), (([] : (List Int)), (([] : TY56), ((0 : Int), ()))))) (r26.1.1.1, (r26.1.1.2.1, (r26.1.1.2.2.1, (r26.1.1.2.2.2.1, (r27.1.1, r26.1.1.2.2.2.2.2)))))).bind fun r32 =>
         let y34 := r32.2.2.1
         some ((y34, ()), ())
        else none
       else
        if 0 ≤ (0 : Int) ∧ (0 : Int) < ((List.length (Tree.l a0) : Nat) : Int) then
         let x35 := (List.getD (Tree.l a0) (Int.toNat (0 : Int)) (Tree.mk ((0 : Int), ((0 : Int), ((0 : Int), ((0 : Int), (ByteArray.empty, ()))))) []))
         (F79 k).bind fun r36 =>
         (f57 x35 a1).bind fun r37 =>
         (F57_1 k f57 k (Tree.a a0).2.2.1 ((Tree.a a0).1, ((Tree.a a0).2.1, ((Tree.a a0).2.2.1, ((Tree.a a0).2.2.2.1, ((Tree.a a0).2.2.2.2.1, ((Tree.l a0), ())))))) (([] : (List Int)), (([] : (List Int)), (([] : (List Int)), (([] : TY56), ((0 : Int), ()))))) r36.1.1 r37.1.1).bind fun r40 =>
         let y42 := r40.2.2.1
         some ((y42, ()), ())
        else none
def sb57 (k : Nat) (f57 : (TY46 → TY11 → Option TY25)) : Spec := rs57 (B57 k f57)
def lim57 : Lim := ⟨135, 2, false, false, [], []⟩
def cfg57 (k : Nat) (f57 : (TY46 → TY11 → Option TY25)) : Nat → Option Spec := cfgL [(57, rs57 f57), (66, sp66 k), (69, sp69 k), (79, sp79 k), (80, sp80 k), (81, sp81 k), (82, sp82 k), (83, sp83 k)]
noncomputable def co57_0 : Code := codeAt (bodyOf Try.f57) [.r, .l, .r, .s, .r, .r, .r, .r, .r, .r, .r, .r, .r, .r, .r, .l, .r, .r, .l, .r, .s]
noncomputable def cb57_0 : Code := codeAt (bodyOf Try.f57) [.r, .l, .r, .s, .r, .r, .r, .r, .r, .r, .r, .r, .r, .r, .r, .l, .r, .r, .l, .r, .s, .b]
noncomputable def co57_1 : Code := codeAt (bodyOf Try.f57) [.r, .r, .r, .l, .r, .s]
noncomputable def cb57_1 : Code := codeAt (bodyOf Try.f57) [.r, .r, .r, .l, .r, .s, .b]
noncomputable def co57 : Code := codeAt (bodyOf Try.f57) []
theorem cfg57_ok (k : Nat) (f57 : (TY46 → TY11 → Option TY25)) (h57 : Callable Try.prog 57 ∧ Valid Try.prog 57 (rs57 f57)) : CfgOK Try.prog (cfg57 k f57) := cfgL_cons h57 (cfgL_cons (v66 k) (cfgL_cons (v69 k) (cfgL_cons (v79 k) (cfgL_cons (v80 k) (cfgL_cons (v81 k) (cfgL_cons (v82 k) (cfgL_cons (v83 k) (cfgL_nil))))))))
noncomputable def bo57_0 (k : Nat) (f57 : (TY46 → TY11 → Option TY25)) (m : Nat) (v : (fr57_0 k f57).sh.V) := body Try.prog (stepper Try.prog (cfg57 k f57) lim57) .go cb57_0 ((fr57_0 k f57).sh.st v) (loopK (fr57_0 k f57) fun v => F57_0 k f57 m v.1.1 v.2.1 v.2.2.1 v.2.2.2.1)
theorem pp57_0 (k : Nat) (f57 : (TY46 → TY11 → Option TY25)) (m : Nat) (v : (fr57_0 k f57).sh.V) : F57_0 k f57 (m + 1) v.1.1 v.2.1 v.2.2.1 v.2.2.2.1 = (bo57_0 k f57 m v).eval ∧ (bo57_0 k f57 m v).left = (bo57_0 k f57 m v).right := ⟨by kernel_rfl, by kernel_rfl⟩
theorem fr57_0_ok (k : Nat) (f57 : (TY46 → TY11 → Option TY25)) (h57 : Callable Try.prog 57 ∧ Valid Try.prog 57 (rs57 f57)) : FragOK Try.prog lim57 (fr57_0 k f57) co57_0 :=
 frag_cast (by kernel_rfl) (loop_ok (cfg57_ok k f57 h57) (planOK_go _) (fun m v => F57_0 k f57 m v.1.1 v.2.1 v.2.2.1 v.2.2.2.1) k (fun _ => rfl) (fun _ => rfl) (pp57_0 k f57))
noncomputable def bo57_1 (k : Nat) (f57 : (TY46 → TY11 → Option TY25)) (m : Nat) (v : (fr57_1 k f57).sh.V) := body Try.prog (stepper Try.prog (cfg57 k f57) lim57) .go cb57_1 ((fr57_1 k f57).sh.st v) (loopK (fr57_1 k f57) fun v => F57_1 k f57 m v.1.1 v.2.1 v.2.2.1 v.2.2.2.1 v.2.2.2.2.1)
theorem pp57_1 (k : Nat) (f57 : (TY46 → TY11 → Option TY25)) (m : Nat) (v : (fr57_1 k f57).sh.V) : F57_1 k f57 (m + 1) v.1.1 v.2.1 v.2.2.1 v.2.2.2.1 v.2.2.2.2.1 = (bo57_1 k f57 m v).eval ∧ (bo57_1 k f57 m v).left = (bo57_1 k f57 m v).right := ⟨by kernel_rfl, by kernel_rfl⟩
theorem fr57_1_ok (k : Nat) (f57 : (TY46 → TY11 → Option TY25)) (h57 : Callable Try.prog 57 ∧ Valid Try.prog 57 (rs57 f57)) : FragOK Try.prog lim57 (fr57_1 k f57) co57_1 :=
 frag_cast (by kernel_rfl) (loop_ok (cfg57_ok k f57 h57) (planOK_go _) (fun m v => F57_1 k f57 m v.1.1 v.2.1 v.2.2.1 v.2.2.2.1 v.2.2.2.2.1) k (fun _ => rfl) (fun _ => rfl) (pp57_1 k f57))
def pl57 (k : Nat) (f57 : (TY46 → TY11 → Option TY25)) : Plan := (.seq .go (.seq (.seq .go (.sub (.seq .go (.seq .go (.seq .go (.seq .go (.seq .go (.seq .go (.seq .go (.seq .go (.seq .go (.seq .go (.seq .go (.seq (.seq .go (.seq .go (.seq (.seq .go (.sub (.frag (fr57_0 k f57)))) .go))) .go)))))))))))))) (.seq .go (.seq (.seq .go (.sub (.frag (fr57_1 k f57)))) .go))))
theorem pq57 (k : Nat) (f57 : (TY46 → TY11 → Option TY25)) : PlanOK Try.prog lim57 (pl57 k f57) co57 = (PlanOK Try.prog lim57 .go (codeAt (bodyOf Try.f57) [.l]) ∧ ((PlanOK Try.prog lim57 .go (codeAt (bodyOf Try.f57) [.r, .l, .l]) ∧ (PlanOK Try.prog lim57 .go (codeAt (bodyOf Try.f57) [.r, .l, .r, .s, .l]) ∧ (PlanOK Try.prog lim57 .go (codeAt (bodyOf Try.f57) [.r, .l, .r, .s, .r, .l]) ∧ (PlanOK Try.prog lim57 .go (codeAt (bodyOf Try.f57) [.r, .l, .r, .s, .r, .r, .l]) ∧ (PlanOK Try.prog lim57 .go (codeAt (bodyOf Try.f57) [.r, .l, .r, .s, .r, .r, .r, .l]) ∧ (PlanOK Try.prog lim57 .go (codeAt (bodyOf Try.f57) [.r, .l, .r, .s, .r, .r, .r, .r, .l]) ∧ (PlanOK Try.prog lim57 .go (codeAt (bodyOf Try.f57) [.r, .l, .r, .s, .r, .r, .r, .r, .r, .l]) ∧ (PlanOK Try.prog lim57 .go (codeAt (bodyOf Try.f57) [.r, .l, .r, .s, .r, .r, .r, .r, .r, .r, .l]) ∧ (PlanOK Try.prog lim57 .go (codeAt (bodyOf Try.f57) [.r, .l, .r, .s, .r, .r, .r, .r, .r, .r, .r, .l]) ∧ (PlanOK Try.prog lim57 .go (codeAt (bodyOf Try.f57) [.r, .l, .r, .s, .r, .r, .r, .r, .r, .r, .r, .r, .l]) ∧ (PlanOK Try.prog lim57 .go (codeAt (bodyOf Try.f57) [.r, .l, .r, .s, .r, .r, .r, .r, .r, .r, .r, .r, .r, .l]) ∧ (PlanOK Try.prog lim57 .go (codeAt (bodyOf Try.f57) [.r, .l, .r, .s, .r, .r, .r, .r, .r, .r, .r, .r, .r, .r, .l]) ∧ ((PlanOK Try.prog lim57 .go (codeAt (bodyOf Try.f57) [.r, .l, .r, .s, .r, .r, .r, .r, .r, .r, .r, .r, .r, .r, .r, .l, .l]) ∧ (PlanOK Try.prog lim57 .go (codeAt (bodyOf Try.f57) [.r, .l, .r, .s, .r, .r, .r, .r, .r, .r, .r, .r, .r, .r, .r, .l, .r, .l]) ∧ ((PlanOK Try.prog lim57 .go (codeAt (bodyOf Try.f57) [.r, .l, .r, .s, .r, .r, .r, .r, .r, .r, .r, .r, .r, .r, .r, .l, .r, .r, .l, .l]) ∧ FragOK Try.prog lim57 (fr57_0 k f57) co57_0) ∧ PlanOK Try.prog lim57 .go (codeAt (bodyOf Try.f57) [.r, .l, .r, .s, .r, .r, .r, .r, .r, .r, .r, .r, .r, .r, .r, .l, .r, .r, .r])))) ∧ PlanOK Try.prog lim57 .go (codeAt (bodyOf Try.f57) [.r, .l, .r, .s, .r, .r, .r, .r, .r, .r, .r, .r, .r, .r, .r, .r])))))))))))))) ∧ (PlanOK Try.prog lim57 .go (codeAt (bodyOf Try.f57) [.r, .r, .l]) ∧ ((PlanOK Try.prog lim57 .go (codeAt (bodyOf Try.f57) [.r, .r, .r, .l, .l]) ∧ FragOK Try.prog lim57 (fr57_1 k f57) co57_1) ∧ PlanOK Try.prog lim57 .go (codeAt (bodyOf Try.f57) [.r, .r, .r, .r]))))) := by kernel_rfl
noncomputable def bo57 (k : Nat) (f57 : (TY46 → TY11 → Option TY25)) (x : AT (sb57 k f57).ps) := fnT Try.prog (cfg57 k f57) lim57 Try.f57 (bodyOf Try.f57) (pl57 k f57) (sb57 k f57) x
theorem vv57 (k : Nat) (f57 : (TY46 → TY11 → Option TY25)) (x : AT (sb57 k f57).ps) : (sb57 k f57).impl x = (bo57 k f57 x).eval ∧ (bo57 k f57 x).left = (bo57 k f57 x).right := ⟨by kernel_rfl, by kernel_rfl⟩
theorem b57 (k : Nat) (f57 : (TY46 → TY11 → Option TY25)) (h57 : Callable Try.prog 57 ∧ Valid Try.prog 57 (rs57 f57)) : Callable Try.prog 57 ∧ Valid Try.prog 57 (sb57 k f57) :=
 fn_of (n := lim57) (fn := Try.f57) (p := (pl57 k f57)) (cfg57_ok k f57 h57) (by kernel_rfl) (Eq.mpr (pq57 k f57) ⟨(planOK_go _), ⟨⟨(planOK_go _), ⟨(planOK_go _), ⟨(planOK_go _), ⟨(planOK_go _), ⟨(planOK_go _), ⟨(planOK_go _), ⟨(planOK_go _), ⟨(planOK_go _), ⟨(planOK_go _), ⟨(planOK_go _), ⟨(planOK_go _), ⟨(planOK_go _), ⟨⟨(planOK_go _), ⟨(planOK_go _), ⟨⟨(planOK_go _), (fr57_0_ok k f57 h57)⟩, (planOK_go _)⟩⟩⟩, (planOK_go _)⟩⟩⟩⟩⟩⟩⟩⟩⟩⟩⟩⟩⟩, ⟨(planOK_go _), ⟨⟨(planOK_go _), (fr57_1_ok k f57 h57)⟩, (planOK_go _)⟩⟩⟩⟩) (vv57 k f57)
def R57 : Nat → (TY46 → TY11 → Option TY25)
 | 0 => fun _ _ => none
 | k + 1 => B57 k (R57 k)
def F57 (k : Nat) (a0_ : TY46) (a1_ : TY11) : Option TY25 := (R57 k) a0_ a1_
def sp57 (k : Nat) : Spec := ⟨[.val KD26, .val KD4], [.own KD14], fun x => F57 k x.1 x.2.1⟩
theorem r57 (k : Nat) : (Callable Try.prog 57 ∧ Valid Try.prog 57 (rs57 (R57 k))) := by
 induction k with
 | zero => exact ⟨⟨Try.f57, by kernel_rfl, by kernel_rfl, by kernel_rfl⟩, fun x r h => by cases (show (none : Option _) = some r from h)⟩
 | succ k ih => exact b57 k (R57 k) ih
theorem v57 (k : Nat) : Callable Try.prog 57 ∧ Valid Try.prog 57 (sp57 k) := (r57 k)
def F33 (k : Nat) (a0 : TY46) (a1 : TY11) : Option ((TY31 × Bool × Unit) × Unit) :=
 let x1 := (Tree.mk ((Tree.a a0).1, ((Tree.a a0).2.1, ((Tree.a a0).2.2.1, ((Tree.a a0).2.2.2.1, ((Tree.a a0).2.2.2.2.1, ()))))) (Tree.l a0))
 (F56 k x1).bind fun r2 =>
 bif (decide (r2.1.1 > (120 : Int))) then
  some (((([] : (List Int)), (([] : (List Int)), (([] : (List Int)), (([] : TY56), ((0 : Int), ()))))), false, ()), ())
 else
  let x3 := (Tree.mk ((Tree.a a0).1, ((Tree.a a0).2.1, ((Tree.a a0).2.2.1, ((Tree.a a0).2.2.2.1, ((Tree.a a0).2.2.2.2.1, ()))))) (Tree.l a0))
  (F57 k x3 a1).bind fun r4 =>
  some ((r4.1.1, true, ()), ())
def sp33 (k : Nat) : Spec := ⟨[.val KD26, .val KD4], [.own KD14, .val .bool], fun x => F33 k x.1 x.2.1⟩
def lim33 : Lim := ⟨13, 2, false, false, [], []⟩
def cfg33 (k : Nat) : Nat → Option Spec := cfgL [(56, sp56 k), (57, sp57 k)]
noncomputable def co33 : Code := codeAt (bodyOf Try.f33) []
theorem cfg33_ok (k : Nat) : CfgOK Try.prog (cfg33 k) := cfgL_cons (v56 k) (cfgL_cons (v57 k) (cfgL_nil))
noncomputable def bo33 (k : Nat) (x : AT (sp33 k).ps) := fnT Try.prog (cfg33 k) lim33 Try.f33 (bodyOf Try.f33) .go (sp33 k) x
theorem vv33 (k : Nat) (x : AT (sp33 k).ps) : (sp33 k).impl x = (bo33 k x).eval ∧ (bo33 k x).left = (bo33 k x).right := ⟨by kernel_rfl, by kernel_rfl⟩
theorem v33 (k : Nat) : Callable Try.prog 33 ∧ Valid Try.prog 33 (sp33 k) :=
 fn_of (n := lim33) (fn := Try.f33) (p := .go) (cfg33_ok k) (by kernel_rfl) (planOK_go _) (vv33 k)
def F58_0 (k : Nat) : Nat → (List (List Bool)) → Int → Int → TY31 → Option ((Unit × Unit) ⊕ TY72)
 | 0, _, _, _, _ => none
 | n + 1, t1, t2, t7, c3 =>
  if 0 ≤ t2 ∧ t2 < ((List.length c3.1 : Nat) : Int) then
   if 0 ≤ (List.getD c3.1 (Int.toNat t2) (0 : Int)) ∧ (List.getD c3.1 (Int.toNat t2) (0 : Int)) < ((List.length t1 : Nat) : Int) then
    let x5 := (List.getD t1 (Int.toNat (List.getD c3.1 (Int.toNat t2) (0 : Int))) ([] : (List Bool)))
    let x6 := (decide (t7 < ((List.length x5 : Nat) : Int)))
    bif x6 then
     if 0 ≤ t2 ∧ t2 < ((List.length c3.1 : Nat) : Int) then
      if 0 ≤ (List.getD c3.1 (Int.toNat t2) (0 : Int)) ∧ (List.getD c3.1 (Int.toNat t2) (0 : Int)) < ((List.length t1 : Nat) : Int) then
       let x7 := (List.getD t1 (Int.toNat (List.getD c3.1 (Int.toNat t2) (0 : Int))) ([] : (List Bool)))
       if 0 ≤ t7 ∧ t7 < ((List.length x7 : Nat) : Int) then
        bif (List.getD x7 (Int.toNat t7) false) then
         some (.inr ((true, ()), ()))
        else
         (F58_0 k n t1 t2 (IntKind.wrap .i64 (t7 + (1 : Int))) c3).bind some
       else none
      else none
     else none
    else
     some (.inl ((), ()))
   else none
  else none
def fr58_0 (k : Nat) : Frag := ⟨⟨[], [(1, .val KD51), (2, .val (.int .i64)), (3, .ptr 3 []), (7, .val (.int .i64))], [(3, some 65, KD13)]⟩, [(.exit 0, ⟨[], [], []⟩), (.ret, ⟨[], [(6, .val .bool)], []⟩)], fun v => F58_0 k k v.1.1 v.1.2.1 v.1.2.2.1 v.2.1⟩
def F58 (k : Nat) (a0 : TY31) (a1 : (List (List Bool))) (a2 : Int) : Option TY72 :=
 if 0 ≤ a2 ∧ a2 < ((List.length a0.1 : Nat) : Int) then
  let x1 := (decide ((List.getD a0.1 (Int.toNat a2) (0 : Int)) < (0 : Int)))
  bif x1 then
   some ((true, ()), ())
  else
   (F58_0 k k a1 a2 (0 : Int) a0).bind fun r8 =>
   match r8 with
   | .inl r9 =>
    some ((false, ()), ())
   | .inr r9 =>
    let y10 := r9.1.1
    some ((y10, ()), ())
 else none
def sp58 (k : Nat) : Spec := ⟨[.val KD13, .val KD51, .val (.int .i64)], [.val .bool], fun x => F58 k x.1 x.2.1 x.2.2.1⟩
def lim58 : Lim := ⟨38, 3, false, false, [], []⟩
def cfg58 (k : Nat) : Nat → Option Spec := cfgL []
noncomputable def co58_0 : Code := codeAt (bodyOf Try.f58) [.r, .r, .l, .r, .s]
noncomputable def cb58_0 : Code := codeAt (bodyOf Try.f58) [.r, .r, .l, .r, .s, .b]
noncomputable def co58 : Code := codeAt (bodyOf Try.f58) []
theorem cfg58_ok (k : Nat) : CfgOK Try.prog (cfg58 k) := cfgL_nil
noncomputable def bo58_0 (k m : Nat) (v : (fr58_0 k).sh.V) := body Try.prog (stepper Try.prog (cfg58 k) lim58) .go cb58_0 ((fr58_0 k).sh.st v) (loopK (fr58_0 k) fun v => F58_0 k m v.1.1 v.1.2.1 v.1.2.2.1 v.2.1)
theorem pp58_0 (k m : Nat) (v : (fr58_0 k).sh.V) : F58_0 k (m + 1) v.1.1 v.1.2.1 v.1.2.2.1 v.2.1 = (bo58_0 k m v).eval ∧ (bo58_0 k m v).left = (bo58_0 k m v).right := ⟨by kernel_rfl, by kernel_rfl⟩
theorem fr58_0_ok (k : Nat) : FragOK Try.prog lim58 (fr58_0 k) co58_0 :=
 frag_cast (by kernel_rfl) (loop_ok (cfg58_ok k) (planOK_go _) (fun m v => F58_0 k m v.1.1 v.1.2.1 v.1.2.2.1 v.2.1) k (fun _ => rfl) (fun _ => rfl) (pp58_0 k))
def pl58 (k : Nat) : Plan := (.seq .go (.seq .go (.seq (.seq .go (.sub (.frag (fr58_0 k)))) .go)))
theorem pq58 (k : Nat) : PlanOK Try.prog lim58 (pl58 k) co58 = (PlanOK Try.prog lim58 .go (codeAt (bodyOf Try.f58) [.l]) ∧ (PlanOK Try.prog lim58 .go (codeAt (bodyOf Try.f58) [.r, .l]) ∧ ((PlanOK Try.prog lim58 .go (codeAt (bodyOf Try.f58) [.r, .r, .l, .l]) ∧ FragOK Try.prog lim58 (fr58_0 k) co58_0) ∧ PlanOK Try.prog lim58 .go (codeAt (bodyOf Try.f58) [.r, .r, .r])))) := by kernel_rfl
noncomputable def bo58 (k : Nat) (x : AT (sp58 k).ps) := fnT Try.prog (cfg58 k) lim58 Try.f58 (bodyOf Try.f58) (pl58 k) (sp58 k) x
theorem vv58 (k : Nat) (x : AT (sp58 k).ps) : (sp58 k).impl x = (bo58 k x).eval ∧ (bo58 k x).left = (bo58 k x).right := ⟨by kernel_rfl, by kernel_rfl⟩
theorem v58 (k : Nat) : Callable Try.prog 58 ∧ Valid Try.prog 58 (sp58 k) :=
 fn_of (n := lim58) (fn := Try.f58) (p := (pl58 k)) (cfg58_ok k) (by kernel_rfl) (Eq.mpr (pq58 k) ⟨(planOK_go _), ⟨(planOK_go _), ⟨⟨(planOK_go _), (fr58_0_ok k)⟩, (planOK_go _)⟩⟩⟩) (vv58 k)
def F34_0 (k : Nat) : Nat → (List (List Bool)) → Int → Int → TY31 → TY31 → (List Bool) → (List Bool) → (List Bool) → Option (((Int × Unit) × TY10))
 | 0, _, _, _, _, _, _, _, _ => none
 | n + 1, t1, t5, t9, c2, c4, c22, c24, c26 =>
  bif (decide (t9 < t5)) then
   (F58 k c2 t1 t9).bind fun r13 =>
   if 0 ≤ t9 ∧ t9 < ((List.length c26 : Nat) : Int) then
    if 0 ≤ t9 ∧ t9 < ((List.length (List.set c26 (Int.toNat t9) r13.1.1) : Nat) : Int) then
     let x14 := (List.getD (List.set c26 (Int.toNat t9) r13.1.1) (Int.toNat t9) false)
     bif x14 then
      if 0 ≤ t9 ∧ t9 < ((List.length c2.2.1 : Nat) : Int) then
       let x15 := (decide ((List.getD c2.2.1 (Int.toNat t9) (0 : Int)) < (1152921504606846976 : Int)))
       if 0 ≤ t9 ∧ t9 < ((List.length (List.set c26 (Int.toNat t9) r13.1.1) : Nat) : Int) then
        let x16 := (List.getD (List.set c26 (Int.toNat t9) r13.1.1) (Int.toNat t9) false)
        bif x16 then
         if 0 ≤ t9 ∧ t9 < ((List.length c2.2.2.1 : Nat) : Int) then
          let x17 := (List.getD c2.2.2.1 (Int.toNat t9) (0 : Int))
          if 0 ≤ t9 ∧ t9 < ((List.length c22 : Nat) : Int) then
           if 0 ≤ t9 ∧ t9 < ((List.length c24 : Nat) : Int) then
            let x18 := (List.set c24 (Int.toNat t9) (decide (x17 < (1152921504606846976 : Int))))
            (F34_0 k n t1 t5 (IntKind.wrap .i64 (t9 + (1 : Int))) c2 c4 (List.set c22 (Int.toNat t9) x15) x18 (List.set c26 (Int.toNat t9) r13.1.1)).bind some
           else none
          else none
         else none
        else
         if 0 ≤ t9 ∧ t9 < ((List.length c22 : Nat) : Int) then
          if 0 ≤ t9 ∧ t9 < ((List.length c24 : Nat) : Int) then
           (F34_0 k n t1 t5 (IntKind.wrap .i64 (t9 + (1 : Int))) c2 c4 (List.set c22 (Int.toNat t9) x15) (List.set c24 (Int.toNat t9) false) (List.set c26 (Int.toNat t9) r13.1.1)).bind some
          else none
         else none
       else none
      else none
     else
      if 0 ≤ t9 ∧ t9 < ((List.length (List.set c26 (Int.toNat t9) r13.1.1) : Nat) : Int) then
       let x19 := (List.getD (List.set c26 (Int.toNat t9) r13.1.1) (Int.toNat t9) false)
       bif x19 then
        if 0 ≤ t9 ∧ t9 < ((List.length c2.2.2.1 : Nat) : Int) then
         let x20 := (List.getD c2.2.2.1 (Int.toNat t9) (0 : Int))
         if 0 ≤ t9 ∧ t9 < ((List.length c22 : Nat) : Int) then
          if 0 ≤ t9 ∧ t9 < ((List.length c24 : Nat) : Int) then
           let x21 := (List.set c24 (Int.toNat t9) (decide (x20 < (1152921504606846976 : Int))))
           (F34_0 k n t1 t5 (IntKind.wrap .i64 (t9 + (1 : Int))) c2 c4 (List.set c22 (Int.toNat t9) false) x21 (List.set c26 (Int.toNat t9) r13.1.1)).bind some
          else none
         else none
        else none
       else
        if 0 ≤ t9 ∧ t9 < ((List.length c22 : Nat) : Int) then
         if 0 ≤ t9 ∧ t9 < ((List.length c24 : Nat) : Int) then
          (F34_0 k n t1 t5 (IntKind.wrap .i64 (t9 + (1 : Int))) c2 c4 (List.set c22 (Int.toNat t9) false) (List.set c24 (Int.toNat t9) false) (List.set c26 (Int.toNat t9) r13.1.1)).bind some
         else none
        else none
      else none
    else none
   else none
  else
   some ((t5, ()), (c2, c4, c22, c24, c26, ()))
def fr34_0 (k : Nat) : Frag := ⟨⟨[], [(1, .val KD51), (2, .ptr 2 []), (4, .ptr 4 []), (5, .val (.int .i64)), (6, .at 22 []), (7, .at 24 []), (8, .at 26 []), (9, .val (.int .i64))], [(2, some 65, KD13), (4, some 65, KD14), (22, none, KD71), (24, none, KD71), (26, none, KD71)]⟩, [(.exit 0, ⟨[], [(2, .ptr 2 []), (4, .ptr 4 []), (5, .val (.int .i64)), (6, .at 22 []), (7, .at 24 []), (8, .at 26 [])], [(2, some 65, KD13), (4, some 65, KD14), (22, none, KD71), (24, none, KD71), (26, none, KD71)]⟩)], fun v => F34_0 k k v.1.1 v.1.2.1 v.1.2.2.1 v.2.1 v.2.2.1 v.2.2.2.1 v.2.2.2.2.1 v.2.2.2.2.2.1⟩
def F34_1 (k : Nat) : Nat → Int → Bool → Int → TY31 → TY31 → (List Bool) → (List Bool) → (List Bool) → Option (((Int × Bool × Unit) × TY10))
 | 0, _, _, _, _, _, _, _, _ => none
 | n + 1, t5, t10, t11, c2, c4, c22, c24, c26 =>
  let x31 := (decide (t11 < ((List.length c2.2.2.2.1 : Nat) : Int)))
  bif x31 then
   if 0 ≤ t11 ∧ t11 < ((List.length c2.2.2.2.1 : Nat) : Int) then
    let x32 := (List.getD c2.2.2.2.1 (Int.toNat t11) ((0 : Int), ((0 : Int), ((0 : Int), ()))))
    if 0 ≤ x32.1 ∧ x32.1 < ((List.length c22 : Nat) : Int) then
     bif (List.getD c22 (Int.toNat x32.1) false) then
      if 0 ≤ x32.2.1 ∧ x32.2.1 < ((List.length c26 : Nat) : Int) then
       bif (List.getD c26 (Int.toNat x32.2.1) false) then
        if 0 ≤ x32.2.1 ∧ x32.2.1 < ((List.length c22 : Nat) : Int) then
         bif (!(List.getD c22 (Int.toNat x32.2.1) false)) then
          if 0 ≤ x32.2.1 ∧ x32.2.1 < ((List.length c22 : Nat) : Int) then
           if 0 ≤ x32.2.1 ∧ x32.2.1 < ((List.length c24 : Nat) : Int) then
            bif (List.getD c24 (Int.toNat x32.2.1) false) then
             if 0 ≤ x32.1 ∧ x32.1 < ((List.length c26 : Nat) : Int) then
              bif (List.getD c26 (Int.toNat x32.1) false) then
               if 0 ≤ x32.1 ∧ x32.1 < ((List.length c24 : Nat) : Int) then
                bif (!(List.getD c24 (Int.toNat x32.1) false)) then
                 if 0 ≤ x32.1 ∧ x32.1 < ((List.length c24 : Nat) : Int) then
                  (F34_1 k n t5 true (IntKind.wrap .i64 (t11 + (1 : Int))) c2 c4 (List.set c22 (Int.toNat x32.2.1) true) (List.set c24 (Int.toNat x32.1) true) c26).bind some
                 else none
                else
                 (F34_1 k n t5 true (IntKind.wrap .i64 (t11 + (1 : Int))) c2 c4 (List.set c22 (Int.toNat x32.2.1) true) c24 c26).bind some
               else none
              else
               (F34_1 k n t5 true (IntKind.wrap .i64 (t11 + (1 : Int))) c2 c4 (List.set c22 (Int.toNat x32.2.1) true) c24 c26).bind some
             else none
            else
             (F34_1 k n t5 true (IntKind.wrap .i64 (t11 + (1 : Int))) c2 c4 (List.set c22 (Int.toNat x32.2.1) true) c24 c26).bind some
           else none
          else none
         else
          if 0 ≤ x32.2.1 ∧ x32.2.1 < ((List.length c24 : Nat) : Int) then
           bif (List.getD c24 (Int.toNat x32.2.1) false) then
            if 0 ≤ x32.1 ∧ x32.1 < ((List.length c26 : Nat) : Int) then
             bif (List.getD c26 (Int.toNat x32.1) false) then
              if 0 ≤ x32.1 ∧ x32.1 < ((List.length c24 : Nat) : Int) then
               bif (!(List.getD c24 (Int.toNat x32.1) false)) then
                if 0 ≤ x32.1 ∧ x32.1 < ((List.length c24 : Nat) : Int) then
                 (F34_1 k n t5 true (IntKind.wrap .i64 (t11 + (1 : Int))) c2 c4 c22 (List.set c24 (Int.toNat x32.1) true) c26).bind some
                else none
               else
                (F34_1 k n t5 t10 (IntKind.wrap .i64 (t11 + (1 : Int))) c2 c4 c22 c24 c26).bind some
              else none
             else
              (F34_1 k n t5 t10 (IntKind.wrap .i64 (t11 + (1 : Int))) c2 c4 c22 c24 c26).bind some
            else none
           else
            (F34_1 k n t5 t10 (IntKind.wrap .i64 (t11 + (1 : Int))) c2 c4 c22 c24 c26).bind some
          else none
        else none
       else
        if 0 ≤ x32.2.1 ∧ x32.2.1 < ((List.length c24 : Nat) : Int) then
         bif (List.getD c24 (Int.toNat x32.2.1) false) then
          if 0 ≤ x32.1 ∧ x32.1 < ((List.length c26 : Nat) : Int) then
           bif (List.getD c26 (Int.toNat x32.1) false) then
            if 0 ≤ x32.1 ∧ x32.1 < ((List.length c24 : Nat) : Int) then
             bif (!(List.getD c24 (Int.toNat x32.1) false)) then
              if 0 ≤ x32.1 ∧ x32.1 < ((List.length c24 : Nat) : Int) then
               (F34_1 k n t5 true (IntKind.wrap .i64 (t11 + (1 : Int))) c2 c4 c22 (List.set c24 (Int.toNat x32.1) true) c26).bind some
              else none
             else
              (F34_1 k n t5 t10 (IntKind.wrap .i64 (t11 + (1 : Int))) c2 c4 c22 c24 c26).bind some
            else none
           else
            (F34_1 k n t5 t10 (IntKind.wrap .i64 (t11 + (1 : Int))) c2 c4 c22 c24 c26).bind some
          else none
         else
          (F34_1 k n t5 t10 (IntKind.wrap .i64 (t11 + (1 : Int))) c2 c4 c22 c24 c26).bind some
        else none
      else none
     else
      if 0 ≤ x32.2.1 ∧ x32.2.1 < ((List.length c24 : Nat) : Int) then
       bif (List.getD c24 (Int.toNat x32.2.1) false) then
        if 0 ≤ x32.1 ∧ x32.1 < ((List.length c26 : Nat) : Int) then
         bif (List.getD c26 (Int.toNat x32.1) false) then
          if 0 ≤ x32.1 ∧ x32.1 < ((List.length c24 : Nat) : Int) then
           bif (!(List.getD c24 (Int.toNat x32.1) false)) then
            if 0 ≤ x32.1 ∧ x32.1 < ((List.length c24 : Nat) : Int) then
             (F34_1 k n t5 true (IntKind.wrap .i64 (t11 + (1 : Int))) c2 c4 c22 (List.set c24 (Int.toNat x32.1) true) c26).bind some
            else none
           else
            (F34_1 k n t5 t10 (IntKind.wrap .i64 (t11 + (1 : Int))) c2 c4 c22 c24 c26).bind some
          else none
         else
          (F34_1 k n t5 t10 (IntKind.wrap .i64 (t11 + (1 : Int))) c2 c4 c22 c24 c26).bind some
        else none
       else
        (F34_1 k n t5 t10 (IntKind.wrap .i64 (t11 + (1 : Int))) c2 c4 c22 c24 c26).bind some
      else none
    else none
   else none
  else
   some ((t5, t10, ()), (c2, c4, c22, c24, c26, ()))
def fr34_1 (k : Nat) : Frag := ⟨⟨[], [(2, .ptr 2 []), (4, .ptr 4 []), (5, .val (.int .i64)), (6, .at 22 []), (7, .at 24 []), (8, .at 26 []), (10, .val .bool), (11, .val (.int .i64))], [(2, some 65, KD13), (4, some 65, KD14), (22, none, KD71), (24, none, KD71), (26, none, KD71)]⟩, [(.exit 4, ⟨[], [(2, .ptr 2 []), (4, .ptr 4 []), (5, .val (.int .i64)), (6, .at 22 []), (7, .at 24 []), (8, .at 26 []), (10, .val .bool)], [(2, some 65, KD13), (4, some 65, KD14), (22, none, KD71), (24, none, KD71), (26, none, KD71)]⟩)], fun v => F34_1 k k v.1.1 v.1.2.1 v.1.2.2.1 v.2.1 v.2.2.1 v.2.2.2.1 v.2.2.2.2.1 v.2.2.2.2.2.1⟩
def F34_2 (k : Nat) : Nat → Int → Bool → TY31 → TY31 → (List Bool) → (List Bool) → (List Bool) → Option (((Int × Unit) × (TY31 × TY31 × (List Bool) × (List Bool) × Unit)))
 | 0, _, _, _, _, _, _, _ => none
 | n + 1, t5, t10, c2, c4, c22, c24, c26 =>
  bif t10 then
   (F34_1 k k t5 false (0 : Int) c2 c4 c22 c24 c26).bind fun r41 =>
   let y42 := r41.1.1
   let y43 := r41.1.2.1
   let y44 := r41.2.1
   let y45 := r41.2.2.1
   let y46 := r41.2.2.2.1
   let y47 := r41.2.2.2.2.1
   let y48 := r41.2.2.2.2.2.1
   (F34_2 k n y42 y43 y44 y45 y46 y47 y48).bind some
  else
   some ((t5, ()), (c2, c4, c22, c24, ()))
def fr34_2 (k : Nat) : Frag := ⟨⟨[], [(2, .ptr 2 []), (4, .ptr 4 []), (5, .val (.int .i64)), (6, .at 22 []), (7, .at 24 []), (8, .at 26 []), (10, .val .bool)], [(2, some 65, KD13), (4, some 65, KD14), (22, none, KD71), (24, none, KD71), (26, none, KD71)]⟩, [(.exit 2, ⟨[], [(2, .ptr 2 []), (4, .ptr 4 []), (5, .val (.int .i64)), (6, .at 22 []), (7, .at 24 [])], [(2, some 65, KD13), (4, some 65, KD14), (22, none, KD71), (24, none, KD71)]⟩)], fun v => F34_2 k k v.1.1 v.1.2.1 v.2.1 v.2.2.1 v.2.2.2.1 v.2.2.2.2.1 v.2.2.2.2.2.1⟩
def F34_3 (k : Nat) : Nat → Int → Int → TY31 → TY31 → TY31 → (List Bool) → (List Bool) → (List Int) → Option ((Unit × (TY31 × TY31 × TY31 × (List Int) × Unit)))
 | 0, _, _, _, _, _, _, _, _ => none
 | n + 1, t5, t15, c2, c4, c13, c22, c24, c134 =>
  bif (decide (t15 < t5)) then
   if 0 ≤ t15 ∧ t15 < ((List.length c134 : Nat) : Int) then
    if 0 ≤ t15 ∧ t15 < ((List.length c22 : Nat) : Int) then
     bif (List.getD c22 (Int.toNat t15) false) then
      if 0 ≤ t15 ∧ t15 < ((List.length c24 : Nat) : Int) then
       bif (List.getD c24 (Int.toNat t15) false) then
        if 0 ≤ t15 ∧ t15 < ((List.length (List.set c134 (Int.toNat t15) (-1 : Int)) : Nat) : Int) then
         let x60 := (List.set (List.set c134 (Int.toNat t15) (-1 : Int)) (Int.toNat t15) ((List.length c13.1 : Nat) : Int))
         if 0 ≤ t15 ∧ t15 < ((List.length c2.1 : Nat) : Int) then
          if 0 ≤ t15 ∧ t15 < ((List.length c2.2.1 : Nat) : Int) then
           if 0 ≤ t15 ∧ t15 < ((List.length c2.2.2.1 : Nat) : Int) then
            let x61 := (List.getD c2.2.2.1 (Int.toNat t15) (0 : Int))
            let x62 := (List.set (List.replicate 1 (0 : Int)) 0 (List.getD c2.1 (Int.toNat t15) (0 : Int)))
            if (List.length c13.1 + List.length x62) * (8 * 2) ≤ 281474976710656 ∧ List.length c13.1 + List.length x62 ≤ 9223372036854775807 then
             let x63 := (List.set (List.replicate 1 (0 : Int)) 0 (List.getD c2.2.1 (Int.toNat t15) (0 : Int)))
             if (List.length c13.2.1 + List.length x63) * (8 * 2) ≤ 281474976710656 ∧ List.length c13.2.1 + List.length x63 ≤ 9223372036854775807 then
              let x64 := (List.set (List.replicate 1 (0 : Int)) 0 x61)
              if (List.length c13.2.2.1 + List.length x64) * (8 * 2) ≤ 281474976710656 ∧ List.length c13.2.2.1 + List.length x64 ≤ 9223372036854775807 then
               (F34_3 k n t5 (IntKind.wrap .i64 (t15 + (1 : Int))) c2 c4 ((c13.1 ++ x62), ((c13.2.1 ++ x63), ((c13.2.2.1 ++ x64), c13.2.2.2))) c22 c24 x60).bind some
              else none
             else none
            else none
           else none
          else none
         else none
        else none
       else
        (F34_3 k n t5 (IntKind.wrap .i64 (t15 + (1 : Int))) c2 c4 c13 c22 c24 (List.set c134 (Int.toNat t15) (-1 : Int))).bind some
      else none
     else
      (F34_3 k n t5 (IntKind.wrap .i64 (t15 + (1 : Int))) c2 c4 c13 c22 c24 (List.set c134 (Int.toNat t15) (-1 : Int))).bind some
    else none
   else none
  else
   some ((), (c2, c4, c13, c134, ()))
def fr34_3 (k : Nat) : Frag := ⟨⟨[], [(2, .ptr 2 []), (4, .ptr 4 []), (5, .val (.int .i64)), (6, .at 22 []), (7, .at 24 []), (13, .ptr 13 []), (14, .at 134 []), (15, .val (.int .i64))], [(2, some 65, KD13), (4, some 65, KD14), (13, some 65, KD14), (22, none, KD71), (24, none, KD71), (134, none, KD64)]⟩, [(.exit 6, ⟨[], [(2, .ptr 2 []), (4, .ptr 4 []), (13, .ptr 13 []), (14, .at 134 [])], [(2, some 65, KD13), (4, some 65, KD14), (13, some 65, KD14), (134, none, KD64)]⟩)], fun v => F34_3 k k v.1.1 v.1.2.1 v.2.1 v.2.2.1 v.2.2.2.1 v.2.2.2.2.1 v.2.2.2.2.2.1 v.2.2.2.2.2.2.1⟩
def F34_4 (k : Nat) : Nat → Int → TY31 → TY31 → TY31 → (List Int) → Option TY15
 | 0, _, _, _, _, _ => none
 | n + 1, t16, c2, c4, c13, c134 =>
  let x76 := (decide (t16 < ((List.length c2.2.2.2.1 : Nat) : Int)))
  bif x76 then
   if 0 ≤ t16 ∧ t16 < ((List.length c2.2.2.2.1 : Nat) : Int) then
    let x77 := (List.getD c2.2.2.2.1 (Int.toNat t16) ((0 : Int), ((0 : Int), ((0 : Int), ()))))
    if 0 ≤ x77.1 ∧ x77.1 < ((List.length c134 : Nat) : Int) then
     let x78 := (decide ((List.getD c134 (Int.toNat x77.1) (0 : Int)) ≥ (0 : Int)))
     bif x78 then
      if 0 ≤ x77.2.1 ∧ x77.2.1 < ((List.length c134 : Nat) : Int) then
       let x79 := (List.getD c134 (Int.toNat x77.2.1) (0 : Int))
       bif (decide (x79 ≥ (0 : Int))) then
        if 0 ≤ x77.1 ∧ x77.1 < ((List.length c134 : Nat) : Int) then
         if 0 ≤ x77.2.1 ∧ x77.2.1 < ((List.length c134 : Nat) : Int) then
          let x80 := (List.getD c134 (Int.toNat x77.2.1) (0 : Int))
          let x81 := (List.set (List.replicate 1 ((0 : Int), ((0 : Int), ((0 : Int), ())))) 0 ((List.getD c134 (Int.toNat x77.1) (0 : Int)), (x80, (x77.2.2.1, ()))))
          if (List.length c13.2.2.2.1 + List.length x81) * (24 * 2) ≤ 281474976710656 ∧ List.length c13.2.2.2.1 + List.length x81 ≤ 9223372036854775807 then
           (F34_4 k n (IntKind.wrap .i64 (t16 + (1 : Int))) c2 c4 (c13.1, (c13.2.1, (c13.2.2.1, ((c13.2.2.2.1 ++ x81), c13.2.2.2.2)))) c134).bind some
          else none
         else none
        else none
       else
        (F34_4 k n (IntKind.wrap .i64 (t16 + (1 : Int))) c2 c4 c13 c134).bind some
      else none
     else
      (F34_4 k n (IntKind.wrap .i64 (t16 + (1 : Int))) c2 c4 c13 c134).bind some
    else none
   else none
  else
   some ((), (c4, c13, ()))
def fr34_4 (k : Nat) : Frag := ⟨⟨[], [(2, .ptr 2 []), (4, .ptr 4 []), (13, .ptr 13 []), (14, .at 134 []), (16, .val (.int .i64))], [(2, some 65, KD13), (4, some 65, KD14), (13, some 65, KD14), (134, none, KD64)]⟩, [(.exit 8, ⟨[], [(4, .ptr 4 []), (13, .ptr 13 [])], [(4, some 65, KD14), (13, some 65, KD14)]⟩)], fun v => F34_4 k k v.1.1 v.2.1 v.2.2.1 v.2.2.2.1 v.2.2.2.2.1⟩
def F34 (k : Nat) (a0 : TY31) (a1 : (List (List Bool))) : Option TY25 :=
 if (0 ≤ ((List.length a0.1 : Nat) : Int) ∧ ((List.length a0.1 : Nat) : Int) < ((List.length a0.1 : Nat) : Int) + 1) ∧ ((List.length a0.1 : Nat) : Int) ≤ 9223372036854775807 ∧ ((1 : Nat) : Int) * ((List.length a0.1 : Nat) : Int) ≤ 281474976710656 then
  let x1 := (List.replicate (Int.toNat ((List.length a0.1 : Nat) : Int)) false)
  if (0 ≤ ((List.length a0.1 : Nat) : Int) ∧ ((List.length a0.1 : Nat) : Int) < ((List.length a0.1 : Nat) : Int) + 1) ∧ ((List.length a0.1 : Nat) : Int) ≤ 9223372036854775807 ∧ ((1 : Nat) : Int) * ((List.length a0.1 : Nat) : Int) ≤ 281474976710656 then
   let x2 := (List.replicate (Int.toNat ((List.length a0.1 : Nat) : Int)) false)
   if (0 ≤ ((List.length a0.1 : Nat) : Int) ∧ ((List.length a0.1 : Nat) : Int) < ((List.length a0.1 : Nat) : Int) + 1) ∧ ((List.length a0.1 : Nat) : Int) ≤ 9223372036854775807 ∧ ((1 : Nat) : Int) * ((List.length a0.1 : Nat) : Int) ≤ 281474976710656 then
    let x3 := (List.replicate (Int.toNat ((List.length a0.1 : Nat) : Int)) false)
    (F34_0 k k a1 ((List.length a0.1 : Nat) : Int) (0 : Int) a0 (([] : (List Int)), (([] : (List Int)), (([] : (List Int)), (([] : TY56), ((0 : Int), ()))))) x1 x2 x3).bind fun r22 =>
    let y23 := r22.1.1
    let y24 := r22.2.1
    let y25 := r22.2.2.1
    let y26 := r22.2.2.2.1
    let y27 := r22.2.2.2.2.1
    let y28 := r22.2.2.2.2.2.1
    (F34_2 k k y23 true y24 y25 y26 y27 y28).bind fun r49 =>
    let y50 := r49.1.1
    let y51 := r49.2.1
    let y52 := r49.2.2.1
    let y53 := r49.2.2.2.1
    let y54 := r49.2.2.2.2.1
    if (0 ≤ y50 ∧ y50 < y50 + 1) ∧ y50 ≤ 9223372036854775807 ∧ ((8 : Nat) : Int) * y50 ≤ 281474976710656 then
     (F34_3 k k y50 (0 : Int) y51 y52 (([] : (List Int)), (([] : (List Int)), (([] : (List Int)), (([] : TY56), (y51.2.2.2.2.1, ()))))) y53 y54 (List.replicate (Int.toNat y50) (0 : Int))).bind fun r65 =>
     let y66 := r65.2.1
     let y67 := r65.2.2.1
     let y68 := r65.2.2.2.1
     let y69 := r65.2.2.2.2.1
     (F34_4 k k (0 : Int) y66 y67 y68 y69).bind fun r82 =>
     let y84 := r82.2.2.1
     some ((y84, ()), ())
    else none
   else none
  else none
 else none
def sp34 (k : Nat) : Spec := ⟨[.val KD13, .val KD51], [.own KD14], fun x => F34 k x.1 x.2.1⟩
def lim34 : Lim := ⟨234, 2, false, false, [], []⟩
def cfg34 (k : Nat) : Nat → Option Spec := cfgL [(58, sp58 k)]
noncomputable def co34_0 : Code := codeAt (bodyOf Try.f34) [.r, .r, .r, .r, .l, .r, .s]
noncomputable def cb34_0 : Code := codeAt (bodyOf Try.f34) [.r, .r, .r, .r, .l, .r, .s, .b]
noncomputable def co34_1 : Code := codeAt (bodyOf Try.f34) [.r, .r, .r, .r, .r, .l, .r, .s, .b, .r, .s, .r, .r, .s]
noncomputable def cb34_1 : Code := codeAt (bodyOf Try.f34) [.r, .r, .r, .r, .r, .l, .r, .s, .b, .r, .s, .r, .r, .s, .b]
noncomputable def co34_2 : Code := codeAt (bodyOf Try.f34) [.r, .r, .r, .r, .r, .l, .r, .s]
noncomputable def cb34_2 : Code := codeAt (bodyOf Try.f34) [.r, .r, .r, .r, .r, .l, .r, .s, .b]
noncomputable def co34_3 : Code := codeAt (bodyOf Try.f34) [.r, .r, .r, .r, .r, .r, .r, .r, .l, .r, .s]
noncomputable def cb34_3 : Code := codeAt (bodyOf Try.f34) [.r, .r, .r, .r, .r, .r, .r, .r, .l, .r, .s, .b]
noncomputable def co34_4 : Code := codeAt (bodyOf Try.f34) [.r, .r, .r, .r, .r, .r, .r, .r, .r, .l, .r, .s]
noncomputable def cb34_4 : Code := codeAt (bodyOf Try.f34) [.r, .r, .r, .r, .r, .r, .r, .r, .r, .l, .r, .s, .b]
noncomputable def co34 : Code := codeAt (bodyOf Try.f34) []
theorem cfg34_ok (k : Nat) : CfgOK Try.prog (cfg34 k) := cfgL_cons (v58 k) (cfgL_nil)
noncomputable def bo34_0 (k m : Nat) (v : (fr34_0 k).sh.V) := body Try.prog (stepper Try.prog (cfg34 k) lim34) .go cb34_0 ((fr34_0 k).sh.st v) (loopK (fr34_0 k) fun v => F34_0 k m v.1.1 v.1.2.1 v.1.2.2.1 v.2.1 v.2.2.1 v.2.2.2.1 v.2.2.2.2.1 v.2.2.2.2.2.1)
theorem pp34_0 (k m : Nat) (v : (fr34_0 k).sh.V) : F34_0 k (m + 1) v.1.1 v.1.2.1 v.1.2.2.1 v.2.1 v.2.2.1 v.2.2.2.1 v.2.2.2.2.1 v.2.2.2.2.2.1 = (bo34_0 k m v).eval ∧ (bo34_0 k m v).left = (bo34_0 k m v).right := ⟨by kernel_rfl, by kernel_rfl⟩
theorem fr34_0_ok (k : Nat) : FragOK Try.prog lim34 (fr34_0 k) co34_0 :=
 frag_cast (by kernel_rfl) (loop_ok (cfg34_ok k) (planOK_go _) (fun m v => F34_0 k m v.1.1 v.1.2.1 v.1.2.2.1 v.2.1 v.2.2.1 v.2.2.2.1 v.2.2.2.2.1 v.2.2.2.2.2.1) k (fun _ => rfl) (fun _ => rfl) (pp34_0 k))
noncomputable def bo34_1 (k m : Nat) (v : (fr34_1 k).sh.V) := body Try.prog (stepper Try.prog (cfg34 k) lim34) .go cb34_1 ((fr34_1 k).sh.st v) (loopK (fr34_1 k) fun v => F34_1 k m v.1.1 v.1.2.1 v.1.2.2.1 v.2.1 v.2.2.1 v.2.2.2.1 v.2.2.2.2.1 v.2.2.2.2.2.1)
theorem pp34_1 (k m : Nat) (v : (fr34_1 k).sh.V) : F34_1 k (m + 1) v.1.1 v.1.2.1 v.1.2.2.1 v.2.1 v.2.2.1 v.2.2.2.1 v.2.2.2.2.1 v.2.2.2.2.2.1 = (bo34_1 k m v).eval ∧ (bo34_1 k m v).left = (bo34_1 k m v).right := ⟨by kernel_rfl, by kernel_rfl⟩
theorem fr34_1_ok (k : Nat) : FragOK Try.prog lim34 (fr34_1 k) co34_1 :=
 frag_cast (by kernel_rfl) (loop_ok (cfg34_ok k) (planOK_go _) (fun m v => F34_1 k m v.1.1 v.1.2.1 v.1.2.2.1 v.2.1 v.2.2.1 v.2.2.2.1 v.2.2.2.2.1 v.2.2.2.2.2.1) k (fun _ => rfl) (fun _ => rfl) (pp34_1 k))
def pl34_2 (k : Nat) : Plan := (.seq .go (.sub (.seq .go (.seq .go (.sub (.frag (fr34_1 k)))))))
theorem pq34_2 (k : Nat) : PlanOK Try.prog lim34 (pl34_2 k) cb34_2 = (PlanOK Try.prog lim34 .go (codeAt (bodyOf Try.f34) [.r, .r, .r, .r, .r, .l, .r, .s, .b, .l]) ∧ (PlanOK Try.prog lim34 .go (codeAt (bodyOf Try.f34) [.r, .r, .r, .r, .r, .l, .r, .s, .b, .r, .s, .l]) ∧ (PlanOK Try.prog lim34 .go (codeAt (bodyOf Try.f34) [.r, .r, .r, .r, .r, .l, .r, .s, .b, .r, .s, .r, .l]) ∧ FragOK Try.prog lim34 (fr34_1 k) co34_1))) := by kernel_rfl
noncomputable def bo34_2 (k m : Nat) (v : (fr34_2 k).sh.V) := body Try.prog (stepper Try.prog (cfg34 k) lim34) (pl34_2 k) cb34_2 ((fr34_2 k).sh.st v) (loopK (fr34_2 k) fun v => F34_2 k m v.1.1 v.1.2.1 v.2.1 v.2.2.1 v.2.2.2.1 v.2.2.2.2.1 v.2.2.2.2.2.1)
theorem pp34_2 (k m : Nat) (v : (fr34_2 k).sh.V) : F34_2 k (m + 1) v.1.1 v.1.2.1 v.2.1 v.2.2.1 v.2.2.2.1 v.2.2.2.2.1 v.2.2.2.2.2.1 = (bo34_2 k m v).eval ∧ (bo34_2 k m v).left = (bo34_2 k m v).right := ⟨by kernel_rfl, by kernel_rfl⟩
theorem fr34_2_ok (k : Nat) : FragOK Try.prog lim34 (fr34_2 k) co34_2 :=
 frag_cast (by kernel_rfl) (loop_ok (cfg34_ok k) (Eq.mpr (pq34_2 k) ⟨(planOK_go _), ⟨(planOK_go _), ⟨(planOK_go _), (fr34_1_ok k)⟩⟩⟩) (fun m v => F34_2 k m v.1.1 v.1.2.1 v.2.1 v.2.2.1 v.2.2.2.1 v.2.2.2.2.1 v.2.2.2.2.2.1) k (fun _ => rfl) (fun _ => rfl) (pp34_2 k))
noncomputable def bo34_3 (k m : Nat) (v : (fr34_3 k).sh.V) := body Try.prog (stepper Try.prog (cfg34 k) lim34) .go cb34_3 ((fr34_3 k).sh.st v) (loopK (fr34_3 k) fun v => F34_3 k m v.1.1 v.1.2.1 v.2.1 v.2.2.1 v.2.2.2.1 v.2.2.2.2.1 v.2.2.2.2.2.1 v.2.2.2.2.2.2.1)
theorem pp34_3 (k m : Nat) (v : (fr34_3 k).sh.V) : F34_3 k (m + 1) v.1.1 v.1.2.1 v.2.1 v.2.2.1 v.2.2.2.1 v.2.2.2.2.1 v.2.2.2.2.2.1 v.2.2.2.2.2.2.1 = (bo34_3 k m v).eval ∧ (bo34_3 k m v).left = (bo34_3 k m v).right := ⟨by kernel_rfl, by kernel_rfl⟩
theorem fr34_3_ok (k : Nat) : FragOK Try.prog lim34 (fr34_3 k) co34_3 :=
 frag_cast (by kernel_rfl) (loop_ok (cfg34_ok k) (planOK_go _) (fun m v => F34_3 k m v.1.1 v.1.2.1 v.2.1 v.2.2.1 v.2.2.2.1 v.2.2.2.2.1 v.2.2.2.2.2.1 v.2.2.2.2.2.2.1) k (fun _ => rfl) (fun _ => rfl) (pp34_3 k))
noncomputable def bo34_4 (k m : Nat) (v : (fr34_4 k).sh.V) := body Try.prog (stepper Try.prog (cfg34 k) lim34) .go cb34_4 ((fr34_4 k).sh.st v) (loopK (fr34_4 k) fun v => F34_4 k m v.1.1 v.2.1 v.2.2.1 v.2.2.2.1 v.2.2.2.2.1)
theorem pp34_4 (k m : Nat) (v : (fr34_4 k).sh.V) : F34_4 k (m + 1) v.1.1 v.2.1 v.2.2.1 v.2.2.2.1 v.2.2.2.2.1 = (bo34_4 k m v).eval ∧ (bo34_4 k m v).left = (bo34_4 k m v).right := ⟨by kernel_rfl, by kernel_rfl⟩
theorem fr34_4_ok (k : Nat) : FragOK Try.prog lim34 (fr34_4 k) co34_4 :=
 frag_cast (by kernel_rfl) (loop_ok (cfg34_ok k) (planOK_go _) (fun m v => F34_4 k m v.1.1 v.2.1 v.2.2.1 v.2.2.2.1 v.2.2.2.2.1) k (fun _ => rfl) (fun _ => rfl) (pp34_4 k))
def pl34 (k : Nat) : Plan := (.seq .go (.seq .go (.seq .go (.seq .go (.seq (.seq .go (.sub (.frag (fr34_0 k)))) (.seq (.seq .go (.sub (.frag (fr34_2 k)))) (.seq .go (.seq .go (.seq (.seq .go (.sub (.frag (fr34_3 k)))) (.seq (.seq .go (.sub (.frag (fr34_4 k)))) .go))))))))))
theorem pq34 (k : Nat) : PlanOK Try.prog lim34 (pl34 k) co34 = (PlanOK Try.prog lim34 .go (codeAt (bodyOf Try.f34) [.l]) ∧ (PlanOK Try.prog lim34 .go (codeAt (bodyOf Try.f34) [.r, .l]) ∧ (PlanOK Try.prog lim34 .go (codeAt (bodyOf Try.f34) [.r, .r, .l]) ∧ (PlanOK Try.prog lim34 .go (codeAt (bodyOf Try.f34) [.r, .r, .r, .l]) ∧ ((PlanOK Try.prog lim34 .go (codeAt (bodyOf Try.f34) [.r, .r, .r, .r, .l, .l]) ∧ FragOK Try.prog lim34 (fr34_0 k) co34_0) ∧ ((PlanOK Try.prog lim34 .go (codeAt (bodyOf Try.f34) [.r, .r, .r, .r, .r, .l, .l]) ∧ FragOK Try.prog lim34 (fr34_2 k) co34_2) ∧ (PlanOK Try.prog lim34 .go (codeAt (bodyOf Try.f34) [.r, .r, .r, .r, .r, .r, .l]) ∧ (PlanOK Try.prog lim34 .go (codeAt (bodyOf Try.f34) [.r, .r, .r, .r, .r, .r, .r, .l]) ∧ ((PlanOK Try.prog lim34 .go (codeAt (bodyOf Try.f34) [.r, .r, .r, .r, .r, .r, .r, .r, .l, .l]) ∧ FragOK Try.prog lim34 (fr34_3 k) co34_3) ∧ ((PlanOK Try.prog lim34 .go (codeAt (bodyOf Try.f34) [.r, .r, .r, .r, .r, .r, .r, .r, .r, .l, .l]) ∧ FragOK Try.prog lim34 (fr34_4 k) co34_4) ∧ PlanOK Try.prog lim34 .go (codeAt (bodyOf Try.f34) [.r, .r, .r, .r, .r, .r, .r, .r, .r, .r]))))))))))) := by kernel_rfl
noncomputable def bo34 (k : Nat) (x : AT (sp34 k).ps) := fnT Try.prog (cfg34 k) lim34 Try.f34 (bodyOf Try.f34) (pl34 k) (sp34 k) x
theorem vv34 (k : Nat) (x : AT (sp34 k).ps) : (sp34 k).impl x = (bo34 k x).eval ∧ (bo34 k x).left = (bo34 k x).right := ⟨by kernel_rfl, by kernel_rfl⟩
theorem v34 (k : Nat) : Callable Try.prog 34 ∧ Valid Try.prog 34 (sp34 k) :=
 fn_of (n := lim34) (fn := Try.f34) (p := (pl34 k)) (cfg34_ok k) (by kernel_rfl) (Eq.mpr (pq34 k) ⟨(planOK_go _), ⟨(planOK_go _), ⟨(planOK_go _), ⟨(planOK_go _), ⟨⟨(planOK_go _), (fr34_0_ok k)⟩, ⟨⟨(planOK_go _), (fr34_2_ok k)⟩, ⟨(planOK_go _), ⟨(planOK_go _), ⟨⟨(planOK_go _), (fr34_3_ok k)⟩, ⟨⟨(planOK_go _), (fr34_4_ok k)⟩, (planOK_go _)⟩⟩⟩⟩⟩⟩⟩⟩⟩⟩) (vv34 k)
def F14_0 (k : Nat) : Nat → Int → TY2 → TY2 → Option ((Unit × (TY2 × TY2 × Unit)) ⊕ ((Bool × Unit) × (TY2 × Unit)))
 | 0, _, _, _ => none
 | n + 1, t10, c6, c8 =>
  let x25 := (decide (t10 < ((List.length c8.1.2.1 : Nat) : Int)))
  bif x25 then
   if 0 ≤ t10 ∧ t10 < ((List.length c8.1.2.1 : Nat) : Int) then
    let x26 := (List.getD c8.1.2.1 (Int.toNat t10) ((0 : Int), ((0 : Int), ((Tree.mk ((0 : Int), ((0 : Int), ((0 : Int), ((0 : Int), (ByteArray.empty, ()))))) []), ((Tree.mk ((0 : Int), ((0 : Int), ((0 : Int), ((0 : Int), (ByteArray.empty, ()))))) []), ())))))
    (F33 k x26.2.2.1 c8.1).bind fun r27 =>
    if 0 ≤ t10 ∧ t10 < ((List.length c8.1.2.1 : Nat) : Int) then
     let x28 := (List.getD c8.1.2.1 (Int.toNat t10) ((0 : Int), ((0 : Int), ((Tree.mk ((0 : Int), ((0 : Int), ((0 : Int), ((0 : Int), (ByteArray.empty, ()))))) []), ((Tree.mk ((0 : Int), ((0 : Int), ((0 : Int), ((0 : Int), (ByteArray.empty, ()))))) []), ())))))
     (F33 k x28.2.2.2.1 c8.1).bind fun r29 =>
     bif (!r27.1.2.1) then
      some (.inr ((false, ()), (c8, ())))
     else
      bif (!r29.1.2.1) then
       some (.inr ((false, ()), (c8, ())))
      else
       (F34 k r27.1.1 c8.2.2.2.1).bind fun r30 =>
       let x31 := (List.set (List.replicate 1 (([] : (List Int)), (([] : (List Int)), (([] : (List Int)), (([] : TY56), ((0 : Int), ())))))) 0 r30.1.1)
       if (List.length c8.2.2.2.2.1 + List.length x31) * (104 * 2) ≤ 281474976710656 ∧ List.length c8.2.2.2.2.1 + List.length x31 ≤ 9223372036854775807 then
        (F34 k r29.1.1 c8.2.2.2.1).bind fun r32 =>
        let x33 := (List.set (List.replicate 1 (([] : (List Int)), (([] : (List Int)), (([] : (List Int)), (([] : TY56), ((0 : Int), ())))))) 0 r32.1.1)
        if (List.length c8.2.2.2.2.2.1 + List.length x33) * (104 * 2) ≤ 281474976710656 ∧ List.length c8.2.2.2.2.2.1 + List.length x33 ≤ 9223372036854775807 then
         (F14_0 k n (IntKind.wrap .i64 (t10 + (1 : Int))) c6 (c8.1, (c8.2.1, (c8.2.2.1, (c8.2.2.2.1, ((c8.2.2.2.2.1 ++ x31), ((c8.2.2.2.2.2.1 ++ x33), c8.2.2.2.2.2.2))))))).bind some
        else none
       else none
    else none
   else none
  else
   some (.inl ((), (c6, c8, ())))
def fr14_0 (k : Nat) : Frag := ⟨⟨[], [(6, .ptr 6 []), (8, .ptr 8 []), (10, .val (.int .i64))], [(6, some 33, KD1), (8, some 33, KD0)]⟩, [(.exit 0, ⟨[], [(6, .ptr 6 []), (8, .ptr 8 [])], [(6, some 33, KD1), (8, some 33, KD0)]⟩), (.ret, ⟨[], [(6, .ptr 6 []), (7, .val .bool)], [(6, some 33, KD0)]⟩)], fun v => F14_0 k k v.1.1 v.2.1 v.2.2.1⟩
def F14 (k : Nat) (a0 : TY57) (a1 : (List Int)) (a2 : (List Int)) : Option ((TY2 × Bool × Unit) × Unit) :=
 let x1 := ([] : TY39)
 let x2 := ([] : TY22)
 let x3 := ([] : TY27)
 let x4 := ([] : TY27)
 (F28 k a0 a1 a2).bind fun r5 =>
 let x6 := ([] : TY27)
 let x7 := ([] : TY27)
 (F29 k r5.1.1).bind fun r12 =>
 (F30 k r12.1.1).bind fun r13 =>
 (F31 k r12.1.1 r13.1.1 r13.1.2.1).bind fun r14 =>
 (F32 k r13.1.2.1).bind fun r15 =>
 (F14_0 k k (0 : Int) ((x1, (x2, ())), (([] : (List Int)), (([] : (List Int)), (([] : (List (List Bool))), (x3, (x4, ((0 : Int), ()))))))) (r5.1.1, (r13.1.1, (r13.1.2.1, (r14.1.1, (x6, (x7, (r15.1.1, ())))))))).bind fun r34 =>
 match r34 with
 | .inl r35 =>
  let y37 := r35.2.2.1
  some ((y37, true, ()), ())
 | .inr r35 =>
  let y38 := r35.1.1
  let y39 := r35.2.1
  some ((y39, y38, ()), ())
def sp14 (k : Nat) : Spec := ⟨[.val KD48, .val KD61, .val KD61], [.own KD0, .val .bool], fun x => F14 k x.1 x.2.1 x.2.2.1⟩
def lim14 : Lim := ⟨101, 3, false, false, [18, 87, 95], [(19, KD0)]⟩
def cfg14 (k : Nat) : Nat → Option Spec := cfgL [(28, sp28 k), (29, sp29 k), (30, sp30 k), (31, sp31 k), (32, sp32 k), (33, sp33 k), (34, sp34 k)]
noncomputable def co14_0 : Code := codeAt (bodyOf Try.f14) [.r, .r, .r, .r, .r, .r, .l, .r, .s]
noncomputable def cb14_0 : Code := codeAt (bodyOf Try.f14) [.r, .r, .r, .r, .r, .r, .l, .r, .s, .b]
noncomputable def co14 : Code := codeAt (bodyOf Try.f14) []
theorem cfg14_ok (k : Nat) : CfgOK Try.prog (cfg14 k) := cfgL_cons (v28 k) (cfgL_cons (v29 k) (cfgL_cons (v30 k) (cfgL_cons (v31 k) (cfgL_cons (v32 k) (cfgL_cons (v33 k) (cfgL_cons (v34 k) (cfgL_nil)))))))
noncomputable def bo14_0 (k m : Nat) (v : (fr14_0 k).sh.V) := body Try.prog (stepper Try.prog (cfg14 k) lim14) .go cb14_0 ((fr14_0 k).sh.st v) (loopK (fr14_0 k) fun v => F14_0 k m v.1.1 v.2.1 v.2.2.1)
theorem pp14_0 (k m : Nat) (v : (fr14_0 k).sh.V) : F14_0 k (m + 1) v.1.1 v.2.1 v.2.2.1 = (bo14_0 k m v).eval ∧ (bo14_0 k m v).left = (bo14_0 k m v).right := ⟨by kernel_rfl, by kernel_rfl⟩
theorem fr14_0_ok (k : Nat) : FragOK Try.prog lim14 (fr14_0 k) co14_0 :=
 frag_cast (by kernel_rfl) (loop_ok (cfg14_ok k) (planOK_go _) (fun m v => F14_0 k m v.1.1 v.2.1 v.2.2.1) k (fun _ => rfl) (fun _ => rfl) (pp14_0 k))
def pl14 (k : Nat) : Plan := (.seq .go (.seq .go (.seq .go (.seq .go (.seq .go (.seq .go (.seq (.seq .go (.sub (.frag (fr14_0 k)))) .go)))))))
theorem pq14 (k : Nat) : PlanOK Try.prog lim14 (pl14 k) co14 = (PlanOK Try.prog lim14 .go (codeAt (bodyOf Try.f14) [.l]) ∧ (PlanOK Try.prog lim14 .go (codeAt (bodyOf Try.f14) [.r, .l]) ∧ (PlanOK Try.prog lim14 .go (codeAt (bodyOf Try.f14) [.r, .r, .l]) ∧ (PlanOK Try.prog lim14 .go (codeAt (bodyOf Try.f14) [.r, .r, .r, .l]) ∧ (PlanOK Try.prog lim14 .go (codeAt (bodyOf Try.f14) [.r, .r, .r, .r, .l]) ∧ (PlanOK Try.prog lim14 .go (codeAt (bodyOf Try.f14) [.r, .r, .r, .r, .r, .l]) ∧ ((PlanOK Try.prog lim14 .go (codeAt (bodyOf Try.f14) [.r, .r, .r, .r, .r, .r, .l, .l]) ∧ FragOK Try.prog lim14 (fr14_0 k) co14_0) ∧ PlanOK Try.prog lim14 .go (codeAt (bodyOf Try.f14) [.r, .r, .r, .r, .r, .r, .r])))))))) := by kernel_rfl
noncomputable def bo14 (k : Nat) (x : AT (sp14 k).ps) := fnT Try.prog (cfg14 k) lim14 Try.f14 (bodyOf Try.f14) (pl14 k) (sp14 k) x
theorem vv14 (k : Nat) (x : AT (sp14 k).ps) : (sp14 k).impl x = (bo14 k x).eval ∧ (bo14 k x).left = (bo14 k x).right := ⟨by kernel_rfl, by kernel_rfl⟩
theorem v14 (k : Nat) : Callable Try.prog 14 ∧ Valid Try.prog 14 (sp14 k) :=
 fn_of (n := lim14) (fn := Try.f14) (p := (pl14 k)) (cfg14_ok k) (by kernel_rfl) (Eq.mpr (pq14 k) ⟨(planOK_go _), ⟨(planOK_go _), ⟨(planOK_go _), ⟨(planOK_go _), ⟨(planOK_go _), ⟨(planOK_go _), ⟨⟨(planOK_go _), (fr14_0_ok k)⟩, (planOK_go _)⟩⟩⟩⟩⟩⟩⟩) (vv14 k)
def F18_0 (k : Nat) : Nat → Int → Int → TY54 → TY54 → Option (((Int × Unit) × TY32) ⊕ TY72)
 | 0, _, _, _, _ => none
 | n + 1, t5, t6, c2, c3 =>
  if 0 ≤ t5 ∧ t5 < ((List.length c2.1 : Nat) : Int) then
   let x12 := (List.getD c2.1 (Int.toNat t5) ([] : (List Int)))
   let x13 := (decide (t6 < ((List.length x12 : Nat) : Int)))
   bif x13 then
    if 0 ≤ t5 ∧ t5 < ((List.length c2.1 : Nat) : Int) then
     let x14 := (List.getD c2.1 (Int.toNat t5) ([] : (List Int)))
     if 0 ≤ t6 ∧ t6 < ((List.length x14 : Nat) : Int) then
      if 0 ≤ t5 ∧ t5 < ((List.length c3.1 : Nat) : Int) then
       let x15 := (List.getD c3.1 (Int.toNat t5) ([] : (List Int)))
       if 0 ≤ t6 ∧ t6 < ((List.length x15 : Nat) : Int) then
        let x16 := ((List.getD x14 (Int.toNat t6) (0 : Int)) != (List.getD x15 (Int.toNat t6) (0 : Int)))
        bif x16 then
         some (.inr ((false, ()), ()))
        else
         (F18_0 k n t5 (IntKind.wrap .i64 (t6 + (1 : Int))) c2 c3).bind some
       else none
      else none
     else none
    else none
   else
    some (.inl ((t5, ()), (c2, c3, ())))
  else none
def fr18_0 (k : Nat) : Frag := ⟨⟨[], [(2, .ptr 2 []), (3, .ptr 3 []), (5, .val (.int .i64)), (6, .val (.int .i64))], [(2, some 39, KD28), (3, some 39, KD28)]⟩, [(.exit 2, ⟨[], [(2, .ptr 2 []), (3, .ptr 3 []), (5, .val (.int .i64))], [(2, some 39, KD28), (3, some 39, KD28)]⟩), (.ret, ⟨[], [(4, .val .bool)], []⟩)], fun v => F18_0 k k v.1.1 v.1.2.1 v.2.1 v.2.2.1⟩
def F18_1 (k : Nat) : Nat → Int → TY54 → TY54 → Option ((Unit × TY32) ⊕ TY72)
 | 0, _, _, _ => none
 | n + 1, t5, c2, c3 =>
  let x23 := (decide (t5 < ((List.length c2.1 : Nat) : Int)))
  bif x23 then
   if 0 ≤ t5 ∧ t5 < ((List.length c2.1 : Nat) : Int) then
    let x24 := (List.getD c2.1 (Int.toNat t5) ([] : (List Int)))
    if 0 ≤ t5 ∧ t5 < ((List.length c3.1 : Nat) : Int) then
     let x25 := (List.getD c3.1 (Int.toNat t5) ([] : (List Int)))
     let x26 := (((List.length x24 : Nat) : Int) != ((List.length x25 : Nat) : Int))
     bif x26 then
      some (.inr ((false, ()), ()))
     else
      (F18_0 k k t5 (0 : Int) c2 c3).bind fun r27 =>
      match r27 with
      | .inl r28 =>
       let y29 := r28.1.1
       let y30 := r28.2.1
       let y31 := r28.2.2.1
       (F18_1 k n (IntKind.wrap .i64 (y29 + (1 : Int))) y30 y31).bind some
      | .inr r28 =>
       let y32 := r28.1.1
       some (.inr ((y32, ()), ()))
    else none
   else none
  else
   some (.inl ((), (c2, c3, ())))
def fr18_1 (k : Nat) : Frag := ⟨⟨[], [(2, .ptr 2 []), (3, .ptr 3 []), (5, .val (.int .i64))], [(2, some 39, KD28), (3, some 39, KD28)]⟩, [(.exit 0, ⟨[], [(2, .ptr 2 []), (3, .ptr 3 [])], [(2, some 39, KD28), (3, some 39, KD28)]⟩), (.ret, ⟨[], [(4, .val .bool)], []⟩)], fun v => F18_1 k k v.1.1 v.2.1 v.2.2.1⟩
def F18_2 (k : Nat) : Nat → Int → TY54 → TY54 → Option ((Unit × Unit) ⊕ TY72)
 | 0, _, _, _ => none
 | n + 1, t7, c2, c3 =>
  let x39 := (decide (t7 < ((List.length c2.2.1 : Nat) : Int)))
  bif x39 then
   if 0 ≤ t7 ∧ t7 < ((List.length c2.2.1 : Nat) : Int) then
    if 0 ≤ t7 ∧ t7 < ((List.length c3.2.1 : Nat) : Int) then
     let x40 := ((List.getD c2.2.1 (Int.toNat t7) (0 : Int)) != (List.getD c3.2.1 (Int.toNat t7) (0 : Int)))
     bif x40 then
      some (.inr ((false, ()), ()))
     else
      (F18_2 k n (IntKind.wrap .i64 (t7 + (1 : Int))) c2 c3).bind some
    else none
   else none
  else
   some (.inl ((), ()))
def fr18_2 (k : Nat) : Frag := ⟨⟨[], [(2, .ptr 2 []), (3, .ptr 3 []), (7, .val (.int .i64))], [(2, some 39, KD28), (3, some 39, KD28)]⟩, [(.exit 4, ⟨[], [], []⟩), (.ret, ⟨[], [(4, .val .bool)], []⟩)], fun v => F18_2 k k v.1.1 v.2.1 v.2.2.1⟩
def F18 (k : Nat) (a0 : TY54) (a1 : TY54) : Option TY72 :=
 let x1 := (((List.length a0.1 : Nat) : Int) != ((List.length a1.1 : Nat) : Int))
 bif x1 then
  some ((false, ()), ())
 else
  let x2 := (((List.length a0.2.1 : Nat) : Int) != ((List.length a1.2.1 : Nat) : Int))
  bif x2 then
   some ((false, ()), ())
  else
   (F18_1 k k (0 : Int) a0 a1).bind fun r33 =>
   match r33 with
   | .inl r34 =>
    let y35 := r34.2.1
    let y36 := r34.2.2.1
    (F18_2 k k (0 : Int) y35 y36).bind fun r41 =>
    match r41 with
    | .inl r42 =>
     some ((true, ()), ())
    | .inr r42 =>
     let y43 := r42.1.1
     some ((y43, ()), ())
   | .inr r34 =>
    let y44 := r34.1.1
    some ((y44, ()), ())
def sp18 (k : Nat) : Spec := ⟨[.val KD28, .val KD28], [.val .bool], fun x => F18 k x.1 x.2.1⟩
def lim18 : Lim := ⟨89, 2, false, false, [], []⟩
def cfg18 (k : Nat) : Nat → Option Spec := cfgL []
noncomputable def co18_0 : Code := codeAt (bodyOf Try.f18) [.r, .r, .l, .r, .s, .b, .r, .l, .s, .r, .r, .s]
noncomputable def cb18_0 : Code := codeAt (bodyOf Try.f18) [.r, .r, .l, .r, .s, .b, .r, .l, .s, .r, .r, .s, .b]
noncomputable def co18_1 : Code := codeAt (bodyOf Try.f18) [.r, .r, .l, .r, .s]
noncomputable def cb18_1 : Code := codeAt (bodyOf Try.f18) [.r, .r, .l, .r, .s, .b]
noncomputable def co18_2 : Code := codeAt (bodyOf Try.f18) [.r, .r, .r, .l, .r, .s]
noncomputable def cb18_2 : Code := codeAt (bodyOf Try.f18) [.r, .r, .r, .l, .r, .s, .b]
noncomputable def co18 : Code := codeAt (bodyOf Try.f18) []
theorem cfg18_ok (k : Nat) : CfgOK Try.prog (cfg18 k) := cfgL_nil
noncomputable def bo18_0 (k m : Nat) (v : (fr18_0 k).sh.V) := body Try.prog (stepper Try.prog (cfg18 k) lim18) .go cb18_0 ((fr18_0 k).sh.st v) (loopK (fr18_0 k) fun v => F18_0 k m v.1.1 v.1.2.1 v.2.1 v.2.2.1)
theorem pp18_0 (k m : Nat) (v : (fr18_0 k).sh.V) : F18_0 k (m + 1) v.1.1 v.1.2.1 v.2.1 v.2.2.1 = (bo18_0 k m v).eval ∧ (bo18_0 k m v).left = (bo18_0 k m v).right := ⟨by kernel_rfl, by kernel_rfl⟩
theorem fr18_0_ok (k : Nat) : FragOK Try.prog lim18 (fr18_0 k) co18_0 :=
 frag_cast (by kernel_rfl) (loop_ok (cfg18_ok k) (planOK_go _) (fun m v => F18_0 k m v.1.1 v.1.2.1 v.2.1 v.2.2.1) k (fun _ => rfl) (fun _ => rfl) (pp18_0 k))
def pl18_1 (k : Nat) : Plan := (.seq .go (.seq (.sub (.seq .go (.seq .go (.sub (.frag (fr18_0 k)))))) .go))
theorem pq18_1 (k : Nat) : PlanOK Try.prog lim18 (pl18_1 k) cb18_1 = (PlanOK Try.prog lim18 .go (codeAt (bodyOf Try.f18) [.r, .r, .l, .r, .s, .b, .l]) ∧ ((PlanOK Try.prog lim18 .go (codeAt (bodyOf Try.f18) [.r, .r, .l, .r, .s, .b, .r, .l, .s, .l]) ∧ (PlanOK Try.prog lim18 .go (codeAt (bodyOf Try.f18) [.r, .r, .l, .r, .s, .b, .r, .l, .s, .r, .l]) ∧ FragOK Try.prog lim18 (fr18_0 k) co18_0)) ∧ PlanOK Try.prog lim18 .go (codeAt (bodyOf Try.f18) [.r, .r, .l, .r, .s, .b, .r, .r]))) := by kernel_rfl
noncomputable def bo18_1 (k m : Nat) (v : (fr18_1 k).sh.V) := body Try.prog (stepper Try.prog (cfg18 k) lim18) (pl18_1 k) cb18_1 ((fr18_1 k).sh.st v) (loopK (fr18_1 k) fun v => F18_1 k m v.1.1 v.2.1 v.2.2.1)
theorem pp18_1 (k m : Nat) (v : (fr18_1 k).sh.V) : F18_1 k (m + 1) v.1.1 v.2.1 v.2.2.1 = (bo18_1 k m v).eval ∧ (bo18_1 k m v).left = (bo18_1 k m v).right := ⟨by kernel_rfl, by kernel_rfl⟩
theorem fr18_1_ok (k : Nat) : FragOK Try.prog lim18 (fr18_1 k) co18_1 :=
 frag_cast (by kernel_rfl) (loop_ok (cfg18_ok k) (Eq.mpr (pq18_1 k) ⟨(planOK_go _), ⟨⟨(planOK_go _), ⟨(planOK_go _), (fr18_0_ok k)⟩⟩, (planOK_go _)⟩⟩) (fun m v => F18_1 k m v.1.1 v.2.1 v.2.2.1) k (fun _ => rfl) (fun _ => rfl) (pp18_1 k))
noncomputable def bo18_2 (k m : Nat) (v : (fr18_2 k).sh.V) := body Try.prog (stepper Try.prog (cfg18 k) lim18) .go cb18_2 ((fr18_2 k).sh.st v) (loopK (fr18_2 k) fun v => F18_2 k m v.1.1 v.2.1 v.2.2.1)
theorem pp18_2 (k m : Nat) (v : (fr18_2 k).sh.V) : F18_2 k (m + 1) v.1.1 v.2.1 v.2.2.1 = (bo18_2 k m v).eval ∧ (bo18_2 k m v).left = (bo18_2 k m v).right := ⟨by kernel_rfl, by kernel_rfl⟩
theorem fr18_2_ok (k : Nat) : FragOK Try.prog lim18 (fr18_2 k) co18_2 :=
 frag_cast (by kernel_rfl) (loop_ok (cfg18_ok k) (planOK_go _) (fun m v => F18_2 k m v.1.1 v.2.1 v.2.2.1) k (fun _ => rfl) (fun _ => rfl) (pp18_2 k))
def pl18 (k : Nat) : Plan := (.seq .go (.seq .go (.seq (.seq .go (.sub (.frag (fr18_1 k)))) (.seq (.seq .go (.sub (.frag (fr18_2 k)))) .go))))
theorem pq18 (k : Nat) : PlanOK Try.prog lim18 (pl18 k) co18 = (PlanOK Try.prog lim18 .go (codeAt (bodyOf Try.f18) [.l]) ∧ (PlanOK Try.prog lim18 .go (codeAt (bodyOf Try.f18) [.r, .l]) ∧ ((PlanOK Try.prog lim18 .go (codeAt (bodyOf Try.f18) [.r, .r, .l, .l]) ∧ FragOK Try.prog lim18 (fr18_1 k) co18_1) ∧ ((PlanOK Try.prog lim18 .go (codeAt (bodyOf Try.f18) [.r, .r, .r, .l, .l]) ∧ FragOK Try.prog lim18 (fr18_2 k) co18_2) ∧ PlanOK Try.prog lim18 .go (codeAt (bodyOf Try.f18) [.r, .r, .r, .r]))))) := by kernel_rfl
noncomputable def bo18 (k : Nat) (x : AT (sp18 k).ps) := fnT Try.prog (cfg18 k) lim18 Try.f18 (bodyOf Try.f18) (pl18 k) (sp18 k) x
theorem vv18 (k : Nat) (x : AT (sp18 k).ps) : (sp18 k).impl x = (bo18 k x).eval ∧ (bo18 k x).left = (bo18 k x).right := ⟨by kernel_rfl, by kernel_rfl⟩
theorem v18 (k : Nat) : Callable Try.prog 18 ∧ Valid Try.prog 18 (sp18 k) :=
 fn_of (n := lim18) (fn := Try.f18) (p := (pl18 k)) (cfg18_ok k) (by kernel_rfl) (Eq.mpr (pq18 k) ⟨(planOK_go _), ⟨(planOK_go _), ⟨⟨(planOK_go _), (fr18_1_ok k)⟩, ⟨⟨(planOK_go _), (fr18_2_ok k)⟩, (planOK_go _)⟩⟩⟩⟩) (vv18 k)
def F25_0 (k : Nat) : Nat → (List Bool) → (List Bool) → Int → Option ((Unit × Unit) ⊕ TY72)
 | 0, _, _, _ => none
 | n + 1, t0, t1, t5 =>
  let x4 := (decide (t5 < ((List.length t0 : Nat) : Int)))
  bif x4 then
   if 0 ≤ t5 ∧ t5 < ((List.length t0 : Nat) : Int) then
    if 0 ≤ t5 ∧ t5 < ((List.length t1 : Nat) : Int) then
     let x5 := (!((List.getD t0 (Int.toNat t5) false) == (List.getD t1 (Int.toNat t5) false)))
     bif x5 then
      some (.inr ((false, ()), ()))
     else
      (F25_0 k n t0 t1 (IntKind.wrap .i64 (t5 + (1 : Int)))).bind some
    else none
   else none
  else
   some (.inl ((), ()))
def fr25_0 (k : Nat) : Frag := ⟨⟨[], [(0, .val KD70), (1, .val KD70), (5, .val (.int .i64))], []⟩, [(.exit 0, ⟨[], [], []⟩), (.ret, ⟨[], [(4, .val .bool)], []⟩)], fun v => F25_0 k k v.1.1 v.1.2.1 v.1.2.2.1⟩
def F25 (k : Nat) (a0 : (List Bool)) (a1 : (List Bool)) : Option TY72 :=
 let x1 := (((List.length a0 : Nat) : Int) != ((List.length a1 : Nat) : Int))
 bif x1 then
  some ((false, ()), ())
 else
  (F25_0 k k a0 a1 (0 : Int)).bind fun r6 =>
  match r6 with
  | .inl r7 =>
   some ((true, ()), ())
  | .inr r7 =>
   let y8 := r7.1.1
   some ((y8, ()), ())
def sp25 (k : Nat) : Spec := ⟨[.val KD70, .val KD70], [.val .bool], fun x => F25 k x.1 x.2.1⟩
def lim25 : Lim := ⟨26, 2, false, false, [], []⟩
def cfg25 (k : Nat) : Nat → Option Spec := cfgL []
noncomputable def co25_0 : Code := codeAt (bodyOf Try.f25) [.r, .r, .l, .r, .s]
noncomputable def cb25_0 : Code := codeAt (bodyOf Try.f25) [.r, .r, .l, .r, .s, .b]
noncomputable def co25 : Code := codeAt (bodyOf Try.f25) []
theorem cfg25_ok (k : Nat) : CfgOK Try.prog (cfg25 k) := cfgL_nil
noncomputable def bo25_0 (k m : Nat) (v : (fr25_0 k).sh.V) := body Try.prog (stepper Try.prog (cfg25 k) lim25) .go cb25_0 ((fr25_0 k).sh.st v) (loopK (fr25_0 k) fun v => F25_0 k m v.1.1 v.1.2.1 v.1.2.2.1)
theorem pp25_0 (k m : Nat) (v : (fr25_0 k).sh.V) : F25_0 k (m + 1) v.1.1 v.1.2.1 v.1.2.2.1 = (bo25_0 k m v).eval ∧ (bo25_0 k m v).left = (bo25_0 k m v).right := ⟨by kernel_rfl, by kernel_rfl⟩
theorem fr25_0_ok (k : Nat) : FragOK Try.prog lim25 (fr25_0 k) co25_0 :=
 frag_cast (by kernel_rfl) (loop_ok (cfg25_ok k) (planOK_go _) (fun m v => F25_0 k m v.1.1 v.1.2.1 v.1.2.2.1) k (fun _ => rfl) (fun _ => rfl) (pp25_0 k))
def pl25 (k : Nat) : Plan := (.seq .go (.seq .go (.seq (.seq .go (.sub (.frag (fr25_0 k)))) .go)))
theorem pq25 (k : Nat) : PlanOK Try.prog lim25 (pl25 k) co25 = (PlanOK Try.prog lim25 .go (codeAt (bodyOf Try.f25) [.l]) ∧ (PlanOK Try.prog lim25 .go (codeAt (bodyOf Try.f25) [.r, .l]) ∧ ((PlanOK Try.prog lim25 .go (codeAt (bodyOf Try.f25) [.r, .r, .l, .l]) ∧ FragOK Try.prog lim25 (fr25_0 k) co25_0) ∧ PlanOK Try.prog lim25 .go (codeAt (bodyOf Try.f25) [.r, .r, .r])))) := by kernel_rfl
noncomputable def bo25 (k : Nat) (x : AT (sp25 k).ps) := fnT Try.prog (cfg25 k) lim25 Try.f25 (bodyOf Try.f25) (pl25 k) (sp25 k) x
theorem vv25 (k : Nat) (x : AT (sp25 k).ps) : (sp25 k).impl x = (bo25 k x).eval ∧ (bo25 k x).left = (bo25 k x).right := ⟨by kernel_rfl, by kernel_rfl⟩
theorem v25 (k : Nat) : Callable Try.prog 25 ∧ Valid Try.prog 25 (sp25 k) :=
 fn_of (n := lim25) (fn := Try.f25) (p := (pl25 k)) (cfg25_ok k) (by kernel_rfl) (Eq.mpr (pq25 k) ⟨(planOK_go _), ⟨(planOK_go _), ⟨⟨(planOK_go _), (fr25_0_ok k)⟩, (planOK_go _)⟩⟩⟩) (vv25 k)
def F8_0 (k : Nat) : Nat → Int → (List (List Bool)) → (List (List Bool)) → Option ((Unit × Unit) ⊕ TY72)
 | 0, _, _, _ => none
 | n + 1, t15, c1000593, c1000849 =>
  let x18 := (decide (t15 < ((List.length c1000593 : Nat) : Int)))
  bif x18 then
   if 0 ≤ t15 ∧ t15 < ((List.length c1000849 : Nat) : Int) then
    if 0 ≤ t15 ∧ t15 < ((List.length c1000593 : Nat) : Int) then
     if 0 ≤ t15 ∧ t15 < ((List.length c1000593 : Nat) : Int) then
      if (List.length (List.replicate 0 false) + List.length (List.getD c1000593 (Int.toNat t15) ([] : (List Bool)))) * (1 * 2) ≤ 281474976710656 ∧ List.length (List.replicate 0 false) + List.length (List.getD c1000593 (Int.toNat t15) ([] : (List Bool))) ≤ 9223372036854775807 then
       let x19 := ((List.replicate 0 false) ++ (List.getD c1000593 (Int.toNat t15) ([] : (List Bool))))
       if (List.length x19 + List.length (List.getD c1000593 (Int.toNat t15) ([] : (List Bool)))) * (1 * 2) ≤ 281474976710656 ∧ List.length x19 + List.length (List.getD c1000593 (Int.toNat t15) ([] : (List Bool))) ≤ 9223372036854775807 then
        let x20 := (x19 ++ (List.getD c1000593 (Int.toNat t15) ([] : (List Bool))))
        (F25 k (List.getD c1000849 (Int.toNat t15) ([] : (List Bool))) x20).bind fun r21 =>
        bif (!r21.1.1) then
         some (.inr ((false, ()), ()))
        else
         (F8_0 k n (IntKind.wrap .i64 (t15 + (1 : Int))) c1000593 c1000849).bind some
       else none
      else none
     else none
    else none
   else none
  else
   some (.inl ((), ()))
def fr8_0 (k : Nat) : Frag := ⟨⟨[], [(10, .at 1000593 []), (13, .at 1000849 []), (15, .val (.int .i64))], [(1000593, none, KD53), (1000849, none, KD53)]⟩, [(.exit 0, ⟨[], [], []⟩), (.ret, ⟨[], [(6, .val .bool)], []⟩)], fun v => F8_0 k k v.1.1 v.2.1 v.2.2.1⟩
def F8 (k : Nat) (a0 : TY57) (a1 : (List Int)) (a2 : (List Int)) : Option TY72 :=
 (F12 k).bind fun r1 =>
 bif (!r1.1.1) then
  some ((false, ()), ())
 else
  (F13 k a0).bind fun r2 =>
  bif (!r2.1.1) then
   some ((true, ()), ())
  else
   (F14 k a0 a1 a2).bind fun r3 =>
   bif (!r3.1.2.1) then
    some ((true, ()), ())
   else
    (F16 k r3.1.1.2.2.2.2.2.1 r3.1.1.2.2.2.1 r3.1.1.2.2.2.2.2.2.1 (60 : Int)).bind fun r8 =>
    let x9 := (List.replicate 0 (([] : (List Int)), (([] : (List Int)), (([] : (List Int)), (([] : TY56), ((0 : Int), ()))))))
    if (List.length x9 + List.length r3.1.1.2.2.2.2.2.1) * (104 * 2) ≤ 281474976710656 ∧ List.length x9 + List.length r3.1.1.2.2.2.2.2.1 ≤ 9223372036854775807 then
     if (List.length (x9 ++ r3.1.1.2.2.2.2.2.1) + List.length r3.1.1.2.2.2.2.2.1) * (104 * 2) ≤ 281474976710656 ∧ List.length (x9 ++ r3.1.1.2.2.2.2.2.1) + List.length r3.1.1.2.2.2.2.2.1 ≤ 9223372036854775807 then
      let x10 := ((x9 ++ r3.1.1.2.2.2.2.2.1) ++ r3.1.1.2.2.2.2.2.1)
      (F16 k x10 r3.1.1.2.2.2.1 r3.1.1.2.2.2.2.2.2.1 (60 : Int)).bind fun r11 =>
      bif (r8.1.2.2.1 != r11.1.2.2.1) then
       some ((false, ()), ())
      else
       (F18 k r8.1.1 r11.1.1).bind fun r12 =>
       bif (!r12.1.1) then
        some ((false, ()), ())
       else
        let x13 := (((List.length r8.1.2.1 : Nat) : Int) != ((List.length r11.1.2.1 : Nat) : Int))
        bif x13 then
         some ((false, ()), ())
        else
         (F8_0 k k (0 : Int) r8.1.2.1 r11.1.2.1).bind fun r22 =>
         match r22 with
         | .inl r23 =>
          some ((true, ()), ())
         | .inr r23 =>
          let y24 := r23.1.1
          some ((y24, ()), ())
     else none
    else none
def sp8 (k : Nat) : Spec := ⟨[.val KD48, .val KD61, .val KD61], [.val .bool], fun x => F8 k x.1 x.2.1 x.2.2.1⟩
def lim8 : Lim := ⟨96, 3, false, true, [], [(42, KD13)]⟩
def cfg8 (k : Nat) : Nat → Option Spec := cfgL [(12, sp12 k), (13, sp13 k), (14, sp14 k), (16, sp16 k), (18, sp18 k), (25, sp25 k)]
noncomputable def co8_0 : Code := codeAt (bodyOf Try.f8) [.r, .r, .r, .r, .r, .r, .r, .r, .l, .r, .s]
noncomputable def cb8_0 : Code := codeAt (bodyOf Try.f8) [.r, .r, .r, .r, .r, .r, .r, .r, .l, .r, .s, .b]
noncomputable def co8 : Code := codeAt (bodyOf Try.f8) []
theorem cfg8_ok (k : Nat) : CfgOK Try.prog (cfg8 k) := cfgL_cons (v12 k) (cfgL_cons (v13 k) (cfgL_cons (v14 k) (cfgL_cons (v16 k) (cfgL_cons (v18 k) (cfgL_cons (v25 k) (cfgL_nil))))))
noncomputable def bo8_0 (k m : Nat) (v : (fr8_0 k).sh.V) := body Try.prog (stepper Try.prog (cfg8 k) lim8) .go cb8_0 ((fr8_0 k).sh.st v) (loopK (fr8_0 k) fun v => F8_0 k m v.1.1 v.2.1 v.2.2.1)
theorem pp8_0 (k m : Nat) (v : (fr8_0 k).sh.V) : F8_0 k (m + 1) v.1.1 v.2.1 v.2.2.1 = (bo8_0 k m v).eval ∧ (bo8_0 k m v).left = (bo8_0 k m v).right := ⟨by kernel_rfl, by kernel_rfl⟩
theorem fr8_0_ok (k : Nat) : FragOK Try.prog lim8 (fr8_0 k) co8_0 :=
 frag_cast (by kernel_rfl) (loop_ok (cfg8_ok k) (planOK_go _) (fun m v => F8_0 k m v.1.1 v.2.1 v.2.2.1) k (fun _ => rfl) (fun _ => rfl) (pp8_0 k))
def pl8 (k : Nat) : Plan := (.seq .go (.seq .go (.seq .go (.seq .go (.seq .go (.seq .go (.seq .go (.seq .go (.seq (.seq .go (.sub (.frag (fr8_0 k)))) .go)))))))))
theorem pq8 (k : Nat) : PlanOK Try.prog lim8 (pl8 k) co8 = (PlanOK Try.prog lim8 .go (codeAt (bodyOf Try.f8) [.l]) ∧ (PlanOK Try.prog lim8 .go (codeAt (bodyOf Try.f8) [.r, .l]) ∧ (PlanOK Try.prog lim8 .go (codeAt (bodyOf Try.f8) [.r, .r, .l]) ∧ (PlanOK Try.prog lim8 .go (codeAt (bodyOf Try.f8) [.r, .r, .r, .l]) ∧ (PlanOK Try.prog lim8 .go (codeAt (bodyOf Try.f8) [.r, .r, .r, .r, .l]) ∧ (PlanOK Try.prog lim8 .go (codeAt (bodyOf Try.f8) [.r, .r, .r, .r, .r, .l]) ∧ (PlanOK Try.prog lim8 .go (codeAt (bodyOf Try.f8) [.r, .r, .r, .r, .r, .r, .l]) ∧ (PlanOK Try.prog lim8 .go (codeAt (bodyOf Try.f8) [.r, .r, .r, .r, .r, .r, .r, .l]) ∧ ((PlanOK Try.prog lim8 .go (codeAt (bodyOf Try.f8) [.r, .r, .r, .r, .r, .r, .r, .r, .l, .l]) ∧ FragOK Try.prog lim8 (fr8_0 k) co8_0) ∧ PlanOK Try.prog lim8 .go (codeAt (bodyOf Try.f8) [.r, .r, .r, .r, .r, .r, .r, .r, .r])))))))))) := by kernel_rfl
noncomputable def bo8 (k : Nat) (x : AT (sp8 k).ps) := fnT Try.prog (cfg8 k) lim8 Try.f8 (bodyOf Try.f8) (pl8 k) (sp8 k) x
theorem vv8 (k : Nat) (x : AT (sp8 k).ps) : (sp8 k).impl x = (bo8 k x).eval ∧ (bo8 k x).left = (bo8 k x).right := ⟨by kernel_rfl, by kernel_rfl⟩
theorem v8 (k : Nat) : Callable Try.prog 8 ∧ Valid Try.prog 8 (sp8 k) :=
 fn_of (n := lim8) (fn := Try.f8) (p := (pl8 k)) (cfg8_ok k) (by kernel_rfl) (Eq.mpr (pq8 k) ⟨(planOK_go _), ⟨(planOK_go _), ⟨(planOK_go _), ⟨(planOK_go _), ⟨(planOK_go _), ⟨(planOK_go _), ⟨(planOK_go _), ⟨(planOK_go _), ⟨⟨(planOK_go _), (fr8_0_ok k)⟩, (planOK_go _)⟩⟩⟩⟩⟩⟩⟩⟩⟩) (vv8 k)
end Go.Proofs.YtibammoednhnoaaE

