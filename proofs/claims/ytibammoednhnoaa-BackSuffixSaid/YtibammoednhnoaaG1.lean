/- Functions of the program, as Lean functions, with their contracts; printed by gen.py. Conditions: none. -/
import Derived.Test.YtibammoednhnoaaG0
set_option linter.unusedVariables false
namespace Go.Proofs.YtibammoednhnoaaE
open Kd
set_option maxRecDepth 20000
def F81_0 (k : Nat) : Nat → Int → Int → Int → TY32 → TY32 → TY32 → TY32 → Option (((Int × Int × Unit) × (TY32 × TY32 × TY32 × TY32 × Unit)))
 | 0, _, _, _, _, _, _, _ => none
 | n + 1, t5, t7, t8, c2, c3, c4, c6 =>
  let x10 := (decide (t8 < ((List.length c3.1 : Nat) : Int)))
  bif x10 then
   if 0 ≤ t7 ∧ t7 < ((List.length c2.2.2.1 : Nat) : Int) then
    let x11 := (List.getD c2.2.2.1 (Int.toNat t7) (0 : Int))
    if 0 ≤ t8 ∧ t8 < ((List.length c3.2.1 : Nat) : Int) then
     (F69 k x11 (List.getD c3.2.1 (Int.toNat t8) (0 : Int))).bind fun r12 =>
     (F86 k c6.2.2.2.1 (t7, ((IntKind.wrap .i64 (t5 + t8)), (r12.1.1, ())))).bind fun r13 =>
     (F81_0 k n t5 t7 (IntKind.wrap .i64 (t8 + (1 : Int))) c2 c3 c4 (c6.1, (c6.2.1, (c6.2.2.1, (r13.1.1, c6.2.2.2.2))))).bind some
    else none
   else none
  else
   some ((t5, t7, ()), (c2, c3, c4, c6, ()))
def fr81_0 (k : Nat) : Frag := ⟨⟨[], [(2, .ptr 2 []), (3, .ptr 3 []), (4, .ptr 4 []), (5, .val (.int .i64)), (6, .ptr 6 []), (7, .val (.int .i64)), (8, .val (.int .i64))], [(2, some 65, KD14), (3, some 65, KD14), (4, some 65, KD15), (6, some 65, KD15)]⟩, [(.exit 2, ⟨[], [(2, .ptr 2 []), (3, .ptr 3 []), (4, .ptr 4 []), (5, .val (.int .i64)), (6, .ptr 6 []), (7, .val (.int .i64))], [(2, some 65, KD14), (3, some 65, KD14), (4, some 65, KD15), (6, some 65, KD15)]⟩)], fun v => F81_0 k k v.1.1 v.1.2.1 v.1.2.2.1 v.2.1 v.2.2.1 v.2.2.2.1 v.2.2.2.2.1⟩
def F81_1 (k : Nat) : Nat → Int → Int → TY32 → TY32 → TY32 → TY32 → Option TY8
 | 0, _, _, _, _, _, _ => none
 | n + 1, t5, t7, c2, c3, c4, c6 =>
  bif (decide (t7 < t5)) then
   if 0 ≤ t7 ∧ t7 < ((List.length c2.2.1 : Nat) : Int) then
    if 0 ≤ t7 ∧ t7 < ((List.length c2.2.2.1 : Nat) : Int) then
     let x21 := (List.getD c2.2.2.1 (Int.toNat t7) (0 : Int))
     (F69 k x21 c3.2.2.2.2.1).bind fun r22 =>
     if 0 ≤ t7 ∧ t7 < ((List.length c6.2.1 : Nat) : Int) then
      let x23 := (List.set c6.2.1 (Int.toNat t7) (List.getD c2.2.1 (Int.toNat t7) (0 : Int)))
      if 0 ≤ t7 ∧ t7 < ((List.length c6.2.2.1 : Nat) : Int) then
       (F81_0 k k t5 t7 (0 : Int) c2 c3 c4 (c6.1, (x23, ((List.set c6.2.2.1 (Int.toNat t7) r22.1.1), c6.2.2.2)))).bind fun r24 =>
       let y25 := r24.1.1
       let y26 := r24.1.2.1
       let y27 := r24.2.1
       let y28 := r24.2.2.1
       let y29 := r24.2.2.2.1
       let y30 := r24.2.2.2.2.1
       (F81_1 k n y25 (IntKind.wrap .i64 (y26 + (1 : Int))) y27 y28 y29 y30).bind some
      else none
     else none
    else none
   else none
  else
   some ((t5, ()), (c2, c3, c4, c6, ()))
def fr81_1 (k : Nat) : Frag := ⟨⟨[], [(2, .ptr 2 []), (3, .ptr 3 []), (4, .ptr 4 []), (5, .val (.int .i64)), (6, .ptr 6 []), (7, .val (.int .i64))], [(2, some 65, KD14), (3, some 65, KD14), (4, some 65, KD15), (6, some 65, KD15)]⟩, [(.exit 0, ⟨[], [(2, .ptr 2 []), (3, .ptr 3 []), (4, .ptr 4 []), (5, .val (.int .i64)), (6, .ptr 6 [])], [(2, some 65, KD14), (3, some 65, KD14), (4, some 65, KD15), (6, some 65, KD15)]⟩)], fun v => F81_1 k k v.1.1 v.1.2.1 v.2.1 v.2.2.1 v.2.2.2.1 v.2.2.2.2.1⟩
def F81_2 (k : Nat) : Nat → Int → Int → TY32 → TY32 → TY32 → TY32 → Option TY16
 | 0, _, _, _, _, _, _ => none
 | n + 1, t5, t9, c2, c3, c4, c6 =>
  let x42 := (decide (t9 < ((List.length c3.1 : Nat) : Int)))
  bif x42 then
   if 0 ≤ t9 ∧ t9 < ((List.length c3.2.1 : Nat) : Int) then
    if 0 ≤ t9 ∧ t9 < ((List.length c3.2.2.1 : Nat) : Int) then
     let x43 := (List.getD c3.2.2.1 (Int.toNat t9) (0 : Int))
     (F69 k c2.2.2.2.2.1 (List.getD c3.2.1 (Int.toNat t9) (0 : Int))).bind fun r44 =>
     if 0 ≤ (IntKind.wrap .i64 (t5 + t9)) ∧ (IntKind.wrap .i64 (t5 + t9)) < ((List.length c6.2.1 : Nat) : Int) then
      let x45 := (Int.toNat (IntKind.wrap .i64 (t5 + t9)))
      if 0 ≤ (IntKind.wrap .i64 (t5 + t9)) ∧ (IntKind.wrap .i64 (t5 + t9)) < ((List.length c6.2.2.1 : Nat) : Int) then
       let x46 := (Int.toNat (IntKind.wrap .i64 (t5 + t9)))
       (F81_2 k n t5 (IntKind.wrap .i64 (t9 + (1 : Int))) c2 c3 c4 (c6.1, ((List.set c6.2.1 x45 r44.1.1), ((List.set c6.2.2.1 x46 x43), c6.2.2.2)))).bind some
      else none
     else none
    else none
   else none
  else
   some ((), (c4, c6, ()))
def fr81_2 (k : Nat) : Frag := ⟨⟨[], [(2, .ptr 2 []), (3, .ptr 3 []), (4, .ptr 4 []), (5, .val (.int .i64)), (6, .ptr 6 []), (9, .val (.int .i64))], [(2, some 65, KD14), (3, some 65, KD14), (4, some 65, KD15), (6, some 65, KD15)]⟩, [(.exit 4, ⟨[], [(4, .ptr 4 []), (6, .ptr 6 [])], [(4, some 65, KD15), (6, some 65, KD15)]⟩)], fun v => F81_2 k k v.1.1 v.1.2.1 v.2.1 v.2.2.1 v.2.2.2.1 v.2.2.2.2.1⟩
def F81 (k : Nat) (a0 : TY32) (a1 : TY32) : Option TY26 :=
 (F85 k a0 a1).bind fun r1 =>
 (F69 k a0.2.2.2.2.1 a1.2.2.2.2.1).bind fun r2 =>
 (F81_1 k k ((List.length a0.1 : Nat) : Int) (0 : Int) a0 a1 (([] : (List Int)), (([] : (List Int)), (([] : (List Int)), (([] : TY56), ((0 : Int), ()))))) (r1.1.1.1, (r1.1.1.2.1, (r1.1.1.2.2.1, (r1.1.1.2.2.2.1, (r2.1.1, r1.1.1.2.2.2.2.2)))))).bind fun r31 =>
 let y32 := r31.1.1
 let y33 := r31.2.1
 let y34 := r31.2.2.1
 let y35 := r31.2.2.2.1
 let y36 := r31.2.2.2.2.1
 (F81_2 k k y32 (0 : Int) y33 y34 y35 y36).bind fun r47 =>
 let y49 := r47.2.2.1
 some ((y49, ()), ())
def sp81 (k : Nat) : Spec := ⟨[.val KD14, .val KD14], [.own KD15], fun x => F81 k x.1 x.2.1⟩
def lim81 : Lim := ⟨108, 2, false, false, [], []⟩
def cfg81 (k : Nat) : Nat → Option Spec := cfgL [(69, sp69 k), (85, sp85 k), (86, sp86 k)]
noncomputable def co81_0 : Code := codeAt (bodyOf Try.f81) [.r, .r, .r, .r, .l, .r, .s, .b, .r, .l, .s, .r, .r, .s]
noncomputable def cb81_0 : Code := codeAt (bodyOf Try.f81) [.r, .r, .r, .r, .l, .r, .s, .b, .r, .l, .s, .r, .r, .s, .b]
noncomputable def co81_1 : Code := codeAt (bodyOf Try.f81) [.r, .r, .r, .r, .l, .r, .s]
noncomputable def cb81_1 : Code := codeAt (bodyOf Try.f81) [.r, .r, .r, .r, .l, .r, .s, .b]
noncomputable def co81_2 : Code := codeAt (bodyOf Try.f81) [.r, .r, .r, .r, .r, .l, .r, .s]
noncomputable def cb81_2 : Code := codeAt (bodyOf Try.f81) [.r, .r, .r, .r, .r, .l, .r, .s, .b]
noncomputable def co81 : Code := codeAt (bodyOf Try.f81) []
theorem cfg81_ok (k : Nat) : CfgOK Try.prog (cfg81 k) := cfgL_cons (v69 k) (cfgL_cons (v85 k) (cfgL_cons (v86 k) (cfgL_nil)))
noncomputable def bo81_0 (k m : Nat) (v : (fr81_0 k).sh.V) := body Try.prog (stepper Try.prog (cfg81 k) lim81) .go cb81_0 ((fr81_0 k).sh.st v) (loopK (fr81_0 k) fun v => F81_0 k m v.1.1 v.1.2.1 v.1.2.2.1 v.2.1 v.2.2.1 v.2.2.2.1 v.2.2.2.2.1)
theorem pp81_0 (k m : Nat) (v : (fr81_0 k).sh.V) : F81_0 k (m + 1) v.1.1 v.1.2.1 v.1.2.2.1 v.2.1 v.2.2.1 v.2.2.2.1 v.2.2.2.2.1 = (bo81_0 k m v).eval ∧ (bo81_0 k m v).left = (bo81_0 k m v).right := ⟨by kernel_rfl, by kernel_rfl⟩
theorem fr81_0_ok (k : Nat) : FragOK Try.prog lim81 (fr81_0 k) co81_0 :=
 frag_cast (by kernel_rfl) (loop_ok (cfg81_ok k) (planOK_go _) (fun m v => F81_0 k m v.1.1 v.1.2.1 v.1.2.2.1 v.2.1 v.2.2.1 v.2.2.2.1 v.2.2.2.2.1) k (fun _ => rfl) (fun _ => rfl) (pp81_0 k))
def pl81_1 (k : Nat) : Plan := (.seq .go (.seq (.sub (.seq .go (.seq .go (.sub (.frag (fr81_0 k)))))) .go))
theorem pq81_1 (k : Nat) : PlanOK Try.prog lim81 (pl81_1 k) cb81_1 = (PlanOK Try.prog lim81 .go (codeAt (bodyOf Try.f81) [.r, .r, .r, .r, .l, .r, .s, .b, .l]) ∧ ((PlanOK Try.prog lim81 .go (codeAt (bodyOf Try.f81) [.r, .r, .r, .r, .l, .r, .s, .b, .r, .l, .s, .l]) ∧ (PlanOK Try.prog lim81 .go (codeAt (bodyOf Try.f81) [.r, .r, .r, .r, .l, .r, .s, .b, .r, .l, .s, .r, .l]) ∧ FragOK Try.prog lim81 (fr81_0 k) co81_0)) ∧ PlanOK Try.prog lim81 .go (codeAt (bodyOf Try.f81) [.r, .r, .r, .r, .l, .r, .s, .b, .r, .r]))) := by kernel_rfl
noncomputable def bo81_1 (k m : Nat) (v : (fr81_1 k).sh.V) := body Try.prog (stepper Try.prog (cfg81 k) lim81) (pl81_1 k) cb81_1 ((fr81_1 k).sh.st v) (loopK (fr81_1 k) fun v => F81_1 k m v.1.1 v.1.2.1 v.2.1 v.2.2.1 v.2.2.2.1 v.2.2.2.2.1)
theorem pp81_1 (k m : Nat) (v : (fr81_1 k).sh.V) : F81_1 k (m + 1) v.1.1 v.1.2.1 v.2.1 v.2.2.1 v.2.2.2.1 v.2.2.2.2.1 = (bo81_1 k m v).eval ∧ (bo81_1 k m v).left = (bo81_1 k m v).right := ⟨by kernel_rfl, by kernel_rfl⟩
theorem fr81_1_ok (k : Nat) : FragOK Try.prog lim81 (fr81_1 k) co81_1 :=
 frag_cast (by kernel_rfl) (loop_ok (cfg81_ok k) (Eq.mpr (pq81_1 k) ⟨(planOK_go _), ⟨⟨(planOK_go _), ⟨(planOK_go _), (fr81_0_ok k)⟩⟩, (planOK_go _)⟩⟩) (fun m v => F81_1 k m v.1.1 v.1.2.1 v.2.1 v.2.2.1 v.2.2.2.1 v.2.2.2.2.1) k (fun _ => rfl) (fun _ => rfl) (pp81_1 k))
noncomputable def bo81_2 (k m : Nat) (v : (fr81_2 k).sh.V) := body Try.prog (stepper Try.prog (cfg81 k) lim81) .go cb81_2 ((fr81_2 k).sh.st v) (loopK (fr81_2 k) fun v => F81_2 k m v.1.1 v.1.2.1 v.2.1 v.2.2.1 v.2.2.2.1 v.2.2.2.2.1)
theorem pp81_2 (k m : Nat) (v : (fr81_2 k).sh.V) : F81_2 k (m + 1) v.1.1 v.1.2.1 v.2.1 v.2.2.1 v.2.2.2.1 v.2.2.2.2.1 = (bo81_2 k m v).eval ∧ (bo81_2 k m v).left = (bo81_2 k m v).right := ⟨by kernel_rfl, by kernel_rfl⟩
theorem fr81_2_ok (k : Nat) : FragOK Try.prog lim81 (fr81_2 k) co81_2 :=
 frag_cast (by kernel_rfl) (loop_ok (cfg81_ok k) (planOK_go _) (fun m v => F81_2 k m v.1.1 v.1.2.1 v.2.1 v.2.2.1 v.2.2.2.1 v.2.2.2.2.1) k (fun _ => rfl) (fun _ => rfl) (pp81_2 k))
def pl81 (k : Nat) : Plan := (.seq .go (.seq .go (.seq .go (.seq .go (.seq (.seq .go (.sub (.frag (fr81_1 k)))) (.seq (.seq .go (.sub (.frag (fr81_2 k)))) .go))))))
theorem pq81 (k : Nat) : PlanOK Try.prog lim81 (pl81 k) co81 = (PlanOK Try.prog lim81 .go (codeAt (bodyOf Try.f81) [.l]) ∧ (PlanOK Try.prog lim81 .go (codeAt (bodyOf Try.f81) [.r, .l]) ∧ (PlanOK Try.prog lim81 .go (codeAt (bodyOf Try.f81) [.r, .r, .l]) ∧ (PlanOK Try.prog lim81 .go (codeAt (bodyOf Try.f81) [.r, .r, .r, .l]) ∧ ((PlanOK Try.prog lim81 .go (codeAt (bodyOf Try.f81) [.r, .r, .r, .r, .l, .l]) ∧ FragOK Try.prog lim81 (fr81_1 k) co81_1) ∧ ((PlanOK Try.prog lim81 .go (codeAt (bodyOf Try.f81) [.r, .r, .r, .r, .r, .l, .l]) ∧ FragOK Try.prog lim81 (fr81_2 k) co81_2) ∧ PlanOK Try.prog lim81 .go (codeAt (bodyOf Try.f81) [.r, .r, .r, .r, .r, .r]))))))) := by kernel_rfl
noncomputable def bo81 (k : Nat) (x : AT (sp81 k).ps) := fnT Try.prog (cfg81 k) lim81 Try.f81 (bodyOf Try.f81) (pl81 k) (sp81 k) x
theorem vv81 (k : Nat) (x : AT (sp81 k).ps) : (sp81 k).impl x = (bo81 k x).eval ∧ (bo81 k x).left = (bo81 k x).right := ⟨by kernel_rfl, by kernel_rfl⟩
theorem v81 (k : Nat) : Callable Try.prog 81 ∧ Valid Try.prog 81 (sp81 k) :=
 fn_of (n := lim81) (fn := Try.f81) (p := (pl81 k)) (cfg81_ok k) (by kernel_rfl) (Eq.mpr (pq81 k) ⟨(planOK_go _), ⟨(planOK_go _), ⟨(planOK_go _), ⟨(planOK_go _), ⟨⟨(planOK_go _), (fr81_1_ok k)⟩, ⟨⟨(planOK_go _), (fr81_2_ok k)⟩, (planOK_go _)⟩⟩⟩⟩⟩⟩) (vv81 k)
def F82_0 (k : Nat) : Nat → Int → Int → TY32 → TY32 → TY32 → TY32 → Option (((Int × Unit) × (TY32 × TY32 × TY32 × Unit)))
 | 0, _, _, _, _, _, _ => none
 | n + 1, t5, t7, c2, c3, c4, c6 =>
  bif (decide (t7 < t5)) then
   if 0 ≤ t7 ∧ t7 < ((List.length c2.2.1 : Nat) : Int) then
    if 0 ≤ t7 ∧ t7 < ((List.length c2.2.2.1 : Nat) : Int) then
     let x4 := (List.getD c2.2.2.1 (Int.toNat t7) (0 : Int))
     if 0 ≤ t7 ∧ t7 < ((List.length c6.2.1 : Nat) : Int) then
      let x5 := (List.set c6.2.1 (Int.toNat t7) (List.getD c2.2.1 (Int.toNat t7) (0 : Int)))
      if 0 ≤ t7 ∧ t7 < ((List.length c6.2.2.1 : Nat) : Int) then
       (F82_0 k n t5 (IntKind.wrap .i64 (t7 + (1 : Int))) c2 c3 c4 (c6.1, (x5, ((List.set c6.2.2.1 (Int.toNat t7) x4), c6.2.2.2)))).bind some
      else none
     else none
    else none
   else none
  else
   some ((t5, ()), (c3, c4, c6, ()))
def fr82_0 (k : Nat) : Frag := ⟨⟨[], [(2, .ptr 2 []), (3, .ptr 3 []), (4, .ptr 4 []), (5, .val (.int .i64)), (6, .ptr 6 []), (7, .val (.int .i64))], [(2, some 65, KD14), (3, some 65, KD14), (4, some 65, KD15), (6, some 65, KD15)]⟩, [(.exit 0, ⟨[], [(3, .ptr 3 []), (4, .ptr 4 []), (5, .val (.int .i64)), (6, .ptr 6 [])], [(3, some 65, KD14), (4, some 65, KD15), (6, some 65, KD15)]⟩)], fun v => F82_0 k k v.1.1 v.1.2.1 v.2.1 v.2.2.1 v.2.2.2.1 v.2.2.2.2.1⟩
def F82_1 (k : Nat) : Nat → Int → Int → TY32 → TY32 → TY32 → Option TY16
 | 0, _, _, _, _, _ => none
 | n + 1, t5, t8, c3, c4, c6 =>
  let x16 := (decide (t8 < ((List.length c3.1 : Nat) : Int)))
  bif x16 then
   if 0 ≤ t8 ∧ t8 < ((List.length c3.2.1 : Nat) : Int) then
    if 0 ≤ t8 ∧ t8 < ((List.length c3.2.2.1 : Nat) : Int) then
     let x17 := (List.getD c3.2.2.1 (Int.toNat t8) (0 : Int))
     if 0 ≤ (IntKind.wrap .i64 (t5 + t8)) ∧ (IntKind.wrap .i64 (t5 + t8)) < ((List.length c6.2.1 : Nat) : Int) then
      let x18 := (Int.toNat (IntKind.wrap .i64 (t5 + t8)))
      let x19 := (List.set c6.2.1 x18 (List.getD c3.2.1 (Int.toNat t8) (0 : Int)))
      if 0 ≤ (IntKind.wrap .i64 (t5 + t8)) ∧ (IntKind.wrap .i64 (t5 + t8)) < ((List.length c6.2.2.1 : Nat) : Int) then
       let x20 := (Int.toNat (IntKind.wrap .i64 (t5 + t8)))
       (F82_1 k n t5 (IntKind.wrap .i64 (t8 + (1 : Int))) c3 c4 (c6.1, (x19, ((List.set c6.2.2.1 x20 x17), c6.2.2.2)))).bind some
      else none
     else none
    else none
   else none
  else
   some ((), (c4, c6, ()))
def fr82_1 (k : Nat) : Frag := ⟨⟨[], [(3, .ptr 3 []), (4, .ptr 4 []), (5, .val (.int .i64)), (6, .ptr 6 []), (8, .val (.int .i64))], [(3, some 65, KD14), (4, some 65, KD15), (6, some 65, KD15)]⟩, [(.exit 2, ⟨[], [(4, .ptr 4 []), (6, .ptr 6 [])], [(4, some 65, KD15), (6, some 65, KD15)]⟩)], fun v => F82_1 k k v.1.1 v.1.2.1 v.2.1 v.2.2.1 v.2.2.2.1⟩
def F82 (k : Nat) (a0 : TY32) (a1 : TY32) : Option TY26 :=
 (F85 k a0 a1).bind fun r1 =>
 (F82_0 k k ((List.length a0.1 : Nat) : Int) (0 : Int) a0 a1 (([] : (List Int)), (([] : (List Int)), (([] : (List Int)), (([] : TY56), ((0 : Int), ()))))) (r1.1.1.1, (r1.1.1.2.1, (r1.1.1.2.2.1, (r1.1.1.2.2.2.1, ((minI a0.2.2.2.2.1 a1.2.2.2.2.1), r1.1.1.2.2.2.2.2)))))).bind fun r6 =>
 let y7 := r6.1.1
 let y8 := r6.2.1
 let y9 := r6.2.2.1
 let y10 := r6.2.2.2.1
 (F82_1 k k y7 (0 : Int) y8 y9 y10).bind fun r21 =>
 let y23 := r21.2.2.1
 some ((y23, ()), ())
def sp82 (k : Nat) : Spec := ⟨[.val KD14, .val KD14], [.own KD15], fun x => F82 k x.1 x.2.1⟩
def lim82 : Lim := ⟨74, 2, false, false, [], []⟩
def cfg82 (k : Nat) : Nat → Option Spec := cfgL [(85, sp85 k)]
noncomputable def co82_0 : Code := codeAt (bodyOf Try.f82) [.r, .r, .r, .r, .l, .r, .s]
noncomputable def cb82_0 : Code := codeAt (bodyOf Try.f82) [.r, .r, .r, .r, .l, .r, .s, .b]
noncomputable def co82_1 : Code := codeAt (bodyOf Try.f82) [.r, .r, .r, .r, .r, .l, .r, .s]
noncomputable def cb82_1 : Code := codeAt (bodyOf Try.f82) [.r, .r, .r, .r, .r, .l, .r, .s, .b]
noncomputable def co82 : Code := codeAt (bodyOf Try.f82) []
theorem cfg82_ok (k : Nat) : CfgOK Try.prog (cfg82 k) := cfgL_cons (v85 k) (cfgL_nil)
noncomputable def bo82_0 (k m : Nat) (v : (fr82_0 k).sh.V) := body Try.prog (stepper Try.prog (cfg82 k) lim82) .go cb82_0 ((fr82_0 k).sh.st v) (loopK (fr82_0 k) fun v => F82_0 k m v.1.1 v.1.2.1 v.2.1 v.2.2.1 v.2.2.2.1 v.2.2.2.2.1)
theorem pp82_0 (k m : Nat) (v : (fr82_0 k).sh.V) : F82_0 k (m + 1) v.1.1 v.1.2.1 v.2.1 v.2.2.1 v.2.2.2.1 v.2.2.2.2.1 = (bo82_0 k m v).eval ∧ (bo82_0 k m v).left = (bo82_0 k m v).right := ⟨by kernel_rfl, by kernel_rfl⟩
theorem fr82_0_ok (k : Nat) : FragOK Try.prog lim82 (fr82_0 k) co82_0 :=
 frag_cast (by kernel_rfl) (loop_ok (cfg82_ok k) (planOK_go _) (fun m v => F82_0 k m v.1.1 v.1.2.1 v.2.1 v.2.2.1 v.2.2.2.1 v.2.2.2.2.1) k (fun _ => rfl) (fun _ => rfl) (pp82_0 k))
noncomputable def bo82_1 (k m : Nat) (v : (fr82_1 k).sh.V) := body Try.prog (stepper Try.prog (cfg82 k) lim82) .go cb82_1 ((fr82_1 k).sh.st v) (loopK (fr82_1 k) fun v => F82_1 k m v.1.1 v.1.2.1 v.2.1 v.2.2.1 v.2.2.2.1)
theorem pp82_1 (k m : Nat) (v : (fr82_1 k).sh.V) : F82_1 k (m + 1) v.1.1 v.1.2.1 v.2.1 v.2.2.1 v.2.2.2.1 = (bo82_1 k m v).eval ∧ (bo82_1 k m v).left = (bo82_1 k m v).right := ⟨by kernel_rfl, by kernel_rfl⟩
theorem fr82_1_ok (k : Nat) : FragOK Try.prog lim82 (fr82_1 k) co82_1 :=
 frag_cast (by kernel_rfl) (loop_ok (cfg82_ok k) (planOK_go _) (fun m v => F82_1 k m v.1.1 v.1.2.1 v.2.1 v.2.2.1 v.2.2.2.1) k (fun _ => rfl) (fun _ => rfl) (pp82_1 k))
def pl82 (k : Nat) : Plan := (.seq .go (.seq .go (.seq .go (.seq .go (.seq (.seq .go (.sub (.frag (fr82_0 k)))) (.seq (.seq .go (.sub (.frag (fr82_1 k)))) .go))))))
theorem pq82 (k : Nat) : PlanOK Try.prog lim82 (pl82 k) co82 = (PlanOK Try.prog lim82 .go (codeAt (bodyOf Try.f82) [.l]) ∧ (PlanOK Try.prog lim82 .go (codeAt (bodyOf Try.f82) [.r, .l]) ∧ (PlanOK Try.prog lim82 .go (codeAt (bodyOf Try.f82) [.r, .r, .l]) ∧ (PlanOK Try.prog lim82 .go (codeAt (bodyOf Try.f82) [.r, .r, .r, .l]) ∧ ((PlanOK Try.prog lim82 .go (codeAt (bodyOf Try.f82) [.r, .r, .r, .r, .l, .l]) ∧ FragOK Try.prog lim82 (fr82_0 k) co82_0) ∧ ((PlanOK Try.prog lim82 .go (codeAt (bodyOf Try.f82) [.r, .r, .r, .r, .r, .l, .l]) ∧ FragOK Try.prog lim82 (fr82_1 k) co82_1) ∧ PlanOK Try.prog lim82 .go (codeAt (bodyOf Try.f82) [.r, .r, .r, .r, .r, .r]))))))) := by kernel_rfl
noncomputable def bo82 (k : Nat) (x : AT (sp82 k).ps) := fnT Try.prog (cfg82 k) lim82 Try.f82 (bodyOf Try.f82) (pl82 k) (sp82 k) x
theorem vv82 (k : Nat) (x : AT (sp82 k).ps) : (sp82 k).impl x = (bo82 k x).eval ∧ (bo82 k x).left = (bo82 k x).right := ⟨by kernel_rfl, by kernel_rfl⟩
theorem v82 (k : Nat) : Callable Try.prog 82 ∧ Valid Try.prog 82 (sp82 k) :=
 fn_of (n := lim82) (fn := Try.f82) (p := (pl82 k)) (cfg82_ok k) (by kernel_rfl) (Eq.mpr (pq82 k) ⟨(planOK_go _), ⟨(planOK_go _), ⟨(planOK_go _), ⟨(planOK_go _), ⟨⟨(planOK_go _), (fr82_0_ok k)⟩, ⟨⟨(planOK_go _), (fr82_1_ok k)⟩, (planOK_go _)⟩⟩⟩⟩⟩⟩) (vv82 k)
def F83_0 (k : Nat) : Nat → Int → Int → TY32 → TY32 → TY56 → Option (((Int × Unit) × TY13))
 | 0, _, _, _, _, _ => none
 | n + 1, t4, t5, c1, c2, c2000003 =>
  let x3 := (decide (t5 < ((List.length c1.1 : Nat) : Int)))
  bif x3 then
   if 0 ≤ t4 ∧ t4 < ((List.length c1.2.2.1 : Nat) : Int) then
    let x4 := (List.getD c1.2.2.1 (Int.toNat t4) (0 : Int))
    if 0 ≤ t5 ∧ t5 < ((List.length c1.2.1 : Nat) : Int) then
     (F69 k x4 (List.getD c1.2.1 (Int.toNat t5) (0 : Int))).bind fun r5 =>
     (F86 k c2000003 (t4, (t5, (r5.1.1, ())))).bind fun r6 =>
     (F83_0 k n t4 (IntKind.wrap .i64 (t5 + (1 : Int))) c1 c2 r6.1.1).bind some
    else none
   else none
  else
   some ((t4, ()), (c1, c2, c2000003, ()))
def fr83_0 (k : Nat) : Frag := ⟨⟨[(3, KD38)], [(1, .ptr 1 []), (2, .ptr 2 []), (3, .at 2000003 []), (4, .val (.int .i64)), (5, .val (.int .i64))], [(1, some 65, KD15), (2, some 65, KD15), (2000003, none, KD38)]⟩, [(.exit 2, ⟨[(3, KD38)], [(1, .ptr 1 []), (2, .ptr 2 []), (3, .at 2000003 []), (4, .val (.int .i64))], [(1, some 65, KD15), (2, some 65, KD15), (2000003, none, KD38)]⟩)], fun v => F83_0 k k v.1.1 v.1.2.1 v.2.1 v.2.2.1 v.2.2.2.1⟩
def F83_1 (k : Nat) : Nat → Int → TY32 → TY32 → TY56 → Option ((Unit × TY13))
 | 0, _, _, _, _ => none
 | n + 1, t4, c1, c2, c2000003 =>
  let x2 := (decide (t4 < ((List.length c1.1 : Nat) : Int)))
  bif x2 then
   (F83_0 k k t4 (0 : Int) c1 c2 c2000003).bind fun r7 =>
   let y8 := r7.1.1
   let y9 := r7.2.1
   let y10 := r7.2.2.1
   let y11 := r7.2.2.2.1
   (F83_1 k n (IntKind.wrap .i64 (y8 + (1 : Int))) y9 y10 y11).bind some
  else
   some ((), (c1, c2, c2000003, ()))
def fr83_1 (k : Nat) : Frag := ⟨⟨[(3, KD38)], [(1, .ptr 1 []), (2, .ptr 2 []), (3, .at 2000003 []), (4, .val (.int .i64))], [(1, some 65, KD15), (2, some 65, KD15), (2000003, none, KD38)]⟩, [(.exit 0, ⟨[(3, KD38)], [(1, .ptr 1 []), (2, .ptr 2 []), (3, .at 2000003 [])], [(1, some 65, KD15), (2, some 65, KD15), (2000003, none, KD38)]⟩)], fun v => F83_1 k k v.1.1 v.2.1 v.2.2.1 v.2.2.2.1⟩
def F83 (k : Nat) (a0 : TY32) : Option TY26 :=
 let x1 := (List.replicate 0 ((0 : Int), ((0 : Int), ((0 : Int), ()))))
 if (List.length x1 + List.length a0.2.2.2.1) * (24 * 2) ≤ 281474976710656 ∧ List.length x1 + List.length a0.2.2.2.1 ≤ 9223372036854775807 then
  (F83_1 k k (0 : Int) (a0.1, (a0.2.1, (a0.2.2.1, (a0.2.2.2.1, ((0 : Int), a0.2.2.2.2.2))))) (([] : (List Int)), (([] : (List Int)), (([] : (List Int)), (([] : TY56), ((0 : Int), ()))))) (x1 ++ a0.2.2.2.1)).bind fun r12 =>
  let y13 := r12.2.1
  let y15 := r12.2.2.2.1
  some (((y13.1, (y13.2.1, (y13.2.2.1, (y15, y13.2.2.2.2)))), ()), ())
 else none
def sp83 (k : Nat) : Spec := ⟨[.own KD15], [.own KD15], fun x => F83 k x.1⟩
def lim83 : Lim := ⟨44, 1, false, false, [], []⟩
def cfg83 (k : Nat) : Nat → Option Spec := cfgL [(69, sp69 k), (86, sp86 k)]
noncomputable def co83_0 : Code := codeAt (bodyOf Try.f83) [.r, .r, .r, .l, .r, .s, .b, .r, .l, .s, .r, .s]
noncomputable def cb83_0 : Code := codeAt (bodyOf Try.f83) [.r, .r, .r, .l, .r, .s, .b, .r, .l, .s, .r, .s, .b]
noncomputable def co83_1 : Code := codeAt (bodyOf Try.f83) [.r, .r, .r, .l, .r, .s]
noncomputable def cb83_1 : Code := codeAt (bodyOf Try.f83) [.r, .r, .r, .l, .r, .s, .b]
noncomputable def co83 : Code := codeAt (bodyOf Try.f83) []
theorem cfg83_ok (k : Nat) : CfgOK Try.prog (cfg83 k) := cfgL_cons (v69 k) (cfgL_cons (v86 k) (cfgL_nil))
noncomputable def bo83_0 (k m : Nat) (v : (fr83_0 k).sh.V) := body Try.prog (stepper Try.prog (cfg83 k) lim83) .go cb83_0 ((fr83_0 k).sh.st v) (loopK (fr83_0 k) fun v => F83_0 k m v.1.1 v.1.2.1 v.2.1 v.2.2.1 v.2.2.2.1)
theorem pp83_0 (k m : Nat) (v : (fr83_0 k).sh.V) : F83_0 k (m + 1) v.1.1 v.1.2.1 v.2.1 v.2.2.1 v.2.2.2.1 = (bo83_0 k m v).eval ∧ (bo83_0 k m v).left = (bo83_0 k m v).right := ⟨by kernel_rfl, by kernel_rfl⟩
theorem fr83_0_ok (k : Nat) : FragOK Try.prog lim83 (fr83_0 k) co83_0 :=
 frag_cast (by kernel_rfl) (loop_ok (cfg83_ok k) (planOK_go _) (fun m v => F83_0 k m v.1.1 v.1.2.1 v.2.1 v.2.2.1 v.2.2.2.1) k (fun _ => rfl) (fun _ => rfl) (pp83_0 k))
def pl83_1 (k : Nat) : Plan := (.seq .go (.seq (.sub (.seq .go (.sub (.frag (fr83_0 k))))) .go))
theorem pq83_1 (k : Nat) : PlanOK Try.prog lim83 (pl83_1 k) cb83_1 = (PlanOK Try.prog lim83 .go (codeAt (bodyOf Try.f83) [.r, .r, .r, .l, .r, .s, .b, .l]) ∧ ((PlanOK Try.prog lim83 .go (codeAt (bodyOf Try.f83) [.r, .r, .r, .l, .r, .s, .b, .r, .l, .s, .l]) ∧ FragOK Try.prog lim83 (fr83_0 k) co83_0) ∧ PlanOK Try.prog lim83 .go (codeAt (bodyOf Try.f83) [.r, .r, .r, .l, .r, .s, .b, .r, .r]))) := by kernel_rfl
noncomputable def bo83_1 (k m : Nat) (v : (fr83_1 k).sh.V) := body Try.prog (stepper Try.prog (cfg83 k) lim83) (pl83_1 k) cb83_1 ((fr83_1 k).sh.st v) (loopK (fr83_1 k) fun v => F83_1 k m v.1.1 v.2.1 v.2.2.1 v.2.2.2.1)
theorem pp83_1 (k m : Nat) (v : (fr83_1 k).sh.V) : F83_1 k (m + 1) v.1.1 v.2.1 v.2.2.1 v.2.2.2.1 = (bo83_1 k m v).eval ∧ (bo83_1 k m v).left = (bo83_1 k m v).right := ⟨by kernel_rfl, by kernel_rfl⟩
theorem fr83_1_ok (k : Nat) : FragOK Try.prog lim83 (fr83_1 k) co83_1 :=
 frag_cast (by kernel_rfl) (loop_ok (cfg83_ok k) (Eq.mpr (pq83_1 k) ⟨(planOK_go _), ⟨⟨(planOK_go _), (fr83_0_ok k)⟩, (planOK_go _)⟩⟩) (fun m v => F83_1 k m v.1.1 v.2.1 v.2.2.1 v.2.2.2.1) k (fun _ => rfl) (fun _ => rfl) (pp83_1 k))
def pl83 (k : Nat) : Plan := (.seq .go (.seq .go (.seq .go (.seq (.seq .go (.sub (.frag (fr83_1 k)))) .go))))
theorem pq83 (k : Nat) : PlanOK Try.prog lim83 (pl83 k) co83 = (PlanOK Try.prog lim83 .go (codeAt (bodyOf Try.f83) [.l]) ∧ (PlanOK Try.prog lim83 .go (codeAt (bodyOf Try.f83) [.r, .l]) ∧ (PlanOK Try.prog lim83 .go (codeAt (bodyOf Try.f83) [.r, .r, .l]) ∧ ((PlanOK Try.prog lim83 .go (codeAt (bodyOf Try.f83) [.r, .r, .r, .l, .l]) ∧ FragOK Try.prog lim83 (fr83_1 k) co83_1) ∧ PlanOK Try.prog lim83 .go (codeAt (bodyOf Try.f83) [.r, .r, .r, .r]))))) := by kernel_rfl
noncomputable def bo83 (k : Nat) (x : AT (sp83 k).ps) := fnT Try.prog (cfg83 k) lim83 Try.f83 (bodyOf Try.f83) (pl83 k) (sp83 k) x
theorem vv83 (k : Nat) (x : AT (sp83 k).ps) : (sp83 k).impl x = (bo83 k x).eval ∧ (bo83 k x).left = (bo83 k x).right := ⟨by kernel_rfl, by kernel_rfl⟩
theorem v83 (k : Nat) : Callable Try.prog 83 ∧ Valid Try.prog 83 (sp83 k) :=
 fn_of (n := lim83) (fn := Try.f83) (p := (pl83 k)) (cfg83_ok k) (by kernel_rfl) (Eq.mpr (pq83 k) ⟨(planOK_go _), ⟨(planOK_go _), ⟨(planOK_go _), ⟨⟨(planOK_go _), (fr83_1_ok k)⟩, (planOK_go _)⟩⟩⟩⟩) (vv83 k)
def rs57 (f57 : (TY46 → TY12 → Option TY26)) : Spec := ⟨[.val KD27, .val KD5], [.own KD15], fun x => f57 x.1 x.2.1⟩
def F57_0 (k : Nat) (f57 : (TY46 → TY12 → Option TY26)) : Nat → Int → TY25 → TY32 → TY32 → Option TY16
 | 0, _, _, _, _ => none
 | n + 1, t7, c2, c4, c6 =>
  let x30 := (decide (t7 < ((List.length c6.2.1 : Nat) : Int)))
  bif x30 then
   if 0 ≤ t7 ∧ t7 < ((List.length c6.2.1 : Nat) : Int) then
    (F69 k (List.getD c6.2.1 (Int.toNat t7) (0 : Int)) c2.2.2.2.1).bind fun r31 =>
    if 0 ≤ t7 ∧ t7 < ((List.length c6.2.1 : Nat) : Int) then
     (F57_0 k f57 n (IntKind.wrap .i64 (t7 + (1 : Int))) c2 c4 (c6.1, ((List.set c6.2.1 (Int.toNat t7) r31.1.1), c6.2.2))).bind some
    else none
   else none
  else
   some ((), (c4, c6, ()))
def fr57_0 (k : Nat) (f57 : (TY46 → TY12 → Option TY26)) : Frag := ⟨⟨[], [(2, .ptr 2 []), (4, .ptr 4 []), (6, .ptr 6 []), (7, .val (.int .i64))], [(2, some 55, KD19), (4, some 65, KD15), (6, some 65, KD15)]⟩, [(.exit 1, ⟨[], [(4, .ptr 4 []), (6, .ptr 6 [])], [(4, some 65, KD15), (6, some 65, KD15)]⟩)], fun v => F57_0 k f57 k v.1.1 v.2.1 v.2.2.1 v.2.2.2.1⟩
def F57_1 (k : Nat) (f57 : (TY46 → TY12 → Option TY26)) : Nat → Int → TY25 → TY32 → TY32 → TY32 → Option TY16
 | 0, _, _, _, _, _ => none
 | n + 1, t10, c2, c4, c8, c9 =>
  bif (decide (t10 ≥ (1 : Int))) then
   (F81 k c9 c8).bind fun r39 =>
   bif (decide (t10 > c2.2.1)) then
    (F57_1 k f57 n (IntKind.wrap .i64 (t10 - (1 : Int))) c2 c4 (r39.1.1.1, (r39.1.1.2.1, (r39.1.1.2.2.1, (r39.1.1.2.2.2.1, ((0 : Int), r39.1.1.2.2.2.2.2))))) c9).bind some
   else
    (F57_1 k f57 n (IntKind.wrap .i64 (t10 - (1 : Int))) c2 c4 r39.1.1 c9).bind some
  else
   some ((), (c4, c8, ()))
def fr57_1 (k : Nat) (f57 : (TY46 → TY12 → Option TY26)) : Frag := ⟨⟨[], [(2, .ptr 2 []), (4, .ptr 4 []), (8, .ptr 8 []), (9, .ptr 9 []), (10, .val (.int .i64))], [(2, some 55, KD19), (4, some 65, KD15), (8, some 65, KD15), (9, some 65, KD15)]⟩, [(.exit 3, ⟨[], [(4, .ptr 4 []), (8, .ptr 8 [])], [(4, some 65, KD15), (8, some 65, KD15)]⟩)], fun v => F57_1 k f57 k v.1.1 v.2.1 v.2.2.1 v.2.2.2.1 v.2.2.2.2.1⟩
def B57 (k : Nat) (f57 : (TY46 → TY12 → Option TY26)) (a0 : TY46) (a1 : TY12) : Option TY26 :=
 bif ((Tree.a a0).1 == (1 : Int)) then
  (F79 k).bind fun r1 =>
  some ((r1.1.1, ()), ())
 else
  bif ((Tree.a a0).1 == (2 : Int)) then
   (F80 k (1 : Int)).bind fun r2 =>
   if 0 ≤ (0 : Int) ∧ (0 : Int) < ((List.length r2.1.1.1 : Nat) : Int) then
    let x3 := (List.set r2.1.1.1 (Int.toNat (0 : Int)) (-1 : Int))
    if 0 ≤ (0 : Int) ∧ (0 : Int) < ((List.length r2.1.1.2.1 : Nat) : Int) then
     let x4 := (List.set r2.1.1.2.1 (Int.toNat (0 : Int)) (0 : Int))
     if 0 ≤ (0 : Int) ∧ (0 : Int) < ((List.length r2.1.1.2.2.1 : Nat) : Int) then
      let x5 := (List.set r2.1.1.2.2.1 (Int.toNat (0 : Int)) (0 : Int))
      bif ((Tree.a a0).1 == (2 : Int)) then
       (F66 k a1 (Tree.a a0).2.2.2.2.1).bind fun r6 =>
       if 0 ≤ (0 : Int) ∧ (0 : Int) < ((List.length x3 : Nat) : Int) then
        some ((((List.set x3 (Int.toNat (0 : Int)) r6.1.1), (x4, (x5, r2.1.1.2.2.2))), ()), ())
       else none
      else
       some (((x3, (x4, (x5, r2.1.1.2.2.2))), ()), ())
     else none
    else none
   else none
  else
   bif ((Tree.a a0).1 == (3 : Int)) then
    (F80 k (1 : Int)).bind fun r7 =>
    if 0 ≤ (0 : Int) ∧ (0 : Int) < ((List.length r7.1.1.1 : Nat) : Int) then
     let x8 := (List.set r7.1.1.1 (Int.toNat (0 : Int)) (-1 : Int))
     if 0 ≤ (0 : Int) ∧ (0 : Int) < ((List.length r7.1.1.2.1 : Nat) : Int) then
      let x9 := (List.set r7.1.1.2.1 (Int.toNat (0 : Int)) (0 : Int))
      if 0 ≤ (0 : Int) ∧ (0 : Int) < ((List.length r7.1.1.2.2.1 : Nat) : Int) then
       let x10 := (List.set r7.1.1.2.2.1 (Int.toNat (0 : Int)) (0 : Int))
       bif ((Tree.a a0).1 == (2 : Int)) then
        (F66 k a1 (Tree.a a0).2.2.2.2.1).bind fun r11 =>
        if 0 ≤ (0 : Int) ∧ (0 : Int) < ((List.length x8 : Nat) : Int) then
         some ((((List.set x8 (Int.toNat (0 : Int)) r11.1.1), (x9, (x10, r7.1.1.2.2.2))), ()), ())
        else none
       else
        some (((x8, (x9, (x10, r7.1.1.2.2.2))), ()), ())
      else none
     else none
    else none
   else
    bif ((Tree.a a0).1 == (4 : Int)) then
     if 0 ≤ (0 : Int) ∧ (0 : Int) < ((List.length (Tree.l a0) : Nat) : Int) then
      let x12 := (List.getD (Tree.l a0) (Int.toNat (0 : Int)) (Tree.mk ((0 : Int), ((0 : Int), ((0 : Int), ((0 : Int), (ByteArray.empty, ()))))) []))
      if 0 ≤ (1 : Int) ∧ (1 : Int) < ((List.length (Tree.l a0) : Nat) : Int) then
       let x13 := (List.getD (Tree.l a0) (Int.toNat (1 : Int)) (Tree.mk ((0 : Int), ((0 : Int), ((0 : Int), ((0 : Int), (ByteArray.empty, ()))))) []))
       (f57 x12 a1).bind fun r14 =>
       (f57 x13 a1).bind fun r15 =>
       (F81 k r14.1.1 r15.1.1).bind fun r16 =>
       some ((r16.1.1, ()), ())
      else none
     else none
    else
     bif ((Tree.a a0).1 == (5 : Int)) then
      if 0 ≤ (0 : Int) ∧ (0 : Int) < ((List.length (Tree.l a0) : Nat) : Int) then
       let x17 := (List.getD (Tree.l a0) (Int.toNat (0 : Int)) (Tree.mk ((0 : Int), ((0 : Int), ((0 : Int), ((0 : Int), (ByteArray.empty, ()))))) []))
       if 0 ≤ (1 : Int) ∧ (1 : Int) < ((List.length (Tree.l a0) : Nat) : Int) then
        let x18 := (List.getD (Tree.l a0) (Int.toNat (1 : Int)) (Tree.mk ((0 : Int), ((0 : Int), ((0 : Int), ((0 : Int), (ByteArray.empty, ()))))) []))
        (f57 x17 a1).bind fun r19 =>
        (f57 x18 a1).bind fun r20 =>
        (F82 k r19.1.1 r20.1.1).bind fun r21 =>
        some ((r21.1.1, ()), ())
       else none
      else none
     else
      bif ((Tree.a a0).1 == (6 : Int)) then
       if 0 ≤ (0 : Int) ∧ (0 : Int) < ((List.length (Tree.l a0) : Nat) : Int) then
        let x22 := (List.getD (Tree.l a0) (Int.toNat (0 : Int)) (Tree.mk ((0 : Int), ((0 : Int), ((0 : Int), ((0 : Int), (ByteArray.empty, ()))))) []))
        (f57 x22 a1).bind fun r23 =>
        (F83 k r23.1.1).bind fun r24 =>
        some ((r24.1.1, ()), ())
       else none
      else
       bif ((Tree.a a0).1 == (8 : Int)) then
        if 0 ≤ (0 : Int) ∧ (0 : Int) < ((List.length (Tree.l a0) : Nat) : Int) then
         let x25 := (List.getD (Tree.l a0) (Int.toNat (0 : Int)) (Tree.mk ((0 : Int), ((0 : Int), ((0 : Int), ((0 : Int), (ByteArray.empty, ()))))) []))
         (f57 x25 a1).bind fun r26 =>
         (F69 k r26.1.1.2.2.2.2.1 (Tree.a a0).2.2.2.1).bind fun r27 =>
         (F57_0 k f57 k (0 : Int) ((Tree.a a0).1, ((Tree.a a0).2.1, ((Tree.a a0).2.2.1, ((Tree.a a0).2.2.2.1, ((Tree.a a0).2.2.2.2.1, ((Tree.l a0), ())))))) (([] : (List Int)), (([] : (List Int)), (([] : (List Int)), (([] : TY56), ((0 : Int), ()))))) (r26.1.1.1, (r26.1.1.2.1, (r26.1.1.2.2.1, (r26.1.1.2.2.2.1, (r27.1.1, r26.1.1.2.2.2.2.2)))))).bind fun r32 =>
         let y34 := r32.2.2.1
         some ((y34, ()), ())
        else none
       else
        if 0 ≤ (0 : Int) ∧ (0 : Int) < ((List.length (Tree.l a0) : Nat) : Int) then
         let x35 := (List.getD (Tree.l a0) (Int.toNat (0 : Int)) (Tree.mk ((0 : Int), ((0 : Int), ((0 : Int), ((0 : Int), (ByteArray.empty, ()))))) []))
         (F79 k).bind fun r36 =>
         (f57 x35 a1).bind fun r37 =>
         (F57_1 k f57 k (Tree.a a0).2.2.1 ((Tree.a a0).1, ((Tree.a a0).2.1, ((Tree.a a0).2.2.1, ((Tree.a a0).2.2.2.1, ((Tree.a a0).2.2.2.2.1, ((Tree.l a0), ())))))) (([] : (List Int)), (([] : (List Int)), (([] : (List Int)), (([] : TY56), ((0 : Int), ()))))) r36.1.1 r37.1.1).bind fun r40 =>
         let y42 := r40.2.2.1
         some ((y42, ()), ())
        else none
def sb57 (k : Nat) (f57 : (TY46 → TY12 → Option TY26)) : Spec := rs57 (B57 k f57)
def lim57 : Lim := ⟨135, 2, false, false, [], []⟩
def cfg57 (k : Nat) (f57 : (TY46 → TY12 → Option TY26)) : Nat → Option Spec := cfgL [(57, rs57 f57), (66, sp66 k), (69, sp69 k), (79, sp79 k), (80, sp80 k), (81, sp81 k), (82, sp82 k), (83, sp83 k)]
noncomputable def co57_0 : Code := codeAt (bodyOf Try.f57) [.r, .l, .r, .s, .r, .r, .r, .r, .r, .r, .r, .r, .r, .r, .r, .l, .r, .r, .l, .r, .s]
noncomputable def cb57_0 : Code := codeAt (bodyOf Try.f57) [.r, .l, .r, .s, .r, .r, .r, .r, .r, .r, .r, .r, .r, .r, .r, .l, .r, .r, .l, .r, .s, .b]
noncomputable def co57_1 : Code := codeAt (bodyOf Try.f57) [.r, .r, .r, .l, .r, .s]
noncomputable def cb57_1 : Code := codeAt (bodyOf Try.f57) [.r, .r, .r, .l, .r, .s, .b]
noncomputable def co57 : Code := codeAt (bodyOf Try.f57) []
theorem cfg57_ok (k : Nat) (f57 : (TY46 → TY12 → Option TY26)) (h57 : Callable Try.prog 57 ∧ Valid Try.prog 57 (rs57 f57)) : CfgOK Try.prog (cfg57 k f57) := cfgL_cons h57 (cfgL_cons (v66 k) (cfgL_cons (v69 k) (cfgL_cons (v79 k) (cfgL_cons (v80 k) (cfgL_cons (v81 k) (cfgL_cons (v82 k) (cfgL_cons (v83 k) (cfgL_nil))))))))
noncomputable def bo57_0 (k : Nat) (f57 : (TY46 → TY12 → Option TY26)) (m : Nat) (v : (fr57_0 k f57).sh.V) := body Try.prog (stepper Try.prog (cfg57 k f57) lim57) .go cb57_0 ((fr57_0 k f57).sh.st v) (loopK (fr57_0 k f57) fun v => F57_0 k f57 m v.1.1 v.2.1 v.2.2.1 v.2.2.2.1)
theorem pp57_0 (k : Nat) (f57 : (TY46 → TY12 → Option TY26)) (m : Nat) (v : (fr57_0 k f57).sh.V) : F57_0 k f57 (m + 1) v.1.1 v.2.1 v.2.2.1 v.2.2.2.1 = (bo57_0 k f57 m v).eval ∧ (bo57_0 k f57 m v).left = (bo57_0 k f57 m v).right := ⟨by kernel_rfl, by kernel_rfl⟩
theorem fr57_0_ok (k : Nat) (f57 : (TY46 → TY12 → Option TY26)) (h57 : Callable Try.prog 57 ∧ Valid Try.prog 57 (rs57 f57)) : FragOK Try.prog lim57 (fr57_0 k f57) co57_0 :=
 frag_cast (by kernel_rfl) (loop_ok (cfg57_ok k f57 h57) (planOK_go _) (fun m v => F57_0 k f57 m v.1.1 v.2.1 v.2.2.1 v.2.2.2.1) k (fun _ => rfl) (fun _ => rfl) (pp57_0 k f57))
noncomputable def bo57_1 (k : Nat) (f57 : (TY46 → TY12 → Option TY26)) (m : Nat) (v : (fr57_1 k f57).sh.V) := body Try.prog (stepper Try.prog (cfg57 k f57) lim57) .go cb57_1 ((fr57_1 k f57).sh.st v) (loopK (fr57_1 k f57) fun v => F57_1 k f57 m v.1.1 v.2.1 v.2.2.1 v.2.2.2.1 v.2.2.2.2.1)
theorem pp57_1 (k : Nat) (f57 : (TY46 → TY12 → Option TY26)) (m : Nat) (v : (fr57_1 k f57).sh.V) : F57_1 k f57 (m + 1) v.1.1 v.2.1 v.2.2.1 v.2.2.2.1 v.2.2.2.2.1 = (bo57_1 k f57 m v).eval ∧ (bo57_1 k f57 m v).left = (bo57_1 k f57 m v).right := ⟨by kernel_rfl, by kernel_rfl⟩
theorem fr57_1_ok (k : Nat) (f57 : (TY46 → TY12 → Option TY26)) (h57 : Callable Try.prog 57 ∧ Valid Try.prog 57 (rs57 f57)) : FragOK Try.prog lim57 (fr57_1 k f57) co57_1 :=
 frag_cast (by kernel_rfl) (loop_ok (cfg57_ok k f57 h57) (planOK_go _) (fun m v => F57_1 k f57 m v.1.1 v.2.1 v.2.2.1 v.2.2.2.1 v.2.2.2.2.1) k (fun _ => rfl) (fun _ => rfl) (pp57_1 k f57))
def pl57 (k : Nat) (f57 : (TY46 → TY12 → Option TY26)) : Plan := (.seq .go (.seq (.seq .go (.sub (.seq .go (.seq .go (.seq .go (.seq .go (.seq .go (.seq .go (.seq .go (.seq .go (.seq .go (.seq .go (.seq .go (.seq (.seq .go (.seq .go (.seq (.seq .go (.sub (.frag (fr57_0 k f57)))) .go))) .go)))))))))))))) (.seq .go (.seq (.seq .go (.sub (.frag (fr57_1 k f57)))) .go))))
theorem pq57 (k : Nat) (f57 : (TY46 → TY12 → Option TY26)) : PlanOK Try.prog lim57 (pl57 k f57) co57 = (PlanOK Try.prog lim57 .go (codeAt (bodyOf Try.f57) [.l]) ∧ ((PlanOK Try.prog lim57 .go (codeAt (bodyOf Try.f57) [.r, .l, .l]) ∧ (PlanOK Try.prog lim57 .go (codeAt (bodyOf Try.f57) [.r, .l, .r, .s, .l]) ∧ (PlanOK Try.prog lim57 .go (codeAt (bodyOf Try.f57) [.r, .l, .r, .s, .r, .l]) ∧ (PlanOK Try.prog lim57 .go (codeAt (bodyOf Try.f57) [.r, .l, .r, .s, .r, .r, .l]) ∧ (PlanOK Try.prog lim57 .go (codeAt (bodyOf Try.f57) [.r, .l, .r, .s, .r, .r, .r, .l]) ∧ (PlanOK Try.prog lim57 .go (codeAt (bodyOf Try.f57) [.r, .l, .r, .s, .r, .r, .r, .r, .l]) ∧ (PlanOK Try.prog lim57 .go (codeAt (bodyOf Try.f57) [.r, .l, .r, .s, .r, .r, .r, .r, .r, .l]) ∧ (PlanOK Try.prog lim57 .go (codeAt (bodyOf Try.f57) [.r, .l, .r, .s, .r, .r, .r, .r, .r, .r, .l]) ∧ (PlanOK Try.prog lim57 .go (codeAt (bodyOf Try.f57) [.r, .l, .r, .s, .r, .r, .r, .r, .r, .r, .r, .l]) ∧ (PlanOK Try.prog lim57 .go (codeAt (bodyOf Try.f57) [.r, .l, .r, .s, .r, .r, .r, .r, .r, .r, .r, .r, .l]) ∧ (PlanOK Try.prog lim57 .go (codeAt (bodyOf Try.f57) [.r, .l, .r, .s, .r, .r, .r, .r, .r, .r, .r, .r, .r, .l]) ∧ (PlanOK Try.prog lim57 .go (codeAt (bodyOf Try.f57) [.r, .l, .r, .s, .r, .r, .r, .r, .r, .r, .r, .r, .r, .r, .l]) ∧ ((PlanOK Try.prog lim57 .go (codeAt (bodyOf Try.f57) [.r, .l, .r, .s, .r, .r, .r, .r, .r, .r, .r, .r, .r, .r, .r, .l, .l]) ∧ (PlanOK Try.prog lim57 .go (codeAt (bodyOf Try.f57) [.r, .l, .r, .s, .r, .r, .r, .r, .r, .r, .r, .r, .r, .r, .r, .l, .r, .l]) ∧ ((PlanOK Try.prog lim57 .go (codeAt (bodyOf Try.f57) [.r, .l, .r, .s, .r, .r, .r, .r, .r, .r, .r, .r, .r, .r, .r, .l, .r, .r, .l, .l]) ∧ FragOK Try.prog lim57 (fr57_0 k f57) co57_0) ∧ PlanOK Try.prog lim57 .go (codeAt (bodyOf Try.f57) [.r, .l, .r, .s, .r, .r, .r, .r, .r, .r, .r, .r, .r, .r, .r, .l, .r, .r, .r])))) ∧ PlanOK Try.prog lim57 .go (codeAt (bodyOf Try.f57) [.r, .l, .r, .s, .r, .r, .r, .r, .r, .r, .r, .r, .r, .r, .r, .r])))))))))))))) ∧ (PlanOK Try.prog lim57 .go (codeAt (bodyOf Try.f57) [.r, .r, .l]) ∧ ((PlanOK Try.prog lim57 .go (codeAt (bodyOf Try.f57) [.r, .r, .r, .l, .l]) ∧ FragOK Try.prog lim57 (fr57_1 k f57) co57_1) ∧ PlanOK Try.prog lim57 .go (codeAt (bodyOf Try.f57) [.r, .r, .r, .r]))))) := by kernel_rfl
noncomputable def bo57 (k : Nat) (f57 : (TY46 → TY12 → Option TY26)) (x : AT (sb57 k f57).ps) := fnT Try.prog (cfg57 k f57) lim57 Try.f57 (bodyOf Try.f57) (pl57 k f57) (sb57 k f57) x
theorem vv57 (k : Nat) (f57 : (TY46 → TY12 → Option TY26)) (x : AT (sb57 k f57).ps) : (sb57 k f57).impl x = (bo57 k f57 x).eval ∧ (bo57 k f57 x).left = (bo57 k f57 x).right := ⟨by kernel_rfl, by kernel_rfl⟩
theorem b57 (k : Nat) (f57 : (TY46 → TY12 → Option TY26)) (h57 : Callable Try.prog 57 ∧ Valid Try.prog 57 (rs57 f57)) : Callable Try.prog 57 ∧ Valid Try.prog 57 (sb57 k f57) :=
 fn_of (n := lim57) (fn := Try.f57) (p := (pl57 k f57)) (cfg57_ok k f57 h57) (by kernel_rfl) (Eq.mpr (pq57 k f57) ⟨(planOK_go _), ⟨⟨(planOK_go _), ⟨(planOK_go _), ⟨(planOK_go _), ⟨(planOK_go _), ⟨(planOK_go _), ⟨(planOK_go _), ⟨(planOK_go _), ⟨(planOK_go _), ⟨(planOK_go _), ⟨(planOK_go _), ⟨(planOK_go _), ⟨(planOK_go _), ⟨⟨(planOK_go _), ⟨(planOK_go _), ⟨⟨(planOK_go _), (fr57_0_ok k f57 h57)⟩, (planOK_go _)⟩⟩⟩, (planOK_go _)⟩⟩⟩⟩⟩⟩⟩⟩⟩⟩⟩⟩⟩, ⟨(planOK_go _), ⟨⟨(planOK_go _), (fr57_1_ok k f57 h57)⟩, (planOK_go _)⟩⟩⟩⟩) (vv57 k f57)
def R57 : Nat → (TY46 → TY12 → Option TY26)
 | 0 => fun _ _ => none
 | k + 1 => B57 k (R57 k)
def F57 (k : Nat) (a0_ : TY46) (a1_ : TY12) : Option TY26 := (R57 k) a0_ a1_
def sp57 (k : Nat) : Spec := ⟨[.val KD27, .val KD5], [.own KD15], fun x => F57 k x.1 x.2.1⟩
theorem r57 (k : Nat) : (Callable Try.prog 57 ∧ Valid Try.prog 57 (rs57 (R57 k))) := by
 induction k with
 | zero => exact ⟨⟨Try.f57, by kernel_rfl, by kernel_rfl, by kernel_rfl⟩, fun x r h => by cases (show (none : Option _) = some r from h)⟩
 | succ k ih => exact b57 k (R57 k) ih
theorem v57 (k : Nat) : Callable Try.prog 57 ∧ Valid Try.prog 57 (sp57 k) := (r57 k)
def F33 (k : Nat) (a0 : TY46) (a1 : TY12) : Option ((TY32 × Bool × Unit) × Unit) :=
 let x1 := (Tree.mk ((Tree.a a0).1, ((Tree.a a0).2.1, ((Tree.a a0).2.2.1, ((Tree.a a0).2.2.2.1, ((Tree.a a0).2.2.2.2.1, ()))))) (Tree.l a0))
 (F56 k x1).bind fun r2 =>
 bif (decide (r2.1.1 > (120 : Int))) then
  some (((([] : (List Int)), (([] : (List Int)), (([] : (List Int)), (([] : TY56), ((0 : Int), ()))))), false, ()), ())
 else
  let x3 := (Tree.mk ((Tree.a a0).1, ((Tree.a a0).2.1, ((Tree.a a0).2.2.1, ((Tree.a a0).2.2.2.1, ((Tree.a a0).2.2.2.2.1, ()))))) (Tree.l a0))
  (F57 k x3 a1).bind fun r4 =>
  some ((r4.1.1, true, ()), ())
def sp33 (k : Nat) : Spec := ⟨[.val KD27, .val KD5], [.own KD15, .val .bool], fun x => F33 k x.1 x.2.1⟩
def lim33 : Lim := ⟨13, 2, false, false, [], []⟩
def cfg33 (k : Nat) : Nat → Option Spec := cfgL [(56, sp56 k), (57, sp57 k)]
noncomputable def co33 : Code := codeAt (bodyOf Try.f33) []
theorem cfg33_ok (k : Nat) : CfgOK Try.prog (cfg33 k) := cfgL_cons (v56 k) (cfgL_cons (v57 k) (cfgL_nil))
noncomputable def bo33 (k : Nat) (x : AT (sp33 k).ps) := fnT Try.prog (cfg33 k) lim33 Try.f33 (bodyOf Try.f33) .go (sp33 k) x
theorem vv33 (k : Nat) (x : AT (sp33 k).ps) : (sp33 k).impl x = (bo33 k x).eval ∧ (bo33 k x).left = (bo33 k x).right := ⟨by kernel_rfl, by kernel_rfl⟩
theorem v33 (k : Nat) : Callable Try.prog 33 ∧ Valid Try.prog 33 (sp33 k) :=
 fn_of (n := lim33) (fn := Try.f33) (p := .go) (cfg33_ok k) (by kernel_rfl) (planOK_go _) (vv33 k)
def F58_0 (k : Nat) : Nat → (List (List Bool)) → Int → Int → TY32 → Option ((Unit × Unit) ⊕ TY71)
 | 0, _, _, _, _ => none
 | n + 1, t1, t2, t7, c3 =>
  if 0 ≤ t2 ∧ t2 < ((List.length c3.1 : Nat) : Int) then
   if 0 ≤ (List.getD c3.1 (Int.toNat t2) (0 : Int)) ∧ (List.getD c3.1 (Int.toNat t2) (0 : Int)) < ((List.length t1 : Nat) : Int) then
    let x5 := (List.getD t1 (Int.toNat (List.getD c3.1 (Int.toNat t2) (0 : Int))) ([] : (List Bool)))
    let x6 := (decide (t7 < ((List.length x5 : Nat) : Int)))
    bif x6 then
     if 0 ≤ t2 ∧ t2 < ((List.length c3.1 : Nat) : Int) then
      if 0 ≤ (List.getD c3.1 (Int.toNat t2) (0 : Int)) ∧ (List.getD c3.1 (Int.toNat t2) (0 : Int)) < ((List.length t1 : Nat) : Int) then
       let x7 := (List.getD t1 (Int.toNat (List.getD c3.1 (Int.toNat t2) (0 : Int))) ([] : (List Bool)))
       if 0 ≤ t7 ∧ t7 < ((List.length x7 : Nat) : Int) then
        bif (List.getD x7 (Int.toNat t7) false) then
         some (.inr ((true, ()), ()))
        else
         (F58_0 k n t1 t2 (IntKind.wrap .i64 (t7 + (1 : Int))) c3).bind some
       else none
      else none
     else none
    else
     some (.inl ((), ()))
   else none
  else none
def fr58_0 (k : Nat) : Frag := ⟨⟨[], [(1, .val KD51), (2, .val (.int .i64)), (3, .ptr 3 []), (7, .val (.int .i64))], [(3, some 65, KD14)]⟩, [(.exit 0, ⟨[], [], []⟩), (.ret, ⟨[], [(6, .val .bool)], []⟩)], fun v => F58_0 k k v.1.1 v.1.2.1 v.1.2.2.1 v.2.1⟩
def F58 (k : Nat) (a0 : TY32) (a1 : (List (List Bool))) (a2 : Int) : Option TY71 :=
 if 0 ≤ a2 ∧ a2 < ((List.length a0.1 : Nat) : Int) then
  let x1 := (decide ((List.getD a0.1 (Int.toNat a2) (0 : Int)) < (0 : Int)))
  bif x1 then
   some ((true, ()), ())
  else
   (F58_0 k k a1 a2 (0 : Int) a0).bind fun r8 =>
   match r8 with
   | .inl r9 =>
    some ((false, ()), ())
   | .inr r9 =>
    let y10 := r9.1.1
    some ((y10, ()), ())
 else none
def sp58 (k : Nat) : Spec := ⟨[.val KD14, .val KD51, .val (.int .i64)], [.val .bool], fun x => F58 k x.1 x.2.1 x.2.2.1⟩
def lim58 : Lim := ⟨38, 3, false, false, [], []⟩
def cfg58 (k : Nat) : Nat → Option Spec := cfgL []
noncomputable def co58_0 : Code := codeAt (bodyOf Try.f58) [.r, .r, .l, .r, .s]
noncomputable def cb58_0 : Code := codeAt (bodyOf Try.f58) [.r, .r, .l, .r, .s, .b]
noncomputable def co58 : Code := codeAt (bodyOf Try.f58) []
theorem cfg58_ok (k : Nat) : CfgOK Try.prog (cfg58 k) := cfgL_nil
noncomputable def bo58_0 (k m : Nat) (v : (fr58_0 k).sh.V) := body Try.prog (stepper Try.prog (cfg58 k) lim58) .go cb58_0 ((fr58_0 k).sh.st v) (loopK (fr58_0 k) fun v => F58_0 k m v.1.1 v.1.2.1 v.1.2.2.1 v.2.1)
theorem pp58_0 (k m : Nat) (v : (fr58_0 k).sh.V) : F58_0 k (m + 1) v.1.1 v.1.2.1 v.1.2.2.1 v.2.1 = (bo58_0 k m v).eval ∧ (bo58_0 k m v).left = (bo58_0 k m v).right := ⟨by kernel_rfl, by kernel_rfl⟩
theorem fr58_0_ok (k : Nat) : FragOK Try.prog lim58 (fr58_0 k) co58_0 :=
 frag_cast (by kernel_rfl) (loop_ok (cfg58_ok k) (planOK_go _) (fun m v => F58_0 k m v.1.1 v.1.2.1 v.1.2.2.1 v.2.1) k (fun _ => rfl) (fun _ => rfl) (pp58_0 k))
def pl58 (k : Nat) : Plan := (.seq .go (.seq .go (.seq (.seq .go (.sub (.frag (fr58_0 k)))) .go)))
theorem pq58 (k : Nat) : PlanOK Try.prog lim58 (pl58 k) co58 = (PlanOK Try.prog lim58 .go (codeAt (bodyOf Try.f58) [.l]) ∧ (PlanOK Try.prog lim58 .go (codeAt (bodyOf Try.f58) [.r, .l]) ∧ ((PlanOK Try.prog lim58 .go (codeAt (bodyOf Try.f58) [.r, .r, .l, .l]) ∧ FragOK Try.prog lim58 (fr58_0 k) co58_0) ∧ PlanOK Try.prog lim58 .go (codeAt (bodyOf Try.f58) [.r, .r, .r])))) := by kernel_rfl
noncomputable def bo58 (k : Nat) (x : AT (sp58 k).ps) := fnT Try.prog (cfg58 k) lim58 Try.f58 (bodyOf Try.f58) (pl58 k) (sp58 k) x
theorem vv58 (k : Nat) (x : AT (sp58 k).ps) : (sp58 k).impl x = (bo58 k x).eval ∧ (bo58 k x).left = (bo58 k x).right := ⟨by kernel_rfl, by kernel_rfl⟩
theorem v58 (k : Nat) : Callable Try.prog 58 ∧ Valid Try.prog 58 (sp58 k) :=
 fn_of (n := lim58) (fn := Try.f58) (p := (pl58 k)) (cfg58_ok k) (by kernel_rfl) (Eq.mpr (pq58 k) ⟨(planOK_go _), ⟨(planOK_go _), ⟨⟨(planOK_go _), (fr58_0_ok k)⟩, (planOK_go _)⟩⟩⟩) (vv58 k)
def F34_0 (k : Nat) : Nat → (List (List Bool)) → Int → Int → TY32 → TY32 → (List Bool) → (List Bool) → (List Bool) → Option (((Int × Unit) × TY11))
 | 0, _, _, _, _, _, _, _, _ => none
 | n + 1, t1, t5, t9, c2, c4, c22, c24, c26 =>
  bif (decide (t9 < t5)) then
   (F58 k c2 t1 t9).bind fun r13 =>
   if 0 ≤ t9 ∧ t9 < ((List.length c26 : Nat) : Int) then
    if 0 ≤ t9 ∧ t9 < ((List.length (List.set c26 (Int.toNat t9) r13.1.1) : Nat) : Int) then
     let x14 := (List.getD (List.set c26 (Int.toNat t9) r13.1.1) (Int.toNat t9) false)
     bif x14 then
      if 0 ≤ t9 ∧ t9 < ((List.length c2.2.1 : Nat) : Int) then
       let x15 := (decide ((List.getD c2.2.1 (Int.toNat t9) (0 : Int)) < (1152921504606846976 : Int)))
       if 0 ≤ t9 ∧ t9 < ((List.length (List.set c26 (Int.toNat t9) r13.1.1) : Nat) : Int) then
        let x16 := (List.getD (List.set c26 (Int.toNat t9) r13.1.1) (Int.toNat t9) false)
        bif x16 then
         if 0 ≤ t9 ∧ t9 < ((List.length c2.2.2.1 : Nat) : Int) then
          let x17 := (List.getD c2.2.2.1 (Int.toNat t9) (0 : Int))
          if 0 ≤ t9 ∧ t9 < ((List.length c22 : Nat) : Int) then
           if 0 ≤ t9 ∧ t9 < ((List.length c24 : Nat) : Int) then
            let x18 := (List.set c24 (Int.toNat t9) (decide (x17 < (1152921504606846976 : Int))))
            (F34_0 k n t1 t5 (IntKind.wrap .i64 (t9 + (1 : Int))) c2 c4 (List.set c22 (Int.toNat t9) x15) x18 (List.set c26 (Int.toNat t9) r13.1.1)).bind some
           else none
          else none
         else none
        else
         if 0 ≤ t9 ∧ t9 < ((List.length c22 : Nat) : Int) then
          if 0 ≤ t9 ∧ t9 < ((List.length c24 : Nat) : Int) then
           (F34_0 k n t1 t5 (IntKind.wrap .i64 (t9 + (1 : Int))) c2 c4 (List.set c22 (Int.toNat t9) x15) (List.set c24 (Int.toNat t9) false) (List.set c26 (Int.toNat t9) r13.1.1)).bind some
          else none
         else none
       else none
      else none
     else
      if 0 ≤ t9 ∧ t9 < ((List.length (List.set c26 (Int.toNat t9) r13.1.1) : Nat) : Int) then
       let x19 := (List.getD (List.set c26 (Int.toNat t9) r13.1.1) (Int.toNat t9) false)
       bif x19 then
        if 0 ≤ t9 ∧ t9 < ((List.length c2.2.2.1 : Nat) : Int) then
         let x20 := (List.getD c2.2.2.1 (Int.toNat t9) (0 : Int))
         if 0 ≤ t9 ∧ t9 < ((List.length c22 : Nat) : Int) then
          if 0 ≤ t9 ∧ t9 < ((List.length c24 : Nat) : Int) then
           let x21 := (List.set c24 (Int.toNat t9) (decide (x20 < (1152921504606846976 : Int))))
           (F34_0 k n t1 t5 (IntKind.wrap .i64 (t9 + (1 : Int))) c2 c4 (List.set c22 (Int.toNat t9) false) x21 (List.set c26 (Int.toNat t9) r13.1.1)).bind some
          else none
         else none
        else none
       else
        if 0 ≤ t9 ∧ t9 < ((List.length c22 : Nat) : Int) then
         if 0 ≤ t9 ∧ t9 < ((List.length c24 : Nat) : Int) then
          (F34_0 k n t1 t5 (IntKind.wrap .i64 (t9 + (1 : Int))) c2 c4 (List.set c22 (Int.toNat t9) false) (List.set c24 (Int.toNat t9) false) (List.set c26 (Int.toNat t9) r13.1.1)).bind some
         else none
        else none
      else none
    else none
   else none
  else
   some ((t5, ()), (c2, c4, c22, c24, c26, ()))
def fr34_0 (k : Nat) : Frag := ⟨⟨[], [(1, .val KD51), (2, .ptr 2 []), (4, .ptr 4 []), (5, .val (.int .i64)), (6, .at 22 []), (7, .at 24 []), (8, .at 26 []), (9, .val (.int .i64))], [(2, some 65, KD14), (4, some 65, KD15), (22, none, KD70), (24, none, KD70), (26, none, KD70)]⟩, [(.exit 0, ⟨[], [(2, .ptr 2 []), (4, .ptr 4 []), (5, .val (.int .i64)), (6, .at 22 []), (7, .at 24 []), (8, .at 26 [])], [(2, some 65, KD14), (4, some 65, KD15), (22, none, KD70), (24, none, KD70), (26, none, KD70)]⟩)], fun v => F34_0 k k v.1.1 v.1.2.1 v.1.2.2.1 v.2.1 v.2.2.1 v.2.2.2.1 v.2.2.2.2.1 v.2.2.2.2.2.1⟩
def F34_1 (k : Nat) : Nat → Int → Bool → Int → TY32 → TY32 → (List Bool) → (List Bool) → (List Bool) → Option (((Int × Bool × Unit) × TY11))
 | 0, _, _, _, _, _, _, _, _ => none
 | n + 1, t5, t10, t11, c2, c4, c22, c24, c26 =>
  let x31 := (decide (t11 < ((List.length c2.2.2.2.1 : Nat) : Int)))
  bif x31 then
   if 0 ≤ t11 ∧ t11 < ((List.length c2.2.2.2.1 : Nat) : Int) then
    let x32 := (List.getD c2.2.2.2.1 (Int.toNat t11) ((0 : Int), ((0 : Int), ((0 : Int), ()))))
    if 0 ≤ x32.1 ∧ x32.1 < ((List.length c22 : Nat) : Int) then
     bif (List.getD c22 (Int.toNat x32.1) false) then
      if 0 ≤ x32.2.1 ∧ x32.2.1 < ((List.length c26 : Nat) : Int) then
       bif (List.getD c26 (Int.toNat x32.2.1) false) then
        if 0 ≤ x32.2.1 ∧ x32.2.1 < ((List.length c22 : Nat) : Int) then
         bif (!(List.getD c22 (Int.toNat x32.2.1) false)) then
          if 0 ≤ x32.2.1 ∧ x32.2.1 < ((List.length c22 : Nat) : Int) then
           if 0 ≤ x32.2.1 ∧ x32.2.1 < ((List.length c24 : Nat) : Int) then
            bif (List.getD c24 (Int.toNat x32.2.1) false) then
             if 0 ≤ x32.1 ∧ x32.1 < ((List.length c26 : Nat) : Int) then
              bif (List.getD c26 (Int.toNat x32.1) false) then
               if 0 ≤ x32.1 ∧ x32.1 < ((List.length c24 : Nat) : Int) then
                bif (!(List.getD c24 (Int.toNat x32.1) false)) then
                 if 0 ≤ x32.1 ∧ x32.1 < ((List.length c24 : Nat) : Int) then
                  (F34_1 k n t5 true (IntKind.wrap .i64 (t11 + (1 : Int))) c2 c4 (List.set c22 (Int.toNat x32.2.1) true) (List.set c24 (Int.toNat x32.1) true) c26).bind some
                 else none
                else
                 (F34_1 k n t5 true (IntKind.wrap .i64 (t11 + (1 : Int))) c2 c4 (List.set c22 (Int.toNat x32.2.1) true) c24 c26).bind some
               else none
              else
               (F34_1 k n t5 true (IntKind.wrap .i64 (t11 + (1 : Int))) c2 c4 (List.set c22 (Int.toNat x32.2.1) true) c24 c26).bind some
             else none
            else
             (F34_1 k n t5 true (IntKind.wrap .i64 (t11 + (1 : Int))) c2 c4 (List.set c22 (Int.toNat x32.2.1) true) c24 c26).bind some
           else none
          else none
         else
          if 0 ≤ x32.2.1 ∧ x32.2.1 < ((List.length c24 : Nat) : Int) then
           bif (List.getD c24 (Int.toNat x32.2.1) false) then
            if 0 ≤ x32.1 ∧ x32.1 < ((List.length c26 : Nat) : Int) then
             bif (List.getD c26 (Int.toNat x32.1) false) then
              if 0 ≤ x32.1 ∧ x32.1 < ((List.length c24 : Nat) : Int) then
               bif (!(List.getD c24 (Int.toNat x32.1) false)) then
                if 0 ≤ x32.1 ∧ x32.1 < ((List.length c24 : Nat) : Int) then
                 (F34_1 k n t5 true (IntKind.wrap .i64 (t11 + (1 : Int))) c2 c4 c22 (List.set c24 (Int.toNat x32.1) true) c26).bind some
                else none
               else
                (F34_1 k n t5 t10 (IntKind.wrap .i64 (t11 + (1 : Int))) c2 c4 c22 c24 c26).bind some
              else none
             else
              (F34_1 k n t5 t10 (IntKind.wrap .i64 (t11 + (1 : Int))) c2 c4 c22 c24 c26).bind some
            else none
           else
            (F34_1 k n t5 t10 (IntKind.wrap .i64 (t11 + (1 : Int))) c2 c4 c22 c24 c26).bind some
          else none
        else none
       else
        if 0 ≤ x32.2.1 ∧ x32.2.1 < ((List.length c24 : Nat) : Int) then
         bif (List.getD c24 (Int.toNat x32.2.1) false) then
          if 0 ≤ x32.1 ∧ x32.1 < ((List.length c26 : Nat) : Int) then
           bif (List.getD c26 (Int.toNat x32.1) false) then
            if 0 ≤ x32.1 ∧ x32.1 < ((List.length c24 : Nat) : Int) then
             bif (!(List.getD c24 (Int.toNat x32.1) false)) then
              if 0 ≤ x32.1 ∧ x32.1 < ((List.length c24 : Nat) : Int) then
               (F34_1 k n t5 true (IntKind.wrap .i64 (t11 + (1 : Int))) c2 c4 c22 (List.set c24 (Int.toNat x32.1) true) c26).bind some
              else none
             else
              (F34_1 k n t5 t10 (IntKind.wrap .i64 (t11 + (1 : Int))) c2 c4 c22 c24 c26).bind some
            else none
           else
            (F34_1 k n t5 t10 (IntKind.wrap .i64 (t11 + (1 : Int))) c2 c4 c22 c24 c26).bind some
          else none
         else
          (F34_1 k n t5 t10 (IntKind.wrap .i64 (t11 + (1 : Int))) c2 c4 c22 c24 c26).bind some
        else none
      else none
     else
      if 0 ≤ x32.2.1 ∧ x32.2.1 < ((List.length c24 : Nat) : Int) then
       bif (List.getD c24 (Int.toNat x32.2.1) false) then
        if 0 ≤ x32.1 ∧ x32.1 < ((List.length c26 : Nat) : Int) then
         bif (List.getD c26 (Int.toNat x32.1) false) then
          if 0 ≤ x32.1 ∧ x32.1 < ((List.length c24 : Nat) : Int) then
           bif (!(List.getD c24 (Int.toNat x32.1) false)) then
            if 0 ≤ x32.1 ∧ x32.1 < ((List.length c24 : Nat) : Int) then
             (F34_1 k n t5 true (IntKind.wrap .i64 (t11 + (1 : Int))) c2 c4 c22 (List.set c24 (Int.toNat x32.1) true) c26).bind some
            else none
           else
            (F34_1 k n t5 t10 (IntKind.wrap .i64 (t11 + (1 : Int))) c2 c4 c22 c24 c26).bind some
          else none
         else
          (F34_1 k n t5 t10 (IntKind.wrap .i64 (t11 + (1 : Int))) c2 c4 c22 c24 c26).bind some
        else none
       else
        (F34_1 k n t5 t10 (IntKind.wrap .i64 (t11 + (1 : Int))) c2 c4 c22 c24 c26).bind some
      else none
    else none
   else none
  else
   some ((t5, t10, ()), (c2, c4, c22, c24, c26, ()))
def fr34_1 (k : Nat) : Frag := ⟨⟨[], [(2, .ptr 2 []), (4, .ptr 4 []), (5, .val (.int .i64)), (6, .at 22 []), (7, .at 24 []), (8, .at 26 []), (10, .val .bool), (11, .val (.int .i64))], [(2, some 65, KD14), (4, some 65, KD15), (22, none, KD70), (24, none, KD70), (26, none, KD70)]⟩, [(.exit 4, ⟨[], [(2, .ptr 2 []), (4, .ptr 4 []), (5, .val (.int .i64)), (6, .at 22 []), (7, .at 24 []), (8, .at 26 []), (10, .val .bool)], [(2, some 65, KD14), (4, some 65, KD15), (22, none, KD70), (24, none, KD70), (26, none, KD70)]⟩)], fun v => F34_1 k k v.1.1 v.1.2.1 v.1.2.2.1 v.2.1 v.2.2.1 v.2.2.2.1 v.2.2.2.2.1 v.2.2.2.2.2.1⟩
def F34_2 (k : Nat) : Nat → Int → Bool → TY32 → TY32 → (List Bool) → (List Bool) → (List Bool) → Option (((Int × Unit) × (TY32 × TY32 × (List Bool) × (List Bool) × Unit)))
 | 0, _, _, _, _, _, _, _ => none
 | n + 1, t5, t10, c2, c4, c22, c24, c26 =>
  bif t10 then
   (F34_1 k k t5 false (0 : Int) c2 c4 c22 c24 c26).bind fun r41 =>
   let y42 := r41.1.1
   let y43 := r41.1.2.1
   let y44 := r41.2.1
   let y45 := r41.2.2.1
   let y46 := r41.2.2.2.1
   let y47 := r41.2.2.2.2.1
   let y48 := r41.2.2.2.2.2.1
   (F34_2 k n y42 y43 y44 y45 y46 y47 y48).bind some
  else
   some ((t5, ()), (c2, c4, c22, c24, ()))
def fr34_2 (k : Nat) : Frag := ⟨⟨[], [(2, .ptr 2 []), (4, .ptr 4 []), (5, .val (.int .i64)), (6, .at 22 []), (7, .at 24 []), (8, .at 26 []), (10, .val .bool)], [(2, some 65, KD14), (4, some 65, KD15), (22, none, KD70), (24, none, KD70), (26, none, KD70)]⟩, [(.exit 2, ⟨[], [(2, .ptr 2 []), (4, .ptr 4 []), (5, .val (.int .i64)), (6, .at 22 []), (7, .at 24 [])], [(2, some 65, KD14), (4, some 65, KD15), (22, none, KD70), (24, none, KD70)]⟩)], fun v => F34_2 k k v.1.1 v.1.2.1 v.2.1 v.2.2.1 v.2.2.2.1 v.2.2.2.2.1 v.2.2.2.2.2.1⟩
def F34_3 (k : Nat) : Nat → Int → Int → TY32 → TY32 → TY32 → (List Bool) → (List Bool) → (List Int) → Option ((Unit × (TY32 × TY32 × TY32 × (List Int) × Unit)))
 | 0, _, _, _, _, _, _, _, _ => none
 | n + 1, t5, t15, c2, c4, c13, c22, c24, c134 =>
  bif (decide (t15 < t5)) then
   if 0 ≤ t15 ∧ t15 < ((List.length c134 : Nat) : Int) then
    if 0 ≤ t15 ∧ t15 < ((List.length c22 : Nat) : Int) then
     bif (List.getD c22 (Int.toNat t15) false) then
      if 0 ≤ t15 ∧ t15 < ((List.length c24 : Nat) : Int) then
       bif (List.getD c24 (Int.toNat t15) false) then
        if 0 ≤ t15 ∧ t15 < ((List.length (List.set c134 (Int.toNat t15) (-1 : Int)) : Nat) : Int) then
         let x60 := (List.set (List.set c134 (Int.toNat t15) (-1 : Int)) (Int.toNat t15) ((List.length c13.1 : Nat) : Int))
         if 0 ≤ t15 ∧ t15 < ((List.length c2.1 : Nat) : Int) then
          if 0 ≤ t15 ∧ t15 < ((List.length c2.2.1 : Nat) : Int) then
           if 0 ≤ t15 ∧ t15 < ((List.length c2.2.2.1 : Nat) : Int) then
            let x61 := (List.getD c2.2.2.1 (Int.toNat t15) (0 : Int))
            let x62 := (List.set (List.replicate 1 (0 : Int)) 0 (List.getD c2.1 (Int.toNat t15) (0 : Int)))
            if (List.length c13.1 + List.length x62) * (8 * 2) ≤ 281474976710656 ∧ List.length c13.1 + List.length x62 ≤ 9223372036854775807 then
             let x63 := (List.set (List.replicate 1 (0 : Int)) 0 (List.getD c2.2.1 (Int.toNat t15) (0 : Int)))
             if (List.length c13.2.1 + List.length x63) * (8 * 2) ≤ 281474976710656 ∧ List.length c13.2.1 + List.length x63 ≤ 9223372036854775807 then
              let x64 := (List.set (List.replicate 1 (0 : Int)) 0 x61)
              if (List.length c13.2.2.1 + List.length x64) * (8 * 2) ≤ 281474976710656 ∧ List.length c13.2.2.1 + List.length x64 ≤ 9223372036854775807 then
               (F34_3 k n t5 (IntKind.wrap .i64 (t15 + (1 : Int))) c2 c4 ((c13.1 ++ x62), ((c13.2.1 ++ x63), ((c13.2.2.1 ++ x64), c13.2.2.2))) c22 c24 x60).bind some
              else none
             else none
            else none
           else none
          else none
         else none
        else none
       else
        (F34_3 k n t5 (IntKind.wrap .i64 (t15 + (1 : Int))) c2 c4 c13 c22 c24 (List.set c134 (Int.toNat t15) (-1 : Int))).bind some
      else none
     else
      (F34_3 k n t5 (IntKind.wrap .i64 (t15 + (1 : Int))) c2 c4 c13 c22 c24 (List.set c134 (Int.toNat t15) (-1 : Int))).bind some
    else none
   else none
  else
   some ((), (c2, c4, c13, c134, ()))
def fr34_3 (k : Nat) : Frag := ⟨⟨[], [(2, .ptr 2 []), (4, .ptr 4 []), (5, .val (.int .i64)), (6, .at 22 []), (7, .at 24 []), (13, .ptr 13 []), (14, .at 134 []), (15, .val (.int .i64))], [(2, some 65, KD14), (4, some 65, KD15), (13, some 65, KD15), (22, none, KD70), (24, none, KD70), (134, none, KD64)]⟩, [(.exit 6, ⟨[], [(2, .ptr 2 []), (4, .ptr 4 []), (13, .ptr 13 []), (14, .at 134 [])], [(2, some 65, KD14), (4, some 65, KD15), (13, some 65, KD15), (134, none, KD64)]⟩)], fun v => F34_3 k k v.1.1 v.1.2.1 v.2.1 v.2.2.1 v.2.2.2.1 v.2.2.2.2.1 v.2.2.2.2.2.1 v.2.2.2.2.2.2.1⟩
def F34_4 (k : Nat) : Nat → Int → TY32 → TY32 → TY32 → (List Int) → Option TY16
 | 0, _, _, _, _, _ => none
 | n + 1, t16, c2, c4, c13, c134 =>
  let x76 := (decide (t16 < ((List.length c2.2.2.2.1 : Nat) : Int)))
  bif x76 then
   if 0 ≤ t16 ∧ t16 < ((List.length c2.2.2.2.1 : Nat) : Int) then
    let x77 := (List.getD c2.2.2.2.1 (Int.toNat t16) ((0 : Int), ((0 : Int), ((0 : Int), ()))))
    if 0 ≤ x77.1 ∧ x77.1 < ((List.length c134 : Nat) : Int) then
     let x78 := (decide ((List.getD c134 (Int.toNat x77.1) (0 : Int)) ≥ (0 : Int)))
     bif x78 then
      if 0 ≤ x77.2.1 ∧ x77.2.1 < ((List.length c134 : Nat) : Int) then
       let x79 := (List.getD c134 (Int.toNat x77.2.1) (0 : Int))
       bif (decide (x79 ≥ (0 : Int))) then
        if 0 ≤ x77.1 ∧ x77.1 < ((List.length c134 : Nat) : Int) then
         if 0 ≤ x77.2.1 ∧ x77.2.1 < ((List.length c134 : Nat) : Int) then
          let x80 := (List.getD c134 (Int.toNat x77.2.1) (0 : Int))
          let x81 := (List.set (List.replicate 1 ((0 : Int), ((0 : Int), ((0 : Int), ())))) 0 ((List.getD c134 (Int.toNat x77.1) (0 : Int)), (x80, (x77.2.2.1, ()))))
          if (List.length c13.2.2.2.1 + List.length x81) * (24 * 2) ≤ 281474976710656 ∧ List.length c13.2.2.2.1 + List.length x81 ≤ 9223372036854775807 then
           (F34_4 k n (IntKind.wrap .i64 (t16 + (1 : Int))) c2 c4 (c13.1, (c13.2.1, (c13.2.2.1, ((c13.2.2.2.1 ++ x81), c13.2.2.2.2)))) c134).bind some
          else none
         else none
        else none
       else
        (F34_4 k n (IntKind.wrap .i64 (t16 + (1 : Int))) c2 c4 c13 c134).bind some
      else none
     else
      (F34_4 k n (IntKind.wrap .i64 (t16 + (1 : Int))) c2 c4 c13 c134).bind some
    else none
   else none
  else
   some ((), (c4, c13, ()))
def fr34_4 (k : Nat) : Frag := ⟨⟨[], [(2, .ptr 2 []), (4, .ptr 4 []), (13, .ptr 13 []), (14, .at 134 []), (16, .val (.int .i64))], [(2, some 65, KD14), (4, some 65, KD15), (13, some 65, KD15), (134, none, KD64)]⟩, [(.exit 8, ⟨[], [(4, .ptr 4 []), (13, .ptr 13 [])], [(4, some 65, KD15), (13, some 65, KD15)]⟩)], fun v => F34_4 k k v.1.1 v.2.1 v.2.2.1 v.2.2.2.1 v.2.2.2.2.1⟩
def F34 (k : Nat) (a0 : TY32) (a1 : (List (List Bool))) : Option TY26 :=
 if (0 ≤ ((List.length a0.1 : Nat) : Int) ∧ ((List.length a0.1 : Nat) : Int) < ((List.length a0.1 : Nat) : Int) + 1) ∧ ((List.length a0.1 : Nat) : Int) ≤ 9223372036854775807 ∧ ((1 : Nat) : Int) * ((List.length a0.1 : Nat) : Int) ≤ 281474976710656 then
  let x1 := (List.replicate (Int.toNat ((List.length a0.1 : Nat) : Int)) false)
  if (0 ≤ ((List.length a0.1 : Nat) : Int) ∧ ((List.length a0.1 : Nat) : Int) < ((List.length a0.1 : Nat) : Int) + 1) ∧ ((List.length a0.1 : Nat) : Int) ≤ 9223372036854775807 ∧ ((1 : Nat) : Int) * ((List.length a0.1 : Nat) : Int) ≤ 281474976710656 then
   let x2 := (List.replicate (Int.toNat ((List.length a0.1 : Nat) : Int)) false)
   if (0 ≤ ((List.length a0.1 : Nat) : Int) ∧ ((List.length a0.1 : Nat) : Int) < ((List.length a0.1 : Nat) : Int) + 1) ∧ ((List.length a0.1 : Nat) : Int) ≤ 9223372036854775807 ∧ ((1 : Nat) : Int) * ((List.length a0.1 : Nat) : Int) ≤ 281474976710656 then
    let x3 := (List.replicate (Int.toNat ((List.length a0.1 : Nat) : Int)) false)
    (F34_0 k k a1 ((List.length a0.1 : Nat) : Int) (0 : Int) a0 (([] : (List Int)), (([] : (List Int)), (([] : (List Int)), (([] : TY56), ((0 : Int), ()))))) x1 x2 x3).bind fun r22 =>
    let y23 := r22.1.1
    let y24 := r22.2.1
    let y25 := r22.2.2.1
    let y26 := r22.2.2.2.1
    let y27 := r22.2.2.2.2.1
    let y28 := r22.2.2.2.2.2.1
    (F34_2 k k y23 true y24 y25 y26 y27 y28).bind fun r49 =>
    let y50 := r49.1.1
    let y51 := r49.2.1
    let y52 := r49.2.2.1
    let y53 := r49.2.2.2.1
    let y54 := r49.2.2.2.2.1
    if (0 ≤ y50 ∧ y50 < y50 + 1) ∧ y50 ≤ 9223372036854775807 ∧ ((8 : Nat) : Int) * y50 ≤ 281474976710656 then
     (F34_3 k k y50 (0 : Int) y51 y52 (([] : (List Int)), (([] : (List Int)), (([] : (List Int)), (([] : TY56), (y51.2.2.2.2.1, ()))))) y53 y54 (List.replicate (Int.toNat y50) (0 : Int))).bind fun r65 =>
     let y66 := r65.2.1
     let y67 := r65.2.2.1
     let y68 := r65.2.2.2.1
     let y69 := r65.2.2.2.2.1
     (F34_4 k k (0 : Int) y66 y67 y68 y69).bind fun r82 =>
     let y84 := r82.2.2.1
     some ((y84, ()), ())
    else none
   else none
  else none
 else none
def sp34 (k : Nat) : Spec := ⟨[.val KD14, .val KD51], [.own KD15], fun x => F34 k x.1 x.2.1⟩
def lim34 : Lim := ⟨234, 2, false, false, [], []⟩
def cfg34 (k : Nat) : Nat → Option Spec := cfgL [(58, sp58 k)]
noncomputable def co34_0 : Code := codeAt (bodyOf Try.f34) [.r, .r, .r, .r, .l, .r, .s]
noncomputable def cb34_0 : Code := codeAt (bodyOf Try.f34) [.r, .r, .r, .r, .l, .r, .s, .b]
noncomputable def co34_1 : Code := codeAt (bodyOf Try.f34) [.r, .r, .r, .r, .r, .l, .r, .s, .b, .r, .s, .r, .r, .s]
noncomputable def cb34_1 : Code := codeAt (bodyOf Try.f34) [.r, .r, .r, .r, .r, .l, .r, .s, .b, .r, .s, .r, .r, .s, .b]
noncomputable def co34_2 : Code := codeAt (bodyOf Try.f34) [.r, .r, .r, .r, .r, .l, .r, .s]
noncomputable def cb34_2 : Code := codeAt (bodyOf Try.f34) [.r, .r, .r, .r, .r, .l, .r, .s, .b]
noncomputable def co34_3 : Code := codeAt (bodyOf Try.f34) [.r, .r, .r, .r, .r, .r, .r, .r, .l, .r, .s]
noncomputable def cb34_3 : Code := codeAt (bodyOf Try.f34) [.r, .r, .r, .r, .r, .r, .r, .r, .l, .r, .s, .b]
noncomputable def co34_4 : Code := codeAt (bodyOf Try.f34) [.r, .r, .r, .r, .r, .r, .r, .r, .r, .l, .r, .s]
noncomputable def cb34_4 : Code := codeAt (bodyOf Try.f34) [.r, .r, .r, .r, .r, .r, .r, .r, .r, .l, .r, .s, .b]
noncomputable def co34 : Code := codeAt (bodyOf Try.f34) []
theorem cfg34_ok (k : Nat) : CfgOK Try.prog (cfg34 k) := cfgL_cons (v58 k) (cfgL_nil)
noncomputable def bo34_0 (k m : Nat) (v : (fr34_0 k).sh.V) := body Try.prog (stepper Try.prog (cfg34 k) lim34) .go cb34_0 ((fr34_0 k).sh.st v) (loopK (fr34_0 k) fun v => F34_0 k m v.1.1 v.1.2.1 v.1.2.2.1 v.2.1 v.2.2.1 v.2.2.2.1 v.2.2.2.2.1 v.2.2.2.2.2.1)
theorem pp34_0 (k m : Nat) (v : (fr34_0 k).sh.V) : F34_0 k (m + 1) v.1.1 v.1.2.1 v.1.2.2.1 v.2.1 v.2.2.1 v.2.2.2.1 v.2.2.2.2.1 v.2.2.2.2.2.1 = (bo34_0 k m v).eval ∧ (bo34_0 k m v).left = (bo34_0 k m v).right := ⟨by kernel_rfl, by kernel_rfl⟩
theorem fr34_0_ok (k : Nat) : FragOK Try.prog lim34 (fr34_0 k) co34_0 :=
 frag_cast (by kernel_rfl) (loop_ok (cfg34_ok k) (planOK_go _) (fun m v => F34_0 k m v.1.1 v.1.2.1 v.1.2.2.1 v.2.1 v.2.2.1 v.2.2.2.1 v.2.2.2.2.1 v.2.2.2.2.2.1) k (fun _ => rfl) (fun _ => rfl) (pp34_0 k))
noncomputable def bo34_1 (k m : Nat) (v : (fr34_1 k).sh.V) := body Try.prog (stepper Try.prog (cfg34 k) lim34) .go cb34_1 ((fr34_1 k).sh.st v) (loopK (fr34_1 k) fun v => F34_1 k m v.1.1 v.1.2.1 v.1.2.2.1 v.2.1 v.2.2.1 v.2.2.2.1 v.2.2.2.2.1 v.2.2.2.2.2.1)
theorem pp34_1 (k m : Nat) (v : (fr34_1 k).sh.V) : F34_1 k (m + 1) v.1.1 v.1.2.1 v.1.2.2.1 v.2.1 v.2.2.1 v.2.2.2.1 v.2.2.2.2.1 v.2.2.2.2.2.1 = (bo34_1 k m v).eval ∧ (bo34_1 k m v).left = (bo34_1 k m v).right := ⟨by kernel_rfl, by kernel_rfl⟩
theorem fr34_1_ok (k : Nat) : FragOK Try.prog lim34 (fr34_1 k) co34_1 :=
 frag_cast (by kernel_rfl) (loop_ok (cfg34_ok k) (planOK_go _) (fun m v => F34_1 k m v.1.1 v.1.2.1 v.1.2.2.1 v.2.1 v.2.2.1 v.2.2.2.1 v.2.2.2.2.1 v.2.2.2.2.2.1) k (fun _ => rfl) (fun _ => rfl) (pp34_1 k))
def pl34_2 (k : Nat) : Plan := (.seq .go (.sub (.seq .go (.seq .go (.sub (.frag (fr34_1 k)))))))
theorem pq34_2 (k : Nat) : PlanOK Try.prog lim34 (pl34_2 k) cb34_2 = (PlanOK Try.prog lim34 .go (codeAt (bodyOf Try.f34) [.r, .r, .r, .r, .r, .l, .r, .s, .b, .l]) ∧ (PlanOK Try.prog lim34 .go (codeAt (bodyOf Try.f34) [.r, .r, .r, .r, .r, .l, .r, .s, .b, .r, .s, .l]) ∧ (PlanOK Try.prog lim34 .go (codeAt (bodyOf Try.f34) [.r, .r, .r, .r, .r, .l, .r, .s, .b, .r, .s, .r, .l]) ∧ FragOK Try.prog lim34 (fr34_1 k) co34_1))) := by kernel_rfl
noncomputable def bo34_2 (k m : Nat) (v : (fr34_2 k).sh.V) := body Try.prog (stepper Try.prog (cfg34 k) lim34) (pl34_2 k) cb34_2 ((fr34_2 k).sh.st v) (loopK (fr34_2 k) fun v => F34_2 k m v.1.1 v.1.2.1 v.2.1 v.2.2.1 v.2.2.2.1 v.2.2.2.2.1 v.2.2.2.2.2.1)
theorem pp34_2 (k m : Nat) (v : (fr34_2 k).sh.V) : F34_2 k (m + 1) v.1.1 v.1.2.1 v.2.1 v.2.2.1 v.2.2.2.1 v.2.2.2.2.1 v.2.2.2.2.2.1 = (bo34_2 k m v).eval ∧ (bo34_2 k m v).left = (bo34_2 k m v).right := ⟨by kernel_rfl, by kernel_rfl⟩
theorem fr34_2_ok (k : Nat) : FragOK Try.prog lim34 (fr34_2 k) co34_2 :=
 frag_cast (by kernel_rfl) (loop_ok (cfg34_ok k) (Eq.mpr (pq34_2 k) ⟨(planOK_go _), ⟨(planOK_go _), ⟨(planOK_go _), (fr34_1_ok k)⟩⟩⟩) (fun m v => F34_2 k m v.1.1 v.1.2.1 v.2.1 v.2.2.1 v.2.2.2.1 v.2.2.2.2.1 v.2.2.2.2.2.1) k (fun _ => rfl) (fun _ => rfl) (pp34_2 k))
noncomputable def bo34_3 (k m : Nat) (v : (fr34_3 k).sh.V) := body Try.prog (stepper Try.prog (cfg34 k) lim34) .go cb34_3 ((fr34_3 k).sh.st v) (loopK (fr34_3 k) fun v => F34_3 k m v.1.1 v.1.2.1 v.2.1 v.2.2.1 v.2.2.2.1 v.2.2.2.2.1 v.2.2.2.2.2.1 v.2.2.2.2.2.2.1)
theorem pp34_3 (k m : Nat) (v : (fr34_3 k).sh.V) : F34_3 k (m + 1) v.1.1 v.1.2.1 v.2.1 v.2.2.1 v.2.2.2.1 v.2.2.2.2.1 v.2.2.2.2.2.1 v.2.2.2.2.2.2.1 = (bo34_3 k m v).eval ∧ (bo34_3 k m v).left = (bo34_3 k m v).right := ⟨by kernel_rfl, by kernel_rfl⟩
theorem fr34_3_ok (k : Nat) : FragOK Try.prog lim34 (fr34_3 k) co34_3 :=
 frag_cast (by kernel_rfl) (loop_ok (cfg34_ok k) (planOK_go _) (fun m v => F34_3 k m v.1.1 v.1.2.1 v.2.1 v.2.2.1 v.2.2.2.1 v.2.2.2.2.1 v.2.2.2.2.2.1 v.2.2.2.2.2.2.1) k (fun _ => rfl) (fun _ => rfl) (pp34_3 k))
noncomputable def bo34_4 (k m : Nat) (v : (fr34_4 k).sh.V) := body Try.prog (stepper Try.prog (cfg34 k) lim34) .go cb34_4 ((fr34_4 k).sh.st v) (loopK (fr34_4 k) fun v => F34_4 k m v.1.1 v.2.1 v.2.2.1 v.2.2.2.1 v.2.2.2.2.1)
theorem pp34_4 (k m : Nat) (v : (fr34_4 k).sh.V) : F34_4 k (m + 1) v.1.1 v.2.1 v.2.2.1 v.2.2.2.1 v.2.2.2.2.1 = (bo34_4 k m v).eval ∧ (bo34_4 k m v).left = (bo34_4 k m v).right := ⟨by kernel_rfl, by kernel_rfl⟩
theorem fr34_4_ok (k : Nat) : FragOK Try.prog lim34 (fr34_4 k) co34_4 :=
 frag_cast (by kernel_rfl) (loop_ok (cfg34_ok k) (planOK_go _) (fun m v => F34_4 k m v.1.1 v.2.1 v.2.2.1 v.2.2.2.1 v.2.2.2.2.1) k (fun _ => rfl) (fun _ => rfl) (pp34_4 k))
def pl34 (k : Nat) : Plan := (.seq .go (.seq .go (.seq .go (.seq .go (.seq (.seq .go (.sub (.frag (fr34_0 k)))) (.seq (.seq .go (.sub (.frag (fr34_2 k)))) (.seq .go (.seq .go (.seq (.seq .go (.sub (.frag (fr34_3 k)))) (.seq (.seq .go (.sub (.frag (fr34_4 k)))) .go))))))))))
theorem pq34 (k : Nat) : PlanOK Try.prog lim34 (pl34 k) co34 = (PlanOK Try.prog lim34 .go (codeAt (bodyOf Try.f34) [.l]) ∧ (PlanOK Try.prog lim34 .go (codeAt (bodyOf Try.f34) [.r, .l]) ∧ (PlanOK Try.prog lim34 .go (codeAt (bodyOf Try.f34) [.r, .r, .l]) ∧ (PlanOK Try.prog lim34 .go (codeAt (bodyOf Try.f34) [.r, .r, .r, .l]) ∧ ((PlanOK Try.prog lim34 .go (codeAt (bodyOf Try.f34) [.r, .r, .r, .r, .l, .l]) ∧ FragOK Try.prog lim34 (fr34_0 k) co34_0) ∧ ((PlanOK Try.prog lim34 .go (codeAt (bodyOf Try.f34) [.r, .r, .r, .r, .r, .l, .l]) ∧ FragOK Try.prog lim34 (fr34_2 k) co34_2) ∧ (PlanOK Try.prog lim34 .go (codeAt (bodyOf Try.f34) [.r, .r, .r, .r, .r, .r, .l]) ∧ (PlanOK Try.prog lim34 .go (codeAt (bodyOf Try.f34) [.r, .r, .r, .r, .r, .r, .r, .l]) ∧ ((PlanOK Try.prog lim34 .go (codeAt (bodyOf Try.f34) [.r, .r, .r, .r, .r, .r, .r, .r, .l, .l]) ∧ FragOK Try.prog lim34 (fr34_3 k) co34_3) ∧ ((PlanOK Try.prog lim34 .go (codeAt (bodyOf Try.f34) [.r, .r, .r, .r, .r, .r, .r, .r, .r, .l, .l]) ∧ FragOK Try.prog lim34 (fr34_4 k) co34_4) ∧ PlanOK Try.prog lim34 .go (codeAt (bodyOf Try.f34) [.r, .r, .r, .r, .r, .r, .r, .r, .r, .r]))))))))))) := by kernel_rfl
noncomputable def bo34 (k : Nat) (x : AT (sp34 k).ps) := fnT Try.prog (cfg34 k) lim34 Try.f34 (bodyOf Try.f34) (pl34 k) (sp34 k) x
theorem vv34 (k : Nat) (x : AT (sp34 k).ps) : (sp34 k).impl x = (bo34 k x).eval ∧ (bo34 k x).left = (bo34 k x).right := ⟨by kernel_rfl, by kernel_rfl⟩
theorem v34 (k : Nat) : Callable Try.prog 34 ∧ Valid Try.prog 34 (sp34 k) :=
 fn_of (n := lim34) (fn := Try.f34) (p := (pl34 k)) (cfg34_ok k) (by kernel_rfl) (Eq.mpr (pq34 k) ⟨(planOK_go _), ⟨(planOK_go _), ⟨(planOK_go _), ⟨(planOK_go _), ⟨⟨(planOK_go _), (fr34_0_ok k)⟩, ⟨⟨(planOK_go _), (fr34_2_ok k)⟩, ⟨(planOK_go _), ⟨(planOK_go _), ⟨⟨(planOK_go _), (fr34_3_ok k)⟩, ⟨⟨(planOK_go _), (fr34_4_ok k)⟩, (planOK_go _)⟩⟩⟩⟩⟩⟩⟩⟩⟩⟩) (vv34 k)
def F14_0 (k : Nat) : Nat → Int → TY3 → TY3 → Option ((Unit × (TY3 × TY3 × Unit)) ⊕ ((Bool × Unit) × (TY3 × Unit)))
 | 0, _, _, _ => none
 | n + 1, t10, c6, c8 =>
  let x25 := (decide (t10 < ((List.length c8.1.2.1 : Nat) : Int)))
  bif x25 then
   if 0 ≤ t10 ∧ t10 < ((List.length c8.1.2.1 : Nat) : Int) then
    let x26 := (List.getD c8.1.2.1 (Int.toNat t10) ((0 : Int), ((0 : Int), ((Tree.mk ((0 : Int), ((0 : Int), ((0 : Int), ((0 : Int), (ByteArray.empty, ()))))) []), ((Tree.mk ((0 : Int), ((0 : Int), ((0 : Int), ((0 : Int), (ByteArray.empty, ()))))) []), ())))))
    (F33 k x26.2.2.1 c8.1).bind fun r27 =>
    if 0 ≤ t10 ∧ t10 < ((List.length c8.1.2.1 : Nat) : Int) then
     let x28 := (List.getD c8.1.2.1 (Int.toNat t10) ((0 : Int), ((0 : Int), ((Tree.mk ((0 : Int), ((0 : Int), ((0 : Int), ((0 : Int), (ByteArray.empty, ()))))) []), ((Tree.mk ((0 : Int), ((0 : Int), ((0 : Int), ((0 : Int), (ByteArray.empty, ()))))) []), ())))))
     (F33 k x28.2.2.2.1 c8.1).bind fun r29 =>
     bif (!r27.1.2.1) then
      some (.inr ((false, ()), (c8, ())))
     else
      bif (!r29.1.2.1) then
       some (.inr ((false, ()), (c8, ())))
      else
       (F34 k r27.1.1 c8.2.2.2.1).bind fun r30 =>
       let x31 := (List.set (List.replicate 1 (([] : (List Int)), (([] : (List Int)), (([] : (List Int)), (([] : TY56), ((0 : Int), ())))))) 0 r30.1.1)
       if (List.length c8.2.2.2.2.1 + List.length x31) * (104 * 2) ≤ 281474976710656 ∧ List.length c8.2.2.2.2.1 + List.length x31 ≤ 9223372036854775807 then
        (F34 k r29.1.1 c8.2.2.2.1).bind fun r32 =>
        let x33 := (List.set (List.replicate 1 (([] : (List Int)), (([] : (List Int)), (([] : (List Int)), (([] : TY56), ((0 : Int), ())))))) 0 r32.1.1)
        if (List.length c8.2.2.2.2.2.1 + List.length x33) * (104 * 2) ≤ 281474976710656 ∧ List.length c8.2.2.2.2.2.1 + List.length x33 ≤ 9223372036854775807 then
         (F14_0 k n (IntKind.wrap .i64 (t10 + (1 : Int))) c6 (c8.1, (c8.2.1, (c8.2.2.1, (c8.2.2.2.1, ((c8.2.2.2.2.1 ++ x31), ((c8.2.2.2.2.2.1 ++ x33), c8.2.2.2.2.2.2))))))).bind some
        else none
       else none
    else none
   else none
  else
   some (.inl ((), (c6, c8, ())))
def fr14_0 (k : Nat) : Frag := ⟨⟨[], [(6, .ptr 6 []), (8, .ptr 8 []), (10, .val (.int .i64))], [(6, some 33, KD2), (8, some 33, KD1)]⟩, [(.exit 0, ⟨[], [(6, .ptr 6 []), (8, .ptr 8 [])], [(6, some 33, KD2), (8, some 33, KD1)]⟩), (.ret, ⟨[], [(6, .ptr 6 []), (7, .val .bool)], [(6, some 33, KD1)]⟩)], fun v => F14_0 k k v.1.1 v.2.1 v.2.2.1⟩
def F14 (k : Nat) (a0 : TY57) (a1 : (List Int)) (a2 : (List Int)) : Option ((TY3 × Bool × Unit) × Unit) :=
 let x1 := ([] : TY39)
 let x2 := ([] : TY23)
 let x3 := ([] : TY28)
 let x4 := ([] : TY28)
 (F28 k a0 a1 a2).bind fun r5 =>
 let x6 := ([] : TY28)
 let x7 := ([] : TY28)
 (F29 k r5.1.1).bind fun r12 =>
 (F30 k r12.1.1).bind fun r13 =>
 (F31 k r12.1.1 r13.1.1 r13.1.2.1).bind fun r14 =>
 (F32 k r13.1.2.1).bind fun r15 =>
 (F14_0 k k (0 : Int) ((x1, (x2, ())), (([] : (List Int)), (([] : (List Int)), (([] : (List (List Bool))), (x3, (x4, ((0 : Int), ()))))))) (r5.1.1, (r13.1.1, (r13.1.2.1, (r14.1.1, (x6, (x7, (r15.1.1, ())))))))).bind fun r34 =>
 match r34 with
 | .inl r35 =>
  let y37 := r35.2.2.1
  some ((y37, true, ()), ())
 | .inr r35 =>
  let y38 := r35.1.1
  let y39 := r35.2.1
  some ((y39, y38, ()), ())
def sp14 (k : Nat) : Spec := ⟨[.val KD48, .val KD61, .val KD61], [.own KD1, .val .bool], fun x => F14 k x.1 x.2.1 x.2.2.1⟩
def lim14 : Lim := ⟨101, 3, false, false, [18, 87, 95], [(19, KD1)]⟩
def cfg14 (k : Nat) : Nat → Option Spec := cfgL [(28, sp28 k), (29, sp29 k), (30, sp30 k), (31, sp31 k), (32, sp32 k), (33, sp33 k), (34, sp34 k)]
noncomputable def co14_0 : Code := codeAt (bodyOf Try.f14) [.r, .r, .r, .r, .r, .r, .l, .r, .s]
noncomputable def cb14_0 : Code := codeAt (bodyOf Try.f14) [.r, .r, .r, .r, .r, .r, .l, .r, .s, .b]
noncomputable def co14 : Code := codeAt (bodyOf Try.f14) []
theorem cfg14_ok (k : Nat) : CfgOK Try.prog (cfg14 k) := cfgL_cons (v28 k) (cfgL_cons (v29 k) (cfgL_cons (v30 k) (cfgL_cons (v31 k) (cfgL_cons (v32 k) (cfgL_cons (v33 k) (cfgL_cons (v34 k) (cfgL_nil)))))))
noncomputable def bo14_0 (k m : Nat) (v : (fr14_0 k).sh.V) := body Try.prog (stepper Try.prog (cfg14 k) lim14) .go cb14_0 ((fr14_0 k).sh.st v) (loopK (fr14_0 k) fun v => F14_0 k m v.1.1 v.2.1 v.2.2.1)
theorem pp14_0 (k m : Nat) (v : (fr14_0 k).sh.V) : F14_0 k (m + 1) v.1.1 v.2.1 v.2.2.1 = (bo14_0 k m v).eval ∧ (bo14_0 k m v).left = (bo14_0 k m v).right := ⟨by kernel_rfl, by kernel_rfl⟩
theorem fr14_0_ok (k : Nat) : FragOK Try.prog lim14 (fr14_0 k) co14_0 :=
 frag_cast (by kernel_rfl) (loop_ok (cfg14_ok k) (planOK_go _) (fun m v => F14_0 k m v.1.1 v.2.1 v.2.2.1) k (fun _ => rfl) (fun _ => rfl) (pp14_0 k))
def pl14 (k : Nat) : Plan := (.seq .go (.seq .go (.seq .go (.seq .go (.seq .go (.seq .go (.seq (.seq .go (.sub (.frag (fr14_0 k)))) .go)))))))
theorem pq14 (k : Nat) : PlanOK Try.prog lim14 (pl14 k) co14 = (PlanOK Try.prog lim14 .go (codeAt (bodyOf Try.f14) [.l]) ∧ (PlanOK Try.prog lim14 .go (codeAt (bodyOf Try.f14) [.r, .l]) ∧ (PlanOK Try.prog lim14 .go (codeAt (bodyOf Try.f14) [.r, .r, .l]) ∧ (PlanOK Try.prog lim14 .go (codeAt (bodyOf Try.f14) [.r, .r, .r, .l]) ∧ (PlanOK Try.prog lim14 .go (codeAt (bodyOf Try.f14) [.r, .r, .r, .r, .l]) ∧ (PlanOK Try.prog lim14 .go (codeAt (bodyOf Try.f14) [.r, .r, .r, .r, .r, .l]) ∧ ((PlanOK Try.prog lim14 .go (codeAt (bodyOf Try.f14) [.r, .r, .r, .r, .r, .r, .l, .l]) ∧ FragOK Try.prog lim14 (fr14_0 k) co14_0) ∧ PlanOK Try.prog lim14 .go (codeAt (bodyOf Try.f14) [.r, .r, .r, .r, .r, .r, .r])))))))) := by kernel_rfl
noncomputable def bo14 (k : Nat) (x : AT (sp14 k).ps) := fnT Try.prog (cfg14 k) lim14 Try.f14 (bodyOf Try.f14) (pl14 k) (sp14 k) x
theorem vv14 (k : Nat) (x : AT (sp14 k).ps) : (sp14 k).impl x = (bo14 k x).eval ∧ (bo14 k x).left = (bo14 k x).right := ⟨by kernel_rfl, by kernel_rfl⟩
theorem v14 (k : Nat) : Callable Try.prog 14 ∧ Valid Try.prog 14 (sp14 k) :=
 fn_of (n := lim14) (fn := Try.f14) (p := (pl14 k)) (cfg14_ok k) (by kernel_rfl) (Eq.mpr (pq14 k) ⟨(planOK_go _), ⟨(planOK_go _), ⟨(planOK_go _), ⟨(planOK_go _), ⟨(planOK_go _), ⟨(planOK_go _), ⟨⟨(planOK_go _), (fr14_0_ok k)⟩, (planOK_go _)⟩⟩⟩⟩⟩⟩⟩) (vv14 k)
def F47 (k : Nat) (a0 : Int) (a1 : Int) : Option TY72 :=
 if a1 ≠ 0 then
  bif (decide ((Int.tmod a0 a1) < (0 : Int))) then
   some (((IntKind.wrap .i64 ((Int.tmod a0 a1) + a1)), ()), ())
  else
   some (((Int.tmod a0 a1), ()), ())
 else none
def sp47 (k : Nat) : Spec := ⟨[.val (.int .i64), .val (.int .i64)], [.val (.int .i64)], fun x => F47 k x.1 x.2.1⟩
def lim47 : Lim := ⟨15, 2, false, false, [], []⟩
def cfg47 (k : Nat) : Nat → Option Spec := cfgL []
noncomputable def co47 : Code := codeAt (bodyOf Try.f47) []
theorem cfg47_ok (k : Nat) : CfgOK Try.prog (cfg47 k) := cfgL_nil
noncomputable def bo47 (k : Nat) (x : AT (sp47 k).ps) := fnT Try.prog (cfg47 k) lim47 Try.f47 (bodyOf Try.f47) .go (sp47 k) x
theorem vv47 (k : Nat) (x : AT (sp47 k).ps) : (sp47 k).impl x = (bo47 k x).eval ∧ (bo47 k x).left = (bo47 k x).right := ⟨by kernel_rfl, by kernel_rfl⟩
theorem v47 (k : Nat) : Callable Try.prog 47 ∧ Valid Try.prog 47 (sp47 k) :=
 fn_of (n := lim47) (fn := Try.f47) (p := .go) (cfg47_ok k) (by kernel_rfl) (planOK_go _) (vv47 k)
def F21_0 (k : Nat) : Nat → (List Int) → Int → Int → (List Int) → Option TY62
 | 0, _, _, _, _ => none
 | n + 1, t0, t1, t6, c2000005 =>
  let x1 := (decide (t6 < ((List.length t0 : Nat) : Int)))
  bif x1 then
   bif (decide (t6 < t1)) then
    let x2 := (List.set (List.set (List.set (List.set (List.set (List.set (List.set (List.set (List.set (List.set (List.set (List.set (List.replicate 12 (0 : Int)) 0 (97 : Int)) 1 (97 : Int)) 2 (98 : Int)) 3 (99 : Int)) 4 (49 : Int)) 5 (55 : Int)) 6 (32 : Int)) 7 (120 : Int)) 8 (19969 : Int)) 9 (128512 : Int)) 10 (45 : Int)) 11 (50 : Int))
    if 0 ≤ t6 ∧ t6 < ((List.length t0 : Nat) : Int) then
     (F47 k (List.getD t0 (Int.toNat t6) (0 : Int)) (12 : Int)).bind fun r3 =>
     if 0 ≤ r3.1.1 ∧ r3.1.1 < ((List.length x2 : Nat) : Int) then
      let x4 := (List.set (List.replicate 1 (0 : Int)) 0 (List.getD x2 (Int.toNat r3.1.1) (0 : Int)))
      if (List.length c2000005 + List.length x4) * (8 * 2) ≤ 281474976710656 ∧ List.length c2000005 + List.length x4 ≤ 9223372036854775807 then
       (F21_0 k n t0 t1 (IntKind.wrap .i64 (t6 + (1 : Int))) (c2000005 ++ x4)).bind some
      else none
     else none
    else none
   else
    some ((), (c2000005, ()))
  else
   some ((), (c2000005, ()))
def fr21_0 (k : Nat) : Frag := ⟨⟨[(5, KD64)], [(0, .val KD61), (1, .val (.int .i64)), (5, .at 2000005 []), (6, .val (.int .i64))], [(2000005, none, KD64)]⟩, [(.exit 0, ⟨[(5, KD64)], [(5, .at 2000005 [])], [(2000005, none, KD64)]⟩)], fun v => F21_0 k k v.1.1 v.1.2.1 v.1.2.2.1 v.2.1⟩
def F21 (k : Nat) (a0 : (List Int)) (a1 : Int) : Option TY66 :=
 (F21_0 k k a0 a1 (0 : Int) []).bind fun r5 =>
 let y6 := r5.2.1
 some ((y6, ()), ())
def sp21 (k : Nat) : Spec := ⟨[.val KD61, .val (.int .i64)], [.own KD64], fun x => F21 k x.1 x.2.1⟩
def lim21 : Lim := ⟨30, 2, false, false, [], []⟩
def cfg21 (k : Nat) : Nat → Option Spec := cfgL [(47, sp47 k)]
noncomputable def co21_0 : Code := codeAt (bodyOf Try.f21) [.r, .r, .l, .r, .s]
noncomputable def cb21_0 : Code := codeAt (bodyOf Try.f21) [.r, .r, .l, .r, .s, .b]
noncomputable def co21 : Code := codeAt (bodyOf Try.f21) []
theorem cfg21_ok (k : Nat) : CfgOK Try.prog (cfg21 k) := cfgL_cons (v47 k) (cfgL_nil)
noncomputable def bo21_0 (k m : Nat) (v : (fr21_0 k).sh.V) := body Try.prog (stepper Try.prog (cfg21 k) lim21) .go cb21_0 ((fr21_0 k).sh.st v) (loopK (fr21_0 k) fun v => F21_0 k m v.1.1 v.1.2.1 v.1.2.2.1 v.2.1)
theorem pp21_0 (k m : Nat) (v : (fr21_0 k).sh.V) : F21_0 k (m + 1) v.1.1 v.1.2.1 v.1.2.2.1 v.2.1 = (bo21_0 k m v).eval ∧ (bo21_0 k m v).left = (bo21_0 k m v).right := ⟨by kernel_rfl, by kernel_rfl⟩
theorem fr21_0_ok (k : Nat) : FragOK Try.prog lim21 (fr21_0 k) co21_0 :=
 frag_cast (by kernel_rfl) (loop_ok (cfg21_ok k) (planOK_go _) (fun m v => F21_0 k m v.1.1 v.1.2.1 v.1.2.2.1 v.2.1) k (fun _ => rfl) (fun _ => rfl) (pp21_0 k))
def pl21 (k : Nat) : Plan := (.seq .go (.seq .go (.seq (.seq .go (.sub (.frag (fr21_0 k)))) .go)))
theorem pq21 (k : Nat) : PlanOK Try.prog lim21 (pl21 k) co21 = (PlanOK Try.prog lim21 .go (codeAt (bodyOf Try.f21) [.l]) ∧ (PlanOK Try.prog lim21 .go (codeAt (bodyOf Try.f21) [.r, .l]) ∧ ((PlanOK Try.prog lim21 .go (codeAt (bodyOf Try.f21) [.r, .r, .l, .l]) ∧ FragOK Try.prog lim21 (fr21_0 k) co21_0) ∧ PlanOK Try.prog lim21 .go (codeAt (bodyOf Try.f21) [.r, .r, .r])))) := by kernel_rfl
noncomputable def bo21 (k : Nat) (x : AT (sp21 k).ps) := fnT Try.prog (cfg21 k) lim21 Try.f21 (bodyOf Try.f21) (pl21 k) (sp21 k) x
theorem vv21 (k : Nat) (x : AT (sp21 k).ps) : (sp21 k).impl x = (bo21 k x).eval ∧ (bo21 k x).left = (bo21 k x).right := ⟨by kernel_rfl, by kernel_rfl⟩
theorem v21 (k : Nat) : Callable Try.prog 21 ∧ Valid Try.prog 21 (sp21 k) :=
 fn_of (n := lim21) (fn := Try.f21) (p := (pl21 k)) (cfg21_ok k) (by kernel_rfl) (Eq.mpr (pq21 k) ⟨(planOK_go _), ⟨(planOK_go _), ⟨⟨(planOK_go _), (fr21_0_ok k)⟩, (planOK_go _)⟩⟩⟩) (vv21 k)
def F46_0 (k : Nat) : Nat → (List Int) → (List Int) → Int → Int → Option ((((List Int) × Int × Unit) × Unit))
 | 0, _, _, _, _ => none
 | n + 1, t0, t1, t2, t7 =>
  let x3 := (decide ((IntKind.wrap .i64 (t7 + (1 : Int))) < ((List.length t0 : Nat) : Int)))
  bif x3 then
   if 0 ≤ (IntKind.wrap .i64 (t7 + (1 : Int))) ∧ (IntKind.wrap .i64 (t7 + (1 : Int))) < ((List.length t0 : Nat) : Int) then
    let x4 := (List.getD t0 (Int.toNat (IntKind.wrap .i64 (t7 + (1 : Int)))) (0 : Int))
    bif (decide (x4 ≤ t2)) then
     (F46_0 k n t0 t1 t2 (IntKind.wrap .i64 (t7 + (1 : Int)))).bind some
    else
     some ((t1, t7, ()), ())
   else none
  else
   some ((t1, t7, ()), ())
def fr46_0 (k : Nat) : Frag := ⟨⟨[], [(0, .val KD61), (1, .val KD61), (2, .val (.int .i64)), (7, .val (.int .i64))], []⟩, [(.exit 0, ⟨[], [(1, .val KD61), (7, .val (.int .i64))], []⟩)], fun v => F46_0 k k v.1.1 v.1.2.1 v.1.2.2.1 v.1.2.2.2.1⟩
def F46 (k : Nat) (a0 : (List Int)) (a1 : (List Int)) (a2 : Int) : Option TY72 :=
 (F46_0 k k a0 a1 a2 (0 : Int)).bind fun r5 =>
 let y6 := r5.1.1
 let y7 := r5.1.2.1
 if 0 ≤ y7 ∧ y7 < ((List.length y6 : Nat) : Int) then
  some (((List.getD y6 (Int.toNat y7) (0 : Int)), ()), ())
 else none
def sp46 (k : Nat) : Spec := ⟨[.val KD61, .val KD61, .val (.int .i64)], [.val (.int .i64)], fun x => F46 k x.1 x.2.1 x.2.2.1⟩
def lim46 : Lim := ⟨28, 3, false, false, [], []⟩
def cfg46 (k : Nat) : Nat → Option Spec := cfgL []
noncomputable def co46_0 : Code := codeAt (bodyOf Try.f46) [.r, .r, .l, .s]
noncomputable def cb46_0 : Code := codeAt (bodyOf Try.f46) [.r, .r, .l, .s, .b]
noncomputable def co46 : Code := codeAt (bodyOf Try.f46) []
theorem cfg46_ok (k : Nat) : CfgOK Try.prog (cfg46 k) := cfgL_nil
noncomputable def bo46_0 (k m : Nat) (v : (fr46_0 k).sh.V) := body Try.prog (stepper Try.prog (cfg46 k) lim46) .go cb46_0 ((fr46_0 k).sh.st v) (loopK (fr46_0 k) fun v => F46_0 k m v.1.1 v.1.2.1 v.1.2.2.1 v.1.2.2.2.1)
theorem pp46_0 (k m : Nat) (v : (fr46_0 k).sh.V) : F46_0 k (m + 1) v.1.1 v.1.2.1 v.1.2.2.1 v.1.2.2.2.1 = (bo46_0 k m v).eval ∧ (bo46_0 k m v).left = (bo46_0 k m v).right := ⟨by kernel_rfl, by kernel_rfl⟩
theorem fr46_0_ok (k : Nat) : FragOK Try.prog lim46 (fr46_0 k) co46_0 :=
 frag_cast (by kernel_rfl) (loop_ok (cfg46_ok k) (planOK_go _) (fun m v => F46_0 k m v.1.1 v.1.2.1 v.1.2.2.1 v.1.2.2.2.1) k (fun _ => rfl) (fun _ => rfl) (pp46_0 k))
def pl46 (k : Nat) : Plan := (.seq .go (.seq .go (.seq (.sub (.frag (fr46_0 k))) .go)))
theorem pq46 (k : Nat) : PlanOK Try.prog lim46 (pl46 k) co46 = (PlanOK Try.prog lim46 .go (codeAt (bodyOf Try.f46) [.l]) ∧ (PlanOK Try.prog lim46 .go (codeAt (bodyOf Try.f46) [.r, .l]) ∧ (FragOK Try.prog lim46 (fr46_0 k) co46_0 ∧ PlanOK Try.prog lim46 .go (codeAt (bodyOf Try.f46) [.r, .r, .r])))) := by kernel_rfl
noncomputable def bo46 (k : Nat) (x : AT (sp46 k).ps) := fnT Try.prog (cfg46 k) lim46 Try.f46 (bodyOf Try.f46) (pl46 k) (sp46 k) x
theorem vv46 (k : Nat) (x : AT (sp46 k).ps) : (sp46 k).impl x = (bo46 k x).eval ∧ (bo46 k x).left = (bo46 k x).right := ⟨by kernel_rfl, by kernel_rfl⟩
theorem v46 (k : Nat) : Callable Try.prog 46 ∧ Valid Try.prog 46 (sp46 k) :=
 fn_of (n := lim46) (fn := Try.f46) (p := (pl46 k)) (cfg46_ok k) (by kernel_rfl) (Eq.mpr (pq46 k) ⟨(planOK_go _), ⟨(planOK_go _), ⟨(fr46_0_ok k), (planOK_go _)⟩⟩⟩) (vv46 k)
def F20_0 (k : Nat) : Nat → (List Int) → Int → TY3 → (List Int) → Option TY62
 | 0, _, _, _, _ => none
 | n + 1, t1, t6, c2, c2000005 =>
  let x1 := (decide (t6 < ((List.length t1 : Nat) : Int)))
  bif x1 then
   if 0 ≤ t6 ∧ t6 < ((List.length t1 : Nat) : Int) then
    (F46 k c2.2.1 c2.2.2.1 (List.getD t1 (Int.toNat t6) (0 : Int))).bind fun r2 =>
    let x3 := (List.set (List.replicate 1 (0 : Int)) 0 r2.1.1)
    if (List.length c2000005 + List.length x3) * (8 * 2) ≤ 281474976710656 ∧ List.length c2000005 + List.length x3 ≤ 9223372036854775807 then
     (F20_0 k n t1 (IntKind.wrap .i64 (t6 + (1 : Int))) c2 (c2000005 ++ x3)).bind some
    else none
   else none
  else
   some ((), (c2000005, ()))
def fr20_0 (k : Nat) : Frag := ⟨⟨[(5, KD64)], [(1, .val KD61), (2, .ptr 2 []), (5, .at 2000005 []), (6, .val (.int .i64))], [(2, some 33, KD0), (2000005, none, KD64)]⟩, [(.exit 0, ⟨[(5, KD64)], [(5, .at 2000005 [])], [(2000005, none, KD64)]⟩)], fun v => F20_0 k k v.1.1 v.1.2.1 v.2.1 v.2.2.1⟩
def F20 (k : Nat) (a0 : TY3) (a1 : (List Int)) : Option TY66 :=
 (F20_0 k k a1 (0 : Int) a0 []).bind fun r4 =>
 let y5 := r4.2.1
 some ((y5, ()), ())
def sp20 (k : Nat) : Spec := ⟨[.val KD0, .val KD61], [.own KD64], fun x => F20 k x.1 x.2.1⟩
def lim20 : Lim := ⟨26, 2, false, false, [], []⟩
def cfg20 (k : Nat) : Nat → Option Spec := cfgL [(46, sp46 k)]
noncomputable def co20_0 : Code := codeAt (bodyOf Try.f20) [.r, .r, .l, .r, .s]
noncomputable def cb20_0 : Code := codeAt (bodyOf Try.f20) [.r, .r, .l, .r, .s, .b]
noncomputable def co20 : Code := codeAt (bodyOf Try.f20) []
theorem cfg20_ok (k : Nat) : CfgOK Try.prog (cfg20 k) := cfgL_cons (v46 k) (cfgL_nil)
noncomputable def bo20_0 (k m : Nat) (v : (fr20_0 k).sh.V) := body Try.prog (stepper Try.prog (cfg20 k) lim20) .go cb20_0 ((fr20_0 k).sh.st v) (loopK (fr20_0 k) fun v => F20_0 k m v.1.1 v.1.2.1 v.2.1 v.2.2.1)
theorem pp20_0 (k m : Nat) (v : (fr20_0 k).sh.V) : F20_0 k (m + 1) v.1.1 v.1.2.1 v.2.1 v.2.2.1 = (bo20_0 k m v).eval ∧ (bo20_0 k m v).left = (bo20_0 k m v).right := ⟨by kernel_rfl, by kernel_rfl⟩
theorem fr20_0_ok (k : Nat) : FragOK Try.prog lim20 (fr20_0 k) co20_0 :=
 frag_cast (by kernel_rfl) (loop_ok (cfg20_ok k) (planOK_go _) (fun m v => F20_0 k m v.1.1 v.1.2.1 v.2.1 v.2.2.1) k (fun _ => rfl) (fun _ => rfl) (pp20_0 k))
def pl20 (k : Nat) : Plan := (.seq .go (.seq .go (.seq (.seq .go (.sub (.frag (fr20_0 k)))) .go)))
theorem pq20 (k : Nat) : PlanOK Try.prog lim20 (pl20 k) co20 = (PlanOK Try.prog lim20 .go (codeAt (bodyOf Try.f20) [.l]) ∧ (PlanOK Try.prog lim20 .go (codeAt (bodyOf Try.f20) [.r, .l]) ∧ ((PlanOK Try.prog lim20 .go (codeAt (bodyOf Try.f20) [.r, .r, .l, .l]) ∧ FragOK Try.prog lim20 (fr20_0 k) co20_0) ∧ PlanOK Try.prog lim20 .go (codeAt (bodyOf Try.f20) [.r, .r, .r])))) := by kernel_rfl
noncomputable def bo20 (k : Nat) (x : AT (sp20 k).ps) := fnT Try.prog (cfg20 k) lim20 Try.f20 (bodyOf Try.f20) (pl20 k) (sp20 k) x
theorem vv20 (k : Nat) (x : AT (sp20 k).ps) : (sp20 k).impl x = (bo20 k x).eval ∧ (bo20 k x).left = (bo20 k x).right := ⟨by kernel_rfl, by kernel_rfl⟩
theorem v20 (k : Nat) : Callable Try.prog 20 ∧ Valid Try.prog 20 (sp20 k) :=
 fn_of (n := lim20) (fn := Try.f20) (p := (pl20 k)) (cfg20_ok k) (by kernel_rfl) (Eq.mpr (pq20 k) ⟨(planOK_go _), ⟨(planOK_go _), ⟨⟨(planOK_go _), (fr20_0_ok k)⟩, (planOK_go _)⟩⟩⟩) (vv20 k)
def F5_0 (k : Nat) : Nat → Int → (List Int) → (List Int) → (List Int) → (List Int) → Option ((Unit × Unit) ⊕ TY71)
 | 0, _, _, _, _, _ => none
 | n + 1, t20, c1000848, c1000912, c1001024, c1001072 =>
  let x23 := (decide (t20 ≤ ((List.length c1000848 : Nat) : Int)))
  bif x23 then
   let x24 := (IntKind.wrap .i64 (((List.length c1000912 : Nat) : Int) + t20))
   if 0 ≤ x24 ∧ x24 < ((List.length c1001024 : Nat) : Int) then
    let x25 := (List.getD c1001024 (Int.toNat x24) (0 : Int))
    if 0 ≤ t20 ∧ t20 < ((List.length c1001072 : Nat) : Int) then
     let x26 := (List.getD c1001072 (Int.toNat t20) (0 : Int))
     bif (x25 != x26) then
      some (.inr ((false, ()), ()))
     else
      (F5_0 k n (IntKind.wrap .i64 (t20 + (1 : Int))) c1000848 c1000912 c1001024 c1001072).bind some
    else none
   else none
  else
   some (.inl ((), ()))
def fr5_0 (k : Nat) : Frag := ⟨⟨[], [(16, .at 1000848 []), (17, .at 1000912 []), (18, .at 1001024 []), (19, .at 1001072 []), (20, .val (.int .i64))], [(1000848, none, KD64), (1000912, none, KD64), (1001024, none, KD64), (1001072, none, KD64)]⟩, [(.exit 0, ⟨[], [], []⟩), (.ret, ⟨[], [(10, .val .bool)], []⟩)], fun v => F5_0 k k v.1.1 v.2.1 v.2.2.1 v.2.2.2.1 v.2.2.2.2.1⟩
def F5 (k : Nat) (a0 : TY57) (a1 : (List Int)) (a2 : (List Int)) (a3 : (List Int)) (a4 : (List Int)) : Option TY71 :=
 (F12 k).bind fun r1 =>
 bif (!r1.1.1) then
  some ((false, ()), ())
 else
  (F13 k a0).bind fun r2 =>
  bif (!r2.1.1) then
   some ((true, ()), ())
  else
   (F14 k a0 a1 a2).bind fun r3 =>
   bif (!r3.1.2.1) then
    some ((true, ()), ())
   else
    (F16 k r3.1.1.2.2.2.2.2.1 r3.1.1.2.2.2.1 r3.1.1.2.2.2.2.2.2.1 (60 : Int)).bind fun r8 =>
    bif (r8.1.2.2.1 != (0 : Int)) then
     some (((r8.1.2.2.1 == (4 : Int)), ()), ())
    else
     (F21 k a3 (15 : Int)).bind fun r9 =>
     (F20 k r3.1.1 r9.1.1).bind fun r10 =>
     (F21 k a4 (15 : Int)).bind fun r11 =>
     (F20 k r3.1.1 r11.1.1).bind fun r12 =>
     if (List.length (List.replicate 0 (0 : Int)) + List.length r12.1.1) * (8 * 2) ≤ 281474976710656 ∧ List.length (List.replicate 0 (0 : Int)) + List.length r12.1.1 ≤ 9223372036854775807 then
      if (List.length ((List.replicate 0 (0 : Int)) ++ r12.1.1) + List.length r10.1.1) * (8 * 2) ≤ 281474976710656 ∧ List.length ((List.replicate 0 (0 : Int)) ++ r12.1.1) + List.length r10.1.1 ≤ 9223372036854775807 then
       let x13 := (((List.replicate 0 (0 : Int)) ++ r12.1.1) ++ r10.1.1)
       (F22 k r8.1.1 x13).bind fun r14 =>
       (F22 k r8.1.1 r10.1.1).bind fun r15 =>
       let x16 := (IntKind.wrap .i64 (((List.length r10.1.1 : Nat) : Int) + ((List.length r12.1.1 : Nat) : Int)))
       let x17 := (((List.length r14.1.1 : Nat) : Int) != (IntKind.wrap .i64 (x16 + (1 : Int))))
       bif x17 then
        some ((false, ()), ())
       else
        let x18 := (IntKind.wrap .i64 (((List.length r10.1.1 : Nat) : Int) + (1 : Int)))
        bif (((List.length r15.1.1 : Nat) : Int) != x18) then
         some ((false, ()), ())
        else
         (F5_0 k k (0 : Int) r10.1.1 r12.1.1 r14.1.1 r15.1.1).bind fun r27 =>
         match r27 with
         | .inl r28 =>
          some ((true, ()), ())
         | .inr r28 =>
          let y29 := r28.1.1
          some ((y29, ()), ())
      else none
     else none
def sp5 (k : Nat) : Spec := ⟨[.val KD48, .val KD61, .val KD61, .val KD61, .val KD61], [.val .bool], fun x => F5 k x.1 x.2.1 x.2.2.1 x.2.2.2.1 x.2.2.2.2.1⟩
def lim5 : Lim := ⟨103, 5, false, false, [], []⟩
def cfg5 (k : Nat) : Nat → Option Spec := cfgL [(12, sp12 k), (13, sp13 k), (14, sp14 k), (16, sp16 k), (20, sp20 k), (21, sp21 k), (22, sp22 k)]
noncomputable def co5_0 : Code := codeAt (bodyOf Try.f5) [.r, .r, .r, .r, .r, .r, .r, .r, .r, .r, .l, .r, .s]
noncomputable def cb5_0 : Code := codeAt (bodyOf Try.f5) [.r, .r, .r, .r, .r, .r, .r, .r, .r, .r, .l, .r, .s, .b]
noncomputable def co5 : Code := codeAt (bodyOf Try.f5) []
theorem cfg5_ok (k : Nat) : CfgOK Try.prog (cfg5 k) := cfgL_cons (v12 k) (cfgL_cons (v13 k) (cfgL_cons (v14 k) (cfgL_cons (v16 k) (cfgL_cons (v20 k) (cfgL_cons (v21 k) (cfgL_cons (v22 k) (cfgL_nil)))))))
noncomputable def bo5_0 (k m : Nat) (v : (fr5_0 k).sh.V) := body Try.prog (stepper Try.prog (cfg5 k) lim5) .go cb5_0 ((fr5_0 k).sh.st v) (loopK (fr5_0 k) fun v => F5_0 k m v.1.1 v.2.1 v.2.2.1 v.2.2.2.1 v.2.2.2.2.1)
theorem pp5_0 (k m : Nat) (v : (fr5_0 k).sh.V) : F5_0 k (m + 1) v.1.1 v.2.1 v.2.2.1 v.2.2.2.1 v.2.2.2.2.1 = (bo5_0 k m v).eval ∧ (bo5_0 k m v).left = (bo5_0 k m v).right := ⟨by kernel_rfl, by kernel_rfl⟩
theorem fr5_0_ok (k : Nat) : FragOK Try.prog lim5 (fr5_0 k) co5_0 :=
 frag_cast (by kernel_rfl) (loop_ok (cfg5_ok k) (planOK_go _) (fun m v => F5_0 k m v.1.1 v.2.1 v.2.2.1 v.2.2.2.1 v.2.2.2.2.1) k (fun _ => rfl) (fun _ => rfl) (pp5_0 k))
def pl5 (k : Nat) : Plan := (.seq .go (.seq .go (.seq .go (.seq .go (.seq .go (.seq .go (.seq .go (.seq .go (.seq .go (.seq .go (.seq (.seq .go (.sub (.frag (fr5_0 k)))) .go)))))))))))
theorem pq5 (k : Nat) : PlanOK Try.prog lim5 (pl5 k) co5 = (PlanOK Try.prog lim5 .go (codeAt (bodyOf Try.f5) [.l]) ∧ (PlanOK Try.prog lim5 .go (codeAt (bodyOf Try.f5) [.r, .l]) ∧ (PlanOK Try.prog lim5 .go (codeAt (bodyOf Try.f5) [.r, .r, .l]) ∧ (PlanOK Try.prog lim5 .go (codeAt (bodyOf Try.f5) [.r, .r, .r, .l]) ∧ (PlanOK Try.prog lim5 .go (codeAt (bodyOf Try.f5) [.r, .r, .r, .r, .l]) ∧ (PlanOK Try.prog lim5 .go (codeAt (bodyOf Try.f5) [.r, .r, .r, .r, .r, .l]) ∧ (PlanOK Try.prog lim5 .go (codeAt (bodyOf Try.f5) [.r, .r, .r, .r, .r, .r, .l]) ∧ (PlanOK Try.prog lim5 .go (codeAt (bodyOf Try.f5) [.r, .r, .r, .r, .r, .r, .r, .l]) ∧ (PlanOK Try.prog lim5 .go (codeAt (bodyOf Try.f5) [.r, .r, .r, .r, .r, .r, .r, .r, .l]) ∧ (PlanOK Try.prog lim5 .go (codeAt (bodyOf Try.f5) [.r, .r, .r, .r, .r, .r, .r, .r, .r, .l]) ∧ ((PlanOK Try.prog lim5 .go (codeAt (bodyOf Try.f5) [.r, .r, .r, .r, .r, .r, .r, .r, .r, .r, .l, .l]) ∧ FragOK Try.prog lim5 (fr5_0 k) co5_0) ∧ PlanOK Try.prog lim5 .go (codeAt (bodyOf Try.f5) [.r, .r, .r, .r, .r, .r, .r, .r, .r, .r, .r])))))))))))) := by kernel_rfl
noncomputable def bo5 (k : Nat) (x : AT (sp5 k).ps) := fnT Try.prog (cfg5 k) lim5 Try.f5 (bodyOf Try.f5) (pl5 k) (sp5 k) x
theorem vv5 (k : Nat) (x : AT (sp5 k).ps) : (sp5 k).impl x = (bo5 k x).eval ∧ (bo5 k x).left = (bo5 k x).right := ⟨by kernel_rfl, by kernel_rfl⟩
theorem v5 (k : Nat) : Callable Try.prog 5 ∧ Valid Try.prog 5 (sp5 k) :=
 fn_of (n := lim5) (fn := Try.f5) (p := (pl5 k)) (cfg5_ok k) (by kernel_rfl) (Eq.mpr (pq5 k) ⟨(planOK_go _), ⟨(planOK_go _), ⟨(planOK_go _), ⟨(planOK_go _), ⟨(planOK_go _), ⟨(planOK_go _), ⟨(planOK_go _), ⟨(planOK_go _), ⟨(planOK_go _), ⟨(planOK_go _), ⟨⟨(planOK_go _), (fr5_0_ok k)⟩, (planOK_go _)⟩⟩⟩⟩⟩⟩⟩⟩⟩⟩⟩) (vv5 k)
end Go.Proofs.YtibammoednhnoaaE

