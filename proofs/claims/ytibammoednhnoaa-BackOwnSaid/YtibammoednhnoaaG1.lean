/- Functions of the program, as Lean functions, with their contracts; printed by gen.py. Conditions: none. -/
import Derived.Test.YtibammoednhnoaaG0
set_option linter.unusedVariables false
namespace Go.Proofs.YtibammoednhnoaaE
open Kd
set_option maxRecDepth 20000
def F81_0 (k : Nat) : Nat → Int → Int → Int → TY34 → TY34 → TY34 → TY34 → Option (((Int × Int × Unit) × (TY34 × TY34 × TY34 × TY34 × Unit)))
 | 0, _, _, _, _, _, _, _ => none
 | n + 1, t5, t7, t8, c2, c3, c4, c6 =>
  let x10 := (decide (t8 < ((List.length c3.1 : Nat) : Int)))
  bif x10 then
   if 0 ≤ t7 ∧ t7 < ((List.length c2.2.2.1 : Nat) : Int) then
    let x11 := (List.getD c2.2.2.1 (Int.toNat t7) (0 : Int))
    if 0 ≤ t8 ∧ t8 < ((List.length c3.2.1 : Nat) : Int) then
     (F69 k x11 (List.getD c3.2.1 (Int.toNat t8) (0 : Int))).bind fun r12 =>
     (F86 k c6.2.2.2.1 (t7, ((IntKind.wrap .i64 (t5 + t8)), (r12.1.1, ())))).bind fun r13 =>
     (F81_0 k n t5 t7 (IntKind.wrap .i64 (t8 + (1 : Int))) c2 c3 c4 (c6.1, (c6.2.1, (c6.2.2.1, (r13.1.1, c6.2.2.2.2))))).bind some
    else none
   else none
  else
   some ((t5, t7, ()), (c2, c3, c4, c6, ()))
def fr81_0 (k : Nat) : Frag := ⟨⟨[], [(2, .ptr 2 []), (3, .ptr 3 []), (4, .ptr 4 []), (5, .val (.int .i64)), (6, .ptr 6 []), (7, .val (.int .i64)), (8, .val (.int .i64))], [(2, some 65, KD15), (3, some 65, KD15), (4, some 65, KD16), (6, some 65, KD16)]⟩, [(.exit 2, ⟨[], [(2, .ptr 2 []), (3, .ptr 3 []), (4, .ptr 4 []), (5, .val (.int .i64)), (6, .ptr 6 []), (7, .val (.int .i64))], [(2, some 65, KD15), (3, some 65, KD15), (4, some 65, KD16), (6, some 65, KD16)]⟩)], fun v => F81_0 k k v.1.1 v.1.2.1 v.1.2.2.1 v.2.1 v.2.2.1 v.2.2.2.1 v.2.2.2.2.1⟩
def F81_1 (k : Nat) : Nat → Int → Int → TY34 → TY34 → TY34 → TY34 → Option TY9
 | 0, _, _, _, _, _, _ => none
 | n + 1, t5, t7, c2, c3, c4, c6 =>
  bif (decide (t7 < t5)) then
   if 0 ≤ t7 ∧ t7 < ((List.length c2.2.1 : Nat) : Int) then
    if 0 ≤ t7 ∧ t7 < ((List.length c2.2.2.1 : Nat) : Int) then
     let x21 := (List.getD c2.2.2.1 (Int.toNat t7) (0 : Int))
     (F69 k x21 c3.2.2.2.2.1).bind fun r22 =>
     if 0 ≤ t7 ∧ t7 < ((List.length c6.2.1 : Nat) : Int) then
      let x23 := (List.set c6.2.1 (Int.toNat t7) (List.getD c2.2.1 (Int.toNat t7) (0 : Int)))
      if 0 ≤ t7 ∧ t7 < ((List.length c6.2.2.1 : Nat) : Int) then
       (F81_0 k k t5 t7 (0 : Int) c2 c3 c4 (c6.1, (x23, ((List.set c6.2.2.1 (Int.toNat t7) r22.1.1), c6.2.2.2)))).bind fun r24 =>
       let y25 := r24.1.1
       let y26 := r24.1.2.1
       let y27 := r24.2.1
       let y28 := r24.2.2.1
       let y29 := r24.2.2.2.1
       let y30 := r24.2.2.2.2.1
       (F81_1 k n y25 (IntKind.wrap .i64 (y26 + (1 : Int))) y27 y28 y29 y30).bind some
      else none
     else none
    else none
   else none
  else
   some ((t5, ()), (c2, c3, c4, c6, ()))
def fr81_1 (k : Nat) : Frag := ⟨⟨[], [(2, .ptr 2 []), (3, .ptr 3 []), (4, .ptr 4 []), (5, .val (.int .i64)), (6, .ptr 6 []), (7, .val (.int .i64))], [(2, some 65, KD15), (3, some 65, KD15), (4, some 65, KD16), (6, some 65, KD16)]⟩, [(.exit 0, ⟨[], [(2, .ptr 2 []), (3, .ptr 3 []), (4, .ptr 4 []), (5, .val (.int .i64)), (6, .ptr 6 [])], [(2, some 65, KD15), (3, some 65, KD15), (4, some 65, KD16), (6, some 65, KD16)]⟩)], fun v => F81_1 k k v.1.1 v.1.2.1 v.2.1 v.2.2.1 v.2.2.2.1 v.2.2.2.2.1⟩
def F81_2 (k : Nat) : Nat → Int → Int → TY34 → TY34 → TY34 → TY34 → Option TY17
 | 0, _, _, _, _, _, _ => none
 | n + 1, t5, t9, c2, c3, c4, c6 =>
  let x42 := (decide (t9 < ((List.length c3.1 : Nat) : Int)))
  bif x42 then
   if 0 ≤ t9 ∧ t9 < ((List.length c3.2.1 : Nat) : Int) then
    if 0 ≤ t9 ∧ t9 < ((List.length c3.2.2.1 : Nat) : Int) then
     let x43 := (List.getD c3.2.2.1 (Int.toNat t9) (0 : Int))
     (F69 k c2.2.2.2.2.1 (List.getD c3.2.1 (Int.toNat t9) (0 : Int))).bind fun r44 =>
     if 0 ≤ (IntKind.wrap .i64 (t5 + t9)) ∧ (IntKind.wrap .i64 (t5 + t9)) < ((List.length c6.2.1 : Nat) : Int) then
      let x45 := (Int.toNat (IntKind.wrap .i64 (t5 + t9)))
      if 0 ≤ (IntKind.wrap .i64 (t5 + t9)) ∧ (IntKind.wrap .i64 (t5 + t9)) < ((List.length c6.2.2.1 : Nat) : Int) then
       let x46 := (Int.toNat (IntKind.wrap .i64 (t5 + t9)))
       (F81_2 k n t5 (IntKind.wrap .i64 (t9 + (1 : Int))) c2 c3 c4 (c6.1, ((List.set c6.2.1 x45 r44.1.1), ((List.set c6.2.2.1 x46 x43), c6.2.2.2)))).bind some
      else none
     else none
    else none
   else none
  else
   some ((), (c4, c6, ()))
def fr81_2 (k : Nat) : Frag := ⟨⟨[], [(2, .ptr 2 []), (3, .ptr 3 []), (4, .ptr 4 []), (5, .val (.int .i64)), (6, .ptr 6 []), (9, .val (.int .i64))], [(2, some 65, KD15), (3, some 65, KD15), (4, some 65, KD16), (6, some 65, KD16)]⟩, [(.exit 4, ⟨[], [(4, .ptr 4 []), (6, .ptr 6 [])], [(4, some 65, KD16), (6, some 65, KD16)]⟩)], fun v => F81_2 k k v.1.1 v.1.2.1 v.2.1 v.2.2.1 v.2.2.2.1 v.2.2.2.2.1⟩
def F81 (k : Nat) (a0 : TY34) (a1 : TY34) : Option TY28 :=
 (F85 k a0 a1).bind fun r1 =>
 (F69 k a0.2.2.2.2.1 a1.2.2.2.2.1).bind fun r2 =>
 (F81_1 k k ((List.length a0.1 : Nat) : Int) (0 : Int) a0 a1 (([] : (List Int)), (([] : (List Int)), (([] : (List Int)), (([] : TY63), ((0 : Int), ()))))) (r1.1.1.1, (r1.1.1.2.1, (r1.1.1.2.2.1, (r1.1.1.2.2.2.1, (r2.1.1, r1.1.1.2.2.2.2.2)))))).bind fun r31 =>
 let y32 := r31.1.1
 let y33 := r31.2.1
 let y34 := r31.2.2.1
 let y35 := r31.2.2.2.1
 let y36 := r31.2.2.2.2.1
 (F81_2 k k y32 (0 : Int) y33 y34 y35 y36).bind fun r47 =>
 let y49 := r47.2.2.1
 some ((y49, ()), ())
def sp81 (k : Nat) : Spec := ⟨[.val KD15, .val KD15], [.own KD16], fun x => F81 k x.1 x.2.1⟩
def lim81 : Lim := ⟨108, 2, false, false, [], []⟩
def cfg81 (k : Nat) : Nat → Option Spec := cfgL [(69, sp69 k), (85, sp85 k), (86, sp86 k)]
noncomputable def co81_0 : Code := codeAt (bodyOf Try.f81) [.r, .r, .r, .r, .l, .r, .s, .b, .r, .l, .s, .r, .r, .s]
noncomputable def cb81_0 : Code := codeAt (bodyOf Try.f81) [.r, .r, .r, .r, .l, .r, .s, .b, .r, .l, .s, .r, .r, .s, .b]
noncomputable def co81_1 : Code := codeAt (bodyOf Try.f81) [.r, .r, .r, .r, .l, .r, .s]
noncomputable def cb81_1 : Code := codeAt (bodyOf Try.f81) [.r, .r, .r, .r, .l, .r, .s, .b]
noncomputable def co81_2 : Code := codeAt (bodyOf Try.f81) [.r, .r, .r, .r, .r, .l, .r, .s]
noncomputable def cb81_2 : Code := codeAt (bodyOf Try.f81) [.r, .r, .r, .r, .r, .l, .r, .s, .b]
noncomputable def co81 : Code := codeAt (bodyOf Try.f81) []
theorem cfg81_ok (k : Nat) : CfgOK Try.prog (cfg81 k) := cfgL_cons (v69 k) (cfgL_cons (v85 k) (cfgL_cons (v86 k) (cfgL_nil)))
noncomputable def bo81_0 (k m : Nat) (v : (fr81_0 k).sh.V) := body Try.prog (stepper Try.prog (cfg81 k) lim81) .go cb81_0 ((fr81_0 k).sh.st v) (loopK (fr81_0 k) fun v => F81_0 k m v.1.1 v.1.2.1 v.1.2.2.1 v.2.1 v.2.2.1 v.2.2.2.1 v.2.2.2.2.1)
theorem pp81_0 (k m : Nat) (v : (fr81_0 k).sh.V) : F81_0 k (m + 1) v.1.1 v.1.2.1 v.1.2.2.1 v.2.1 v.2.2.1 v.2.2.2.1 v.2.2.2.2.1 = (bo81_0 k m v).eval ∧ (bo81_0 k m v).left = (bo81_0 k m v).right := ⟨by kernel_rfl, by kernel_rfl⟩
theorem fr81_0_ok (k : Nat) : FragOK Try.prog lim81 (fr81_0 k) co81_0 :=
 frag_cast (by kernel_rfl) (loop_ok (cfg81_ok k) (planOK_go _) (fun m v => F81_0 k m v.1.1 v.1.2.1 v.1.2.2.1 v.2.1 v.2.2.1 v.2.2.2.1 v.2.2.2.2.1) k (fun _ => rfl) (fun _ => rfl) (pp81_0 k))
def pl81_1 (k : Nat) : Plan := (.seq .go (.seq (.sub (.seq .go (.seq .go (.sub (.frag (fr81_0 k)))))) .go))
theorem pq81_1 (k : Nat) : PlanOK Try.prog lim81 (pl81_1 k) cb81_1 = (PlanOK Try.prog lim81 .go (codeAt (bodyOf Try.f81) [.r, .r, .r, .r, .l, .r, .s, .b, .l]) ∧ ((PlanOK Try.prog lim81 .go (codeAt (bodyOf Try.f81) [.r, .r, .r, .r, .l, .r, .s, .b, .r, .l, .s, .l]) ∧ (PlanOK Try.prog lim81 .go (codeAt (bodyOf Try.f81) [.r, .r, .r, .r, .l, .r, .s, .b, .r, .l, .s, .r, .l]) ∧ FragOK Try.prog lim81 (fr81_0 k) co81_0)) ∧ PlanOK Try.prog lim81 .go (codeAt (bodyOf Try.f81) [.r, .r, .r, .r, .l, .r, .s, .b, .r, .r]))) := by kernel_rfl
noncomputable def bo81_1 (k m : Nat) (v : (fr81_1 k).sh.V) := body Try.prog (stepper Try.prog (cfg81 k) lim81) (pl81_1 k) cb81_1 ((fr81_1 k).sh.st v) (loopK (fr81_1 k) fun v => F81_1 k m v.1.1 v.1.2.1 v.2.1 v.2.2.1 v.2.2.2.1 v.2.2.2.2.1)
theorem pp81_1 (k m : Nat) (v : (fr81_1 k).sh.V) : F81_1 k (m + 1) v.1.1 v.1.2.1 v.2.1 v.2.2.1 v.2.2.2.1 v.2.2.2.2.1 = (bo81_1 k m v).eval ∧ (bo81_1 k m v).left = (bo81_1 k m v).right := ⟨by kernel_rfl, by kernel_rfl⟩
theorem fr81_1_ok (k : Nat) : FragOK Try.prog lim81 (fr81_1 k) co81_1 :=
 frag_cast (by kernel_rfl) (loop_ok (cfg81_ok k) (Eq.mpr (pq81_1 k) ⟨(planOK_go _), ⟨⟨(planOK_go _), ⟨(planOK_go _), (fr81_0_ok k)⟩⟩, (planOK_go _)⟩⟩) (fun m v => F81_1 k m v.1.1 v.1.2.1 v.2.1 v.2.2.1 v.2.2.2.1 v.2.2.2.2.1) k (fun _ => rfl) (fun _ => rfl) (pp81_1 k))
noncomputable def bo81_2 (k m : Nat) (v : (fr81_2 k).sh.V) := body Try.prog (stepper Try.prog (cfg81 k) lim81) .go cb81_2 ((fr81_2 k).sh.st v) (loopK (fr81_2 k) fun v => F81_2 k m v.1.1 v.1.2.1 v.2.1 v.2.2.1 v.2.2.2.1 v.2.2.2.2.1)
theorem pp81_2 (k m : Nat) (v : (fr81_2 k).sh.V) : F81_2 k (m + 1) v.1.1 v.1.2.1 v.2.1 v.2.2.1 v.2.2.2.1 v.2.2.2.2.1 = (bo81_2 k m v).eval ∧ (bo81_2 k m v).left = (bo81_2 k m v).right := ⟨by kernel_rfl, by kernel_rfl⟩
theorem fr81_2_ok (k : Nat) : FragOK Try.prog lim81 (fr81_2 k) co81_2 :=
 frag_cast (by kernel_rfl) (loop_ok (cfg81_ok k) (planOK_go _) (fun m v => F81_2 k m v.1.1 v.1.2.1 v.2.1 v.2.2.1 v.2.2.2.1 v.2.2.2.2.1) k (fun _ => rfl) (fun _ => rfl) (pp81_2 k))
def pl81 (k : Nat) : Plan := (.seq .go (.seq .go (.seq .go (.seq .go (.seq (.seq .go (.sub (.frag (fr81_1 k)))) (.seq (.seq .go (.sub (.frag (fr81_2 k)))) .go))))))
theorem pq81 (k : Nat) : PlanOK Try.prog lim81 (pl81 k) co81 = (PlanOK Try.prog lim81 .go (codeAt (bodyOf Try.f81) [.l]) ∧ (PlanOK Try.prog lim81 .go (codeAt (bodyOf Try.f81) [.r, .l]) ∧ (PlanOK Try.prog lim81 .go (codeAt (bodyOf Try.f81) [.r, .r, .l]) ∧ (PlanOK Try.prog lim81 .go (codeAt (bodyOf Try.f81) [.r, .r, .r, .l]) ∧ ((PlanOK Try.prog lim81 .go (codeAt (bodyOf Try.f81) [.r, .r, .r, .r, .l, .l]) ∧ FragOK Try.prog lim81 (fr81_1 k) co81_1) ∧ ((PlanOK Try.prog lim81 .go (codeAt (bodyOf Try.f81) [.r, .r, .r, .r, .r, .l, .l]) ∧ FragOK Try.prog lim81 (fr81_2 k) co81_2) ∧ PlanOK Try.prog lim81 .go (codeAt (bodyOf Try.f81) [.r, .r, .r, .r, .r, .r]))))))) := by kernel_rfl
noncomputable def bo81 (k : Nat) (x : AT (sp81 k).ps) := fnT Try.prog (cfg81 k) lim81 Try.f81 (bodyOf Try.f81) (pl81 k) (sp81 k) x
theorem vv81 (k : Nat) (x : AT (sp81 k).ps) : (sp81 k).impl x = (bo81 k x).eval ∧ (bo81 k x).left = (bo81 k x).right := ⟨by kernel_rfl, by kernel_rfl⟩
theorem v81 (k : Nat) : Callable Try.prog 81 ∧ Valid Try.prog 81 (sp81 k) :=
 fn_of (n := lim81) (fn := Try.f81) (p := (pl81 k)) (cfg81_ok k) (by kernel_rfl) (Eq.mpr (pq81 k) ⟨(planOK_go _), ⟨(planOK_go _), ⟨(planOK_go _), ⟨(planOK_go _), ⟨⟨(planOK_go _), (fr81_1_ok k)⟩, ⟨⟨(planOK_go _), (fr81_2_ok k)⟩, (planOK_go _)⟩⟩⟩⟩⟩⟩) (vv81 k)
def F82_0 (k : Nat) : Nat → Int → Int → TY34 → TY34 → TY34 → TY34 → Option (((Int × Unit) × (TY34 × TY34 × TY34 × Unit)))
 | 0, _, _, _, _, _, _ => none
 | n + 1, t5, t7, c2, c3, c4, c6 =>
  bif (decide (t7 < t5)) then
   if 0 ≤ t7 ∧ t7 < ((List.length c2.2.1 : Nat) : Int) then
    if 0 ≤ t7 ∧ t7 < ((List.length c2.2.2.1 : Nat) : Int) then
     let x4 := (List.getD c2.2.2.1 (Int.toNat t7) (0 : Int))
     if 0 ≤ t7 ∧ t7 < ((List.length c6.2.1 : Nat) : Int) then
      let x5 := (List.set c6.2.1 (Int.toNat t7) (List.getD c2.2.1 (Int.toNat t7) (0 : Int)))
      if 0 ≤ t7 ∧ t7 < ((List.length c6.2.2.1 : Nat) : Int) then
       (F82_0 k n t5 (IntKind.wrap .i64 (t7 + (1 : Int))) c2 c3 c4 (c6.1, (x5, ((List.set c6.2.2.1 (Int.toNat t7) x4), c6.2.2.2)))).bind some
      else none
     else none
    else none
   else none
  else
   some ((t5, ()), (c3, c4, c6, ()))
def fr82_0 (k : Nat) : Frag := ⟨⟨[], [(2, .ptr 2 []), (3, .ptr 3 []), (4, .ptr 4 []), (5, .val (.int .i64)), (6, .ptr 6 []), (7, .val (.int .i64))], [(2, some 65, KD15), (3, some 65, KD15), (4, some 65, KD16), (6, some 65, KD16)]⟩, [(.exit 0, ⟨[], [(3, .ptr 3 []), (4, .ptr 4 []), (5, .val (.int .i64)), (6, .ptr 6 [])], [(3, some 65, KD15), (4, some 65, KD16), (6, some 65, KD16)]⟩)], fun v => F82_0 k k v.1.1 v.1.2.1 v.2.1 v.2.2.1 v.2.2.2.1 v.2.2.2.2.1⟩
def F82_1 (k : Nat) : Nat → Int → Int → TY34 → TY34 → TY34 → Option TY17
 | 0, _, _, _, _, _ => none
 | n + 1, t5, t8, c3, c4, c6 =>
  let x16 := (decide (t8 < ((List.length c3.1 : Nat) : Int)))
  bif x16 then
   if 0 ≤ t8 ∧ t8 < ((List.length c3.2.1 : Nat) : Int) then
    if 0 ≤ t8 ∧ t8 < ((List.length c3.2.2.1 : Nat) : Int) then
     let x17 := (List.getD c3.2.2.1 (Int.toNat t8) (0 : Int))
     if 0 ≤ (IntKind.wrap .i64 (t5 + t8)) ∧ (IntKind.wrap .i64 (t5 + t8)) < ((List.length c6.2.1 : Nat) : Int) then
      let x18 := (Int.toNat (IntKind.wrap .i64 (t5 + t8)))
      let x19 := (List.set c6.2.1 x18 (List.getD c3.2.1 (Int.toNat t8) (0 : Int)))
      if 0 ≤ (IntKind.wrap .i64 (t5 + t8)) ∧ (IntKind.wrap .i64 (t5 + t8)) < ((List.length c6.2.2.1 : Nat) : Int) then
       let x20 := (Int.toNat (IntKind.wrap .i64 (t5 + t8)))
       (F82_1 k n t5 (IntKind.wrap .i64 (t8 + (1 : Int))) c3 c4 (c6.1, (x19, ((List.set c6.2.2.1 x20 x17), c6.2.2.2)))).bind some
      else none
     else none
    else none
   else none
  else
   some ((), (c4, c6, ()))
def fr82_1 (k : Nat) : Frag := ⟨⟨[], [(3, .ptr 3 []), (4, .ptr 4 []), (5, .val (.int .i64)), (6, .ptr 6 []), (8, .val (.int .i64))], [(3, some 65, KD15), (4, some 65, KD16), (6, some 65, KD16)]⟩, [(.exit 2, ⟨[], [(4, .ptr 4 []), (6, .ptr 6 [])], [(4, some 65, KD16), (6, some 65, KD16)]⟩)], fun v => F82_1 k k v.1.1 v.1.2.1 v.2.1 v.2.2.1 v.2.2.2.1⟩
def F82 (k : Nat) (a0 : TY34) (a1 : TY34) : Option TY28 :=
 (F85 k a0 a1).bind fun r1 =>
 (F82_0 k k ((List.length a0.1 : Nat) : Int) (0 : Int) a0 a1 (([] : (List Int)), (([] : (List Int)), (([] : (List Int)), (([] : TY63), ((0 : Int), ()))))) (r1.1.1.1, (r1.1.1.2.1, (r1.1.1.2.2.1, (r1.1.1.2.2.2.1, ((minI a0.2.2.2.2.1 a1.2.2.2.2.1), r1.1.1.2.2.2.2.2)))))).bind fun r6 =>
 let y7 := r6.1.1
 let y8 := r6.2.1
 let y9 := r6.2.2.1
 let y10 := r6.2.2.2.1
 (F82_1 k k y7 (0 : Int) y8 y9 y10).bind fun r21 =>
 let y23 := r21.2.2.1
 some ((y23, ()), ())
def sp82 (k : Nat) : Spec := ⟨[.val KD15, .val KD15], [.own KD16], fun x => F82 k x.1 x.2.1⟩
def lim82 : Lim := ⟨74, 2, false, false, [], []⟩
def cfg82 (k : Nat) : Nat → Option Spec := cfgL [(85, sp85 k)]
noncomputable def co82_0 : Code := codeAt (bodyOf Try.f82) [.r, .r, .r, .r, .l, .r, .s]
noncomputable def cb82_0 : Code := codeAt (bodyOf Try.f82) [.r, .r, .r, .r, .l, .r, .s, .b]
noncomputable def co82_1 : Code := codeAt (bodyOf Try.f82) [.r, .r, .r, .r, .r, .l, .r, .s]
noncomputable def cb82_1 : Code := codeAt (bodyOf Try.f82) [.r, .r, .r, .r, .r, .l, .r, .s, .b]
noncomputable def co82 : Code := codeAt (bodyOf Try.f82) []
theorem cfg82_ok (k : Nat) : CfgOK Try.prog (cfg82 k) := cfgL_cons (v85 k) (cfgL_nil)
noncomputable def bo82_0 (k m : Nat) (v : (fr82_0 k).sh.V) := body Try.prog (stepper Try.prog (cfg82 k) lim82) .go cb82_0 ((fr82_0 k).sh.st v) (loopK (fr82_0 k) fun v => F82_0 k m v.1.1 v.1.2.1 v.2.1 v.2.2.1 v.2.2.2.1 v.2.2.2.2.1)
theorem pp82_0 (k m : Nat) (v : (fr82_0 k).sh.V) : F82_0 k (m + 1) v.1.1 v.1.2.1 v.2.1 v.2.2.1 v.2.2.2.1 v.2.2.2.2.1 = (bo82_0 k m v).eval ∧ (bo82_0 k m v).left = (bo82_0 k m v).right := ⟨by kernel_rfl, by kernel_rfl⟩
theorem fr82_0_ok (k : Nat) : FragOK Try.prog lim82 (fr82_0 k) co82_0 :=
 frag_cast (by kernel_rfl) (loop_ok (cfg82_ok k) (planOK_go _) (fun m v => F82_0 k m v.1.1 v.1.2.1 v.2.1 v.2.2.1 v.2.2.2.1 v.2.2.2.2.1) k (fun _ => rfl) (fun _ => rfl) (pp82_0 k))
noncomputable def bo82_1 (k m : Nat) (v : (fr82_1 k).sh.V) := body Try.prog (stepper Try.prog (cfg82 k) lim82) .go cb82_1 ((fr82_1 k).sh.st v) (loopK (fr82_1 k) fun v => F82_1 k m v.1.1 v.1.2.1 v.2.1 v.2.2.1 v.2.2.2.1)
theorem pp82_1 (k m : Nat) (v : (fr82_1 k).sh.V) : F82_1 k (m + 1) v.1.1 v.1.2.1 v.2.1 v.2.2.1 v.2.2.2.1 = (bo82_1 k m v).eval ∧ (bo82_1 k m v).left = (bo82_1 k m v).right := ⟨by kernel_rfl, by kernel_rfl⟩
theorem fr82_1_ok (k : Nat) : FragOK Try.prog lim82 (fr82_1 k) co82_1 :=
 frag_cast (by kernel_rfl) (loop_ok (cfg82_ok k) (planOK_go _) (fun m v => F82_1 k m v.1.1 v.1.2.1 v.2.1 v.2.2.1 v.2.2.2.1) k (fun _ => rfl) (fun _ => rfl) (pp82_1 k))
def pl82 (k : Nat) : Plan := (.seq .go (.seq .go (.seq .go (.seq .go (.seq (.seq .go (.sub (.frag (fr82_0 k)))) (.seq (.seq .go (.sub (.frag (fr82_1 k)))) .go))))))
theorem pq82 (k : Nat) : PlanOK Try.prog lim82 (pl82 k) co82 = (PlanOK Try.prog lim82 .go (codeAt (bodyOf Try.f82) [.l]) ∧ (PlanOK Try.prog lim82 .go (codeAt (bodyOf Try.f82) [.r, .l]) ∧ (PlanOK Try.prog lim82 .go (codeAt (bodyOf Try.f82) [.r, .r, .l]) ∧ (PlanOK Try.prog lim82 .go (codeAt (bodyOf Try.f82) [.r, .r, .r, .l]) ∧ ((PlanOK Try.prog lim82 .go (codeAt (bodyOf Try.f82) [.r, .r, .r, .r, .l, .l]) ∧ FragOK Try.prog lim82 (fr82_0 k) co82_0) ∧ ((PlanOK Try.prog lim82 .go (codeAt (bodyOf Try.f82) [.r, .r, .r, .r, .r, .l, .l]) ∧ FragOK Try.prog lim82 (fr82_1 k) co82_1) ∧ PlanOK Try.prog lim82 .go (codeAt (bodyOf Try.f82) [.r, .r, .r, .r, .r, .r]))))))) := by kernel_rfl
noncomputable def bo82 (k : Nat) (x : AT (sp82 k).ps) := fnT Try.prog (cfg82 k) lim82 Try.f82 (bodyOf Try.f82) (pl82 k) (sp82 k) x
theorem vv82 (k : Nat) (x : AT (sp82 k).ps) : (sp82 k).impl x = (bo82 k x).eval ∧ (bo82 k x).left = (bo82 k x).right := ⟨by kernel_rfl, by kernel_rfl⟩
theorem v82 (k : Nat) : Callable Try.prog 82 ∧ Valid Try.prog 82 (sp82 k) :=
 fn_of (n := lim82) (fn := Try.f82) (p := (pl82 k)) (cfg82_ok k) (by kernel_rfl) (Eq.mpr (pq82 k) ⟨(planOK_go _), ⟨(planOK_go _), ⟨(planOK_go _), ⟨(planOK_go _), ⟨⟨(planOK_go _), (fr82_0_ok k)⟩, ⟨⟨(planOK_go _), (fr82_1_ok k)⟩, (planOK_go _)⟩⟩⟩⟩⟩⟩) (vv82 k)
def F83_0 (k : Nat) : Nat → Int → Int → TY34 → TY34 → TY63 → Option (((Int × Unit) × TY14))
 | 0, _, _, _, _, _ => none
 | n + 1, t4, t5, c1, c2, c2000003 =>
  let x3 := (decide (t5 < ((List.length c1.1 : Nat) : Int)))
  bif x3 then
   if 0 ≤ t4 ∧ t4 < ((List.length c1.2.2.1 : Nat) : Int) then
    let x4 := (List.getD c1.2.2.1 (Int.toNat t4) (0 : Int))
    if 0 ≤ t5 ∧ t5 < ((List.length c1.2.1 : Nat) : Int) then
     (F69 k x4 (List.getD c1.2.1 (Int.toNat t5) (0 : Int))).bind fun r5 =>
     (F86 k c2000003 (t4, (t5, (r5.1.1, ())))).bind fun r6 =>
     (F83_0 k n t4 (IntKind.wrap .i64 (t5 + (1 : Int))) c1 c2 r6.1.1).bind some
    else none
   else none
  else
   some ((t4, ()), (c1, c2, c2000003, ()))
def fr83_0 (k : Nat) : Frag := ⟨⟨[(3, KD42)], [(1, .ptr 1 []), (2, .ptr 2 []), (3, .at 2000003 []), (4, .val (.int .i64)), (5, .val (.int .i64))], [(1, some 65, KD16), (2, some 65, KD16), (2000003, none, KD42)]⟩, [(.exit 2, ⟨[(3, KD42)], [(1, .ptr 1 []), (2, .ptr 2 []), (3, .at 2000003 []), (4, .val (.int .i64))], [(1, some 65, KD16), (2, some 65, KD16), (2000003, none, KD42)]⟩)], fun v => F83_0 k k v.1.1 v.1.2.1 v.2.1 v.2.2.1 v.2.2.2.1⟩
def F83_1 (k : Nat) : Nat → Int → TY34 → TY34 → TY63 → Option ((Unit × TY14))
 | 0, _, _, _, _ => none
 | n + 1, t4, c1, c2, c2000003 =>
  let x2 := (decide (t4 < ((List.length c1.1 : Nat) : Int)))
  bif x2 then
   (F83_0 k k t4 (0 : Int) c1 c2 c2000003).bind fun r7 =>
   let y8 := r7.1.1
   let y9 := r7.2.1
   let y10 := r7.2.2.1
   let y11 := r7.2.2.2.1
   (F83_1 k n (IntKind.wrap .i64 (y8 + (1 : Int))) y9 y10 y11).bind some
  else
   some ((), (c1, c2, c2000003, ()))
def fr83_1 (k : Nat) : Frag := ⟨⟨[(3, KD42)], [(1, .ptr 1 []), (2, .ptr 2 []), (3, .at 2000003 []), (4, .val (.int .i64))], [(1, some 65, KD16), (2, some 65, KD16), (2000003, none, KD42)]⟩, [(.exit 0, ⟨[(3, KD42)], [(1, .ptr 1 []), (2, .ptr 2 []), (3, .at 2000003 [])], [(1, some 65, KD16), (2, some 65, KD16), (2000003, none, KD42)]⟩)], fun v => F83_1 k k v.1.1 v.2.1 v.2.2.1 v.2.2.2.1⟩
def F83 (k : Nat) (a0 : TY34) : Option TY28 :=
 let x1 := (List.replicate 0 ((0 : Int), ((0 : Int), ((0 : Int), ()))))
 if (List.length x1 + List.length a0.2.2.2.1) * (24 * 2) ≤ 281474976710656 ∧ List.length x1 + List.length a0.2.2.2.1 ≤ 9223372036854775807 then
  (F83_1 k k (0 : Int) (a0.1, (a0.2.1, (a0.2.2.1, (a0.2.2.2.1, ((0 : Int), a0.2.2.2.2.2))))) (([] : (List Int)), (([] : (List Int)), (([] : (List Int)), (([] : TY63), ((0 : Int), ()))))) (x1 ++ a0.2.2.2.1)).bind fun r12 =>
  let y13 := r12.2.1
  let y15 := r12.2.2.2.1
  some (((y13.1, (y13.2.1, (y13.2.2.1, (y15, y13.2.2.2.2)))), ()), ())
 else none
def sp83 (k : Nat) : Spec := ⟨[.own KD16], [.own KD16], fun x => F83 k x.1⟩
def lim83 : Lim := ⟨44, 1, false, false, [], []⟩
def cfg83 (k : Nat) : Nat → Option Spec := cfgL [(69, sp69 k), (86, sp86 k)]
noncomputable def co83_0 : Code := codeAt (bodyOf Try.f83) [.r, .r, .r, .l, .r, .s, .b, .r, .l, .s, .r, .s]
noncomputable def cb83_0 : Code := codeAt (bodyOf Try.f83) [.r, .r, .r, .l, .r, .s, .b, .r, .l, .s, .r, .s, .b]
noncomputable def co83_1 : Code := codeAt (bodyOf Try.f83) [.r, .r, .r, .l, .r, .s]
noncomputable def cb83_1 : Code := codeAt (bodyOf Try.f83) [.r, .r, .r, .l, .r, .s, .b]
noncomputable def co83 : Code := codeAt (bodyOf Try.f83) []
theorem cfg83_ok (k : Nat) : CfgOK Try.prog (cfg83 k) := cfgL_cons (v69 k) (cfgL_cons (v86 k) (cfgL_nil))
noncomputable def bo83_0 (k m : Nat) (v : (fr83_0 k).sh.V) := body Try.prog (stepper Try.prog (cfg83 k) lim83) .go cb83_0 ((fr83_0 k).sh.st v) (loopK (fr83_0 k) fun v => F83_0 k m v.1.1 v.1.2.1 v.2.1 v.2.2.1 v.2.2.2.1)
theorem pp83_0 (k m : Nat) (v : (fr83_0 k).sh.V) : F83_0 k (m + 1) v.1.1 v.1.2.1 v.2.1 v.2.2.1 v.2.2.2.1 = (bo83_0 k m v).eval ∧ (bo83_0 k m v).left = (bo83_0 k m v).right := ⟨by kernel_rfl, by kernel_rfl⟩
theorem fr83_0_ok (k : Nat) : FragOK Try.prog lim83 (fr83_0 k) co83_0 :=
 frag_cast (by kernel_rfl) (loop_ok (cfg83_ok k) (planOK_go _) (fun m v => F83_0 k m v.1.1 v.1.2.1 v.2.1 v.2.2.1 v.2.2.2.1) k (fun _ => rfl) (fun _ => rfl) (pp83_0 k))
def pl83_1 (k : Nat) : Plan := (.seq .go (.seq (.sub (.seq .go (.sub (.frag (fr83_0 k))))) .go))
theorem pq83_1 (k : Nat) : PlanOK Try.prog lim83 (pl83_1 k) cb83_1 = (PlanOK Try.prog lim83 .go (codeAt (bodyOf Try.f83) [.r, .r, .r, .l, .r, .s, .b, .l]) ∧ ((PlanOK Try.prog lim83 .go (codeAt (bodyOf Try.f83) [.r, .r, .r, .l, .r, .s, .b, .r, .l, .s, .l]) ∧ FragOK Try.prog lim83 (fr83_0 k) co83_0) ∧ PlanOK Try.prog lim83 .go (codeAt (bodyOf Try.f83) [.r, .r, .r, .l, .r, .s, .b, .r, .r]))) := by kernel_rfl
noncomputable def bo83_1 (k m : Nat) (v : (fr83_1 k).sh.V) := body Try.prog (stepper Try.prog (cfg83 k) lim83) (pl83_1 k) cb83_1 ((fr83_1 k).sh.st v) (loopK (fr83_1 k) fun v => F83_1 k m v.1.1 v.2.1 v.2.2.1 v.2.2.2.1)
theorem pp83_1 (k m : Nat) (v : (fr83_1 k).sh.V) : F83_1 k (m + 1) v.1.1 v.2.1 v.2.2.1 v.2.2.2.1 = (bo83_1 k m v).eval ∧ (bo83_1 k m v).left = (bo83_1 k m v).right := ⟨by kernel_rfl, by kernel_rfl⟩
theorem fr83_1_ok (k : Nat) : FragOK Try.prog lim83 (fr83_1 k) co83_1 :=
 frag_cast (by kernel_rfl) (loop_ok (cfg83_ok k) (Eq.mpr (pq83_1 k) ⟨(planOK_go _), ⟨⟨(planOK_go _), (fr83_0_ok k)⟩, (planOK_go _)⟩⟩) (fun m v => F83_1 k m v.1.1 v.2.1 v.2.2.1 v.2.2.2.1) k (fun _ => rfl) (fun _ => rfl) (pp83_1 k))
def pl83 (k : Nat) : Plan := (.seq .go (.seq .go (.seq .go (.seq (.seq .go (.sub (.frag (fr83_1 k)))) .go))))
theorem pq83 (k : Nat) : PlanOK Try.prog lim83 (pl83 k) co83 = (PlanOK Try.prog lim83 .go (codeAt (bodyOf Try.f83) [.l]) ∧ (PlanOK Try.prog lim83 .go (codeAt (bodyOf Try.f83) [.r, .l]) ∧ (PlanOK Try.prog lim83 .go (codeAt (bodyOf Try.f83) [.r, .r, .l]) ∧ ((PlanOK Try.prog lim83 .go (codeAt (bodyOf Try.f83) [.r, .r, .r, .l, .l]) ∧ FragOK Try.prog lim83 (fr83_1 k) co83_1) ∧ PlanOK Try.prog lim83 .go (codeAt (bodyOf Try.f83) [.r, .r, .r, .r]))))) := by kernel_rfl
noncomputable def bo83 (k : Nat) (x : AT (sp83 k).ps) := fnT Try.prog (cfg83 k) lim83 Try.f83 (bodyOf Try.f83) (pl83 k) (sp83 k) x
theorem vv83 (k : Nat) (x : AT (sp83 k).ps) : (sp83 k).impl x = (bo83 k x).eval ∧ (bo83 k x).left = (bo83 k x).right := ⟨by kernel_rfl, by kernel_rfl⟩
theorem v83 (k : Nat) : Callable Try.prog 83 ∧ Valid Try.prog 83 (sp83 k) :=
 fn_of (n := lim83) (fn := Try.f83) (p := (pl83 k)) (cfg83_ok k) (by kernel_rfl) (Eq.mpr (pq83 k) ⟨(planOK_go _), ⟨(planOK_go _), ⟨(planOK_go _), ⟨⟨(planOK_go _), (fr83_1_ok k)⟩, (planOK_go _)⟩⟩⟩⟩) (vv83 k)
def rs57 (f57 : (TY52 → TY13 → Option TY28)) : Spec := ⟨[.val KD29, .val KD6], [.own KD16], fun x => f57 x.1 x.2.1⟩
def F57_0 (k : Nat) (f57 : (TY52 → TY13 → Option TY28)) : Nat → Int → TY27 → TY34 → TY34 → Option TY17
 | 0, _, _, _, _ => none
 | n + 1, t7, c2, c4, c6 =>
  let x30 := (decide (t7 < ((List.length c6.2.1 : Nat) : Int)))
  bif x30 then
   if 0 ≤ t7 ∧ t7 < ((List.length c6.2.1 : Nat) : Int) then
    (F69 k (List.getD c6.2.1 (Int.toNat t7) (0 : Int)) c2.2.2.2.1).bind fun r31 =>
    if 0 ≤ t7 ∧ t7 < ((List.length c6.2.1 : Nat) : Int) then
     (F57_0 k f57 n (IntKind.wrap .i64 (t7 + (1 : Int))) c2 c4 (c6.1, ((List.set c6.2.1 (Int.toNat t7) r31.1.1), c6.2.2))).bind some
    else none
   else none
  else
   some ((), (c4, c6, ()))
def fr57_0 (k : Nat) (f57 : (TY52 → TY13 → Option TY28)) : Frag := ⟨⟨[], [(2, .ptr 2 []), (4, .ptr 4 []), (6, .ptr 6 []), (7, .val (.int .i64))], [(2, some 55, KD20), (4, some 65, KD16), (6, some 65, KD16)]⟩, [(.exit 1, ⟨[], [(4, .ptr 4 []), (6, .ptr 6 [])], [(4, some 65, KD16), (6, some 65, KD16)]⟩)], fun v => F57_0 k f57 k v.1.1 v.2.1 v.2.2.1 v.2.2.2.1⟩
def F57_1 (k : Nat) (f57 : (TY52 → TY13 → Option TY28)) : Nat → Int → TY27 → TY34 → TY34 → TY34 → Option TY17
 | 0, _, _, _, _, _ => none
 | n + 1, t10, c2, c4, c8, c9 =>
  bif (decide (t10 ≥ (1 : Int))) then
   (F81 k c9 c8).bind fun r39 =>
   bif (decide (t10 > c2.2.1)) then
    (F57_1 k f57 n (IntKind.wrap .i64 (t10 - (1 : Int))) c2 c4 (r39.1.1.1, (r39.1.1.2.1, (r39.1.1.2.2.1, (r39.1.1.2.2.2.1, ((0 : Int), r39.1.1.2.2.2.2.2))))) c9).bind some
   else
    (F57_1 k f57 n (IntKind.wrap .i64 (t10 - (1 : Int))) c2 c4 r39.1.1 c9).bind some
  else
   some ((), (c4, c8, ()))
def fr57_1 (k : Nat) (f57 : (TY52 → TY13 → Option TY28)) : Frag := ⟨⟨[], [(2, .ptr 2 []), (4, .ptr 4 []), (8, .ptr 8 []), (9, .ptr 9 []), (10, .val (.int .i64))], [(2, some 55, KD20), (4, some 65, KD16), (8, some 65, KD16), (9, some 65, KD16)]⟩, [(.exit 3, ⟨[], [(4, .ptr 4 []), (8, .ptr 8 [])], [(4, some 65, KD16), (8, some 65, KD16)]⟩)], fun v => F57_1 k f57 k v.1.1 v.2.1 v.2.2.1 v.2.2.2.1 v.2.2.2.2.1⟩
def B57 (k : Nat) (f57 : (TY52 → TY13 → Option TY28)) (a0 : TY52) (a1 : TY13) : Option TY28 :=
 bif ((Tree.a a0).1 == (1 : Int)) then
  (F79 k).bind fun r1 =>
  some ((r1.1.1, ()), ())
 else
  bif ((Tree.a a0).1 == (2 : Int)) then
   (F80 k (1 : Int)).bind fun r2 =>
   if 0 ≤ (0 : Int) ∧ (0 : Int) < ((List.length r2.1.1.1 : Nat) : Int) then
    let x3 := (List.set r2.1.1.1 (Int.toNat (0 : Int)) (-1 : Int))
    if 0 ≤ (0 : Int) ∧ (0 : Int) < ((List.length r2.1.1.2.1 : Nat) : Int) then
     let x4 := (List.set r2.1.1.2.1 (Int.toNat (0 : Int)) (0 : Int))
     if 0 ≤ (0 : Int) ∧ (0 : Int) < ((List.length r2.1.1.2.2.1 : Nat) : Int) then
      let x5 := (List.set r2.1.1.2.2.1 (Int.toNat (0 : Int)) (0 : Int))
      bif ((Tree.a a0).1 == (2 : Int)) then
       (F66 k a1 (Tree.a a0).2.2.2.2.1).bind fun r6 =>
       if 0 ≤ (0 : Int) ∧ (0 : Int) < ((List.length x3 : Nat) : Int) then
        some ((((List.set x3 (Int.toNat (0 : Int)) r6.1.1), (x4, (x5, r2.1.1.2.2.2))), ()), ())
       else none
      else
       some (((x3, (x4, (x5, r2.1.1.2.2.2))), ()), ())
     else none
    else none
   else none
  else
   bif ((Tree.a a0).1 == (3 : Int)) then
    (F80 k (1 : Int)).bind fun r7 =>
    if 0 ≤ (0 : Int) ∧ (0 : Int) < ((List.length r7.1.1.1 : Nat) : Int) then
     let x8 := (List.set r7.1.1.1 (Int.toNat (0 : Int)) (-1 : Int))
     if 0 ≤ (0 : Int) ∧ (0 : Int) < ((List.length r7.1.1.2.1 : Nat) : Int) then
      let x9 := (List.set r7.1.1.2.1 (Int.toNat (0 : Int)) (0 : Int))
      if 0 ≤ (0 : Int) ∧ (0 : Int) < ((List.length r7.1.1.2.2.1 : Nat) : Int) then
       let x10 := (List.set r7.1.1.2.2.1 (Int.toNat (0 : Int)) (0 : Int))
       bif ((Tree.a a0).1 == (2 : Int)) then
        (F66 k a1 (Tree.a a0).2.2.2.2.1).bind fun r11 =>
        if 0 ≤ (0 : Int) ∧ (0 : Int) < ((List.length x8 : Nat) : Int) then
         some ((((List.set x8 (Int.toNat (0 : Int)) r11.1.1), (x9, (x10, r7.1.1.2.2.2))), ()), ())
        else none
       else
        some (((x8, (x9, (x10, r7.1.1.2.2.2))), ()), ())
      else none
     else none
    else none
   else
    bif ((Tree.a a0).1 == (4 : Int)) then
     if 0 ≤ (0 : Int) ∧ (0 : Int) < ((List.length (Tree.l a0) : Nat) : Int) then
      let x12 := (List.getD (Tree.l a0) (Int.toNat (0 : Int)) (Tree.mk ((0 : Int), ((0 : Int), ((0 : Int), ((0 : Int), (ByteArray.empty, ()))))) []))
      if 0 ≤ (1 : Int) ∧ (1 : Int) < ((List.length (Tree.l a0) : Nat) : Int) then
       let x13 := (List.getD (Tree.l a0) (Int.toNat (1 : Int)) (Tree.mk ((0 : Int), ((0 : Int), ((0 : Int), ((0 : Int), (ByteArray.empty, ()))))) []))
       (f57 x12 a1).bind fun r14 =>
       (f57 x13 a1).bind fun r15 =>
       (F81 k r14.1.1 r15.1.1).bind fun r16 =>
       some ((r16.1.1, ()), ())
      else none
     else none
    else
     bif ((Tree.a a0).1 == (5 : Int)) then
      if 0 ≤ (0 : Int) ∧ (0 : Int) < ((List.length (Tree.l a0) : Nat) : Int) then
       let x17 := (List.getD (Tree.l a0) (Int.toNat (0 : Int)) (Tree.mk ((0 : Int), ((0 : Int), ((0 : Int), ((0 : Int), (ByteArray.empty, ()))))) []))
       if 0 ≤ (1 : Int) ∧ (1 : Int) < ((List.length (Tree.l a0) : Nat) : Int) then
        let x18 := (List.getD (Tree.l a0) (Int.toNat (1 : Int)) (Tree.mk ((0 : Int), ((0 : Int), ((0 : Int), ((0 : Int), (ByteArray.empty, ()))))) []))
        (f57 x17 a1).bind fun r19 =>
        (f57 x18 a1).bind fun r20 =>
        (F82 k r19.1.1 r20.1.1).bind fun r21 =>
        some ((r21.1.1, ()), ())
       else none
      else none
     else
      bif ((Tree.a a0).1 == (6 : Int)) then
       if 0 ≤ (0 : Int) ∧ (0 : Int) < ((List.length (Tree.l a0) : Nat) : Int) then
        let x22 := (List.getD (Tree.l a0) (Int.toNat (0 : Int)) (Tree.mk ((0 : Int), ((0 : Int), ((0 : Int), ((0 : Int), (ByteArray.empty, ()))))) []))
        (f57 x22 a1).bind fun r23 =>
        (F83 k r23.1.1).bind fun r24 =>
        some ((r24.1.1, ()), ())
       else none
      else
       bif ((Tree.a a0).1 == (8 : Int)) then
        if 0 ≤ (0 : Int) ∧ (0 : Int) < ((List.length (Tree.l a0) : Nat) : Int) then
         let x25 := (List.getD (Tree.l a0) (Int.toNat (0 : Int)) (Tree.mk ((0 : Int), ((0 : Int), ((0 : Int), ((0 : Int), (ByteArray.empty, ()))))) []))
         (f57 x25 a1).bind fun r26 =>
         (F69 k r26.1.1.2.2.2.2.1 (Tree.a a0).2.2.2.1).bind fun r27 =>
         (F57_0 k f57 k (0 : Int) ((Tree.a a0).1, ((Tree.a a0).2.1, ((Tree.a a0).2.2.1, ((Tree.a a0).2.2.2.1, ((Tree.a a0).2.2.2.2.1, ((Tree.l a0), ())))))) (([] : (List Int)), (([] : (List Int)), (([] : (List Int)), (([] : TY63), ((0 : Int), ()))))) (r26.1.1.1, (r26.1.1.2.1, (r26.1.1.2.2.1, (r26.1.1.2.2.2.1, (r27.1.1, r26.1.1.2.2.2.2.2)))))).bind fun r32 =>
         let y34 := r32.2.2.1
         some ((y34, ()), ())
        else none
       else
        if 0 ≤ (0 : Int) ∧ (0 : Int) < ((List.length (Tree.l a0) : Nat) : Int) then
         let x35 := (List.getD (Tree.l a0) (Int.toNat (0 : Int)) (Tree.mk ((0 : Int), ((0 : Int), ((0 : Int), ((0 : Int), (ByteArray.empty, ()))))) []))
         (F79 k).bind fun r36 =>
         (f57 x35 a1).bind fun r37 =>
         (F57_1 k f57 k (Tree.a a0).2.2.1 ((Tree.a a0).1, ((Tree.a a0).2.1, ((Tree.a a0).2.2.1, ((Tree.a a0).2.2.2.1, ((Tree.a a0).2.2.2.2.1, ((Tree.l a0), ())))))) (([] : (List Int)), (([] : (List Int)), (([] : (List Int)), (([] : TY63), ((0 : Int), ()))))) r36.1.1 r37.1.1).bind fun r40 =>
         let y42 := r40.2.2.1
         some ((y42, ()), ())
        else none
def sb57 (k : Nat) (f57 : (TY52 → TY13 → Option TY28)) : Spec := rs57 (B57 k f57)
def lim57 : Lim := ⟨135, 2, false, false, [], []⟩
def cfg57 (k : Nat) (f57 : (TY52 → TY13 → Option TY28)) : Nat → Option Spec := cfgL [(57, rs57 f57), (66, sp66 k), (69, sp69 k), (79, sp79 k), (80, sp80 k), (81, sp81 k), (82, sp82 k), (83, sp83 k)]
noncomputable def co57_0 : Code := codeAt (bodyOf Try.f57) [.r, .l, .r, .s, .r, .r, .r, .r, .r, .r, .r, .r, .r, .r, .r, .l, .r, .r, .l, .r, .s]
noncomputable def cb57_0 : Code := codeAt (bodyOf Try.f57) [.r, .l, .r, .s, .r, .r, .r, .r, .r, .r, .r, .r, .r, .r, .r, .l, .r, .r, .l, .r, .s, .b]
noncomputable def co57_1 : Code := codeAt (bodyOf Try.f57) [.r, .r, .r, .l, .r, .s]
noncomputable def cb57_1 : Code := codeAt (bodyOf Try.f57) [.r, .r, .r, .l, .r, .s, .b]
noncomputable def co57 : Code := codeAt (bodyOf Try.f57) []
theorem cfg57_ok (k : Nat) (f57 : (TY52 → TY13 → Option TY28)) (h57 : Callable Try.prog 57 ∧ Valid Try.prog 57 (rs57 f57)) : CfgOK Try.prog (cfg57 k f57) := cfgL_cons h57 (cfgL_cons (v66 k) (cfgL_cons (v69 k) (cfgL_cons (v79 k) (cfgL_cons (v80 k) (cfgL_cons (v81 k) (cfgL_cons (v82 k) (cfgL_cons (v83 k) (cfgL_nil))))))))
noncomputable def bo57_0 (k : Nat) (f57 : (TY52 → TY13 → Option TY28)) (m : Nat) (v : (fr57_0 k f57).sh.V) := body Try.prog (stepper Try.prog (cfg57 k f57) lim57) .go cb57_0 ((fr57_0 k f57).sh.st v) (loopK (fr57_0 k f57) fun v => F57_0 k f57 m v.1.1 v.2.1 v.2.2.1 v.2.2.2.1)
theorem pp57_0 (k : Nat) (f57 : (TY52 → TY13 → Option TY28)) (m : Nat) (v : (fr57_0 k f57).sh.V) : F57_0 k f57 (m + 1) v.1.1 v.2.1 v.2.2.1 v.2.2.2.1 = (bo57_0 k f57 m v).eval ∧ (bo57_0 k f57 m v).left = (bo57_0 k f57 m v).right := ⟨by kernel_rfl, by kernel_rfl⟩
theorem fr57_0_ok (k : Nat) (f57 : (TY52 → TY13 → Option TY28)) (h57 : Callable Try.prog 57 ∧ Valid Try.prog 57 (rs57 f57)) : FragOK Try.prog lim57 (fr57_0 k f57) co57_0 :=
 frag_cast (by kernel_rfl) (loop_ok (cfg57_ok k f57 h57) (planOK_go _) (fun m v => F57_0 k f57 m v.1.1 v.2.1 v.2.2.1 v.2.2.2.1) k (fun _ => rfl) (fun _ => rfl) (pp57_0 k f57))
noncomputable def bo57_1 (k : Nat) (f57 : (TY52 → TY13 → Option TY28)) (m : Nat) (v : (fr57_1 k f57).sh.V) := body Try.prog (stepper Try.prog (cfg57 k f57) lim57) .go cb57_1 ((fr57_1 k f57).sh.st v) (loopK (fr57_1 k f57) fun v => F57_1 k f57 m v.1.1 v.2.1 v.2.2.1 v.2.2.2.1 v.2.2.2.2.1)
theorem pp57_1 (k : Nat) (f57 : (TY52 → TY13 → Option TY28)) (m : Nat) (v : (fr57_1 k f57).sh.V) : F57_1 k f57 (m + 1) v.1.1 v.2.1 v.2.2.1 v.2.2.2.1 v.2.2.2.2.1 = (bo57_1 k f57 m v).eval ∧ (bo57_1 k f57 m v).left = (bo57_1 k f57 m v).right := ⟨by kernel_rfl, by kernel_rfl⟩
theorem fr57_1_ok (k : Nat) (f57 : (TY52 → TY13 → Option TY28)) (h57 : Callable Try.prog 57 ∧ Valid Try.prog 57 (rs57 f57)) : FragOK Try.prog lim57 (fr57_1 k f57) co57_1 :=
 frag_cast (by kernel_rfl) (loop_ok (cfg57_ok k f57 h57) (planOK_go _) (fun m v => F57_1 k f57 m v.1.1 v.2.1 v.2.2.1 v.2.2.2.1 v.2.2.2.2.1) k (fun _ => rfl) (fun _ => rfl) (pp57_1 k f57))
def pl57 (k : Nat) (f57 : (TY52 → TY13 → Option TY28)) : Plan := (.seq .go (.seq (.seq .go (.sub (.seq .go (.seq .go (.seq .go (.seq .go (.seq .go (.seq .go (.seq .go (.seq .go (.seq .go (.seq .go (.seq .go (.seq (.seq .go (.seq .go (.seq (.seq .go (.sub (.frag (fr57_0 k f57)))) .go))) .go)))))))))))))) (.seq .go (.seq (.seq .go (.sub (.frag (fr57_1 k f57)))) .go))))
theorem pq57 (k : Nat) (f57 : (TY52 → TY13 → Option TY28)) : PlanOK Try.prog lim57 (pl57 k f57) co57 = (PlanOK Try.prog lim57 .go (codeAt (bodyOf Try.f57) [.l]) ∧ ((PlanOK Try.prog lim57 .go (codeAt (bodyOf Try.f57) [.r, .l, .l]) ∧ (PlanOK Try.prog lim57 .go (codeAt (bodyOf Try.f57) [.r, .l, .r, .s, .l]) ∧ (PlanOK Try.prog lim57 .go (codeAt (bodyOf Try.f57) [.r, .l, .r, .s, .r, .l]) ∧ (PlanOK Try.prog lim57 .go (codeAt (bodyOf Try.f57) [.r, .l, .r, .s, .r, .r, .l]) ∧ (PlanOK Try.prog lim57 .go (codeAt (bodyOf Try.f57) [.r, .l, .r, .s, .r, .r, .r, .l]) ∧ (PlanOK Try.prog lim57 .go (codeAt (bodyOf Try.f57) [.r, .l, .r, .s, .r, .r, .r, .r, .l]) ∧ (PlanOK Try.prog lim57 .go (codeAt (bodyOf Try.f57) [.r, .l, .r, .s, .r, .r, .r, .r, .r, .l]) ∧ (PlanOK Try.prog lim57 .go (codeAt (bodyOf Try.f57) [.r, .l, .r, .s, .r, .r, .r, .r, .r, .r, .l]) ∧ (PlanOK Try.prog lim57 .go (codeAt (bodyOf Try.f57) [.r, .l, .r, .s, .r, .r, .r, .r, .r, .r, .r, .l]) ∧ (PlanOK Try.prog lim57 .go (codeAt (bodyOf Try.f57) [.r, .l, .r, .s, .r, .r, .r, .r, .r, .r, .r, .r, .l]) ∧ (PlanOK Try.prog lim57 .go (codeAt (bodyOf Try.f57) [.r, .l, .r, .s, .r, .r, .r, .r, .r, .r, .r, .r, .r, .l]) ∧ (PlanOK Try.prog lim57 .go (codeAt (bodyOf Try.f57) [.r, .l, .r, .s, .r, .r, .r, .r, .r, .r, .r, .r, .r, .r, .l]) ∧ ((PlanOK Try.prog lim57 .go (codeAt (bodyOf Try.f57) [.r, .l, .r, .s, .r, .r, .r, .r, .r, .r, .r, .r, .r, .r, .r, .l, .l]) ∧ (PlanOK Try.prog lim57 .go (codeAt (bodyOf Try.f57) [.r, .l, .r, .s, .r, .r, .r, .r, .r, .r, .r, .r, .r, .r, .r, .l, .r, .l]) ∧ ((PlanOK Try.prog lim57 .go (codeAt (bodyOf Try.f57) [.r, .l, .r, .s, .r, .r, .r, .r, .r, .r, .r, .r, .r, .r, .r, .l, .r, .r, .l, .l]) ∧ FragOK Try.prog lim57 (fr57_0 k f57) co57_0) ∧ PlanOK Try.prog lim57 .go (codeAt (bodyOf Try.f57) [.r, .l, .r, .s, .r, .r, .r, .r, .r, .r, .r, .r, .r, .r, .r, .l, .r, .r, .r])))) ∧ PlanOK Try.prog lim57 .go (codeAt (bodyOf Try.f57) [.r, .l, .r, .s, .r, .r, .r, .r, .r, .r, .r, .r, .r, .r, .r, .r])))))))))))))) ∧ (PlanOK Try.prog lim57 .go (codeAt (bodyOf Try.f57) [.r, .r, .l]) ∧ ((PlanOK Try.prog lim57 .go (codeAt (bodyOf Try.f57) [.r, .r, .r, .l, .l]) ∧ FragOK Try.prog lim57 (fr57_1 k f57) co57_1) ∧ PlanOK Try.prog lim57 .go (codeAt (bodyOf Try.f57) [.r, .r, .r, .r]))))) := by kernel_rfl
noncomputable def bo57 (k : Nat) (f57 : (TY52 → TY13 → Option TY28)) (x : AT (sb57 k f57).ps) := fnT Try.prog (cfg57 k f57) lim57 Try.f57 (bodyOf Try.f57) (pl57 k f57) (sb57 k f57) x
theorem vv57 (k : Nat) (f57 : (TY52 → TY13 → Option TY28)) (x : AT (sb57 k f57).ps) : (sb57 k f57).impl x = (bo57 k f57 x).eval ∧ (bo57 k f57 x).left = (bo57 k f57 x).right := ⟨by kernel_rfl, by kernel_rfl⟩
theorem b57 (k : Nat) (f57 : (TY52 → TY13 → Option TY28)) (h57 : Callable Try.prog 57 ∧ Valid Try.prog 57 (rs57 f57)) : Callable Try.prog 57 ∧ Valid Try.prog 57 (sb57 k f57) :=
 fn_of (n := lim57) (fn := Try.f57) (p := (pl57 k f57)) (cfg57_ok k f57 h57) (by kernel_rfl) (Eq.mpr (pq57 k f57) ⟨(planOK_go _), ⟨⟨(planOK_go _), ⟨(planOK_go _), ⟨(planOK_go _), ⟨(planOK_go _), ⟨(planOK_go _), ⟨(planOK_go _), ⟨(planOK_go _), ⟨(planOK_go _), ⟨(planOK_go _), ⟨(planOK_go _), ⟨(planOK_go _), ⟨(planOK_go _), ⟨⟨(planOK_go _), ⟨(planOK_go _), ⟨⟨(planOK_go _), (fr57_0_ok k f57 h57)⟩, (planOK_go _)⟩⟩⟩, (planOK_go _)⟩⟩⟩⟩⟩⟩⟩⟩⟩⟩⟩⟩⟩, ⟨(planOK_go _), ⟨⟨(planOK_go _), (fr57_1_ok k f57 h57)⟩, (planOK_go _)⟩⟩⟩⟩) (vv57 k f57)
def R57 : Nat → (TY52 → TY13 → Option TY28)
 | 0 => fun _ _ => none
 | k + 1 => B57 k (R57 k)
def F57 (k : Nat) (a0_ : TY52) (a1_ : TY13) : Option TY28 := (R57 k) a0_ a1_
def sp57 (k : Nat) : Spec := ⟨[.val KD29, .val KD6], [.own KD16], fun x => F57 k x.1 x.2.1⟩
theorem r57 (k : Nat) : (Callable Try.prog 57 ∧ Valid Try.prog 57 (rs57 (R57 k))) := by
 induction k with
 | zero => exact ⟨⟨Try.f57, by kernel_rfl, by kernel_rfl, by kernel_rfl⟩, fun x r h => by cases (show (none : Option _) = some r from h)⟩
 | succ k ih => exact b57 k (R57 k) ih
theorem v57 (k : Nat) : Callable Try.prog 57 ∧ Valid Try.prog 57 (sp57 k) := (r57 k)
def F33 (k : Nat) (a0 : TY52) (a1 : TY13) : Option ((TY34 × Bool × Unit) × Unit) :=
 let x1 := (Tree.mk ((Tree.a a0).1, ((Tree.a a0).2.1, ((Tree.a a0).2.2.1, ((Tree.a a0).2.2.2.1, ((Tree.a a0).2.2.2.2.1, ()))))) (Tree.l a0))
 (F56 k x1).bind fun r2 =>
 bif (decide (r2.1.1 > (120 : Int))) then
  some (((([] : (List Int)), (([] : (List Int)), (([] : (List Int)), (([] : TY63), ((0 : Int), ()))))), false, ()), ())
 else
  let x3 := (Tree.mk ((Tree.a a0).1, ((Tree.a a0).2.1, ((Tree.a a0).2.2.1, ((Tree.a a0).2.2.2.1, ((Tree.a a0).2.2.2.2.1, ()))))) (Tree.l a0))
  (F57 k x3 a1).bind fun r4 =>
  some ((r4.1.1, true, ()), ())
def sp33 (k : Nat) : Spec := ⟨[.val KD29, .val KD6], [.own KD16, .val .bool], fun x => F33 k x.1 x.2.1⟩
def lim33 : Lim := ⟨13, 2, false, false, [], []⟩
def cfg33 (k : Nat) : Nat → Option Spec := cfgL [(56, sp56 k), (57, sp57 k)]
noncomputable def co33 : Code := codeAt (bodyOf Try.f33) []
theorem cfg33_ok (k : Nat) : CfgOK Try.prog (cfg33 k) := cfgL_cons (v56 k) (cfgL_cons (v57 k) (cfgL_nil))
noncomputable def bo33 (k : Nat) (x : AT (sp33 k).ps) := fnT Try.prog (cfg33 k) lim33 Try.f33 (bodyOf Try.f33) .go (sp33 k) x
theorem vv33 (k : Nat) (x : AT (sp33 k).ps) : (sp33 k).impl x = (bo33 k x).eval ∧ (bo33 k x).left = (bo33 k x).right := ⟨by kernel_rfl, by kernel_rfl⟩
theorem v33 (k : Nat) : Callable Try.prog 33 ∧ Valid Try.prog 33 (sp33 k) :=
 fn_of (n := lim33) (fn := Try.f33) (p := .go) (cfg33_ok k) (by kernel_rfl) (planOK_go _) (vv33 k)
def F58_0 (k : Nat) : Nat → (List (List Bool)) → Int → Int → TY34 → Option ((Unit × Unit) ⊕ TY79)
 | 0, _, _, _, _ => none
 | n + 1, t1, t2, t7, c3 =>
  if 0 ≤ t2 ∧ t2 < ((List.length c3.1 : Nat) : Int) then
   if 0 ≤ (List.getD c3.1 (Int.toNat t2) (0 : Int)) ∧ (List.getD c3.1 (Int.toNat t2) (0 : Int)) < ((List.length t1 : Nat) : Int) then
    let x5 := (List.getD t1 (Int.toNat (List.getD c3.1 (Int.toNat t2) (0 : Int))) ([] : (List Bool)))
    let x6 := (decide (t7 < ((List.length x5 : Nat) : Int)))
    bif x6 then
     if 0 ≤ t2 ∧ t2 < ((List.length c3.1 : Nat) : Int) then
      if 0 ≤ (List.getD c3.1 (Int.toNat t2) (0 : Int)) ∧ (List.getD c3.1 (Int.toNat t2) (0 : Int)) < ((List.length t1 : Nat) : Int) then
       let x7 := (List.getD t1 (Int.toNat (List.getD c3.1 (Int.toNat t2) (0 : Int))) ([] : (List Bool)))
       if 0 ≤ t7 ∧ t7 < ((List.length x7 : Nat) : Int) then
        bif (List.getD x7 (Int.toNat t7) false) then
         some (.inr ((true, ()), ()))
        else
         (F58_0 k n t1 t2 (IntKind.wrap .i64 (t7 + (1 : Int))) c3).bind some
       else none
      else none
     else none
    else
     some (.inl ((), ()))
   else none
  else none
def fr58_0 (k : Nat) : Frag := ⟨⟨[], [(1, .val KD57), (2, .val (.int .i64)), (3, .ptr 3 []), (7, .val (.int .i64))], [(3, some 65, KD15)]⟩, [(.exit 0, ⟨[], [], []⟩), (.ret, ⟨[], [(6, .val .bool)], []⟩)], fun v => F58_0 k k v.1.1 v.1.2.1 v.1.2.2.1 v.2.1⟩
def F58 (k : Nat) (a0 : TY34) (a1 : (List (List Bool))) (a2 : Int) : Option TY79 :=
 if 0 ≤ a2 ∧ a2 < ((List.length a0.1 : Nat) : Int) then
  let x1 := (decide ((List.getD a0.1 (Int.toNat a2) (0 : Int)) < (0 : Int)))
  bif x1 then
   some ((true, ()), ())
  else
   (F58_0 k k a1 a2 (0 : Int) a0).bind fun r8 =>
   match r8 with
   | .inl r9 =>
    some ((false, ()), ())
   | .inr r9 =>
    let y10 := r9.1.1
    some ((y10, ()), ())
 else none
def sp58 (k : Nat) : Spec := ⟨[.val KD15, .val KD57, .val (.int .i64)], [.val .bool], fun x => F58 k x.1 x.2.1 x.2.2.1⟩
def lim58 : Lim := ⟨38, 3, false, false, [], []⟩
def cfg58 (k : Nat) : Nat → Option Spec := cfgL []
noncomputable def co58_0 : Code := codeAt (bodyOf Try.f58) [.r, .r, .l, .r, .s]
noncomputable def cb58_0 : Code := codeAt (bodyOf Try.f58) [.r, .r, .l, .r, .s, .b]
noncomputable def co58 : Code := codeAt (bodyOf Try.f58) []
theorem cfg58_ok (k : Nat) : CfgOK Try.prog (cfg58 k) := cfgL_nil
noncomputable def bo58_0 (k m : Nat) (v : (fr58_0 k).sh.V) := body Try.prog (stepper Try.prog (cfg58 k) lim58) .go cb58_0 ((fr58_0 k).sh.st v) (loopK (fr58_0 k) fun v => F58_0 k m v.1.1 v.1.2.1 v.1.2.2.1 v.2.1)
theorem pp58_0 (k m : Nat) (v : (fr58_0 k).sh.V) : F58_0 k (m + 1) v.1.1 v.1.2.1 v.1.2.2.1 v.2.1 = (bo58_0 k m v).eval ∧ (bo58_0 k m v).left = (bo58_0 k m v).right := ⟨by kernel_rfl, by kernel_rfl⟩
theorem fr58_0_ok (k : Nat) : FragOK Try.prog lim58 (fr58_0 k) co58_0 :=
 frag_cast (by kernel_rfl) (loop_ok (cfg58_ok k) (planOK_go _) (fun m v => F58_0 k m v.1.1 v.1.2.1 v.1.2.2.1 v.2.1) k (fun _ => rfl) (fun _ => rfl) (pp58_0 k))
def pl58 (k : Nat) : Plan := (.seq .go (.seq .go (.seq (.seq .go (.sub (.frag (fr58_0 k)))) .go)))
theorem pq58 (k : Nat) : PlanOK Try.prog lim58 (pl58 k) co58 = (PlanOK Try.prog lim58 .go (codeAt (bodyOf Try.f58) [.l]) ∧ (PlanOK Try.prog lim58 .go (codeAt (bodyOf Try.f58) [.r, .l]) ∧ ((PlanOK Try.prog lim58 .go (codeAt (bodyOf Try.f58) [.r, .r, .l, .l]) ∧ FragOK Try.prog lim58 (fr58_0 k) co58_0) ∧ PlanOK Try.prog lim58 .go (codeAt (bodyOf Try.f58) [.r, .r, .r])))) := by kernel_rfl
noncomputable def bo58 (k : Nat) (x : AT (sp58 k).ps) := fnT Try.prog (cfg58 k) lim58 Try.f58 (bodyOf Try.f58) (pl58 k) (sp58 k) x
theorem vv58 (k : Nat) (x : AT (sp58 k).ps) : (sp58 k).impl x = (bo58 k x).eval ∧ (bo58 k x).left = (bo58 k x).right := ⟨by kernel_rfl, by kernel_rfl⟩
theorem v58 (k : Nat) : Callable Try.prog 58 ∧ Valid Try.prog 58 (sp58 k) :=
 fn_of (n := lim58) (fn := Try.f58) (p := (pl58 k)) (cfg58_ok k) (by kernel_rfl) (Eq.mpr (pq58 k) ⟨(planOK_go _), ⟨(planOK_go _), ⟨⟨(planOK_go _), (fr58_0_ok k)⟩, (planOK_go _)⟩⟩⟩) (vv58 k)
def F34_0 (k : Nat) : Nat → (List (List Bool)) → Int → Int → TY34 → TY34 → (List Bool) → (List Bool) → (List Bool) → Option (((Int × Unit) × TY12))
 | 0, _, _, _, _, _, _, _, _ => none
 | n + 1, t1, t5, t9, c2, c4, c22, c24, c26 =>
  bif (decide (t9 < t5)) then
   (F58 k c2 t1 t9).bind fun r13 =>
   if 0 ≤ t9 ∧ t9 < ((List.length c26 : Nat) : Int) then
    if 0 ≤ t9 ∧ t9 < ((List.length (List.set c26 (Int.toNat t9) r13.1.1) : Nat) : Int) then
     let x14 := (List.getD (List.set c26 (Int.toNat t9) r13.1.1) (Int.toNat t9) false)
     bif x14 then
      if 0 ≤ t9 ∧ t9 < ((List.length c2.2.1 : Nat) : Int) then
       let x15 := (decide ((List.getD c2.2.1 (Int.toNat t9) (0 : Int)) < (1152921504606846976 : Int)))
       if 0 ≤ t9 ∧ t9 < ((List.length (List.set c26 (Int.toNat t9) r13.1.1) : Nat) : Int) then
        let x16 := (List.getD (List.set c26 (Int.toNat t9) r13.1.1) (Int.toNat t9) false)
        bif x16 then
         if 0 ≤ t9 ∧ t9 < ((List.length c2.2.2.1 : Nat) : Int) then
          let x17 := (List.getD c2.2.2.1 (Int.toNat t9) (0 : Int))
          if 0 ≤ t9 ∧ t9 < ((List.length c22 : Nat) : Int) then
           if 0 ≤ t9 ∧ t9 < ((List.length c24 : Nat) : Int) then
            let x18 := (List.set c24 (Int.toNat t9) (decide (x17 < (1152921504606846976 : Int))))
            (F34_0 k n t1 t5 (IntKind.wrap .i64 (t9 + (1 : Int))) c2 c4 (List.set c22 (Int.toNat t9) x15) x18 (List.set c26 (Int.toNat t9) r13.1.1)).bind some
           else none
          else none
         else none
        else
         if 0 ≤ t9 ∧ t9 < ((List.length c22 : Nat) : Int) then
          if 0 ≤ t9 ∧ t9 < ((List.length c24 : Nat) : Int) then
           (F34_0 k n t1 t5 (IntKind.wrap .i64 (t9 + (1 : Int))) c2 c4 (List.set c22 (Int.toNat t9) x15) (List.set c24 (Int.toNat t9) false) (List.set c26 (Int.toNat t9) r13.1.1)).bind some
          else none
         else none
       else none
      else none
     else
      if 0 ≤ t9 ∧ t9 < ((List.length (List.set c26 (Int.toNat t9) r13.1.1) : Nat) : Int) then
       let x19 := (List.getD (List.set c26 (Int.toNat t9) r13.1.1) (Int.toNat t9) false)
       bif x19 then
        if 0 ≤ t9 ∧ t9 < ((List.length c2.2.2.1 : Nat) : Int) then
         let x20 := (List.getD c2.2.2.1 (Int.toNat t9) (0 : Int))
         if 0 ≤ t9 ∧ t9 < ((List.length c22 : Nat) : Int) then
          if 0 ≤ t9 ∧ t9 < ((List.length c24 : Nat) : Int) then
           let x21 := (List.set c24 (Int.toNat t9) (decide (x20 < (1152921504606846976 : Int))))
           (F34_0 k n t1 t5 (IntKind.wrap .i64 (t9 + (1 : Int))) c2 c4 (List.set c22 (Int.toNat t9) false) x21 (List.set c26 (Int.toNat t9) r13.1.1)).bind some
          else none
         else none
        else none
       else
        if 0 ≤ t9 ∧ t9 < ((List.length c22 : Nat) : Int) then
         if 0 ≤ t9 ∧ t9 < ((List.length c24 : Nat) : Int) then
          (F34_0 k n t1 t5 (IntKind.wrap .i64 (t9 + (1 : Int))) c2 c4 (List.set c22 (Int.toNat t9) false) (List.set c24 (Int.toNat t9) false) (List.set c26 (Int.toNat t9) r13.1.1)).bind some
         else none
        else none
      else none
    else none
   else none
  else
   some ((t5, ()), (c2, c4, c22, c24, c26, ()))
def fr34_0 (k : Nat) : Frag := ⟨⟨[], [(1, .val KD57), (2, .ptr 2 []), (4, .ptr 4 []), (5, .val (.int .i64)), (6, .at 22 []), (7, .at 24 []), (8, .at 26 []), (9, .val (.int .i64))], [(2, some 65, KD15), (4, some 65, KD16), (22, none, KD78), (24, none, KD78), (26, none, KD78)]⟩, [(.exit 0, ⟨[], [(2, .ptr 2 []), (4, .ptr 4 []), (5, .val (.int .i64)), (6, .at 22 []), (7, .at 24 []), (8, .at 26 [])], [(2, some 65, KD15), (4, some 65, KD16), (22, none, KD78), (24, none, KD78), (26, none, KD78)]⟩)], fun v => F34_0 k k v.1.1 v.1.2.1 v.1.2.2.1 v.2.1 v.2.2.1 v.2.2.2.1 v.2.2.2.2.1 v.2.2.2.2.2.1⟩
def F34_1 (k : Nat) : Nat → Int → Bool → Int → TY34 → TY34 → (List Bool) → (List Bool) → (List Bool) → Option (((Int × Bool × Unit) × TY12))
 | 0, _, _, _, _, _, _, _, _ => none
 | n + 1, t5, t10, t11, c2, c4, c22, c24, c26 =>
  let x31 := (decide (t11 < ((List.length c2.2.2.2.1 : Nat) : Int)))
  bif x31 then
   if 0 ≤ t11 ∧ t11 < ((List.length c2.2.2.2.1 : Nat) : Int) then
    let x32 := (List.getD c2.2.2.2.1 (Int.toNat t11) ((0 : Int), ((0 : Int), ((0 : Int), ()))))
    if 0 ≤ x32.1 ∧ x32.1 < ((List.length c22 : Nat) : Int) then
     bif (List.getD c22 (Int.toNat x32.1) false) then
      if 0 ≤ x32.2.1 ∧ x32.2.1 < ((List.length c26 : Nat) : Int) then
       bif (List.getD c26 (Int.toNat x32.2.1) false) then
        if 0 ≤ x32.2.1 ∧ x32.2.1 < ((List.length c22 : Nat) : Int) then
         bif (!(List.getD c22 (Int.toNat x32.2.1) false)) then
          if 0 ≤ x32.2.1 ∧ x32.2.1 < ((List.length c22 : Nat) : Int) then
           if 0 ≤ x32.2.1 ∧ x32.2.1 < ((List.length c24 : Nat) : Int) then
            bif (List.getD c24 (Int.toNat x32.2.1) false) then
             if 0 ≤ x32.1 ∧ x32.1 < ((List.length c26 : Nat) : Int) then
              bif (List.getD c26 (Int.toNat x32.1) false) then
               if 0 ≤ x32.1 ∧ x32.1 < ((List.length c24 : Nat) : Int) then
                bif (!(List.getD c24 (Int.toNat x32.1) false)) then
                 if 0 ≤ x32.1 ∧ x32.1 < ((List.length c24 : Nat) : Int) then
                  (F34_1 k n t5 true (IntKind.wrap .i64 (t11 + (1 : Int))) c2 c4 (List.set c22 (Int.toNat x32.2.1) true) (List.set c24 (Int.toNat x32.1) true) c26).bind some
                 else none
                else
                 (F34_1 k n t5 true (IntKind.wrap .i64 (t11 + (1 : Int))) c2 c4 (List.set c22 (Int.toNat x32.2.1) true) c24 c26).bind some
               else none
              else
               (F34_1 k n t5 true (IntKind.wrap .i64 (t11 + (1 : Int))) c2 c4 (List.set c22 (Int.toNat x32.2.1) true) c24 c26).bind some
             else none
            else
             (F34_1 k n t5 true (IntKind.wrap .i64 (t11 + (1 : Int))) c2 c4 (List.set c22 (Int.toNat x32.2.1) true) c24 c26).bind some
           else none
          else none
         else
          if 0 ≤ x32.2.1 ∧ x32.2.1 < ((List.length c24 : Nat) : Int) then
           bif (List.getD c24 (Int.toNat x32.2.1) false) then
            if 0 ≤ x32.1 ∧ x32.1 < ((List.length c26 : Nat) : Int) then
             bif (List.getD c26 (Int.toNat x32.1) false) then
              if 0 ≤ x32.1 ∧ x32.1 < ((List.length c24 : Nat) : Int) then
               bif (!(List.getD c24 (Int.toNat x32.1) false)) then
                if 0 ≤ x32.1 ∧ x32.1 < ((List.length c24 : Nat) : Int) then
                 (F34_1 k n t5 true (IntKind.wrap .i64 (t11 + (1 : Int))) c2 c4 c22 (List.set c24 (Int.toNat x32.1) true) c26).bind some
                else none
               else
                (F34_1 k n t5 t10 (IntKind.wrap .i64 (t11 + (1 : Int))) c2 c4 c22 c24 c26).bind some
              else none
             else
              (F34_1 k n t5 t10 (IntKind.wrap .i64 (t11 + (1 : Int))) c2 c4 c22 c24 c26).bind some
            else none
           else
            (F34_1 k n t5 t10 (IntKind.wrap .i64 (t11 + (1 : Int))) c2 c4 c22 c24 c26).bind some
          else none
        else none
       else
        if 0 ≤ x32.2.1 ∧ x32.2.1 < ((List.length c24 : Nat) : Int) then
         bif (List.getD c24 (Int.toNat x32.2.1) false) then
          if 0 ≤ x32.1 ∧ x32.1 < ((List.length c26 : Nat) : Int) then
           bif (List.getD c26 (Int.toNat x32.1) false) then
            if 0 ≤ x32.1 ∧ x32.1 < ((List.length c24 : Nat) : Int) then
             bif (!(List.getD c24 (Int.toNat x32.1) false)) then
              if 0 ≤ x32.1 ∧ x32.1 < ((List.length c24 : Nat) : Int) then
               (F34_1 k n t5 true (IntKind.wrap .i64 (t11 + (1 : Int))) c2 c4 c22 (List.set c24 (Int.toNat x32.1) true) c26).bind some
              else none
             else
              (F34_1 k n t5 t10 (IntKind.wrap .i64 (t11 + (1 : Int))) c2 c4 c22 c24 c26).bind some
            else none
           else
            (F34_1 k n t5 t10 (IntKind.wrap .i64 (t11 + (1 : Int))) c2 c4 c22 c24 c26).bind some
          else none
         else
          (F34_1 k n t5 t10 (IntKind.wrap .i64 (t11 + (1 : Int))) c2 c4 c22 c24 c26).bind some
        else none
      else none
     else
      if 0 ≤ x32.2.1 ∧ x32.2.1 < ((List.length c24 : Nat) : Int) then
       bif (List.getD c24 (Int.toNat x32.2.1) false) then
        if 0 ≤ x32.1 ∧ x32.1 < ((List.length c26 : Nat) : Int) then
         bif (List.getD c26 (Int.toNat x32.1) false) then
          if 0 ≤ x32.1 ∧ x32.1 < ((List.length c24 : Nat) : Int) then
           bif (!(List.getD c24 (Int.toNat x32.1) false)) then
            if 0 ≤ x32.1 ∧ x32.1 < ((List.length c24 : Nat) : Int) then
             (F34_1 k n t5 true (IntKind.wrap .i64 (t11 + (1 : Int))) c2 c4 c22 (List.set c24 (Int.toNat x32.1) true) c26).bind some
            else none
           else
            (F34_1 k n t5 t10 (IntKind.wrap .i64 (t11 + (1 : Int))) c2 c4 c22 c24 c26).bind some
          else none
         else
          (F34_1 k n t5 t10 (IntKind.wrap .i64 (t11 + (1 : Int))) c2 c4 c22 c24 c26).bind some
        else none
       else
        (F34_1 k n t5 t10 (IntKind.wrap .i64 (t11 + (1 : Int))) c2 c4 c22 c24 c26).bind some
      else none
    else none
   else none
  else
   some ((t5, t10, ()), (c2, c4, c22, c24, c26, ()))
def fr34_1 (k : Nat) : Frag := ⟨⟨[], [(2, .ptr 2 []), (4, .ptr 4 []), (5, .val (.int .i64)), (6, .at 22 []), (7, .at 24 []), (8, .at 26 []), (10, .val .bool), (11, .val (.int .i64))], [(2, some 65, KD15), (4, some 65, KD16), (22, none, KD78), (24, none, KD78), (26, none, KD78)]⟩, [(.exit 4, ⟨[], [(2, .ptr 2 []), (4, .ptr 4 []), (5, .val (.int .i64)), (6, .at 22 []), (7, .at 24 []), (8, .at 26 []), (10, .val .bool)], [(2, some 65, KD15), (4, some 65, KD16), (22, none, KD78), (24, none, KD78), (26, none, KD78)]⟩)], fun v => F34_1 k k v.1.1 v.1.2.1 v.1.2.2.1 v.2.1 v.2.2.1 v.2.2.2.1 v.2.2.2.2.1 v.2.2.2.2.2.1⟩
def F34_2 (k : Nat) : Nat → Int → Bool → TY34 → TY34 → (List Bool) → (List Bool) → (List Bool) → Option (((Int × Unit) × (TY34 × TY34 × (List Bool) × (List Bool) × Unit)))
 | 0, _, _, _, _, _, _, _ => none
 | n + 1, t5, t10, c2, c4, c22, c24, c26 =>
  bif t10 then
   (F34_1 k k t5 false (0 : Int) c2 c4 c22 c24 c26).bind fun r41 =>
   let y42 := r41.1.1
   let y43 := r41.1.2.1
   let y44 := r41.2.1
   let y45 := r41.2.2.1
   let y46 := r41.2.2.2.1
   let y47 := r41.2.2.2.2.1
   let y48 := r41.2.2.2.2.2.1
   (F34_2 k n y42 y43 y44 y45 y46 y47 y48).bind some
  else
   some ((t5, ()), (c2, c4, c22, c24, ()))
def fr34_2 (k : Nat) : Frag := ⟨⟨[], [(2, .ptr 2 []), (4, .ptr 4 []), (5, .val (.int .i64)), (6, .at 22 []), (7, .at 24 []), (8, .at 26 []), (10, .val .bool)], [(2, some 65, KD15), (4, some 65, KD16), (22, none, KD78), (24, none, KD78), (26, none, KD78)]⟩, [(.exit 2, ⟨[], [(2, .ptr 2 []), (4, .ptr 4 []), (5, .val (.int .i64)), (6, .at 22 []), (7, .at 24 [])], [(2, some 65, KD15), (4, some 65, KD16), (22, none, KD78), (24, none, KD78)]⟩)], fun v => F34_2 k k v.1.1 v.1.2.1 v.2.1 v.2.2.1 v.2.2.2.1 v.2.2.2.2.1 v.2.2.2.2.2.1⟩
def F34_3 (k : Nat) : Nat → Int → Int → TY34 → TY34 → TY34 → (List Bool) → (List Bool) → (List Int) → Option ((Unit × (TY34 × TY34 × TY34 × (List Int) × Unit)))
 | 0, _, _, _, _, _, _, _, _ => none
 | n + 1, t5, t15, c2, c4, c13, c22, c24, c134 =>
  bif (decide (t15 < t5)) then
   if 0 ≤ t15 ∧ t15 < ((List.length c134 : Nat) : Int) then
    if 0 ≤ t15 ∧ t15 < ((List.length c22 : Nat) : Int) then
     bif (List.getD c22 (Int.toNat t15) false) then
      if 0 ≤ t15 ∧ t15 < ((List.length c24 : Nat) : Int) then
       bif (List.getD c24 (Int.toNat t15) false) then
        if 0 ≤ t15 ∧ t15 < ((List.length (List.set c134 (Int.toNat t15) (-1 : Int)) : Nat) : Int) then
         let x60 := (List.set (List.set c134 (Int.toNat t15) (-1 : Int)) (Int.toNat t15) ((List.length c13.1 : Nat) : Int))
         if 0 ≤ t15 ∧ t15 < ((List.length c2.1 : Nat) : Int) then
          if 0 ≤ t15 ∧ t15 < ((List.length c2.2.1 : Nat) : Int) then
           if 0 ≤ t15 ∧ t15 < ((List.length c2.2.2.1 : Nat) : Int) then
            let x61 := (List.getD c2.2.2.1 (Int.toNat t15) (0 : Int))
            let x62 := (List.set (List.replicate 1 (0 : Int)) 0 (List.getD c2.1 (Int.toNat t15) (0 : Int)))
            if (List.length c13.1 + List.length x62) * (8 * 2) ≤ 281474976710656 ∧ List.length c13.1 + List.length x62 ≤ 9223372036854775807 then
             let x63 := (List.set (List.replicate 1 (0 : Int)) 0 (List.getD c2.2.1 (Int.toNat t15) (0 : Int)))
             if (List.length c13.2.1 + List.length x63) * (8 * 2) ≤ 281474976710656 ∧ List.length c13.2.1 + List.length x63 ≤ 9223372036854775807 then
              let x64 := (List.set (List.replicate 1 (0 : Int)) 0 x61)
              if (List.length c13.2.2.1 + List.length x64) * (8 * 2) ≤ 281474976710656 ∧ List.length c13.2.2.1 + List.length x64 ≤ 9223372036854775807 then
               (F34_3 k n t5 (IntKind.wrap .i64 (t15 + (1 : Int))) c2 c4 ((c13.1 ++ x62), ((c13.2.1 ++ x63), ((c13.2.2.1 ++ x64), c13.2.2.2))) c22 c24 x60).bind some
              else none
             else none
            else none
           else none
          else none
         else none
        else none
       else
        (F34_3 k n t5 (IntKind.wrap .i64 (t15 + (1 : Int))) c2 c4 c13 c22 c24 (List.set c134 (Int.toNat t15) (-1 : Int))).bind some
      else none
     else
      (F34_3 k n t5 (IntKind.wrap .i64 (t15 + (1 : Int))) c2 c4 c13 c22 c24 (List.set c134 (Int.toNat t15) (-1 : Int))).bind some
    else none
   else none
  else
   some ((), (c2, c4, c13, c134, ()))
def fr34_3 (k : Nat) : Frag := ⟨⟨[], [(2, .ptr 2 []), (4, .ptr 4 []), (5, .val (.int .i64)), (6, .at 22 []), (7, .at 24 []), (13, .ptr 13 []), (14, .at 134 []), (15, .val (.int .i64))], [(2, some 65, KD15), (4, some 65, KD16), (13, some 65, KD16), (22, none, KD78), (24, none, KD78), (134, none, KD71)]⟩, [(.exit 6, ⟨[], [(2, .ptr 2 []), (4, .ptr 4 []), (13, .ptr 13 []), (14, .at 134 [])], [(2, some 65, KD15), (4, some 65, KD16), (13, some 65, KD16), (134, none, KD71)]⟩)], fun v => F34_3 k k v.1.1 v.1.2.1 v.2.1 v.2.2.1 v.2.2.2.1 v.2.2.2.2.1 v.2.2.2.2.2.1 v.2.2.2.2.2.2.1⟩
def F34_4 (k : Nat) : Nat → Int → TY34 → TY34 → TY34 → (List Int) → Option TY17
 | 0, _, _, _, _, _ => none
 | n + 1, t16, c2, c4, c13, c134 =>
  let x76 := (decide (t16 < ((List.length c2.2.2.2.1 : Nat) : Int)))
  bif x76 then
   if 0 ≤ t16 ∧ t16 < ((List.length c2.2.2.2.1 : Nat) : Int) then
    let x77 := (List.getD c2.2.2.2.1 (Int.toNat t16) ((0 : Int), ((0 : Int), ((0 : Int), ()))))
    if 0 ≤ x77.1 ∧ x77.1 < ((List.length c134 : Nat) : Int) then
     let x78 := (decide ((List.getD c134 (Int.toNat x77.1) (0 : Int)) ≥ (0 : Int)))
     bif x78 then
      if 0 ≤ x77.2.1 ∧ x77.2.1 < ((List.length c134 : Nat) : Int) then
       let x79 := (List.getD c134 (Int.toNat x77.2.1) (0 : Int))
       bif (decide (x79 ≥ (0 : Int))) then
        if 0 ≤ x77.1 ∧ x77.1 < ((List.length c134 : Nat) : Int) then
         if 0 ≤ x77.2.1 ∧ x77.2.1 < ((List.length c134 : Nat) : Int) then
          let x80 := (List.getD c134 (Int.toNat x77.2.1) (0 : Int))
          let x81 := (List.set (List.replicate 1 ((0 : Int), ((0 : Int), ((0 : Int), ())))) 0 ((List.getD c134 (Int.toNat x77.1) (0 : Int)), (x80, (x77.2.2.1, ()))))
          if (List.length c13.2.2.2.1 + List.length x81) * (24 * 2) ≤ 281474976710656 ∧ List.length c13.2.2.2.1 + List.length x81 ≤ 9223372036854775807 then
           (F34_4 k n (IntKind.wrap .i64 (t16 + (1 : Int))) c2 c4 (c13.1, (c13.2.1, (c13.2.2.1, ((c13.2.2.2.1 ++ x81), c13.2.2.2.2)))) c134).bind some
          else none
         else none
        else none
       else
        (F34_4 k n (IntKind.wrap .i64 (t16 + (1 : Int))) c2 c4 c13 c134).bind some
      else none
     else
      (F34_4 k n (IntKind.wrap .i64 (t16 + (1 : Int))) c2 c4 c13 c134).bind some
    else none
   else none
  else
   some ((), (c4, c13, ()))
def fr34_4 (k : Nat) : Frag := ⟨⟨[], [(2, .ptr 2 []), (4, .ptr 4 []), (13, .ptr 13 []), (14, .at 134 []), (16, .val (.int .i64))], [(2, some 65, KD15), (4, some 65, KD16), (13, some 65, KD16), (134, none, KD71)]⟩, [(.exit 8, ⟨[], [(4, .ptr 4 []), (13, .ptr 13 [])], [(4, some 65, KD16), (13, some 65, KD16)]⟩)], fun v => F34_4 k k v.1.1 v.2.1 v.2.2.1 v.2.2.2.1 v.2.2.2.2.1⟩
def F34 (k : Nat) (a0 : TY34) (a1 : (List (List Bool))) : Option TY28 :=
 if (0 ≤ ((List.length a0.1 : Nat) : Int) ∧ ((List.length a0.1 : Nat) : Int) < ((List.length a0.1 : Nat) : Int) + 1) ∧ ((List.length a0.1 : Nat) : Int) ≤ 9223372036854775807 ∧ ((1 : Nat) : Int) * ((List.length a0.1 : Nat) : Int) ≤ 281474976710656 then
  let x1 := (List.replicate (Int.toNat ((List.length a0.1 : Nat) : Int)) false)
  if (0 ≤ ((List.length a0.1 : Nat) : Int) ∧ ((List.length a0.1 : Nat) : Int) < ((List.length a0.1 : Nat) : Int) + 1) ∧ ((List.length a0.1 : Nat) : Int) ≤ 9223372036854775807 ∧ ((1 : Nat) : Int) * ((List.length a0.1 : Nat) : Int) ≤ 281474976710656 then
   let x2 := (List.replicate (Int.toNat ((List.length a0.1 : Nat) : Int)) false)
   if (0 ≤ ((List.length a0.1 : Nat) : Int) ∧ ((List.length a0.1 : Nat) : Int) < ((List.length a0.1 : Nat) : Int) + 1) ∧ ((List.length a0.1 : Nat) : Int) ≤ 9223372036854775807 ∧ ((1 : Nat) : Int) * ((List.length a0.1 : Nat) : Int) ≤ 281474976710656 then
    let x3 := (List.replicate (Int.toNat ((List.length a0.1 : Nat) : Int)) false)
    (F34_0 k k a1 ((List.length a0.1 : Nat) : Int) (0 : Int) a0 (([] : (List Int)), (([] : (List Int)), (([] : (List Int)), (([] : TY63), ((0 : Int), ()))))) x1 x2 x3).bind fun r22 =>
    let y23 := r22.1.1
    let y24 := r22.2.1
    let y25 := r22.2.2.1
    let y26 := r22.2.2.2.1
    let y27 := r22.2.2.2.2.1
    let y28 := r22.2.2.2.2.2.1
    (F34_2 k k y23 true y24 y25 y26 y27 y28).bind fun r49 =>
    let y50 := r49.1.1
    let y51 := r49.2.1
    let y52 := r49.2.2.1
    let y53 := r49.2.2.2.1
    let y54 := r49.2.2.2.2.1
    if (0 ≤ y50 ∧ y50 < y50 + 1) ∧ y50 ≤ 9223372036854775807 ∧ ((8 : Nat) : Int) * y50 ≤ 281474976710656 then
     (F34_3 k k y50 (0 : Int) y51 y52 (([] : (List Int)), (([] : (List Int)), (([] : (List Int)), (([] : TY63), (y51.2.2.2.2.1, ()))))) y53 y54 (List.replicate (Int.toNat y50) (0 : Int))).bind fun r65 =>
     let y66 := r65.2.1
     let y67 := r65.2.2.1
     let y68 := r65.2.2.2.1
     let y69 := r65.2.2.2.2.1
     (F34_4 k k (0 : Int) y66 y67 y68 y69).bind fun r82 =>
     let y84 := r82.2.2.1
     some ((y84, ()), ())
    else none
   else none
  else none
 else none
def sp34 (k : Nat) : Spec := ⟨[.val KD15, .val KD57], [.own KD16], fun x => F34 k x.1 x.2.1⟩
def lim34 : Lim := ⟨234, 2, false, false, [], []⟩
def cfg34 (k : Nat) : Nat → Option Spec := cfgL [(58, sp58 k)]
noncomputable def co34_0 : Code := codeAt (bodyOf Try.f34) [.r, .r, .r, .r, .l, .r, .s]
noncomputable def cb34_0 : Code := codeAt (bodyOf Try.f34) [.r, .r, .r, .r, .l, .r, .s, .b]
noncomputable def co34_1 : Code := codeAt (bodyOf Try.f34) [.r, .r, .r, .r, .r, .l, .r, .s, .b, .r, .s, .r, .r, .s]
noncomputable def cb34_1 : Code := codeAt (bodyOf Try.f34) [.r, .r, .r, .r, .r, .l, .r, .s, .b, .r, .s, .r, .r, .s, .b]
noncomputable def co34_2 : Code := codeAt (bodyOf Try.f34) [.r, .r, .r, .r, .r, .l, .r, .s]
noncomputable def cb34_2 : Code := codeAt (bodyOf Try.f34) [.r, .r, .r, .r, .r, .l, .r, .s, .b]
noncomputable def co34_3 : Code := codeAt (bodyOf Try.f34) [.r, .r, .r, .r, .r, .r, .r, .r, .l, .r, .s]
noncomputable def cb34_3 : Code := codeAt (bodyOf Try.f34) [.r, .r, .r, .r, .r, .r, .r, .r, .l, .r, .s, .b]
noncomputable def co34_4 : Code := codeAt (bodyOf Try.f34) [.r, .r, .r, .r, .r, .r, .r, .r, .r, .l, .r, .s]
noncomputable def cb34_4 : Code := codeAt (bodyOf Try.f34) [.r, .r, .r, .r, .r, .r, .r, .r, .r, .l, .r, .s, .b]
noncomputable def co34 : Code := codeAt (bodyOf Try.f34) []
theorem cfg34_ok (k : Nat) : CfgOK Try.prog (cfg34 k) := cfgL_cons (v58 k) (cfgL_nil)
noncomputable def bo34_0 (k m : Nat) (v : (fr34_0 k).sh.V) := body Try.prog (stepper Try.prog (cfg34 k) lim34) .go cb34_0 ((fr34_0 k).sh.st v) (loopK (fr34_0 k) fun v => F34_0 k m v.1.1 v.1.2.1 v.1.2.2.1 v.2.1 v.2.2.1 v.2.2.2.1 v.2.2.2.2.1 v.2.2.2.2.2.1)
theorem pp34_0 (k m : Nat) (v : (fr34_0 k).sh.V) : F34_0 k (m + 1) v.1.1 v.1.2.1 v.1.2.2.1 v.2.1 v.2.2.1 v.2.2.2.1 v.2.2.2.2.1 v.2.2.2.2.2.1 = (bo34_0 k m v).eval ∧ (bo34_0 k m v).left = (bo34_0 k m v).right := ⟨by kernel_rfl, by kernel_rfl⟩
theorem fr34_0_ok (k : Nat) : FragOK Try.prog lim34 (fr34_0 k) co34_0 :=
 frag_cast (by kernel_rfl) (loop_ok (cfg34_ok k) (planOK_go _) (fun m v => F34_0 k m v.1.1 v.1.2.1 v.1.2.2.1 v.2.1 v.2.2.1 v.2.2.2.1 v.2.2.2.2.1 v.2.2.2.2.2.1) k (fun _ => rfl) (fun _ => rfl) (pp34_0 k))
noncomputable def bo34_1 (k m : Nat) (v : (fr34_1 k).sh.V) := body Try.prog (stepper Try.prog (cfg34 k) lim34) .go cb34_1 ((fr34_1 k).sh.st v) (loopK (fr34_1 k) fun v => F34_1 k m v.1.1 v.1.2.1 v.1.2.2.1 v.2.1 v.2.2.1 v.2.2.2.1 v.2.2.2.2.1 v.2.2.2.2.2.1)
theorem pp34_1 (k m : Nat) (v : (fr34_1 k).sh.V) : F34_1 k (m + 1) v.1.1 v.1.2.1 v.1.2.2.1 v.2.1 v.2.2.1 v.2.2.2.1 v.2.2.2.2.1 v.2.2.2.2.2.1 = (bo34_1 k m v).eval ∧ (bo34_1 k m v).left = (bo34_1 k m v).right := ⟨by kernel_rfl, by kernel_rfl⟩
theorem fr34_1_ok (k : Nat) : FragOK Try.prog lim34 (fr34_1 k) co34_1 :=
 frag_cast (by kernel_rfl) (loop_ok (cfg34_ok k) (planOK_go _) (fun m v => F34_1 k m v.1.1 v.1.2.1 v.1.2.2.1 v.2.1 v.2.2.1 v.2.2.2.1 v.2.2.2.2.1 v.2.2.2.2.2.1) k (fun _ => rfl) (fun _ => rfl) (pp34_1 k))
def pl34_2 (k : Nat) : Plan := (.seq .go (.sub (.seq .go (.seq .go (.sub (.frag (fr34_1 k)))))))
theorem pq34_2 (k : Nat) : PlanOK Try.prog lim34 (pl34_2 k) cb34_2 = (PlanOK Try.prog lim34 .go (codeAt (bodyOf Try.f34) [.r, .r, .r, .r, .r, .l, .r, .s, .b, .l]) ∧ (PlanOK Try.prog lim34 .go (codeAt (bodyOf Try.f34) [.r, .r, .r, .r, .r, .l, .r, .s, .b, .r, .s, .l]) ∧ (PlanOK Try.prog lim34 .go (codeAt (bodyOf Try.f34) [.r, .r, .r, .r, .r, .l, .r, .s, .b, .r, .s, .r, .l]) ∧ FragOK Try.prog lim34 (fr34_1 k) co34_1))) := by kernel_rfl
noncomputable def bo34_2 (k m : Nat) (v : (fr34_2 k).sh.V) := body Try.prog (stepper Try.prog (cfg34 k) lim34) (pl34_2 k) cb34_2 ((fr34_2 k).sh.st v) (loopK (fr34_2 k) fun v => F34_2 k m v.1.1 v.1.2.1 v.2.1 v.2.2.1 v.2.2.2.1 v.2.2.2.2.1 v.2.2.2.2.2.1)
theorem pp34_2 (k m : Nat) (v : (fr34_2 k).sh.V) : F34_2 k (m + 1) v.1.1 v.1.2.1 v.2.1 v.2.2.1 v.2.2.2.1 v.2.2.2.2.1 v.2.2.2.2.2.1 = (bo34_2 k m v).eval ∧ (bo34_2 k m v).left = (bo34_2 k m v).right := ⟨by kernel_rfl, by kernel_rfl⟩
theorem fr34_2_ok (k : Nat) : FragOK Try.prog lim34 (fr34_2 k) co34_2 :=
 frag_cast (by kernel_rfl) (loop_ok (cfg34_ok k) (Eq.mpr (pq34_2 k) ⟨(planOK_go _), ⟨(planOK_go _), ⟨(planOK_go _), (fr34_1_ok k)⟩⟩⟩) (fun m v => F34_2 k m v.1.1 v.1.2.1 v.2.1 v.2.2.1 v.2.2.2.1 v.2.2.2.2.1 v.2.2.2.2.2.1) k (fun _ => rfl) (fun _ => rfl) (pp34_2 k))
noncomputable def bo34_3 (k m : Nat) (v : (fr34_3 k).sh.V) := body Try.prog (stepper Try.prog (cfg34 k) lim34) .go cb34_3 ((fr34_3 k).sh.st v) (loopK (fr34_3 k) fun v => F34_3 k m v.1.1 v.1.2.1 v.2.1 v.2.2.1 v.2.2.2.1 v.2.2.2.2.1 v.2.2.2.2.2.1 v.2.2.2.2.2.2.1)
theorem pp34_3 (k m : Nat) (v : (fr34_3 k).sh.V) : F34_3 k (m + 1) v.1.1 v.1.2.1 v.2.1 v.2.2.1 v.2.2.2.1 v.2.2.2.2.1 v.2.2.2.2.2.1 v.2.2.2.2.2.2.1 = (bo34_3 k m v).eval ∧ (bo34_3 k m v).left = (bo34_3 k m v).right := ⟨by kernel_rfl, by kernel_rfl⟩
theorem fr34_3_ok (k : Nat) : FragOK Try.prog lim34 (fr34_3 k) co34_3 :=
 frag_cast (by kernel_rfl) (loop_ok (cfg34_ok k) (planOK_go _) (fun m v => F34_3 k m v.1.1 v.1.2.1 v.2.1 v.2.2.1 v.2.2.2.1 v.2.2.2.2.1 v.2.2.2.2.2.1 v.2.2.2.2.2.2.1) k (fun _ => rfl) (fun _ => rfl) (pp34_3 k))
noncomputable def bo34_4 (k m : Nat) (v : (fr34_4 k).sh.V) := body Try.prog (stepper Try.prog (cfg34 k) lim34) .go cb34_4 ((fr34_4 k).sh.st v) (loopK (fr34_4 k) fun v => F34_4 k m v.1.1 v.2.1 v.2.2.1 v.2.2.2.1 v.2.2.2.2.1)
theorem pp34_4 (k m : Nat) (v : (fr34_4 k).sh.V) : F34_4 k (m + 1) v.1.1 v.2.1 v.2.2.1 v.2.2.2.1 v.2.2.2.2.1 = (bo34_4 k m v).eval ∧ (bo34_4 k m v).left = (bo34_4 k m v).right := ⟨by kernel_rfl, by kernel_rfl⟩
theorem fr34_4_ok (k : Nat) : FragOK Try.prog lim34 (fr34_4 k) co34_4 :=
 frag_cast (by kernel_rfl) (loop_ok (cfg34_ok k) (planOK_go _) (fun m v => F34_4 k m v.1.1 v.2.1 v.2.2.1 v.2.2.2.1 v.2.2.2.2.1) k (fun _ => rfl) (fun _ => rfl) (pp34_4 k))
def pl34 (k : Nat) : Plan := (.seq .go (.seq .go (.seq .go (.seq .go (.seq (.seq .go (.sub (.frag (fr34_0 k)))) (.seq (.seq .go (.sub (.frag (fr34_2 k)))) (.seq .go (.seq .go (.seq (.seq .go (.sub (.frag (fr34_3 k)))) (.seq (.seq .go (.sub (.frag (fr34_4 k)))) .go))))))))))
theorem pq34 (k : Nat) : PlanOK Try.prog lim34 (pl34 k) co34 = (PlanOK Try.prog lim34 .go (codeAt (bodyOf Try.f34) [.l]) ∧ (PlanOK Try.prog lim34 .go (codeAt (bodyOf Try.f34) [.r, .l]) ∧ (PlanOK Try.prog lim34 .go (codeAt (bodyOf Try.f34) [.r, .r, .l]) ∧ (PlanOK Try.prog lim34 .go (codeAt (bodyOf Try.f34) [.r, .r, .r, .l]) ∧ ((PlanOK Try.prog lim34 .go (codeAt (bodyOf Try.f34) [.r, .r, .r, .r, .l, .l]) ∧ FragOK Try.prog lim34 (fr34_0 k) co34_0) ∧ ((PlanOK Try.prog lim34 .go (codeAt (bodyOf Try.f34) [.r, .r, .r, .r, .r, .l, .l]) ∧ FragOK Try.prog lim34 (fr34_2 k) co34_2) ∧ (PlanOK Try.prog lim34 .go (codeAt (bodyOf Try.f34) [.r, .r, .r, .r, .r, .r, .l]) ∧ (PlanOK Try.prog lim34 .go (codeAt (bodyOf Try.f34) [.r, .r, .r, .r, .r, .r, .r, .l]) ∧ ((PlanOK Try.prog lim34 .go (codeAt (bodyOf Try.f34) [.r, .r, .r, .r, .r, .r, .r, .r, .l, .l]) ∧ FragOK Try.prog lim34 (fr34_3 k) co34_3) ∧ ((PlanOK Try.prog lim34 .go (codeAt (bodyOf Try.f34) [.r, .r, .r, .r, .r, .r, .r, .r, .r, .l, .l]) ∧ FragOK Try.prog lim34 (fr34_4 k) co34_4) ∧ PlanOK Try.prog lim34 .go (codeAt (bodyOf Try.f34) [.r, .r, .r, .r, .r, .r, .r, .r, .r, .r]))))))))))) := by kernel_rfl
noncomputable def bo34 (k : Nat) (x : AT (sp34 k).ps) := fnT Try.prog (cfg34 k) lim34 Try.f34 (bodyOf Try.f34) (pl34 k) (sp34 k) x
theorem vv34 (k : Nat) (x : AT (sp34 k).ps) : (sp34 k).impl x = (bo34 k x).eval ∧ (bo34 k x).left = (bo34 k x).right := ⟨by kernel_rfl, by kernel_rfl⟩
theorem v34 (k : Nat) : Callable Try.prog 34 ∧ Valid Try.prog 34 (sp34 k) :=
 fn_of (n := lim34) (fn := Try.f34) (p := (pl34 k)) (cfg34_ok k) (by kernel_rfl) (Eq.mpr (pq34 k) ⟨(planOK_go _), ⟨(planOK_go _), ⟨(planOK_go _), ⟨(planOK_go _), ⟨⟨(planOK_go _), (fr34_0_ok k)⟩, ⟨⟨(planOK_go _), (fr34_2_ok k)⟩, ⟨(planOK_go _), ⟨(planOK_go _), ⟨⟨(planOK_go _), (fr34_3_ok k)⟩, ⟨⟨(planOK_go _), (fr34_4_ok k)⟩, (planOK_go _)⟩⟩⟩⟩⟩⟩⟩⟩⟩⟩) (vv34 k)
def F14_0 (k : Nat) : Nat → Int → TY4 → TY4 → Option (TY3 ⊕ ((Bool × Unit) × (TY4 × Unit)))
 | 0, _, _, _ => none
 | n + 1, t10, c6, c8 =>
  let x25 := (decide (t10 < ((List.length c8.1.2.1 : Nat) : Int)))
  bif x25 then
   if 0 ≤ t10 ∧ t10 < ((List.length c8.1.2.1 : Nat) : Int) then
    let x26 := (List.getD c8.1.2.1 (Int.toNat t10) ((0 : Int), ((0 : Int), ((Tree.mk ((0 : Int), ((0 : Int), ((0 : Int), ((0 : Int), (ByteArray.empty, ()))))) []), ((Tree.mk ((0 : Int), ((0 : Int), ((0 : Int), ((0 : Int), (ByteArray.empty, ()))))) []), ())))))
    (F33 k x26.2.2.1 c8.1).bind fun r27 =>
    if 0 ≤ t10 ∧ t10 < ((List.length c8.1.2.1 : Nat) : Int) then
     let x28 := (List.getD c8.1.2.1 (Int.toNat t10) ((0 : Int), ((0 : Int), ((Tree.mk ((0 : Int), ((0 : Int), ((0 : Int), ((0 : Int), (ByteArray.empty, ()))))) []), ((Tree.mk ((0 : Int), ((0 : Int), ((0 : Int), ((0 : Int), (ByteArray.empty, ()))))) []), ())))))
     (F33 k x28.2.2.2.1 c8.1).bind fun r29 =>
     bif (!r27.1.2.1) then
      some (.inr ((false, ()), (c8, ())))
     else
      bif (!r29.1.2.1) then
       some (.inr ((false, ()), (c8, ())))
      else
       (F34 k r27.1.1 c8.2.2.2.1).bind fun r30 =>
       let x31 := (List.set (List.replicate 1 (([] : (List Int)), (([] : (List Int)), (([] : (List Int)), (([] : TY63), ((0 : Int), ())))))) 0 r30.1.1)
       if (List.length c8.2.2.2.2.1 + List.length x31) * (104 * 2) ≤ 281474976710656 ∧ List.length c8.2.2.2.2.1 + List.length x31 ≤ 9223372036854775807 then
        (F34 k r29.1.1 c8.2.2.2.1).bind fun r32 =>
        let x33 := (List.set (List.replicate 1 (([] : (List Int)), (([] : (List Int)), (([] : (List Int)), (([] : TY63), ((0 : Int), ())))))) 0 r32.1.1)
        if (List.length c8.2.2.2.2.2.1 + List.length x33) * (104 * 2) ≤ 281474976710656 ∧ List.length c8.2.2.2.2.2.1 + List.length x33 ≤ 9223372036854775807 then
         (F14_0 k n (IntKind.wrap .i64 (t10 + (1 : Int))) c6 (c8.1, (c8.2.1, (c8.2.2.1, (c8.2.2.2.1, ((c8.2.2.2.2.1 ++ x31), ((c8.2.2.2.2.2.1 ++ x33), c8.2.2.2.2.2.2))))))).bind some
        else none
       else none
    else none
   else none
  else
   some (.inl ((), (c6, c8, ())))
def fr14_0 (k : Nat) : Frag := ⟨⟨[], [(6, .ptr 6 []), (8, .ptr 8 []), (10, .val (.int .i64))], [(6, some 33, KD1), (8, some 33, KD0)]⟩, [(.exit 0, ⟨[], [(6, .ptr 6 []), (8, .ptr 8 [])], [(6, some 33, KD1), (8, some 33, KD0)]⟩), (.ret, ⟨[], [(6, .ptr 6 []), (7, .val .bool)], [(6, some 33, KD0)]⟩)], fun v => F14_0 k k v.1.1 v.2.1 v.2.2.1⟩
def F14 (k : Nat) (a0 : TY64) (a1 : (List Int)) (a2 : (List Int)) : Option ((TY4 × Bool × Unit) × Unit) :=
 let x1 := ([] : TY43)
 let x2 := ([] : TY25)
 let x3 := ([] : TY30)
 let x4 := ([] : TY30)
 (F28 k a0 a1 a2).bind fun r5 =>
 let x6 := ([] : TY30)
 let x7 := ([] : TY30)
 (F29 k r5.1.1).bind fun r12 =>
 (F30 k r12.1.1).bind fun r13 =>
 (F31 k r12.1.1 r13.1.1 r13.1.2.1).bind fun r14 =>
 (F32 k r13.1.2.1).bind fun r15 =>
 (F14_0 k k (0 : Int) ((x1, (x2, ())), (([] : (List Int)), (([] : (List Int)), (([] : (List (List Bool))), (x3, (x4, ((0 : Int), ()))))))) (r5.1.1, (r13.1.1, (r13.1.2.1, (r14.1.1, (x6, (x7, (r15.1.1, ())))))))).bind fun r34 =>
 match r34 with
 | .inl r35 =>
  let y37 := r35.2.2.1
  some ((y37, true, ()), ())
 | .inr r35 =>
  let y38 := r35.1.1
  let y39 := r35.2.1
  some ((y39, y38, ()), ())
def sp14 (k : Nat) : Spec := ⟨[.val KD54, .val KD68, .val KD68], [.own KD0, .val .bool], fun x => F14 k x.1 x.2.1 x.2.2.1⟩
def lim14 : Lim := ⟨101, 3, false, false, [18, 87, 95], [(19, KD0)]⟩
def cfg14 (k : Nat) : Nat → Option Spec := cfgL [(28, sp28 k), (29, sp29 k), (30, sp30 k), (31, sp31 k), (32, sp32 k), (33, sp33 k), (34, sp34 k)]
noncomputable def co14_0 : Code := codeAt (bodyOf Try.f14) [.r, .r, .r, .r, .r, .r, .l, .r, .s]
noncomputable def cb14_0 : Code := codeAt (bodyOf Try.f14) [.r, .r, .r, .r, .r, .r, .l, .r, .s, .b]
noncomputable def co14 : Code := codeAt (bodyOf Try.f14) []
theorem cfg14_ok (k : Nat) : CfgOK Try.prog (cfg14 k) := cfgL_cons (v28 k) (cfgL_cons (v29 k) (cfgL_cons (v30 k) (cfgL_cons (v31 k) (cfgL_cons (v32 k) (cfgL_cons (v33 k) (cfgL_cons (v34 k) (cfgL_nil)))))))
noncomputable def bo14_0 (k m : Nat) (v : (fr14_0 k).sh.V) := body Try.prog (stepper Try.prog (cfg14 k) lim14) .go cb14_0 ((fr14_0 k).sh.st v) (loopK (fr14_0 k) fun v => F14_0 k m v.1.1 v.2.1 v.2.2.1)
theorem pp14_0 (k m : Nat) (v : (fr14_0 k).sh.V) : F14_0 k (m + 1) v.1.1 v.2.1 v.2.2.1 = (bo14_0 k m v).eval ∧ (bo14_0 k m v).left = (bo14_0 k m v).right := ⟨by kernel_rfl, by kernel_rfl⟩
theorem fr14_0_ok (k : Nat) : FragOK Try.prog lim14 (fr14_0 k) co14_0 :=
 frag_cast (by kernel_rfl) (loop_ok (cfg14_ok k) (planOK_go _) (fun m v => F14_0 k m v.1.1 v.2.1 v.2.2.1) k (fun _ => rfl) (fun _ => rfl) (pp14_0 k))
def pl14 (k : Nat) : Plan := (.seq .go (.seq .go (.seq .go (.seq .go (.seq .go (.seq .go (.seq (.seq .go (.sub (.frag (fr14_0 k)))) .go)))))))
theorem pq14 (k : Nat) : PlanOK Try.prog lim14 (pl14 k) co14 = (PlanOK Try.prog lim14 .go (codeAt (bodyOf Try.f14) [.l]) ∧ (PlanOK Try.prog lim14 .go (codeAt (bodyOf Try.f14) [.r, .l]) ∧ (PlanOK Try.prog lim14 .go (codeAt (bodyOf Try.f14) [.r, .r, .l]) ∧ (PlanOK Try.prog lim14 .go (codeAt (bodyOf Try.f14) [.r, .r, .r, .l]) ∧ (PlanOK Try.prog lim14 .go (codeAt (bodyOf Try.f14) [.r, .r, .r, .r, .l]) ∧ (PlanOK Try.prog lim14 .go (codeAt (bodyOf Try.f14) [.r, .r, .r, .r, .r, .l]) ∧ ((PlanOK Try.prog lim14 .go (codeAt (bodyOf Try.f14) [.r, .r, .r, .r, .r, .r, .l, .l]) ∧ FragOK Try.prog lim14 (fr14_0 k) co14_0) ∧ PlanOK Try.prog lim14 .go (codeAt (bodyOf Try.f14) [.r, .r, .r, .r, .r, .r, .r])))))))) := by kernel_rfl
noncomputable def bo14 (k : Nat) (x : AT (sp14 k).ps) := fnT Try.prog (cfg14 k) lim14 Try.f14 (bodyOf Try.f14) (pl14 k) (sp14 k) x
theorem vv14 (k : Nat) (x : AT (sp14 k).ps) : (sp14 k).impl x = (bo14 k x).eval ∧ (bo14 k x).left = (bo14 k x).right := ⟨by kernel_rfl, by kernel_rfl⟩
theorem v14 (k : Nat) : Callable Try.prog 14 ∧ Valid Try.prog 14 (sp14 k) :=
 fn_of (n := lim14) (fn := Try.f14) (p := (pl14 k)) (cfg14_ok k) (by kernel_rfl) (Eq.mpr (pq14 k) ⟨(planOK_go _), ⟨(planOK_go _), ⟨(planOK_go _), ⟨(planOK_go _), ⟨(planOK_go _), ⟨(planOK_go _), ⟨⟨(planOK_go _), (fr14_0_ok k)⟩, (planOK_go _)⟩⟩⟩⟩⟩⟩⟩) (vv14 k)
def F63 (k : Nat) (a0 : TY34) (a1 : (List (List Bool))) (a2 : Int) (a3 : Int) : Option TY79 :=
 if 0 ≤ a2 ∧ a2 < ((List.length a0.1 : Nat) : Int) then
  let x1 := (decide ((List.getD a0.1 (Int.toNat a2) (0 : Int)) < (0 : Int)))
  bif x1 then
   some ((true, ()), ())
  else
   if 0 ≤ a2 ∧ a2 < ((List.length a0.1 : Nat) : Int) then
    if 0 ≤ (List.getD a0.1 (Int.toNat a2) (0 : Int)) ∧ (List.getD a0.1 (Int.toNat a2) (0 : Int)) < ((List.length a1 : Nat) : Int) then
     let x2 := (List.getD a1 (Int.toNat (List.getD a0.1 (Int.toNat a2) (0 : Int))) ([] : (List Bool)))
     if 0 ≤ a3 ∧ a3 < ((List.length x2 : Nat) : Int) then
      some (((List.getD x2 (Int.toNat a3) false), ()), ())
     else none
    else none
   else none
 else none
def sp63 (k : Nat) : Spec := ⟨[.val KD15, .val KD57, .val (.int .i64), .val (.int .i64)], [.val .bool], fun x => F63 k x.1 x.2.1 x.2.2.1 x.2.2.2.1⟩
def lim63 : Lim := ⟨28, 4, false, false, [], []⟩
def cfg63 (k : Nat) : Nat → Option Spec := cfgL []
noncomputable def co63 : Code := codeAt (bodyOf Try.f63) []
theorem cfg63_ok (k : Nat) : CfgOK Try.prog (cfg63 k) := cfgL_nil
noncomputable def bo63 (k : Nat) (x : AT (sp63 k).ps) := fnT Try.prog (cfg63 k) lim63 Try.f63 (bodyOf Try.f63) .go (sp63 k) x
theorem vv63 (k : Nat) (x : AT (sp63 k).ps) : (sp63 k).impl x = (bo63 k x).eval ∧ (bo63 k x).left = (bo63 k x).right := ⟨by kernel_rfl, by kernel_rfl⟩
theorem v63 (k : Nat) : Callable Try.prog 63 ∧ Valid Try.prog 63 (sp63 k) :=
 fn_of (n := lim63) (fn := Try.f63) (p := .go) (cfg63_ok k) (by kernel_rfl) (planOK_go _) (vv63 k)
def F43_0 (k : Nat) : Nat → TY30 → (List (List Bool)) → (List (List Bool)) → Int → Int → Int → TY34 → (List Bool) → (List (List Bool)) → Option ((TY23 × (TY34 × (List Bool) × (List (List Bool)) × Unit)))
 | 0, _, _, _, _, _, _, _, _, _ => none
 | n + 1, t0, t1, t2, t3, t10, t13, c11, c29, c2000009 =>
  let x4 := (decide (t13 < ((List.length c29 : Nat) : Int)))
  bif x4 then
   (F63 k c11 t1 t13 t3).bind fun r5 =>
   bif r5.1.1 then
    if 0 ≤ t13 ∧ t13 < ((List.length c11.2.2.1 : Nat) : Int) then
     let x6 := (List.getD c11.2.2.1 (Int.toNat t13) (0 : Int))
     if 0 ≤ t13 ∧ t13 < ((List.length c29 : Nat) : Int) then
      let x7 := (List.set c29 (Int.toNat t13) (decide (x6 < (1152921504606846976 : Int))))
      (F43_0 k n t0 t1 t2 t3 t10 (IntKind.wrap .i64 (t13 + (1 : Int))) c11 x7 c2000009).bind some
     else none
    else none
   else
    if 0 ≤ t13 ∧ t13 < ((List.length c29 : Nat) : Int) then
     (F43_0 k n t0 t1 t2 t3 t10 (IntKind.wrap .i64 (t13 + (1 : Int))) c11 (List.set c29 (Int.toNat t13) false) c2000009).bind some
    else none
  else
   some ((t0, t1, t2, t3, t10, ()), (c11, c29, c2000009, ()))
def fr43_0 (k : Nat) : Frag := ⟨⟨[(9, KD59)], [(0, .val KD11), (1, .val KD57), (2, .val KD57), (3, .val (.int .i64)), (9, .at 2000009 []), (10, .val (.int .i64)), (11, .ptr 11 []), (12, .at 29 []), (13, .val (.int .i64))], [(11, some 65, KD15), (29, none, KD78), (2000009, none, KD59)]⟩, [(.exit 2, ⟨[], [(0, .val KD11), (1, .val KD57), (2, .val KD57), (3, .val (.int .i64)), (9, .at 2000009 []), (10, .val (.int .i64)), (11, .ptr 11 []), (12, .at 29 [])], [(11, some 65, KD15), (29, none, KD78), (2000009, none, KD59)]⟩)], fun v => F43_0 k k v.1.1 v.1.2.1 v.1.2.2.1 v.1.2.2.2.1 v.1.2.2.2.2.1 v.1.2.2.2.2.2.1 v.2.1 v.2.2.1 v.2.2.2.1⟩
def F43_1 (k : Nat) : Nat → TY30 → (List (List Bool)) → (List (List Bool)) → Int → Int → Int → TY34 → (List Bool) → (List (List Bool)) → Option ((TY23 × ((List Bool) × (List (List Bool)) × Unit)))
 | 0, _, _, _, _, _, _, _, _, _ => none
 | n + 1, t0, t1, t2, t3, t10, t14, c11, c29, c2000009 =>
  let x17 := (decide (t14 < ((List.length c11.2.2.2.1 : Nat) : Int)))
  bif x17 then
   if 0 ≤ t14 ∧ t14 < ((List.length c11.2.2.2.1 : Nat) : Int) then
    let x18 := (List.getD c11.2.2.2.1 (Int.toNat t14) ((0 : Int), ((0 : Int), ((0 : Int), ()))))
    (F63 k c11 t1 x18.1 t3).bind fun r19 =>
    bif r19.1.1 then
     if 0 ≤ t10 ∧ t10 < ((List.length t2 : Nat) : Int) then
      let x20 := (List.getD t2 (Int.toNat t10) ([] : (List Bool)))
      if 0 ≤ x18.2.1 ∧ x18.2.1 < ((List.length x20 : Nat) : Int) then
       bif (List.getD x20 (Int.toNat x18.2.1) false) then
        if 0 ≤ x18.1 ∧ x18.1 < ((List.length c29 : Nat) : Int) then
         (F43_1 k n t0 t1 t2 t3 t10 (IntKind.wrap .i64 (t14 + (1 : Int))) c11 (List.set c29 (Int.toNat x18.1) true) c2000009).bind some
        else none
       else
        (F43_1 k n t0 t1 t2 t3 t10 (IntKind.wrap .i64 (t14 + (1 : Int))) c11 c29 c2000009).bind some
      else none
     else none
    else
     (F43_1 k n t0 t1 t2 t3 t10 (IntKind.wrap .i64 (t14 + (1 : Int))) c11 c29 c2000009).bind some
   else none
  else
   some ((t0, t1, t2, t3, t10, ()), (c29, c2000009, ()))
def fr43_1 (k : Nat) : Frag := ⟨⟨[(9, KD59)], [(0, .val KD11), (1, .val KD57), (2, .val KD57), (3, .val (.int .i64)), (9, .at 2000009 []), (10, .val (.int .i64)), (11, .ptr 11 []), (12, .at 29 []), (14, .val (.int .i64))], [(11, some 65, KD15), (29, none, KD78), (2000009, none, KD59)]⟩, [(.exit 4, ⟨[], [(0, .val KD11), (1, .val KD57), (2, .val KD57), (3, .val (.int .i64)), (9, .at 2000009 []), (10, .val (.int .i64)), (12, .at 29 [])], [(29, none, KD78), (2000009, none, KD59)]⟩)], fun v => F43_1 k k v.1.1 v.1.2.1 v.1.2.2.1 v.1.2.2.2.1 v.1.2.2.2.2.1 v.1.2.2.2.2.2.1 v.2.1 v.2.2.1 v.2.2.2.1⟩
def F43_2 (k : Nat) : Nat → TY30 → (List (List Bool)) → (List (List Bool)) → Int → Int → (List (List Bool)) → Option ((Unit × ((List (List Bool)) × Unit)))
 | 0, _, _, _, _, _, _ => none
 | n + 1, t0, t1, t2, t3, t10, c2000009 =>
  let x1 := (decide (t10 < ((List.length t0 : Nat) : Int)))
  bif x1 then
   if 0 ≤ t10 ∧ t10 < ((List.length t0 : Nat) : Int) then
    let x2 := (List.getD t0 (Int.toNat t10) (([] : (List Int)), (([] : (List Int)), (([] : (List Int)), (([] : TY63), ((0 : Int), ()))))))
    if (0 ≤ ((List.length x2.1 : Nat) : Int) ∧ ((List.length x2.1 : Nat) : Int) < ((List.length x2.1 : Nat) : Int) + 1) ∧ ((List.length x2.1 : Nat) : Int) ≤ 9223372036854775807 ∧ ((1 : Nat) : Int) * ((List.length x2.1 : Nat) : Int) ≤ 281474976710656 then
     let x3 := (List.replicate (Int.toNat ((List.length x2.1 : Nat) : Int)) false)
     (F43_0 k k t0 t1 t2 t3 t10 (0 : Int) x2 x3 c2000009).bind fun r8 =>
     let y9 := r8.1.1
     let y10 := r8.1.2.1
     let y11 := r8.1.2.2.1
     let y12 := r8.1.2.2.2.1
     let y13 := r8.1.2.2.2.2.1
     let y14 := r8.2.1
     let y15 := r8.2.2.1
     let y16 := r8.2.2.2.1
     (F43_1 k k y9 y10 y11 y12 y13 (0 : Int) y14 y15 y16).bind fun r21 =>
     let y22 := r21.1.1
     let y23 := r21.1.2.1
     let y24 := r21.1.2.2.1
     let y25 := r21.1.2.2.2.1
     let y26 := r21.1.2.2.2.2.1
     let y27 := r21.2.1
     let y28 := r21.2.2.1
     if (List.length y28 + List.length [y27]) * (24 * 2) ≤ 281474976710656 ∧ List.length y28 + List.length [y27] ≤ 9223372036854775807 then
      (F43_2 k n y22 y23 y24 y25 (IntKind.wrap .i64 (y26 + (1 : Int))) (y28 ++ [y27])).bind some
     else none
    else none
   else none
  else
   some ((), (c2000009, ()))
def fr43_2 (k : Nat) : Frag := ⟨⟨[(9, KD59)], [(0, .val KD11), (1, .val KD57), (2, .val KD57), (3, .val (.int .i64)), (9, .at 2000009 []), (10, .val (.int .i64))], [(2000009, none, KD59)]⟩, [(.exit 0, ⟨[(9, KD59)], [(9, .at 2000009 [])], [(2000009, none, KD59)]⟩)], fun v => F43_2 k k v.1.1 v.1.2.1 v.1.2.2.1 v.1.2.2.2.1 v.1.2.2.2.2.1 v.2.1⟩
def F43 (k : Nat) (a0 : TY30) (a1 : (List (List Bool))) (a2 : (List (List Bool))) (a3 : Int) : Option TY61 :=
 (F43_2 k k a0 a1 a2 a3 (0 : Int) []).bind fun r29 =>
 let y30 := r29.2.1
 some ((y30, ()), ())
def sp43 (k : Nat) : Spec := ⟨[.val KD11, .val KD57, .val KD57, .val (.int .i64)], [.own KD59], fun x => F43 k x.1 x.2.1 x.2.2.1 x.2.2.2.1⟩
def lim43 : Lim := ⟨89, 4, false, false, [], []⟩
def cfg43 (k : Nat) : Nat → Option Spec := cfgL [(63, sp63 k)]
noncomputable def co43_0 : Code := codeAt (bodyOf Try.f43) [.r, .r, .l, .r, .s, .b, .r, .l, .s, .r, .r, .l, .r, .s]
noncomputable def cb43_0 : Code := codeAt (bodyOf Try.f43) [.r, .r, .l, .r, .s, .b, .r, .l, .s, .r, .r, .l, .r, .s, .b]
noncomputable def co43_1 : Code := codeAt (bodyOf Try.f43) [.r, .r, .l, .r, .s, .b, .r, .l, .s, .r, .r, .r, .l, .r, .s]
noncomputable def cb43_1 : Code := codeAt (bodyOf Try.f43) [.r, .r, .l, .r, .s, .b, .r, .l, .s, .r, .r, .r, .l, .r, .s, .b]
noncomputable def co43_2 : Code := codeAt (bodyOf Try.f43) [.r, .r, .l, .r, .s]
noncomputable def cb43_2 : Code := codeAt (bodyOf Try.f43) [.r, .r, .l, .r, .s, .b]
noncomputable def co43 : Code := codeAt (bodyOf Try.f43) []
theorem cfg43_ok (k : Nat) : CfgOK Try.prog (cfg43 k) := cfgL_cons (v63 k) (cfgL_nil)
noncomputable def bo43_0 (k m : Nat) (v : (fr43_0 k).sh.V) := body Try.prog (stepper Try.prog (cfg43 k) lim43) .go cb43_0 ((fr43_0 k).sh.st v) (loopK (fr43_0 k) fun v => F43_0 k m v.1.1 v.1.2.1 v.1.2.2.1 v.1.2.2.2.1 v.1.2.2.2.2.1 v.1.2.2.2.2.2.1 v.2.1 v.2.2.1 v.2.2.2.1)
theorem pp43_0 (k m : Nat) (v : (fr43_0 k).sh.V) : F43_0 k (m + 1) v.1.1 v.1.2.1 v.1.2.2.1 v.1.2.2.2.1 v.1.2.2.2.2.1 v.1.2.2.2.2.2.1 v.2.1 v.2.2.1 v.2.2.2.1 = (bo43_0 k m v).eval ∧ (bo43_0 k m v).left = (bo43_0 k m v).right := ⟨by kernel_rfl, by kernel_rfl⟩
theorem fr43_0_ok (k : Nat) : FragOK Try.prog lim43 (fr43_0 k) co43_0 :=
 frag_cast (by kernel_rfl) (loop_ok (cfg43_ok k) (planOK_go _) (fun m v => F43_0 k m v.1.1 v.1.2.1 v.1.2.2.1 v.1.2.2.2.1 v.1.2.2.2.2.1 v.1.2.2.2.2.2.1 v.2.1 v.2.2.1 v.2.2.2.1) k (fun _ => rfl) (fun _ => rfl) (pp43_0 k))
noncomputable def bo43_1 (k m : Nat) (v : (fr43_1 k).sh.V) := body Try.prog (stepper Try.prog (cfg43 k) lim43) .go cb43_1 ((fr43_1 k).sh.st v) (loopK (fr43_1 k) fun v => F43_1 k m v.1.1 v.1.2.1 v.1.2.2.1 v.1.2.2.2.1 v.1.2.2.2.2.1 v.1.2.2.2.2.2.1 v.2.1 v.2.2.1 v.2.2.2.1)
theorem pp43_1 (k m : Nat) (v : (fr43_1 k).sh.V) : F43_1 k (m + 1) v.1.1 v.1.2.1 v.1.2.2.1 v.1.2.2.2.1 v.1.2.2.2.2.1 v.1.2.2.2.2.2.1 v.2.1 v.2.2.1 v.2.2.2.1 = (bo43_1 k m v).eval ∧ (bo43_1 k m v).left = (bo43_1 k m v).right := ⟨by kernel_rfl, by kernel_rfl⟩
theorem fr43_1_ok (k : Nat) : FragOK Try.prog lim43 (fr43_1 k) co43_1 :=
 frag_cast (by kernel_rfl) (loop_ok (cfg43_ok k) (planOK_go _) (fun m v => F43_1 k m v.1.1 v.1.2.1 v.1.2.2.1 v.1.2.2.2.1 v.1.2.2.2.2.1 v.1.2.2.2.2.2.1 v.2.1 v.2.2.1 v.2.2.2.1) k (fun _ => rfl) (fun _ => rfl) (pp43_1 k))
def pl43_2 (k : Nat) : Plan := (.seq .go (.seq (.sub (.seq .go (.seq .go (.seq (.seq .go (.sub (.frag (fr43_0 k)))) (.seq (.seq .go (.sub (.frag (fr43_1 k)))) .go))))) .go))
theorem pq43_2 (k : Nat) : PlanOK Try.prog lim43 (pl43_2 k) cb43_2 = (PlanOK Try.prog lim43 .go (codeAt (bodyOf Try.f43) [.r, .r, .l, .r, .s, .b, .l]) ∧ ((PlanOK Try.prog lim43 .go (codeAt (bodyOf Try.f43) [.r, .r, .l, .r, .s, .b, .r, .l, .s, .l]) ∧ (PlanOK Try.prog lim43 .go (codeAt (bodyOf Try.f43) [.r, .r, .l, .r, .s, .b, .r, .l, .s, .r, .l]) ∧ ((PlanOK Try.prog lim43 .go (codeAt (bodyOf Try.f43) [.r, .r, .l, .r, .s, .b, .r, .l, .s, .r, .r, .l, .l]) ∧ FragOK Try.prog lim43 (fr43_0 k) co43_0) ∧ ((PlanOK Try.prog lim43 .go (codeAt (bodyOf Try.f43) [.r, .r, .l, .r, .s, .b, .r, .l, .s, .r, .r, .r, .l, .l]) ∧ FragOK Try.prog lim43 (fr43_1 k) co43_1) ∧ PlanOK Try.prog lim43 .go (codeAt (bodyOf Try.f43) [.r, .r, .l, .r, .s, .b, .r, .l, .s, .r, .r, .r, .r]))))) ∧ PlanOK Try.prog lim43 .go (codeAt (bodyOf Try.f43) [.r, .r, .l, .r, .s, .b, .r, .r]))) := by kernel_rfl
noncomputable def bo43_2 (k m : Nat) (v : (fr43_2 k).sh.V) := body Try.prog (stepper Try.prog (cfg43 k) lim43) (pl43_2 k) cb43_2 ((fr43_2 k).sh.st v) (loopK (fr43_2 k) fun v => F43_2 k m v.1.1 v.1.2.1 v.1.2.2.1 v.1.2.2.2.1 v.1.2.2.2.2.1 v.2.1)
theorem pp43_2 (k m : Nat) (v : (fr43_2 k).sh.V) : F43_2 k (m + 1) v.1.1 v.1.2.1 v.1.2.2.1 v.1.2.2.2.1 v.1.2.2.2.2.1 v.2.1 = (bo43_2 k m v).eval ∧ (bo43_2 k m v).left = (bo43_2 k m v).right := ⟨by kernel_rfl, by kernel_rfl⟩
theorem fr43_2_ok (k : Nat) : FragOK Try.prog lim43 (fr43_2 k) co43_2 :=
 frag_cast (by kernel_rfl) (loop_ok (cfg43_ok k) (Eq.mpr (pq43_2 k) ⟨(planOK_go _), ⟨⟨(planOK_go _), ⟨(planOK_go _), ⟨⟨(planOK_go _), (fr43_0_ok k)⟩, ⟨⟨(planOK_go _), (fr43_1_ok k)⟩, (planOK_go _)⟩⟩⟩⟩, (planOK_go _)⟩⟩) (fun m v => F43_2 k m v.1.1 v.1.2.1 v.1.2.2.1 v.1.2.2.2.1 v.1.2.2.2.2.1 v.2.1) k (fun _ => rfl) (fun _ => rfl) (pp43_2 k))
def pl43 (k : Nat) : Plan := (.seq .go (.seq .go (.seq (.seq .go (.sub (.frag (fr43_2 k)))) .go)))
theorem pq43 (k : Nat) : PlanOK Try.prog lim43 (pl43 k) co43 = (PlanOK Try.prog lim43 .go (codeAt (bodyOf Try.f43) [.l]) ∧ (PlanOK Try.prog lim43 .go (codeAt (bodyOf Try.f43) [.r, .l]) ∧ ((PlanOK Try.prog lim43 .go (codeAt (bodyOf Try.f43) [.r, .r, .l, .l]) ∧ FragOK Try.prog lim43 (fr43_2 k) co43_2) ∧ PlanOK Try.prog lim43 .go (codeAt (bodyOf Try.f43) [.r, .r, .r])))) := by kernel_rfl
noncomputable def bo43 (k : Nat) (x : AT (sp43 k).ps) := fnT Try.prog (cfg43 k) lim43 Try.f43 (bodyOf Try.f43) (pl43 k) (sp43 k) x
theorem vv43 (k : Nat) (x : AT (sp43 k).ps) : (sp43 k).impl x = (bo43 k x).eval ∧ (bo43 k x).left = (bo43 k x).right := ⟨by kernel_rfl, by kernel_rfl⟩
theorem v43 (k : Nat) : Callable Try.prog 43 ∧ Valid Try.prog 43 (sp43 k) :=
 fn_of (n := lim43) (fn := Try.f43) (p := (pl43 k)) (cfg43_ok k) (by kernel_rfl) (Eq.mpr (pq43 k) ⟨(planOK_go _), ⟨(planOK_go _), ⟨⟨(planOK_go _), (fr43_2_ok k)⟩, (planOK_go _)⟩⟩⟩) (vv43 k)
def F25_0 (k : Nat) : Nat → (List Bool) → (List Bool) → Int → Option ((Unit × Unit) ⊕ TY79)
 | 0, _, _, _ => none
 | n + 1, t0, t1, t5 =>
  let x4 := (decide (t5 < ((List.length t0 : Nat) : Int)))
  bif x4 then
   if 0 ≤ t5 ∧ t5 < ((List.length t0 : Nat) : Int) then
    if 0 ≤ t5 ∧ t5 < ((List.length t1 : Nat) : Int) then
     let x5 := (!((List.getD t0 (Int.toNat t5) false) == (List.getD t1 (Int.toNat t5) false)))
     bif x5 then
      some (.inr ((false, ()), ()))
     else
      (F25_0 k n t0 t1 (IntKind.wrap .i64 (t5 + (1 : Int)))).bind some
    else none
   else none
  else
   some (.inl ((), ()))
def fr25_0 (k : Nat) : Frag := ⟨⟨[], [(0, .val KD77), (1, .val KD77), (5, .val (.int .i64))], []⟩, [(.exit 0, ⟨[], [], []⟩), (.ret, ⟨[], [(4, .val .bool)], []⟩)], fun v => F25_0 k k v.1.1 v.1.2.1 v.1.2.2.1⟩
def F25 (k : Nat) (a0 : (List Bool)) (a1 : (List Bool)) : Option TY79 :=
 let x1 := (((List.length a0 : Nat) : Int) != ((List.length a1 : Nat) : Int))
 bif x1 then
  some ((false, ()), ())
 else
  (F25_0 k k a0 a1 (0 : Int)).bind fun r6 =>
  match r6 with
  | .inl r7 =>
   some ((true, ()), ())
  | .inr r7 =>
   let y8 := r7.1.1
   some ((y8, ()), ())
def sp25 (k : Nat) : Spec := ⟨[.val KD77, .val KD77], [.val .bool], fun x => F25 k x.1 x.2.1⟩
def lim25 : Lim := ⟨26, 2, false, false, [], []⟩
def cfg25 (k : Nat) : Nat → Option Spec := cfgL []
noncomputable def co25_0 : Code := codeAt (bodyOf Try.f25) [.r, .r, .l, .r, .s]
noncomputable def cb25_0 : Code := codeAt (bodyOf Try.f25) [.r, .r, .l, .r, .s, .b]
noncomputable def co25 : Code := codeAt (bodyOf Try.f25) []
theorem cfg25_ok (k : Nat) : CfgOK Try.prog (cfg25 k) := cfgL_nil
noncomputable def bo25_0 (k m : Nat) (v : (fr25_0 k).sh.V) := body Try.prog (stepper Try.prog (cfg25 k) lim25) .go cb25_0 ((fr25_0 k).sh.st v) (loopK (fr25_0 k) fun v => F25_0 k m v.1.1 v.1.2.1 v.1.2.2.1)
theorem pp25_0 (k m : Nat) (v : (fr25_0 k).sh.V) : F25_0 k (m + 1) v.1.1 v.1.2.1 v.1.2.2.1 = (bo25_0 k m v).eval ∧ (bo25_0 k m v).left = (bo25_0 k m v).right := ⟨by kernel_rfl, by kernel_rfl⟩
theorem fr25_0_ok (k : Nat) : FragOK Try.prog lim25 (fr25_0 k) co25_0 :=
 frag_cast (by kernel_rfl) (loop_ok (cfg25_ok k) (planOK_go _) (fun m v => F25_0 k m v.1.1 v.1.2.1 v.1.2.2.1) k (fun _ => rfl) (fun _ => rfl) (pp25_0 k))
def pl25 (k : Nat) : Plan := (.seq .go (.seq .go (.seq (.seq .go (.sub (.frag (fr25_0 k)))) .go)))
theorem pq25 (k : Nat) : PlanOK Try.prog lim25 (pl25 k) co25 = (PlanOK Try.prog lim25 .go (codeAt (bodyOf Try.f25) [.l]) ∧ (PlanOK Try.prog lim25 .go (codeAt (bodyOf Try.f25) [.r, .l]) ∧ ((PlanOK Try.prog lim25 .go (codeAt (bodyOf Try.f25) [.r, .r, .l, .l]) ∧ FragOK Try.prog lim25 (fr25_0 k) co25_0) ∧ PlanOK Try.prog lim25 .go (codeAt (bodyOf Try.f25) [.r, .r, .r])))) := by kernel_rfl
noncomputable def bo25 (k : Nat) (x : AT (sp25 k).ps) := fnT Try.prog (cfg25 k) lim25 Try.f25 (bodyOf Try.f25) (pl25 k) (sp25 k) x
theorem vv25 (k : Nat) (x : AT (sp25 k).ps) : (sp25 k).impl x = (bo25 k x).eval ∧ (bo25 k x).left = (bo25 k x).right := ⟨by kernel_rfl, by kernel_rfl⟩
theorem v25 (k : Nat) : Callable Try.prog 25 ∧ Valid Try.prog 25 (sp25 k) :=
 fn_of (n := lim25) (fn := Try.f25) (p := (pl25 k)) (cfg25_ok k) (by kernel_rfl) (Eq.mpr (pq25 k) ⟨(planOK_go _), ⟨(planOK_go _), ⟨⟨(planOK_go _), (fr25_0_ok k)⟩, (planOK_go _)⟩⟩⟩) (vv25 k)
def F44_0 (k : Nat) : Nat → (List (List Bool)) → (List (List Bool)) → Int → Option ((Unit × Unit) ⊕ TY79)
 | 0, _, _, _ => none
 | n + 1, t0, t1, t5 =>
  let x5 := (decide (t5 < ((List.length t0 : Nat) : Int)))
  bif x5 then
   if 0 ≤ t5 ∧ t5 < ((List.length t0 : Nat) : Int) then
    let x6 := (List.getD t0 (Int.toNat t5) ([] : (List Bool)))
    if 0 ≤ t5 ∧ t5 < ((List.length t1 : Nat) : Int) then
     let x7 := (List.getD t1 (Int.toNat t5) ([] : (List Bool)))
     (F25 k x6 x7).bind fun r8 =>
     bif (!r8.1.1) then
      some (.inr ((false, ()), ()))
     else
      (F44_0 k n t0 t1 (IntKind.wrap .i64 (t5 + (1 : Int)))).bind some
    else none
   else none
  else
   some (.inl ((), ()))
def fr44_0 (k : Nat) : Frag := ⟨⟨[], [(0, .val KD57), (1, .val KD57), (5, .val (.int .i64))], []⟩, [(.exit 0, ⟨[], [], []⟩), (.ret, ⟨[], [(4, .val .bool)], []⟩)], fun v => F44_0 k k v.1.1 v.1.2.1 v.1.2.2.1⟩
def F44 (k : Nat) (a0 : (List (List Bool))) (a1 : (List (List Bool))) : Option TY79 :=
 (F44_0 k k a0 a1 (0 : Int)).bind fun r9 =>
 match r9 with
 | .inl r10 =>
  some ((true, ()), ())
 | .inr r10 =>
  let y11 := r10.1.1
  some ((y11, ()), ())
def sp44 (k : Nat) : Spec := ⟨[.val KD57, .val KD57], [.val .bool], fun x => F44 k x.1 x.2.1⟩
def lim44 : Lim := ⟨22, 2, false, false, [], []⟩
def cfg44 (k : Nat) : Nat → Option Spec := cfgL [(25, sp25 k)]
noncomputable def co44_0 : Code := codeAt (bodyOf Try.f44) [.r, .l, .r, .s]
noncomputable def cb44_0 : Code := codeAt (bodyOf Try.f44) [.r, .l, .r, .s, .b]
noncomputable def co44 : Code := codeAt (bodyOf Try.f44) []
theorem cfg44_ok (k : Nat) : CfgOK Try.prog (cfg44 k) := cfgL_cons (v25 k) (cfgL_nil)
noncomputable def bo44_0 (k m : Nat) (v : (fr44_0 k).sh.V) := body Try.prog (stepper Try.prog (cfg44 k) lim44) .go cb44_0 ((fr44_0 k).sh.st v) (loopK (fr44_0 k) fun v => F44_0 k m v.1.1 v.1.2.1 v.1.2.2.1)
theorem pp44_0 (k m : Nat) (v : (fr44_0 k).sh.V) : F44_0 k (m + 1) v.1.1 v.1.2.1 v.1.2.2.1 = (bo44_0 k m v).eval ∧ (bo44_0 k m v).left = (bo44_0 k m v).right := ⟨by kernel_rfl, by kernel_rfl⟩
theorem fr44_0_ok (k : Nat) : FragOK Try.prog lim44 (fr44_0 k) co44_0 :=
 frag_cast (by kernel_rfl) (loop_ok (cfg44_ok k) (planOK_go _) (fun m v => F44_0 k m v.1.1 v.1.2.1 v.1.2.2.1) k (fun _ => rfl) (fun _ => rfl) (pp44_0 k))
def pl44 (k : Nat) : Plan := (.seq .go (.seq (.seq .go (.sub (.frag (fr44_0 k)))) .go))
theorem pq44 (k : Nat) : PlanOK Try.prog lim44 (pl44 k) co44 = (PlanOK Try.prog lim44 .go (codeAt (bodyOf Try.f44) [.l]) ∧ ((PlanOK Try.prog lim44 .go (codeAt (bodyOf Try.f44) [.r, .l, .l]) ∧ FragOK Try.prog lim44 (fr44_0 k) co44_0) ∧ PlanOK Try.prog lim44 .go (codeAt (bodyOf Try.f44) [.r, .r]))) := by kernel_rfl
noncomputable def bo44 (k : Nat) (x : AT (sp44 k).ps) := fnT Try.prog (cfg44 k) lim44 Try.f44 (bodyOf Try.f44) (pl44 k) (sp44 k) x
theorem vv44 (k : Nat) (x : AT (sp44 k).ps) : (sp44 k).impl x = (bo44 k x).eval ∧ (bo44 k x).left = (bo44 k x).right := ⟨by kernel_rfl, by kernel_rfl⟩
theorem v44 (k : Nat) : Callable Try.prog 44 ∧ Valid Try.prog 44 (sp44 k) :=
 fn_of (n := lim44) (fn := Try.f44) (p := (pl44 k)) (cfg44_ok k) (by kernel_rfl) (Eq.mpr (pq44 k) ⟨(planOK_go _), ⟨⟨(planOK_go _), (fr44_0_ok k)⟩, (planOK_go _)⟩⟩) (vv44 k)
def F45_0 (k : Nat) : Nat → TY30 → (List (List Bool)) → Int → Bool → Int → (List Bool) → Option (((TY30 × (List (List Bool)) × Int × Bool × Unit) × TY82))
 | 0, _, _, _, _, _, _ => none
 | n + 1, t0, t1, t6, t7, t8, c2000005 =>
  if 0 ≤ t6 ∧ t6 < ((List.length t1 : Nat) : Int) then
   let x4 := (List.getD t1 (Int.toNat t6) ([] : (List Bool)))
   let x5 := (decide (t8 < ((List.length x4 : Nat) : Int)))
   bif x5 then
    bif t7 then
     (F45_0 k n t0 t1 t6 true (IntKind.wrap .i64 (t8 + (1 : Int))) c2000005).bind some
    else
     if 0 ≤ t6 ∧ t6 < ((List.length t1 : Nat) : Int) then
      let x6 := (List.getD t1 (Int.toNat t6) ([] : (List Bool)))
      if 0 ≤ t8 ∧ t8 < ((List.length x6 : Nat) : Int) then
       bif (List.getD x6 (Int.toNat t8) false) then
        if 0 ≤ t6 ∧ t6 < ((List.length t0 : Nat) : Int) then
         let x7 := (List.getD t0 (Int.toNat t6) (([] : (List Int)), (([] : (List Int)), (([] : (List Int)), (([] : TY63), ((0 : Int), ()))))))
         if 0 ≤ t8 ∧ t8 < ((List.length x7.2.1 : Nat) : Int) then
          let x8 := (decide ((List.getD x7.2.1 (Int.toNat t8) (0 : Int)) < (1152921504606846976 : Int)))
          (F45_0 k n t0 t1 t6 x8 (IntKind.wrap .i64 (t8 + (1 : Int))) c2000005).bind some
         else none
        else none
       else
        (F45_0 k n t0 t1 t6 false (IntKind.wrap .i64 (t8 + (1 : Int))) c2000005).bind some
      else none
     else none
   else
    some ((t0, t1, t6, t7, ()), (c2000005, ()))
  else none
def fr45_0 (k : Nat) : Frag := ⟨⟨[(5, KD78)], [(0, .val KD11), (1, .val KD57), (5, .at 2000005 []), (6, .val (.int .i64)), (7, .val .bool), (8, .val (.int .i64))], [(2000005, none, KD78)]⟩, [(.exit 2, ⟨[], [(0, .val KD11), (1, .val KD57), (5, .at 2000005 []), (6, .val (.int .i64)), (7, .val .bool)], [(2000005, none, KD78)]⟩)], fun v => F45_0 k k v.1.1 v.1.2.1 v.1.2.2.1 v.1.2.2.2.1 v.1.2.2.2.2.1 v.2.1⟩
def F45_1 (k : Nat) : Nat → TY30 → (List (List Bool)) → Int → (List Bool) → Option ((Unit × TY82))
 | 0, _, _, _, _ => none
 | n + 1, t0, t1, t6, c2000005 =>
  let x1 := (decide (t6 < ((List.length t0 : Nat) : Int)))
  bif x1 then
   if 0 ≤ t6 ∧ t6 < ((List.length t0 : Nat) : Int) then
    let x2 := (List.getD t0 (Int.toNat t6) (([] : (List Int)), (([] : (List Int)), (([] : (List Int)), (([] : TY63), ((0 : Int), ()))))))
    let x3 := (decide (x2.2.2.2.2.1 < (1152921504606846976 : Int)))
    (F45_0 k k t0 t1 t6 x3 (0 : Int) c2000005).bind fun r9 =>
    let y10 := r9.1.1
    let y11 := r9.1.2.1
    let y12 := r9.1.2.2.1
    let y13 := r9.1.2.2.2.1
    let y14 := r9.2.1
    if (List.length y14 + List.length (List.set (List.replicate 1 false) 0 y13)) * (1 * 2) ≤ 281474976710656 ∧ List.length y14 + List.length (List.set (List.replicate 1 false) 0 y13) ≤ 9223372036854775807 then
     let x15 := (y14 ++ (List.set (List.replicate 1 false) 0 y13))
     (F45_1 k n y10 y11 (IntKind.wrap .i64 (y12 + (1 : Int))) x15).bind some
    else none
   else none
  else
   some ((), (c2000005, ()))
def fr45_1 (k : Nat) : Frag := ⟨⟨[(5, KD78)], [(0, .val KD11), (1, .val KD57), (5, .at 2000005 []), (6, .val (.int .i64))], [(2000005, none, KD78)]⟩, [(.exit 0, ⟨[(5, KD78)], [(5, .at 2000005 [])], [(2000005, none, KD78)]⟩)], fun v => F45_1 k k v.1.1 v.1.2.1 v.1.2.2.1 v.2.1⟩
def F45 (k : Nat) (a0 : TY30) (a1 : (List (List Bool))) : Option (TY82 × Unit) :=
 (F45_1 k k a0 a1 (0 : Int) []).bind fun r16 =>
 let y17 := r16.2.1
 some ((y17, ()), ())
def sp45 (k : Nat) : Spec := ⟨[.val KD11, .val KD57], [.own KD78], fun x => F45 k x.1 x.2.1⟩
def lim45 : Lim := ⟨56, 2, false, false, [], []⟩
def cfg45 (k : Nat) : Nat → Option Spec := cfgL []
noncomputable def co45_0 : Code := codeAt (bodyOf Try.f45) [.r, .r, .l, .r, .s, .b, .r, .l, .s, .r, .l, .r, .s]
noncomputable def cb45_0 : Code := codeAt (bodyOf Try.f45) [.r, .r, .l, .r, .s, .b, .r, .l, .s, .r, .l, .r, .s, .b]
noncomputable def co45_1 : Code := codeAt (bodyOf Try.f45) [.r, .r, .l, .r, .s]
noncomputable def cb45_1 : Code := codeAt (bodyOf Try.f45) [.r, .r, .l, .r, .s, .b]
noncomputable def co45 : Code := codeAt (bodyOf Try.f45) []
theorem cfg45_ok (k : Nat) : CfgOK Try.prog (cfg45 k) := cfgL_nil
noncomputable def bo45_0 (k m : Nat) (v : (fr45_0 k).sh.V) := body Try.prog (stepper Try.prog (cfg45 k) lim45) .go cb45_0 ((fr45_0 k).sh.st v) (loopK (fr45_0 k) fun v => F45_0 k m v.1.1 v.1.2.1 v.1.2.2.1 v.1.2.2.2.1 v.1.2.2.2.2.1 v.2.1)
theorem pp45_0 (k m : Nat) (v : (fr45_0 k).sh.V) : F45_0 k (m + 1) v.1.1 v.1.2.1 v.1.2.2.1 v.1.2.2.2.1 v.1.2.2.2.2.1 v.2.1 = (bo45_0 k m v).eval ∧ (bo45_0 k m v).left = (bo45_0 k m v).right := ⟨by kernel_rfl, by kernel_rfl⟩
theorem fr45_0_ok (k : Nat) : FragOK Try.prog lim45 (fr45_0 k) co45_0 :=
 frag_cast (by kernel_rfl) (loop_ok (cfg45_ok k) (planOK_go _) (fun m v => F45_0 k m v.1.1 v.1.2.1 v.1.2.2.1 v.1.2.2.2.1 v.1.2.2.2.2.1 v.2.1) k (fun _ => rfl) (fun _ => rfl) (pp45_0 k))
def pl45_1 (k : Nat) : Plan := (.seq .go (.seq (.sub (.seq .go (.seq (.seq .go (.sub (.frag (fr45_0 k)))) .go))) .go))
theorem pq45_1 (k : Nat) : PlanOK Try.prog lim45 (pl45_1 k) cb45_1 = (PlanOK Try.prog lim45 .go (codeAt (bodyOf Try.f45) [.r, .r, .l, .r, .s, .b, .l]) ∧ ((PlanOK Try.prog lim45 .go (codeAt (bodyOf Try.f45) [.r, .r, .l, .r, .s, .b, .r, .l, .s, .l]) ∧ ((PlanOK Try.prog lim45 .go (codeAt (bodyOf Try.f45) [.r, .r, .l, .r, .s, .b, .r, .l, .s, .r, .l, .l]) ∧ FragOK Try.prog lim45 (fr45_0 k) co45_0) ∧ PlanOK Try.prog lim45 .go (codeAt (bodyOf Try.f45) [.r, .r, .l, .r, .s, .b, .r, .l, .s, .r, .r]))) ∧ PlanOK Try.prog lim45 .go (codeAt (bodyOf Try.f45) [.r, .r, .l, .r, .s, .b, .r, .r]))) := by kernel_rfl
noncomputable def bo45_1 (k m : Nat) (v : (fr45_1 k).sh.V) := body Try.prog (stepper Try.prog (cfg45 k) lim45) (pl45_1 k) cb45_1 ((fr45_1 k).sh.st v) (loopK (fr45_1 k) fun v => F45_1 k m v.1.1 v.1.2.1 v.1.2.2.1 v.2.1)
theorem pp45_1 (k m : Nat) (v : (fr45_1 k).sh.V) : F45_1 k (m + 1) v.1.1 v.1.2.1 v.1.2.2.1 v.2.1 = (bo45_1 k m v).eval ∧ (bo45_1 k m v).left = (bo45_1 k m v).right := ⟨by kernel_rfl, by kernel_rfl⟩
theorem fr45_1_ok (k : Nat) : FragOK Try.prog lim45 (fr45_1 k) co45_1 :=
 frag_cast (by kernel_rfl) (loop_ok (cfg45_ok k) (Eq.mpr (pq45_1 k) ⟨(planOK_go _), ⟨⟨(planOK_go _), ⟨⟨(planOK_go _), (fr45_0_ok k)⟩, (planOK_go _)⟩⟩, (planOK_go _)⟩⟩) (fun m v => F45_1 k m v.1.1 v.1.2.1 v.1.2.2.1 v.2.1) k (fun _ => rfl) (fun _ => rfl) (pp45_1 k))
def pl45 (k : Nat) : Plan := (.seq .go (.seq .go (.seq (.seq .go (.sub (.frag (fr45_1 k)))) .go)))
theorem pq45 (k : Nat) : PlanOK Try.prog lim45 (pl45 k) co45 = (PlanOK Try.prog lim45 .go (codeAt (bodyOf Try.f45) [.l]) ∧ (PlanOK Try.prog lim45 .go (codeAt (bodyOf Try.f45) [.r, .l]) ∧ ((PlanOK Try.prog lim45 .go (codeAt (bodyOf Try.f45) [.r, .r, .l, .l]) ∧ FragOK Try.prog lim45 (fr45_1 k) co45_1) ∧ PlanOK Try.prog lim45 .go (codeAt (bodyOf Try.f45) [.r, .r, .r])))) := by kernel_rfl
noncomputable def bo45 (k : Nat) (x : AT (sp45 k).ps) := fnT Try.prog (cfg45 k) lim45 Try.f45 (bodyOf Try.f45) (pl45 k) (sp45 k) x
theorem vv45 (k : Nat) (x : AT (sp45 k).ps) : (sp45 k).impl x = (bo45 k x).eval ∧ (bo45 k x).left = (bo45 k x).right := ⟨by kernel_rfl, by kernel_rfl⟩
theorem v45 (k : Nat) : Callable Try.prog 45 ∧ Valid Try.prog 45 (sp45 k) :=
 fn_of (n := lim45) (fn := Try.f45) (p := (pl45 k)) (cfg45_ok k) (by kernel_rfl) (Eq.mpr (pq45 k) ⟨(planOK_go _), ⟨(planOK_go _), ⟨⟨(planOK_go _), (fr45_1_ok k)⟩, (planOK_go _)⟩⟩⟩) (vv45 k)
def F17_0 (k : Nat) : Nat → TY30 → (List (List Bool)) → Int → Int → Int → TY60 → (List (List Bool)) → Option (((TY30 × (List (List Bool)) × Int × Int × Unit) × TY45))
 | 0, _, _, _, _, _, _, _ => none
 | n + 1, t0, t1, t2, t3, t12, c8, c2000011 =>
  let x1 := (decide (t12 < ((List.length t0 : Nat) : Int)))
  bif x1 then
   if 0 ≤ t12 ∧ t12 < ((List.length t0 : Nat) : Int) then
    let x2 := (List.getD t0 (Int.toNat t12) (([] : (List Int)), (([] : (List Int)), (([] : (List Int)), (([] : TY63), ((0 : Int), ()))))))
    if (0 ≤ ((List.length x2.1 : Nat) : Int) ∧ ((List.length x2.1 : Nat) : Int) < ((List.length x2.1 : Nat) : Int) + 1) ∧ ((List.length x2.1 : Nat) : Int) ≤ 9223372036854775807 ∧ ((1 : Nat) : Int) * ((List.length x2.1 : Nat) : Int) ≤ 281474976710656 then
     let x3 := (List.replicate (Int.toNat ((List.length x2.1 : Nat) : Int)) false)
     if (List.length c2000011 + List.length [x3]) * (24 * 2) ≤ 281474976710656 ∧ List.length c2000011 + List.length [x3] ≤ 9223372036854775807 then
      (F17_0 k n t0 t1 t2 t3 (IntKind.wrap .i64 (t12 + (1 : Int))) c8 (c2000011 ++ [x3])).bind some
     else none
    else none
   else none
  else
   some ((t0, t1, t2, t3, ()), (c8, c2000011, ()))
def fr17_0 (k : Nat) : Frag := ⟨⟨[(11, KD59)], [(0, .val KD11), (1, .val KD57), (2, .val (.int .i64)), (3, .val (.int .i64)), (8, .ptr 8 []), (11, .at 2000011 []), (12, .val (.int .i64))], [(8, some 39, KD33), (2000011, none, KD59)]⟩, [(.exit 0, ⟨[(11, KD59)], [(0, .val KD11), (1, .val KD57), (2, .val (.int .i64)), (3, .val (.int .i64)), (8, .ptr 8 []), (11, .at 2000011 [])], [(8, some 39, KD33), (2000011, none, KD59)]⟩)], fun v => F17_0 k k v.1.1 v.1.2.1 v.1.2.2.1 v.1.2.2.2.1 v.1.2.2.2.2.1 v.2.1 v.2.2.1⟩
def F17_1 (k : Nat) : Nat → TY30 → (List (List Bool)) → Int → Int → Int → Int → Int → Int → Bool → TY60 → TY60 → (List (List Bool)) → (List (List (List Bool))) → (List (List Bool)) → (List Int) → Option (((TY30 × (List (List Bool)) × Int × Int × Int × Int × Int × Int × Bool × Unit) × (TY60 × TY60 × (List (List Bool)) × (List (List (List Bool))) × (List (List Bool)) × (List Int) × Unit)))
 | 0, _, _, _, _, _, _, _, _, _, _, _, _, _, _, _ => none
 | n + 1, t0, t1, t2, t3, t16, t18, t20, t53, t54, c8, c14, c1001104, c2000013, c2000015, c2000017 =>
  let x15 := (decide (t20 < ((List.length c2000013 : Nat) : Int)))
  bif x15 then
   if 0 ≤ t20 ∧ t20 < ((List.length c2000013 : Nat) : Int) then
    (F44 k (List.getD c2000013 (Int.toNat t20) ([] : (List (List Bool)))) c1001104).bind fun r16 =>
    bif (!r16.1.1) then
     (F17_1 k n t0 t1 t2 t3 t16 t18 (IntKind.wrap .i64 (t20 + (1 : Int))) t53 t54 c8 c14 c1001104 c2000013 c2000015 c2000017).bind some
    else
     some ((t0, t1, t2, t3, t16, t18, t20, t53, t54, ()), (c8, c14, c1001104, c2000013, c2000015, c2000017, ()))
   else none
  else
   some ((t0, t1, t2, t3, t16, t18, t20, t53, t54, ()), (c8, c14, c1001104, c2000013, c2000015, c2000017, ()))
def fr17_1 (k : Nat) : Frag := ⟨⟨[(13, KD51), (15, KD59), (17, KD71)], [(0, .val KD11), (1, .val KD57), (2, .val (.int .i64)), (3, .val (.int .i64)), (8, .ptr 8 []), (13, .at 2000013 []), (14, .ptr 14 []), (15, .at 2000015 []), (16, .val (.int .i64)), (17, .at 2000017 []), (18, .val (.int .i64)), (19, .at 1001104 []), (20, .val (.int .i64)), (53, .val (.int .i64)), (54, .val .bool)], [(8, some 39, KD33), (14, some 39, KD33), (1001104, none, KD59), (2000013, none, KD51), (2000015, none, KD59), (2000017, none, KD71)]⟩, [(.exit 6, ⟨[], [(0, .val KD11), (1, .val KD57), (2, .val (.int .i64)), (3, .val (.int .i64)), (8, .ptr 8 []), (13, .at 2000013 []), (14, .ptr 14 []), (15, .at 2000015 []), (16, .val (.int .i64)), (17, .at 2000017 []), (18, .val (.int .i64)), (19, .at 1001104 []), (20, .val (.int .i64)), (53, .val (.int .i64)), (54, .val .bool)], [(8, some 39, KD33), (14, some 39, KD33), (1001104, none, KD59), (2000013, none, KD51), (2000015, none, KD59), (2000017, none, KD71)]⟩)], fun v => F17_1 k k v.1.1 v.1.2.1 v.1.2.2.1 v.1.2.2.2.1 v.1.2.2.2.2.1 v.1.2.2.2.2.2.1 v.1.2.2.2.2.2.2.1 v.1.2.2.2.2.2.2.2.1 v.1.2.2.2.2.2.2.2.2.1 v.2.1 v.2.2.1 v.2.2.2.1 v.2.2.2.2.1 v.2.2.2.2.2.1 v.2.2.2.2.2.2.1⟩
def F17_2 (k : Nat) : Nat → TY30 → (List (List Bool)) → Int → Int → Int → Int → Int → Bool → TY60 → TY60 → (List (List (List Bool))) → (List (List Bool)) → (List Int) → Option (((TY30 × (List (List Bool)) × Int × Int × Int × Int × Bool × Unit) × (TY60 × TY60 × (List (List (List Bool))) × (List (List Bool)) × (List Int) × Unit)))
 | 0, _, _, _, _, _, _, _, _, _, _, _, _, _ => none
 | n + 1, t0, t1, t2, t3, t16, t18, t53, t54, c8, c14, c2000013, c2000015, c2000017 =>
  bif (decide (t18 < t2)) then
   if 0 ≤ t16 ∧ t16 < ((List.length c2000013 : Nat) : Int) then
    (F43 k t0 t1 (List.getD c2000013 (Int.toNat t16) ([] : (List (List Bool)))) t18).bind fun r14 =>
    (F17_1 k k t0 t1 t2 t3 t16 t18 (0 : Int) t53 t54 c8 c14 r14.1.1 c2000013 c2000015 c2000017).bind fun r17 =>
    let y18 := r17.1.1
    let y19 := r17.1.2.1
    let y20 := r17.1.2.2.1
    let y21 := r17.1.2.2.2.1
    let y22 := r17.1.2.2.2.2.1
    let y23 := r17.1.2.2.2.2.2.1
    let y24 := r17.1.2.2.2.2.2.2.1
    let y25 := r17.1.2.2.2.2.2.2.2.1
    let y26 := r17.1.2.2.2.2.2.2.2.2.1
    let y27 := r17.2.1
    let y28 := r17.2.2.1
    let y29 := r17.2.2.2.1
    let y30 := r17.2.2.2.2.1
    let y31 := r17.2.2.2.2.2.1
    let y32 := r17.2.2.2.2.2.2.1
    bif (y24 == ((List.length y30 : Nat) : Int)) then
     if (List.length y30 + List.length [y29]) * (24 * 2) ≤ 281474976710656 ∧ List.length y30 + List.length [y29] ≤ 9223372036854775807 then
      let x33 := (List.set (List.replicate 1 (0 : Int)) 0 y24)
      if (List.length y32 + List.length x33) * (8 * 2) ≤ 281474976710656 ∧ List.length y32 + List.length x33 ≤ 9223372036854775807 then
       (F17_2 k n y18 y19 y20 y21 y22 (IntKind.wrap .i64 (y23 + (1 : Int))) y25 y26 y27 y28 (y30 ++ [y29]) y31 (y32 ++ x33)).bind some
      else none
     else none
    else
     let x34 := (List.set (List.replicate 1 (0 : Int)) 0 y24)
     if (List.length y32 + List.length x34) * (8 * 2) ≤ 281474976710656 ∧ List.length y32 + List.length x34 ≤ 9223372036854775807 then
      (F17_2 k n y18 y19 y20 y21 y22 (IntKind.wrap .i64 (y23 + (1 : Int))) y25 y26 y27 y28 y30 y31 (y32 ++ x34)).bind some
     else none
   else none
  else
   some ((t0, t1, t2, t3, t16, t53, t54, ()), (c8, c14, c2000013, c2000015, c2000017, ()))
def fr17_2 (k : Nat) : Frag := ⟨⟨[(13, KD51), (15, KD59), (17, KD71)], [(0, .val KD11), (1, .val KD57), (2, .val (.int .i64)), (3, .val (.int .i64)), (8, .ptr 8 []), (13, .at 2000013 []), (14, .ptr 14 []), (15, .at 2000015 []), (16, .val (.int .i64)), (17, .at 2000017 []), (18, .val (.int .i64)), (53, .val (.int .i64)), (54, .val .bool)], [(8, some 39, KD33), (14, some 39, KD33), (2000013, none, KD51), (2000015, none, KD59), (2000017, none, KD71)]⟩, [(.exit 4, ⟨[], [(0, .val KD11), (1, .val KD57), (2, .val (.int .i64)), (3, .val (.int .i64)), (8, .ptr 8 []), (13, .at 2000013 []), (14, .ptr 14 []), (15, .at 2000015 []), (16, .val (.int .i64)), (17, .at 2000017 []), (53, .val (.int .i64)), (54, .val .bool)], [(8, some 39, KD33), (14, some 39, KD33), (2000013, none, KD51), (2000015, none, KD59), (2000017, none, KD71)]⟩)], fun v => F17_2 k k v.1.1 v.1.2.1 v.1.2.2.1 v.1.2.2.2.1 v.1.2.2.2.2.1 v.1.2.2.2.2.2.1 v.1.2.2.2.2.2.2.1 v.1.2.2.2.2.2.2.2.1 v.2.1 v.2.2.1 v.2.2.2.1 v.2.2.2.2.1 v.2.2.2.2.2.1⟩
def F17_3 (k : Nat) : Nat → TY30 → (List (List Bool)) → Int → Int → Int → Int → Int → Bool → TY60 → TY60 → (List Bool) → (List (List (List Bool))) → (List (List Bool)) → (List Int) → Option (((TY30 × (List (List Bool)) × Int × Int × Int × Int × Int × Bool × Unit) × (TY60 × TY60 × (List Bool) × (List (List (List Bool))) × (List (List Bool)) × (List Int) × Unit)))
 | 0, _, _, _, _, _, _, _, _, _, _, _, _, _, _ => none
 | n + 1, t0, t1, t2, t3, t16, t22, t53, t54, c8, c14, c1001632, c2000013, c2000015, c2000017 =>
  let x49 := (decide (t22 < ((List.length c2000015 : Nat) : Int)))
  bif x49 then
   if 0 ≤ t22 ∧ t22 < ((List.length c2000015 : Nat) : Int) then
    (F25 k (List.getD c2000015 (Int.toNat t22) ([] : (List Bool))) c1001632).bind fun r50 =>
    bif (!r50.1.1) then
     (F17_3 k n t0 t1 t2 t3 t16 (IntKind.wrap .i64 (t22 + (1 : Int))) t53 t54 c8 c14 c1001632 c2000013 c2000015 c2000017).bind some
    else
     some ((t0, t1, t2, t3, t16, t22, t53, t54, ()), (c8, c14, c1001632, c2000013, c2000015, c2000017, ()))
   else none
  else
   some ((t0, t1, t2, t3, t16, t22, t53, t54, ()), (c8, c14, c1001632, c2000013, c2000015, c2000017, ()))
def fr17_3 (k : Nat) : Frag := ⟨⟨[(15, KD59)], [(0, .val KD11), (1, .val KD57), (2, .val (.int .i64)), (3, .val (.int .i64)), (8, .ptr 8 []), (13, .at 2000013 []), (14, .ptr 14 []), (15, .at 2000015 []), (16, .val (.int .i64)), (17, .at 2000017 []), (21, .at 1001632 []), (22, .val (.int .i64)), (53, .val (.int .i64)), (54, .val .bool)], [(8, some 39, KD33), (14, some 39, KD33), (1001632, none, KD78), (2000013, none, KD51), (2000015, none, KD59), (2000017, none, KD71)]⟩, [(.exit 8, ⟨[], [(0, .val KD11), (1, .val KD57), (2, .val (.int .i64)), (3, .val (.int .i64)), (8, .ptr 8 []), (13, .at 2000013 []), (14, .ptr 14 []), (15, .at 2000015 []), (16, .val (.int .i64)), (17, .at 2000017 []), (21, .at 1001632 []), (22, .val (.int .i64)), (53, .val (.int .i64)), (54, .val .bool)], [(8, some 39, KD33), (14, some 39, KD33), (1001632, none, KD78), (2000013, none, KD51), (2000015, none, KD59), (2000017, none, KD71)]⟩)], fun v => F17_3 k k v.1.1 v.1.2.1 v.1.2.2.1 v.1.2.2.2.1 v.1.2.2.2.2.1 v.1.2.2.2.2.2.1 v.1.2.2.2.2.2.2.1 v.1.2.2.2.2.2.2.2.1 v.2.1 v.2.2.1 v.2.2.2.1 v.2.2.2.2.1 v.2.2.2.2.2.1 v.2.2.2.2.2.2.1⟩
def F17_4 (k : Nat) : Nat → TY30 → (List (List Bool)) → Int → Int → Int → TY60 → TY60 → (List (List (List Bool))) → (List (List Bool)) → Option ((Unit × (TY60 × TY60 × (List (List Bool)) × Unit)) ⊕ TY46)
 | 0, _, _, _, _, _, _, _, _, _ => none
 | n + 1, t0, t1, t2, t3, t16, c8, c14, c2000013, c2000015 =>
  let x11 := (decide (t16 < ((List.length c2000013 : Nat) : Int)))
  bif x11 then
   let x12 := (decide (((List.length c2000013 : Nat) : Int) > t3))
   bif x12 then
    some (.inr (((4 : Int), ()), ((([] : (List (List Int))), (([] : (List Int)), ())), ())))
   else
    let x13 := (decide (((List.length c2000013 : Nat) : Int) > (100000 : Int)))
    bif x13 then
     some (.inr (((4 : Int), ()), ((([] : (List (List Int))), (([] : (List Int)), ())), ())))
    else
     (F17_2 k k t0 t1 t2 t3 t16 (0 : Int) ((List.length c2000013 : Nat) : Int) x13 c8 c14 c2000013 c2000015 []).bind fun r35 =>
     let y36 := r35.1.1
     let y37 := r35.1.2.1
     let y38 := r35.1.2.2.1
     let y39 := r35.1.2.2.2.1
     let y40 := r35.1.2.2.2.2.1
     let y41 := r35.1.2.2.2.2.2.1
     let y42 := r35.1.2.2.2.2.2.2.1
     let y43 := r35.2.1
     let y44 := r35.2.2.1
     let y45 := r35.2.2.2.1
     let y46 := r35.2.2.2.2.1
     let y47 := r35.2.2.2.2.2.1
     if 0 ≤ y40 ∧ y40 < ((List.length y45 : Nat) : Int) then
      (F45 k y36 (List.getD y45 (Int.toNat y40) ([] : (List (List Bool))))).bind fun r48 =>
      (F17_3 k k y36 y37 y38 y39 y40 (0 : Int) y41 y42 y43 y44 r48.1.1 y45 y46 y47).bind fun r51 =>
      let y52 := r51.1.1
      let y53 := r51.1.2.1
      let y54 := r51.1.2.2.1
      let y55 := r51.1.2.2.2.1
      let y56 := r51.1.2.2.2.2.1
      let y57 := r51.1.2.2.2.2.2.1
      let y60 := r51.2.1
      let y61 := r51.2.2.1
      let y62 := r51.2.2.2.1
      let y63 := r51.2.2.2.2.1
      let y64 := r51.2.2.2.2.2.1
      let y65 := r51.2.2.2.2.2.2.1
      bif (y57 == ((List.length y64 : Nat) : Int)) then
       if (List.length y64 + List.length [y62]) * (24 * 2) ≤ 281474976710656 ∧ List.length y64 + List.length [y62] ≤ 9223372036854775807 then
        if (List.length y61.1 + List.length [y65]) * (24 * 2) ≤ 281474976710656 ∧ List.length y61.1 + List.length [y65] ≤ 9223372036854775807 then
         let x66 := (List.set (List.replicate 1 (0 : Int)) 0 y57)
         if (List.length y61.2.1 + List.length x66) * (8 * 2) ≤ 281474976710656 ∧ List.length y61.2.1 + List.length x66 ≤ 9223372036854775807 then
          (F17_4 k n y52 y53 y54 y55 (IntKind.wrap .i64 (y56 + (1 : Int))) y60 ((y61.1 ++ [y65]), ((y61.2.1 ++ x66), y61.2.2)) y63 (y64 ++ [y62])).bind some
         else none
        else none
       else none
      else
       if (List.length y61.1 + List.length [y65]) * (24 * 2) ≤ 281474976710656 ∧ List.length y61.1 + List.length [y65] ≤ 9223372036854775807 then
        let x67 := (List.set (List.replicate 1 (0 : Int)) 0 y57)
        if (List.length y61.2.1 + List.length x67) * (8 * 2) ≤ 281474976710656 ∧ List.length y61.2.1 + List.length x67 ≤ 9223372036854775807 then
         (F17_4 k n y52 y53 y54 y55 (IntKind.wrap .i64 (y56 + (1 : Int))) y60 ((y61.1 ++ [y65]), ((y61.2.1 ++ x67), y61.2.2)) y63 y64).bind some
        else none
       else none
     else none
  else
   some (.inl ((), (c8, c14, c2000015, ())))
def fr17_4 (k : Nat) : Frag := ⟨⟨[(13, KD51), (15, KD59)], [(0, .val KD11), (1, .val KD57), (2, .val (.int .i64)), (3, .val (.int .i64)), (8, .ptr 8 []), (13, .at 2000013 []), (14, .ptr 14 []), (15, .at 2000015 []), (16, .val (.int .i64))], [(8, some 39, KD33), (14, some 39, KD33), (2000013, none, KD51), (2000015, none, KD59)]⟩, [(.exit 2, ⟨[(15, KD59)], [(8, .ptr 8 []), (14, .ptr 14 []), (15, .at 2000015 [])], [(8, some 39, KD33), (14, some 39, KD33), (2000015, none, KD59)]⟩), (.ret, ⟨[], [(8, .ptr 8 []), (9, .nilS), (10, .val (.int .i64))], [(8, some 39, KD33)]⟩)], fun v => F17_4 k k v.1.1 v.1.2.1 v.1.2.2.1 v.1.2.2.2.1 v.1.2.2.2.2.1 v.2.1 v.2.2.1 v.2.2.2.1 v.2.2.2.2.1⟩
def F17 (k : Nat) (a0 : TY30) (a1 : (List (List Bool))) (a2 : Int) (a3 : Int) : Option TY39 :=
 (F17_0 k k a0 a1 a2 a3 (0 : Int) (([] : (List (List Int))), (([] : (List Int)), ())) []).bind fun r4 =>
 let y5 := r4.1.1
 let y6 := r4.1.2.1
 let y7 := r4.1.2.2.1
 let y8 := r4.1.2.2.2.1
 let y9 := r4.2.1
 let y10 := r4.2.2.1
 (F17_4 k k y5 y6 y7 y8 (0 : Int) y9 (([] : (List (List Int))), (([] : (List Int)), ())) [y10] []).bind fun r68 =>
 match r68 with
 | .inl r69 =>
  let y71 := r69.2.2.1
  let y72 := r69.2.2.2.1
  some ((y71, y72, (0 : Int), ()), ())
 | .inr r69 =>
  let y73 := r69.1.1
  let y74 := r69.2.1
  some ((y74, [], y73, ()), ())
def sp17 (k : Nat) : Spec := ⟨[.val KD11, .val KD57, .val (.int .i64), .val (.int .i64)], [.own KD33, .own KD59, .val (.int .i64)], fun x => F17 k x.1 x.2.1 x.2.2.1 x.2.2.2.1⟩
def lim17 : Lim := ⟨140, 4, false, false, [], []⟩
def cfg17 (k : Nat) : Nat → Option Spec := cfgL [(25, sp25 k), (43, sp43 k), (44, sp44 k), (45, sp45 k)]
noncomputable def co17_0 : Code := codeAt (bodyOf Try.f17) [.r, .r, .l, .r, .s]
noncomputable def cb17_0 : Code := codeAt (bodyOf Try.f17) [.r, .r, .l, .r, .s, .b]
noncomputable def co17_1 : Code := codeAt (bodyOf Try.f17) [.r, .r, .r, .r, .r, .r, .l, .r, .s, .b, .r, .l, .s, .r, .r, .l, .r, .s, .b, .r, .l, .s, .r, .r, .l, .s]
noncomputable def cb17_1 : Code := codeAt (bodyOf Try.f17) [.r, .r, .r, .r, .r, .r, .l, .r, .s, .b, .r, .l, .s, .r, .r, .l, .r, .s, .b, .r, .l, .s, .r, .r, .l, .s, .b]
noncomputable def co17_2 : Code := codeAt (bodyOf Try.f17) [.r, .r, .r, .r, .r, .r, .l, .r, .s, .b, .r, .l, .s, .r, .r, .l, .r, .s]
noncomputable def cb17_2 : Code := codeAt (bodyOf Try.f17) [.r, .r, .r, .r, .r, .r, .l, .r, .s, .b, .r, .l, .s, .r, .r, .l, .r, .s, .b]
noncomputable def co17_3 : Code := codeAt (bodyOf Try.f17) [.r, .r, .r, .r, .r, .r, .l, .r, .s, .b, .r, .l, .s, .r, .r, .r, .r, .r, .l, .s]
noncomputable def cb17_3 : Code := codeAt (bodyOf Try.f17) [.r, .r, .r, .r, .r, .r, .l, .r, .s, .b, .r, .l, .s, .r, .r, .r, .r, .r, .l, .s, .b]
noncomputable def co17_4 : Code := codeAt (bodyOf Try.f17) [.r, .r, .r, .r, .r, .r, .l, .r, .s]
noncomputable def cb17_4 : Code := codeAt (bodyOf Try.f17) [.r, .r, .r, .r, .r, .r, .l, .r, .s, .b]
noncomputable def co17 : Code := codeAt (bodyOf Try.f17) []
theorem cfg17_ok (k : Nat) : CfgOK Try.prog (cfg17 k) := cfgL_cons (v25 k) (cfgL_cons (v43 k) (cfgL_cons (v44 k) (cfgL_cons (v45 k) (cfgL_nil))))
noncomputable def bo17_0 (k m : Nat) (v : (fr17_0 k).sh.V) := body Try.prog (stepper Try.prog (cfg17 k) lim17) .go cb17_0 ((fr17_0 k).sh.st v) (loopK (fr17_0 k) fun v => F17_0 k m v.1.1 v.1.2.1 v.1.2.2.1 v.1.2.2.2.1 v.1.2.2.2.2.1 v.2.1 v.2.2.1)
theorem pp17_0 (k m : Nat) (v : (fr17_0 k).sh.V) : F17_0 k (m + 1) v.1.1 v.1.2.1 v.1.2.2.1 v.1.2.2.2.1 v.1.2.2.2.2.1 v.2.1 v.2.2.1 = (bo17_0 k m v).eval ∧ (bo17_0 k m v).left = (bo17_0 k m v).right := ⟨by kernel_rfl, by kernel_rfl⟩
theorem fr17_0_ok (k : Nat) : FragOK Try.prog lim17 (fr17_0 k) co17_0 :=
 frag_cast (by kernel_rfl) (loop_ok (cfg17_ok k) (planOK_go _) (fun m v => F17_0 k m v.1.1 v.1.2.1 v.1.2.2.1 v.1.2.2.2.1 v.1.2.2.2.2.1 v.2.1 v.2.2.1) k (fun _ => rfl) (fun _ => rfl) (pp17_0 k))
noncomputable def bo17_1 (k m : Nat) (v : (fr17_1 k).sh.V) := body Try.prog (stepper Try.prog (cfg17 k) lim17) .go cb17_1 ((fr17_1 k).sh.st v) (loopK (fr17_1 k) fun v => F17_1 k m v.1.1 v.1.2.1 v.1.2.2.1 v.1.2.2.2.1 v.1.2.2.2.2.1 v.1.2.2.2.2.2.1 v.1.2.2.2.2.2.2.1 v.1.2.2.2.2.2.2.2.1 v.1.2.2.2.2.2.2.2.2.1 v.2.1 v.2.2.1 v.2.2.2.1 v.2.2.2.2.1 v.2.2.2.2.2.1 v.2.2.2.2.2.2.1)
theorem pp17_1 (k m : Nat) (v : (fr17_1 k).sh.V) : F17_1 k (m + 1) v.1.1 v.1.2.1 v.1.2.2.1 v.1.2.2.2.1 v.1.2.2.2.2.1 v.1.2.2.2.2.2.1 v.1.2.2.2.2.2.2.1 v.1.2.2.2.2.2.2.2.1 v.1.2.2.2.2.2.2.2.2.1 v.2.1 v.2.2.1 v.2.2.2.1 v.2.2.2.2.1 v.2.2.2.2.2.1 v.2.2.2.2.2.2.1 = (bo17_1 k m v).eval ∧ (bo17_1 k m v).left = (bo17_1 k m v).right := ⟨by kernel_rfl, by kernel_rfl⟩
theorem fr17_1_ok (k : Nat) : FragOK Try.prog lim17 (fr17_1 k) co17_1 :=
 frag_cast (by kernel_rfl) (loop_ok (cfg17_ok k) (planOK_go _) (fun m v => F17_1 k m v.1.1 v.1.2.1 v.1.2.2.1 v.1.2.2.2.1 v.1.2.2.2.2.1 v.1.2.2.2.2.2.1 v.1.2.2.2.2.2.2.1 v.1.2.2.2.2.2.2.2.1 v.1.2.2.2.2.2.2.2.2.1 v.2.1 v.2.2.1 v.2.2.2.1 v.2.2.2.2.1 v.2.2.2.2.2.1 v.2.2.2.2.2.2.1) k (fun _ => rfl) (fun _ => rfl) (pp17_1 k))
def pl17_2 (k : Nat) : Plan := (.seq .go (.seq (.sub (.seq .go (.seq .go (.seq (.sub (.frag (fr17_1 k))) .go)))) .go))
theorem pq17_2 (k : Nat) : PlanOK Try.prog lim17 (pl17_2 k) cb17_2 = (PlanOK Try.prog lim17 .go (codeAt (bodyOf Try.f17) [.r, .r, .r, .r, .r, .r, .l, .r, .s, .b, .r, .l, .s, .r, .r, .l, .r, .s, .b, .l]) ∧ ((PlanOK Try.prog lim17 .go (codeAt (bodyOf Try.f17) [.r, .r, .r, .r, .r, .r, .l, .r, .s, .b, .r, .l, .s, .r, .r, .l, .r, .s, .b, .r, .l, .s, .l]) ∧ (PlanOK Try.prog lim17 .go (codeAt (bodyOf Try.f17) [.r, .r, .r, .r, .r, .r, .l, .r, .s, .b, .r, .l, .s, .r, .r, .l, .r, .s, .b, .r, .l, .s, .r, .l]) ∧ (FragOK Try.prog lim17 (fr17_1 k) co17_1 ∧ PlanOK Try.prog lim17 .go (codeAt (bodyOf Try.f17) [.r, .r, .r, .r, .r, .r, .l, .r, .s, .b, .r, .l, .s, .r, .r, .l, .r, .s, .b, .r, .l, .s, .r, .r, .r])))) ∧ PlanOK Try.prog lim17 .go (codeAt (bodyOf Try.f17) [.r, .r, .r, .r, .r, .r, .l, .r, .s, .b, .r, .l, .s, .r, .r, .l, .r, .s, .b, .r, .r]))) := by kernel_rfl
noncomputable def bo17_2 (k m : Nat) (v : (fr17_2 k).sh.V) := body Try.prog (stepper Try.prog (cfg17 k) lim17) (pl17_2 k) cb17_2 ((fr17_2 k).sh.st v) (loopK (fr17_2 k) fun v => F17_2 k m v.1.1 v.1.2.1 v.1.2.2.1 v.1.2.2.2.1 v.1.2.2.2.2.1 v.1.2.2.2.2.2.1 v.1.2.2.2.2.2.2.1 v.1.2.2.2.2.2.2.2.1 v.2.1 v.2.2.1 v.2.2.2.1 v.2.2.2.2.1 v.2.2.2.2.2.1)
theorem pp17_2 (k m : Nat) (v : (fr17_2 k).sh.V) : F17_2 k (m + 1) v.1.1 v.1.2.1 v.1.2.2.1 v.1.2.2.2.1 v.1.2.2.2.2.1 v.1.2.2.2.2.2.1 v.1.2.2.2.2.2.2.1 v.1.2.2.2.2.2.2.2.1 v.2.1 v.2.2.1 v.2.2.2.1 v.2.2.2.2.1 v.2.2.2.2.2.1 = (bo17_2 k m v).eval ∧ (bo17_2 k m v).left = (bo17_2 k m v).right := ⟨by kernel_rfl, by kernel_rfl⟩
theorem fr17_2_ok (k : Nat) : FragOK Try.prog lim17 (fr17_2 k) co17_2 :=
 frag_cast (by kernel_rfl) (loop_ok (cfg17_ok k) (Eq.mpr (pq17_2 k) ⟨(planOK_go _), ⟨⟨(planOK_go _), ⟨(planOK_go _), ⟨(fr17_1_ok k), (planOK_go _)⟩⟩⟩, (planOK_go _)⟩⟩) (fun m v => F17_2 k m v.1.1 v.1.2.1 v.1.2.2.1 v.1.2.2.2.1 v.1.2.2.2.2.1 v.1.2.2.2.2.2.1 v.1.2.2.2.2.2.2.1 v.1.2.2.2.2.2.2.2.1 v.2.1 v.2.2.1 v.2.2.2.1 v.2.2.2.2.1 v.2.2.2.2.2.1) k (fun _ => rfl) (fun _ => rfl) (pp17_2 k))
noncomputable def bo17_3 (k m : Nat) (v : (fr17_3 k).sh.V) := body Try.prog (stepper Try.prog (cfg17 k) lim17) .go cb17_3 ((fr17_3 k).sh.st v) (loopK (fr17_3 k) fun v => F17_3 k m v.1.1 v.1.2.1 v.1.2.2.1 v.1.2.2.2.1 v.1.2.2.2.2.1 v.1.2.2.2.2.2.1 v.1.2.2.2.2.2.2.1 v.1.2.2.2.2.2.2.2.1 v.2.1 v.2.2.1 v.2.2.2.1 v.2.2.2.2.1 v.2.2.2.2.2.1 v.2.2.2.2.2.2.1)
theorem pp17_3 (k m : Nat) (v : (fr17_3 k).sh.V) : F17_3 k (m + 1) v.1.1 v.1.2.1 v.1.2.2.1 v.1.2.2.2.1 v.1.2.2.2.2.1 v.1.2.2.2.2.2.1 v.1.2.2.2.2.2.2.1 v.1.2.2.2.2.2.2.2.1 v.2.1 v.2.2.1 v.2.2.2.1 v.2.2.2.2.1 v.2.2.2.2.2.1 v.2.2.2.2.2.2.1 = (bo17_3 k m v).eval ∧ (bo17_3 k m v).left = (bo17_3 k m v).right := ⟨by kernel_rfl, by kernel_rfl⟩
theorem fr17_3_ok (k : Nat) : FragOK Try.prog lim17 (fr17_3 k) co17_3 :=
 frag_cast (by kernel_rfl) (loop_ok (cfg17_ok k) (planOK_go _) (fun m v => F17_3 k m v.1.1 v.1.2.1 v.1.2.2.1 v.1.2.2.2.1 v.1.2.2.2.2.1 v.1.2.2.2.2.2.1 v.1.2.2.2.2.2.2.1 v.1.2.2.2.2.2.2.2.1 v.2.1 v.2.2.1 v.2.2.2.1 v.2.2.2.2.1 v.2.2.2.2.2.1 v.2.2.2.2.2.2.1) k (fun _ => rfl) (fun _ => rfl) (pp17_3 k))
def pl17_4 (k : Nat) : Plan := (.seq .go (.seq (.sub (.seq .go (.seq .go (.seq (.seq .go (.sub (.frag (fr17_2 k)))) (.seq .go (.seq .go (.seq (.sub (.frag (fr17_3 k))) .go))))))) .go))
theorem pq17_4 (k : Nat) : PlanOK Try.prog lim17 (pl17_4 k) cb17_4 = (PlanOK Try.prog lim17 .go (codeAt (bodyOf Try.f17) [.r, .r, .r, .r, .r, .r, .l, .r, .s, .b, .l]) ∧ ((PlanOK Try.prog lim17 .go (codeAt (bodyOf Try.f17) [.r, .r, .r, .r, .r, .r, .l, .r, .s, .b, .r, .l, .s, .l]) ∧ (PlanOK Try.prog lim17 .go (codeAt (bodyOf Try.f17) [.r, .r, .r, .r, .r, .r, .l, .r, .s, .b, .r, .l, .s, .r, .l]) ∧ ((PlanOK Try.prog lim17 .go (codeAt (bodyOf Try.f17) [.r, .r, .r, .r, .r, .r, .l, .r, .s, .b, .r, .l, .s, .r, .r, .l, .l]) ∧ FragOK Try.prog lim17 (fr17_2 k) co17_2) ∧ (PlanOK Try.prog lim17 .go (codeAt (bodyOf Try.f17) [.r, .r, .r, .r, .r, .r, .l, .r, .s, .b, .r, .l, .s, .r, .r, .r, .l]) ∧ (PlanOK Try.prog lim17 .go (codeAt (bodyOf Try.f17) [.r, .r, .r, .r, .r, .r, .l, .r, .s, .b, .r, .l, .s, .r, .r, .r, .r, .l]) ∧ (FragOK Try.prog lim17 (fr17_3 k) co17_3 ∧ PlanOK Try.prog lim17 .go (codeAt (bodyOf Try.f17) [.r, .r, .r, .r, .r, .r, .l, .r, .s, .b, .r, .l, .s, .r, .r, .r, .r, .r, .r]))))))) ∧ PlanOK Try.prog lim17 .go (codeAt (bodyOf Try.f17) [.r, .r, .r, .r, .r, .r, .l, .r, .s, .b, .r, .r]))) := by kernel_rfl
noncomputable def bo17_4 (k m : Nat) (v : (fr17_4 k).sh.V) := body Try.prog (stepper Try.prog (cfg17 k) lim17) (pl17_4 k) cb17_4 ((fr17_4 k).sh.st v) (loopK (fr17_4 k) fun v => F17_4 k m v.1.1 v.1.2.1 v.1.2.2.1 v.1.2.2.2.1 v.1.2.2.2.2.1 v.2.1 v.2.2.1 v.2.2.2.1 v.2.2.2.2.1)
theorem pp17_4 (k m : Nat) (v : (fr17_4 k).sh.V) : F17_4 k (m + 1) v.1.1 v.1.2.1 v.1.2.2.1 v.1.2.2.2.1 v.1.2.2.2.2.1 v.2.1 v.2.2.1 v.2.2.2.1 v.2.2.2.2.1 = (bo17_4 k m v).eval ∧ (bo17_4 k m v).left = (bo17_4 k m v).right := ⟨by kernel_rfl, by kernel_rfl⟩
theorem fr17_4_ok (k : Nat) : FragOK Try.prog lim17 (fr17_4 k) co17_4 :=
 frag_cast (by kernel_rfl) (loop_ok (cfg17_ok k) (Eq.mpr (pq17_4 k) ⟨(planOK_go _), ⟨⟨(planOK_go _), ⟨(planOK_go _), ⟨⟨(planOK_go _), (fr17_2_ok k)⟩, ⟨(planOK_go _), ⟨(planOK_go _), ⟨(fr17_3_ok k), (planOK_go _)⟩⟩⟩⟩⟩⟩, (planOK_go _)⟩⟩) (fun m v => F17_4 k m v.1.1 v.1.2.1 v.1.2.2.1 v.1.2.2.2.1 v.1.2.2.2.2.1 v.2.1 v.2.2.1 v.2.2.2.1 v.2.2.2.2.1) k (fun _ => rfl) (fun _ => rfl) (pp17_4 k))
def pl17 (k : Nat) : Plan := (.seq .go (.seq .go (.seq (.seq .go (.sub (.frag (fr17_0 k)))) (.seq .go (.seq .go (.seq .go (.seq (.seq .go (.sub (.frag (fr17_4 k)))) .go)))))))
theorem pq17 (k : Nat) : PlanOK Try.prog lim17 (pl17 k) co17 = (PlanOK Try.prog lim17 .go (codeAt (bodyOf Try.f17) [.l]) ∧ (PlanOK Try.prog lim17 .go (codeAt (bodyOf Try.f17) [.r, .l]) ∧ ((PlanOK Try.prog lim17 .go (codeAt (bodyOf Try.f17) [.r, .r, .l, .l]) ∧ FragOK Try.prog lim17 (fr17_0 k) co17_0) ∧ (PlanOK Try.prog lim17 .go (codeAt (bodyOf Try.f17) [.r, .r, .r, .l]) ∧ (PlanOK Try.prog lim17 .go (codeAt (bodyOf Try.f17) [.r, .r, .r, .r, .l]) ∧ (PlanOK Try.prog lim17 .go (codeAt (bodyOf Try.f17) [.r, .r, .r, .r, .r, .l]) ∧ ((PlanOK Try.prog lim17 .go (codeAt (bodyOf Try.f17) [.r, .r, .r, .r, .r, .r, .l, .l]) ∧ FragOK Try.prog lim17 (fr17_4 k) co17_4) ∧ PlanOK Try.prog lim17 .go (codeAt (bodyOf Try.f17) [.r, .r, .r, .r, .r, .r, .r])))))))) := by kernel_rfl
noncomputable def bo17 (k : Nat) (x : AT (sp17 k).ps) := fnT Try.prog (cfg17 k) lim17 Try.f17 (bodyOf Try.f17) (pl17 k) (sp17 k) x
theorem vv17 (k : Nat) (x : AT (sp17 k).ps) : (sp17 k).impl x = (bo17 k x).eval ∧ (bo17 k x).left = (bo17 k x).right := ⟨by kernel_rfl, by kernel_rfl⟩
theorem v17 (k : Nat) : Callable Try.prog 17 ∧ Valid Try.prog 17 (sp17 k) :=
 fn_of (n := lim17) (fn := Try.f17) (p := (pl17 k)) (cfg17_ok k) (by kernel_rfl) (Eq.mpr (pq17 k) ⟨(planOK_go _), ⟨(planOK_go _), ⟨⟨(planOK_go _), (fr17_0_ok k)⟩, ⟨(planOK_go _), ⟨(planOK_go _), ⟨(planOK_go _), ⟨⟨(planOK_go _), (fr17_4_ok k)⟩, (planOK_go _)⟩⟩⟩⟩⟩⟩⟩) (vv17 k)
def F18_0 (k : Nat) : Nat → Int → Int → TY60 → TY60 → Option (((Int × Unit) × TY35) ⊕ TY79)
 | 0, _, _, _, _ => none
 | n + 1, t5, t6, c2, c3 =>
  if 0 ≤ t5 ∧ t5 < ((List.length c2.1 : Nat) : Int) then
   let x12 := (List.getD c2.1 (Int.toNat t5) ([] : (List Int)))
   let x13 := (decide (t6 < ((List.length x12 : Nat) : Int)))
   bif x13 then
    if 0 ≤ t5 ∧ t5 < ((List.length c2.1 : Nat) : Int) then
     let x14 := (List.getD c2.1 (Int.toNat t5) ([] : (List Int)))
     if 0 ≤ t6 ∧ t6 < ((List.length x14 : Nat) : Int) then
      if 0 ≤ t5 ∧ t5 < ((List.length c3.1 : Nat) : Int) then
       let x15 := (List.getD c3.1 (Int.toNat t5) ([] : (List Int)))
       if 0 ≤ t6 ∧ t6 < ((List.length x15 : Nat) : Int) then
        let x16 := ((List.getD x14 (Int.toNat t6) (0 : Int)) != (List.getD x15 (Int.toNat t6) (0 : Int)))
        bif x16 then
         some (.inr ((false, ()), ()))
        else
         (F18_0 k n t5 (IntKind.wrap .i64 (t6 + (1 : Int))) c2 c3).bind some
       else none
      else none
     else none
    else none
   else
    some (.inl ((t5, ()), (c2, c3, ())))
  else none
def fr18_0 (k : Nat) : Frag := ⟨⟨[], [(2, .ptr 2 []), (3, .ptr 3 []), (5, .val (.int .i64)), (6, .val (.int .i64))], [(2, some 39, KD31), (3, some 39, KD31)]⟩, [(.exit 2, ⟨[], [(2, .ptr 2 []), (3, .ptr 3 []), (5, .val (.int .i64))], [(2, some 39, KD31), (3, some 39, KD31)]⟩), (.ret, ⟨[], [(4, .val .bool)], []⟩)], fun v => F18_0 k k v.1.1 v.1.2.1 v.2.1 v.2.2.1⟩
def F18_1 (k : Nat) : Nat → Int → TY60 → TY60 → Option ((Unit × TY35) ⊕ TY79)
 | 0, _, _, _ => none
 | n + 1, t5, c2, c3 =>
  let x23 := (decide (t5 < ((List.length c2.1 : Nat) : Int)))
  bif x23 then
   if 0 ≤ t5 ∧ t5 < ((List.length c2.1 : Nat) : Int) then
    let x24 := (List.getD c2.1 (Int.toNat t5) ([] : (List Int)))
    if 0 ≤ t5 ∧ t5 < ((List.length c3.1 : Nat) : Int) then
     let x25 := (List.getD c3.1 (Int.toNat t5) ([] : (List Int)))
     let x26 := (((List.length x24 : Nat) : Int) != ((List.length x25 : Nat) : Int))
     bif x26 then
      some (.inr ((false, ()), ()))
     else
      (F18_0 k k t5 (0 : Int) c2 c3).bind fun r27 =>
      match r27 with
      | .inl r28 =>
       let y29 := r28.1.1
       let y30 := r28.2.1
       let y31 := r28.2.2.1
       (F18_1 k n (IntKind.wrap .i64 (y29 + (1 : Int))) y30 y31).bind some
      | .inr r28 =>
       let y32 := r28.1.1
       some (.inr ((y32, ()), ()))
    else none
   else none
  else
   some (.inl ((), (c2, c3, ())))
def fr18_1 (k : Nat) : Frag := ⟨⟨[], [(2, .ptr 2 []), (3, .ptr 3 []), (5, .val (.int .i64))], [(2, some 39, KD31), (3, some 39, KD31)]⟩, [(.exit 0, ⟨[], [(2, .ptr 2 []), (3, .ptr 3 [])], [(2, some 39, KD31), (3, some 39, KD31)]⟩), (.ret, ⟨[], [(4, .val .bool)], []⟩)], fun v => F18_1 k k v.1.1 v.2.1 v.2.2.1⟩
def F18_2 (k : Nat) : Nat → Int → TY60 → TY60 → Option ((Unit × Unit) ⊕ TY79)
 | 0, _, _, _ => none
 | n + 1, t7, c2, c3 =>
  let x39 := (decide (t7 < ((List.length c2.2.1 : Nat) : Int)))
  bif x39 then
   if 0 ≤ t7 ∧ t7 < ((List.length c2.2.1 : Nat) : Int) then
    if 0 ≤ t7 ∧ t7 < ((List.length c3.2.1 : Nat) : Int) then
     let x40 := ((List.getD c2.2.1 (Int.toNat t7) (0 : Int)) != (List.getD c3.2.1 (Int.toNat t7) (0 : Int)))
     bif x40 then
      some (.inr ((false, ()), ()))
     else
      (F18_2 k n (IntKind.wrap .i64 (t7 + (1 : Int))) c2 c3).bind some
    else none
   else none
  else
   some (.inl ((), ()))
def fr18_2 (k : Nat) : Frag := ⟨⟨[], [(2, .ptr 2 []), (3, .ptr 3 []), (7, .val (.int .i64))], [(2, some 39, KD31), (3, some 39, KD31)]⟩, [(.exit 4, ⟨[], [], []⟩), (.ret, ⟨[], [(4, .val .bool)], []⟩)], fun v => F18_2 k k v.1.1 v.2.1 v.2.2.1⟩
def F18 (k : Nat) (a0 : TY60) (a1 : TY60) : Option TY79 :=
 let x1 := (((List.length a0.1 : Nat) : Int) != ((List.length a1.1 : Nat) : Int))
 bif x1 then
  some ((false, ()), ())
 else
  let x2 := (((List.length a0.2.1 : Nat) : Int) != ((List.length a1.2.1 : Nat) : Int))
  bif x2 then
   some ((false, ()), ())
  else
   (F18_1 k k (0 : Int) a0 a1).bind fun r33 =>
   match r33 with
   | .inl r34 =>
    let y35 := r34.2.1
    let y36 := r34.2.2.1
    (F18_2 k k (0 : Int) y35 y36).bind fun r41 =>
    match r41 with
    | .inl r42 =>
     some ((true, ()), ())
    | .inr r42 =>
     let y43 := r42.1.1
     some ((y43, ()), ())
   | .inr r34 =>
    let y44 := r34.1.1
    some ((y44, ()), ())
def sp18 (k : Nat) : Spec := ⟨[.val KD31, .val KD31], [.val .bool], fun x => F18 k x.1 x.2.1⟩
def lim18 : Lim := ⟨89, 2, false, false, [], []⟩
def cfg18 (k : Nat) : Nat → Option Spec := cfgL []
noncomputable def co18_0 : Code := codeAt (bodyOf Try.f18) [.r, .r, .l, .r, .s, .b, .r, .l, .s, .r, .r, .s]
noncomputable def cb18_0 : Code := codeAt (bodyOf Try.f18) [.r, .r, .l, .r, .s, .b, .r, .l, .s, .r, .r, .s, .b]
noncomputable def co18_1 : Code := codeAt (bodyOf Try.f18) [.r, .r, .l, .r, .s]
noncomputable def cb18_1 : Code := codeAt (bodyOf Try.f18) [.r, .r, .l, .r, .s, .b]
noncomputable def co18_2 : Code := codeAt (bodyOf Try.f18) [.r, .r, .r, .l, .r, .s]
noncomputable def cb18_2 : Code := codeAt (bodyOf Try.f18) [.r, .r, .r, .l, .r, .s, .b]
noncomputable def co18 : Code := codeAt (bodyOf Try.f18) []
theorem cfg18_ok (k : Nat) : CfgOK Try.prog (cfg18 k) := cfgL_nil
noncomputable def bo18_0 (k m : Nat) (v : (fr18_0 k).sh.V) := body Try.prog (stepper Try.prog (cfg18 k) lim18) .go cb18_0 ((fr18_0 k).sh.st v) (loopK (fr18_0 k) fun v => F18_0 k m v.1.1 v.1.2.1 v.2.1 v.2.2.1)
theorem pp18_0 (k m : Nat) (v : (fr18_0 k).sh.V) : F18_0 k (m + 1) v.1.1 v.1.2.1 v.2.1 v.2.2.1 = (bo18_0 k m v).eval ∧ (bo18_0 k m v).left = (bo18_0 k m v).right := ⟨by kernel_rfl, by kernel_rfl⟩
theorem fr18_0_ok (k : Nat) : FragOK Try.prog lim18 (fr18_0 k) co18_0 :=
 frag_cast (by kernel_rfl) (loop_ok (cfg18_ok k) (planOK_go _) (fun m v => F18_0 k m v.1.1 v.1.2.1 v.2.1 v.2.2.1) k (fun _ => rfl) (fun _ => rfl) (pp18_0 k))
def pl18_1 (k : Nat) : Plan := (.seq .go (.seq (.sub (.seq .go (.seq .go (.sub (.frag (fr18_0 k)))))) .go))
theorem pq18_1 (k : Nat) : PlanOK Try.prog lim18 (pl18_1 k) cb18_1 = (PlanOK Try.prog lim18 .go (codeAt (bodyOf Try.f18) [.r, .r, .l, .r, .s, .b, .l]) ∧ ((PlanOK Try.prog lim18 .go (codeAt (bodyOf Try.f18) [.r, .r, .l, .r, .s, .b, .r, .l, .s, .l]) ∧ (PlanOK Try.prog lim18 .go (codeAt (bodyOf Try.f18) [.r, .r, .l, .r, .s, .b, .r, .l, .s, .r, .l]) ∧ FragOK Try.prog lim18 (fr18_0 k) co18_0)) ∧ PlanOK Try.prog lim18 .go (codeAt (bodyOf Try.f18) [.r, .r, .l, .r, .s, .b, .r, .r]))) := by kernel_rfl
noncomputable def bo18_1 (k m : Nat) (v : (fr18_1 k).sh.V) := body Try.prog (stepper Try.prog (cfg18 k) lim18) (pl18_1 k) cb18_1 ((fr18_1 k).sh.st v) (loopK (fr18_1 k) fun v => F18_1 k m v.1.1 v.2.1 v.2.2.1)
theorem pp18_1 (k m : Nat) (v : (fr18_1 k).sh.V) : F18_1 k (m + 1) v.1.1 v.2.1 v.2.2.1 = (bo18_1 k m v).eval ∧ (bo18_1 k m v).left = (bo18_1 k m v).right := ⟨by kernel_rfl, by kernel_rfl⟩
theorem fr18_1_ok (k : Nat) : FragOK Try.prog lim18 (fr18_1 k) co18_1 :=
 frag_cast (by kernel_rfl) (loop_ok (cfg18_ok k) (Eq.mpr (pq18_1 k) ⟨(planOK_go _), ⟨⟨(planOK_go _), ⟨(planOK_go _), (fr18_0_ok k)⟩⟩, (planOK_go _)⟩⟩) (fun m v => F18_1 k m v.1.1 v.2.1 v.2.2.1) k (fun _ => rfl) (fun _ => rfl) (pp18_1 k))
noncomputable def bo18_2 (k m : Nat) (v : (fr18_2 k).sh.V) := body Try.prog (stepper Try.prog (cfg18 k) lim18) .go cb18_2 ((fr18_2 k).sh.st v) (loopK (fr18_2 k) fun v => F18_2 k m v.1.1 v.2.1 v.2.2.1)
theorem pp18_2 (k m : Nat) (v : (fr18_2 k).sh.V) : F18_2 k (m + 1) v.1.1 v.2.1 v.2.2.1 = (bo18_2 k m v).eval ∧ (bo18_2 k m v).left = (bo18_2 k m v).right := ⟨by kernel_rfl, by kernel_rfl⟩
theorem fr18_2_ok (k : Nat) : FragOK Try.prog lim18 (fr18_2 k) co18_2 :=
 frag_cast (by kernel_rfl) (loop_ok (cfg18_ok k) (planOK_go _) (fun m v => F18_2 k m v.1.1 v.2.1 v.2.2.1) k (fun _ => rfl) (fun _ => rfl) (pp18_2 k))
def pl18 (k : Nat) : Plan := (.seq .go (.seq .go (.seq (.seq .go (.sub (.frag (fr18_1 k)))) (.seq (.seq .go (.sub (.frag (fr18_2 k)))) .go))))
theorem pq18 (k : Nat) : PlanOK Try.prog lim18 (pl18 k) co18 = (PlanOK Try.prog lim18 .go (codeAt (bodyOf Try.f18) [.l]) ∧ (PlanOK Try.prog lim18 .go (codeAt (bodyOf Try.f18) [.r, .l]) ∧ ((PlanOK Try.prog lim18 .go (codeAt (bodyOf Try.f18) [.r, .r, .l, .l]) ∧ FragOK Try.prog lim18 (fr18_1 k) co18_1) ∧ ((PlanOK Try.prog lim18 .go (codeAt (bodyOf Try.f18) [.r, .r, .r, .l, .l]) ∧ FragOK Try.prog lim18 (fr18_2 k) co18_2) ∧ PlanOK Try.prog lim18 .go (codeAt (bodyOf Try.f18) [.r, .r, .r, .r]))))) := by kernel_rfl
noncomputable def bo18 (k : Nat) (x : AT (sp18 k).ps) := fnT Try.prog (cfg18 k) lim18 Try.f18 (bodyOf Try.f18) (pl18 k) (sp18 k) x
theorem vv18 (k : Nat) (x : AT (sp18 k).ps) : (sp18 k).impl x = (bo18 k x).eval ∧ (bo18 k x).left = (bo18 k x).right := ⟨by kernel_rfl, by kernel_rfl⟩
theorem v18 (k : Nat) : Callable Try.prog 18 ∧ Valid Try.prog 18 (sp18 k) :=
 fn_of (n := lim18) (fn := Try.f18) (p := (pl18 k)) (cfg18_ok k) (by kernel_rfl) (Eq.mpr (pq18 k) ⟨(planOK_go _), ⟨(planOK_go _), ⟨⟨(planOK_go _), (fr18_1_ok k)⟩, ⟨⟨(planOK_go _), (fr18_2_ok k)⟩, (planOK_go _)⟩⟩⟩⟩) (vv18 k)
def F19_0 (k : Nat) : Nat → (List (List Bool)) → (List (List Bool)) → Int → Option ((Unit × Unit) ⊕ TY79)
 | 0, _, _, _ => none
 | n + 1, t0, t1, t5 =>
  let x6 := (decide (t5 < ((List.length t0 : Nat) : Int)))
  bif x6 then
   if 0 ≤ t5 ∧ t5 < ((List.length t0 : Nat) : Int) then
    let x7 := (List.getD t0 (Int.toNat t5) ([] : (List Bool)))
    if 0 ≤ t5 ∧ t5 < ((List.length t1 : Nat) : Int) then
     let x8 := (List.getD t1 (Int.toNat t5) ([] : (List Bool)))
     (F25 k x7 x8).bind fun r9 =>
     bif (!r9.1.1) then
      some (.inr ((false, ()), ()))
     else
      (F19_0 k n t0 t1 (IntKind.wrap .i64 (t5 + (1 : Int)))).bind some
    else none
   else none
  else
   some (.inl ((), ()))
def fr19_0 (k : Nat) : Frag := ⟨⟨[], [(0, .val KD57), (1, .val KD57), (5, .val (.int .i64))], []⟩, [(.exit 0, ⟨[], [], []⟩), (.ret, ⟨[], [(4, .val .bool)], []⟩)], fun v => F19_0 k k v.1.1 v.1.2.1 v.1.2.2.1⟩
def F19 (k : Nat) (a0 : (List (List Bool))) (a1 : (List (List Bool))) : Option TY79 :=
 let x1 := (((List.length a0 : Nat) : Int) != ((List.length a1 : Nat) : Int))
 bif x1 then
  some ((false, ()), ())
 else
  (F19_0 k k a0 a1 (0 : Int)).bind fun r10 =>
  match r10 with
  | .inl r11 =>
   some ((true, ()), ())
  | .inr r11 =>
   let y12 := r11.1.1
   some ((y12, ()), ())
def sp19 (k : Nat) : Spec := ⟨[.val KD57, .val KD57], [.val .bool], fun x => F19 k x.1 x.2.1⟩
def lim19 : Lim := ⟨27, 2, false, false, [], []⟩
def cfg19 (k : Nat) : Nat → Option Spec := cfgL [(25, sp25 k)]
noncomputable def co19_0 : Code := codeAt (bodyOf Try.f19) [.r, .r, .l, .r, .s]
noncomputable def cb19_0 : Code := codeAt (bodyOf Try.f19) [.r, .r, .l, .r, .s, .b]
noncomputable def co19 : Code := codeAt (bodyOf Try.f19) []
theorem cfg19_ok (k : Nat) : CfgOK Try.prog (cfg19 k) := cfgL_cons (v25 k) (cfgL_nil)
noncomputable def bo19_0 (k m : Nat) (v : (fr19_0 k).sh.V) := body Try.prog (stepper Try.prog (cfg19 k) lim19) .go cb19_0 ((fr19_0 k).sh.st v) (loopK (fr19_0 k) fun v => F19_0 k m v.1.1 v.1.2.1 v.1.2.2.1)
theorem pp19_0 (k m : Nat) (v : (fr19_0 k).sh.V) : F19_0 k (m + 1) v.1.1 v.1.2.1 v.1.2.2.1 = (bo19_0 k m v).eval ∧ (bo19_0 k m v).left = (bo19_0 k m v).right := ⟨by kernel_rfl, by kernel_rfl⟩
theorem fr19_0_ok (k : Nat) : FragOK Try.prog lim19 (fr19_0 k) co19_0 :=
 frag_cast (by kernel_rfl) (loop_ok (cfg19_ok k) (planOK_go _) (fun m v => F19_0 k m v.1.1 v.1.2.1 v.1.2.2.1) k (fun _ => rfl) (fun _ => rfl) (pp19_0 k))
def pl19 (k : Nat) : Plan := (.seq .go (.seq .go (.seq (.seq .go (.sub (.frag (fr19_0 k)))) .go)))
theorem pq19 (k : Nat) : PlanOK Try.prog lim19 (pl19 k) co19 = (PlanOK Try.prog lim19 .go (codeAt (bodyOf Try.f19) [.l]) ∧ (PlanOK Try.prog lim19 .go (codeAt (bodyOf Try.f19) [.r, .l]) ∧ ((PlanOK Try.prog lim19 .go (codeAt (bodyOf Try.f19) [.r, .r, .l, .l]) ∧ FragOK Try.prog lim19 (fr19_0 k) co19_0) ∧ PlanOK Try.prog lim19 .go (codeAt (bodyOf Try.f19) [.r, .r, .r])))) := by kernel_rfl
noncomputable def bo19 (k : Nat) (x : AT (sp19 k).ps) := fnT Try.prog (cfg19 k) lim19 Try.f19 (bodyOf Try.f19) (pl19 k) (sp19 k) x
theorem vv19 (k : Nat) (x : AT (sp19 k).ps) : (sp19 k).impl x = (bo19 k x).eval ∧ (bo19 k x).left = (bo19 k x).right := ⟨by kernel_rfl, by kernel_rfl⟩
theorem v19 (k : Nat) : Callable Try.prog 19 ∧ Valid Try.prog 19 (sp19 k) :=
 fn_of (n := lim19) (fn := Try.f19) (p := (pl19 k)) (cfg19_ok k) (by kernel_rfl) (Eq.mpr (pq19 k) ⟨(planOK_go _), ⟨(planOK_go _), ⟨⟨(planOK_go _), (fr19_0_ok k)⟩, (planOK_go _)⟩⟩⟩) (vv19 k)
def F26_0 (k : Nat) : Nat → (List Int) → (List Int) → Int → Option ((Unit × Unit) ⊕ TY79)
 | 0, _, _, _ => none
 | n + 1, t0, t1, t5 =>
  let x4 := (decide (t5 < ((List.length t0 : Nat) : Int)))
  bif x4 then
   if 0 ≤ t5 ∧ t5 < ((List.length t0 : Nat) : Int) then
    if 0 ≤ t5 ∧ t5 < ((List.length t1 : Nat) : Int) then
     let x5 := ((List.getD t0 (Int.toNat t5) (0 : Int)) != (List.getD t1 (Int.toNat t5) (0 : Int)))
     bif x5 then
      some (.inr ((false, ()), ()))
     else
      (F26_0 k n t0 t1 (IntKind.wrap .i64 (t5 + (1 : Int)))).bind some
    else none
   else none
  else
   some (.inl ((), ()))
def fr26_0 (k : Nat) : Frag := ⟨⟨[], [(0, .val KD68), (1, .val KD68), (5, .val (.int .i64))], []⟩, [(.exit 0, ⟨[], [], []⟩), (.ret, ⟨[], [(4, .val .bool)], []⟩)], fun v => F26_0 k k v.1.1 v.1.2.1 v.1.2.2.1⟩
def F26 (k : Nat) (a0 : (List Int)) (a1 : (List Int)) : Option TY79 :=
 let x1 := (((List.length a0 : Nat) : Int) != ((List.length a1 : Nat) : Int))
 bif x1 then
  some ((false, ()), ())
 else
  (F26_0 k k a0 a1 (0 : Int)).bind fun r6 =>
  match r6 with
  | .inl r7 =>
   some ((true, ()), ())
  | .inr r7 =>
   let y8 := r7.1.1
   some ((y8, ()), ())
def sp26 (k : Nat) : Spec := ⟨[.val KD68, .val KD68], [.val .bool], fun x => F26 k x.1 x.2.1⟩
def lim26 : Lim := ⟨26, 2, false, false, [], []⟩
def cfg26 (k : Nat) : Nat → Option Spec := cfgL []
noncomputable def co26_0 : Code := codeAt (bodyOf Try.f26) [.r, .r, .l, .r, .s]
noncomputable def cb26_0 : Code := codeAt (bodyOf Try.f26) [.r, .r, .l, .r, .s, .b]
noncomputable def co26 : Code := codeAt (bodyOf Try.f26) []
theorem cfg26_ok (k : Nat) : CfgOK Try.prog (cfg26 k) := cfgL_nil
noncomputable def bo26_0 (k m : Nat) (v : (fr26_0 k).sh.V) := body Try.prog (stepper Try.prog (cfg26 k) lim26) .go cb26_0 ((fr26_0 k).sh.st v) (loopK (fr26_0 k) fun v => F26_0 k m v.1.1 v.1.2.1 v.1.2.2.1)
theorem pp26_0 (k m : Nat) (v : (fr26_0 k).sh.V) : F26_0 k (m + 1) v.1.1 v.1.2.1 v.1.2.2.1 = (bo26_0 k m v).eval ∧ (bo26_0 k m v).left = (bo26_0 k m v).right := ⟨by kernel_rfl, by kernel_rfl⟩
theorem fr26_0_ok (k : Nat) : FragOK Try.prog lim26 (fr26_0 k) co26_0 :=
 frag_cast (by kernel_rfl) (loop_ok (cfg26_ok k) (planOK_go _) (fun m v => F26_0 k m v.1.1 v.1.2.1 v.1.2.2.1) k (fun _ => rfl) (fun _ => rfl) (pp26_0 k))
def pl26 (k : Nat) : Plan := (.seq .go (.seq .go (.seq (.seq .go (.sub (.frag (fr26_0 k)))) .go)))
theorem pq26 (k : Nat) : PlanOK Try.prog lim26 (pl26 k) co26 = (PlanOK Try.prog lim26 .go (codeAt (bodyOf Try.f26) [.l]) ∧ (PlanOK Try.prog lim26 .go (codeAt (bodyOf Try.f26) [.r, .l]) ∧ ((PlanOK Try.prog lim26 .go (codeAt (bodyOf Try.f26) [.r, .r, .l, .l]) ∧ FragOK Try.prog lim26 (fr26_0 k) co26_0) ∧ PlanOK Try.prog lim26 .go (codeAt (bodyOf Try.f26) [.r, .r, .r])))) := by kernel_rfl
noncomputable def bo26 (k : Nat) (x : AT (sp26 k).ps) := fnT Try.prog (cfg26 k) lim26 Try.f26 (bodyOf Try.f26) (pl26 k) (sp26 k) x
theorem vv26 (k : Nat) (x : AT (sp26 k).ps) : (sp26 k).impl x = (bo26 k x).eval ∧ (bo26 k x).left = (bo26 k x).right := ⟨by kernel_rfl, by kernel_rfl⟩
theorem v26 (k : Nat) : Callable Try.prog 26 ∧ Valid Try.prog 26 (sp26 k) :=
 fn_of (n := lim26) (fn := Try.f26) (p := (pl26 k)) (cfg26_ok k) (by kernel_rfl) (Eq.mpr (pq26 k) ⟨(planOK_go _), ⟨(planOK_go _), ⟨⟨(planOK_go _), (fr26_0_ok k)⟩, (planOK_go _)⟩⟩⟩) (vv26 k)
def F11_0 (k : Nat) : Nat → Int → Int → Int → TY4 → TY4 → TY60 → (List (List Bool)) → Option (((Int × Int × Unit) × (TY4 × TY4 × TY60 × (List (List Bool)) × Unit)))
 | 0, _, _, _, _, _, _, _ => none
 | n + 1, t3, t16, t17, c9, c11, c13, c1000865 =>
  if 0 ≤ t16 ∧ t16 < ((List.length c13.1 : Nat) : Int) then
   let x17 := ((List.length (List.getD c13.1 (Int.toNat t16) ([] : (List Int))) : Nat) : Int)
   bif (decide (t17 < x17)) then
    if 0 ≤ t16 ∧ t16 < ((List.length c13.1 : Nat) : Int) then
     if 0 ≤ t17 ∧ t17 < ((List.length (List.getD c13.1 (Int.toNat t16) ([] : (List Int))) : Nat) : Int) then
      let x18 := (List.set c13.1 (Int.toNat t16) (List.set (List.getD c13.1 (Int.toNat t16) ([] : (List Int))) (Int.toNat t17) t3))
      (F11_0 k n t3 t16 (IntKind.wrap .i64 (t17 + (1 : Int))) c9 c11 (x18, c13.2) c1000865).bind some
     else none
    else none
   else
    some ((t3, t16, ()), (c9, c11, c13, c1000865, ()))
  else none
def fr11_0 (k : Nat) : Frag := ⟨⟨[], [(3, .val (.int .i64)), (9, .ptr 9 []), (11, .ptr 11 []), (13, .ptr 13 []), (14, .at 1000865 []), (16, .val (.int .i64)), (17, .val (.int .i64))], [(9, some 33, KD0), (11, some 33, KD0), (13, some 39, KD33), (1000865, none, KD59)]⟩, [(.exit 2, ⟨[], [(3, .val (.int .i64)), (9, .ptr 9 []), (11, .ptr 11 []), (13, .ptr 13 []), (14, .at 1000865 []), (16, .val (.int .i64))], [(9, some 33, KD0), (11, some 33, KD0), (13, some 39, KD33), (1000865, none, KD59)]⟩)], fun v => F11_0 k k v.1.1 v.1.2.1 v.1.2.2.1 v.2.1 v.2.2.1 v.2.2.2.1 v.2.2.2.2.1⟩
def F11_1 (k : Nat) : Nat → Int → Int → TY4 → TY4 → TY60 → (List (List Bool)) → Option ((Unit × TY2))
 | 0, _, _, _, _, _, _ => none
 | n + 1, t3, t16, c9, c11, c13, c1000865 =>
  let x26 := (decide (t16 < ((List.length c13.1 : Nat) : Int)))
  bif x26 then
   (F11_0 k k t3 t16 (0 : Int) c9 c11 c13 c1000865).bind fun r27 =>
   let y28 := r27.1.1
   let y29 := r27.1.2.1
   let y30 := r27.2.1
   let y31 := r27.2.2.1
   let y32 := r27.2.2.2.1
   let y33 := r27.2.2.2.2.1
   (F11_1 k n y28 (IntKind.wrap .i64 (y29 + (1 : Int))) y30 y31 y32 y33).bind some
  else
   some ((), (c9, c11, c1000865, ()))
def fr11_1 (k : Nat) : Frag := ⟨⟨[], [(3, .val (.int .i64)), (9, .ptr 9 []), (11, .ptr 11 []), (13, .ptr 13 []), (14, .at 1000865 []), (16, .val (.int .i64))], [(9, some 33, KD0), (11, some 33, KD0), (13, some 39, KD33), (1000865, none, KD59)]⟩, [(.exit 0, ⟨[], [(9, .ptr 9 []), (11, .ptr 11 []), (14, .at 1000865 [])], [(9, some 33, KD0), (11, some 33, KD0), (1000865, none, KD59)]⟩)], fun v => F11_1 k k v.1.1 v.1.2.1 v.2.1 v.2.2.1 v.2.2.2.1 v.2.2.2.2.1⟩
def F11_2 (k : Nat) : Nat → Int → Int → TY4 → TY4 → (List (List Bool)) → Option (((Int × Unit) × TY2))
 | 0, _, _, _, _, _ => none
 | n + 1, t18, t19, c9, c11, c1000865 =>
  if 0 ≤ t18 ∧ t18 < ((List.length c1000865 : Nat) : Int) then
   let x42 := ((List.length (List.getD c1000865 (Int.toNat t18) ([] : (List Bool))) : Nat) : Int)
   bif (decide (t19 < x42)) then
    if 0 ≤ t18 ∧ t18 < ((List.length c1000865 : Nat) : Int) then
     if 0 ≤ t18 ∧ t18 < ((List.length c1000865 : Nat) : Int) then
      if 0 ≤ t19 ∧ t19 < ((List.length (List.getD c1000865 (Int.toNat t18) ([] : (List Bool))) : Nat) : Int) then
       let x43 := (List.getD (List.getD c1000865 (Int.toNat t18) ([] : (List Bool))) (Int.toNat t19) false)
       if 0 ≤ t19 ∧ t19 < ((List.length (List.getD c1000865 (Int.toNat t18) ([] : (List Bool))) : Nat) : Int) then
        let x44 := (List.set c1000865 (Int.toNat t18) (List.set (List.getD c1000865 (Int.toNat t18) ([] : (List Bool))) (Int.toNat t19) (!x43)))
        (F11_2 k n t18 (IntKind.wrap .i64 (t19 + (1 : Int))) c9 c11 x44).bind some
       else none
      else none
     else none
    else none
   else
    some ((t18, ()), (c9, c11, c1000865, ()))
  else none
def fr11_2 (k : Nat) : Frag := ⟨⟨[], [(9, .ptr 9 []), (11, .ptr 11 []), (14, .at 1000865 []), (18, .val (.int .i64)), (19, .val (.int .i64))], [(9, some 33, KD0), (11, some 33, KD0), (1000865, none, KD59)]⟩, [(.exit 6, ⟨[], [(9, .ptr 9 []), (11, .ptr 11 []), (14, .at 1000865 []), (18, .val (.int .i64))], [(9, some 33, KD0), (11, some 33, KD0), (1000865, none, KD59)]⟩)], fun v => F11_2 k k v.1.1 v.1.2.1 v.2.1 v.2.2.1 v.2.2.2.1⟩
def F11_3 (k : Nat) : Nat → Int → TY4 → TY4 → (List (List Bool)) → Option (TY3)
 | 0, _, _, _, _ => none
 | n + 1, t18, c9, c11, c1000865 =>
  let x50 := (decide (t18 < ((List.length c1000865 : Nat) : Int)))
  bif x50 then
   (F11_2 k k t18 (0 : Int) c9 c11 c1000865).bind fun r51 =>
   let y52 := r51.1.1
   let y53 := r51.2.1
   let y54 := r51.2.2.1
   let y55 := r51.2.2.2.1
   (F11_3 k n (IntKind.wrap .i64 (y52 + (1 : Int))) y53 y54 y55).bind some
  else
   some ((), (c9, c11, ()))
def fr11_3 (k : Nat) : Frag := ⟨⟨[], [(9, .ptr 9 []), (11, .ptr 11 []), (14, .at 1000865 []), (18, .val (.int .i64))], [(9, some 33, KD0), (11, some 33, KD0), (1000865, none, KD59)]⟩, [(.exit 4, ⟨[], [(9, .ptr 9 []), (11, .ptr 11 [])], [(9, some 33, KD0), (11, some 33, KD0)]⟩)], fun v => F11_3 k k v.1.1 v.2.1 v.2.2.1 v.2.2.2.1⟩
def F11 (k : Nat) (a0 : TY64) (a1 : (List Int)) (a2 : (List Int)) (a3 : Int) : Option TY79 :=
 (F12 k).bind fun r1 =>
 bif (!r1.1.1) then
  some ((false, ()), ())
 else
  (F13 k a0).bind fun r2 =>
  bif (!r2.1.1) then
   some ((true, ()), ())
  else
   (F14 k a0 a1 a2).bind fun r3 =>
   (F14 k a0 a1 a2).bind fun r8 =>
   bif (!r3.1.2.1) then
    some ((true, ()), ())
   else
    (F16 k r3.1.1.2.2.2.2.2.1 r3.1.1.2.2.2.1 r3.1.1.2.2.2.2.2.2.1 (40 : Int)).bind fun r13 =>
    (F11_1 k k a3 (0 : Int) r3.1.1 r8.1.1 r13.1.1 r13.1.2.1).bind fun r34 =>
    let y35 := r34.2.1
    let y36 := r34.2.2.1
    let y37 := r34.2.2.2.1
    (F11_3 k k (0 : Int) y35 y36 y37).bind fun r56 =>
    let y57 := r56.2.1
    let y58 := r56.2.2.1
    (F16 k y57.2.2.2.2.2.1 y57.2.2.2.1 y57.2.2.2.2.2.2.1 (40 : Int)).bind fun r59 =>
    (F17 k y58.2.2.2.2.2.1 y58.2.2.2.1 y58.2.2.2.2.2.2.1 (40 : Int)).bind fun r60 =>
    bif (r59.1.2.2.1 == r60.1.2.2.1) then
     (F18 k r59.1.1 r60.1.1).bind fun r61 =>
     bif r61.1.1 then
      (F19 k r59.1.2.1 r60.1.2.1).bind fun r62 =>
      bif r62.1.1 then
       (F26 k y57.2.2.1 y58.2.2.1).bind fun r63 =>
       bif r63.1.1 then
        (F19 k y57.2.2.2.1 y58.2.2.2.1).bind fun r64 =>
        some ((r64.1.1, ()), ())
       else
        some ((false, ()), ())
      else
       some ((false, ()), ())
     else
      some ((false, ()), ())
    else
     some ((false, ()), ())
def sp11 (k : Nat) : Spec := ⟨[.val KD54, .val KD68, .val KD68, .val (.int .i64)], [.val .bool], fun x => F11 k x.1 x.2.1 x.2.2.1 x.2.2.2.1⟩
def lim11 : Lim := ⟨161, 4, false, false, [], []⟩
def cfg11 (k : Nat) : Nat → Option Spec := cfgL [(12, sp12 k), (13, sp13 k), (14, sp14 k), (16, sp16 k), (17, sp17 k), (18, sp18 k), (19, sp19 k), (26, sp26 k)]
noncomputable def co11_0 : Code := codeAt (bodyOf Try.f11) [.r, .r, .r, .r, .r, .r, .r, .l, .r, .s, .b, .r, .l, .s, .r, .s]
noncomputable def cb11_0 : Code := codeAt (bodyOf Try.f11) [.r, .r, .r, .r, .r, .r, .r, .l, .r, .s, .b, .r, .l, .s, .r, .s, .b]
noncomputable def co11_1 : Code := codeAt (bodyOf Try.f11) [.r, .r, .r, .r, .r, .r, .r, .l, .r, .s]
noncomputable def cb11_1 : Code := codeAt (bodyOf Try.f11) [.r, .r, .r, .r, .r, .r, .r, .l, .r, .s, .b]
noncomputable def co11_2 : Code := codeAt (bodyOf Try.f11) [.r, .r, .r, .r, .r, .r, .r, .r, .l, .r, .s, .b, .r, .l, .s, .r, .s]
noncomputable def cb11_2 : Code := codeAt (bodyOf Try.f11) [.r, .r, .r, .r, .r, .r, .r, .r, .l, .r, .s, .b, .r, .l, .s, .r, .s, .b]
noncomputable def co11_3 : Code := codeAt (bodyOf Try.f11) [.r, .r, .r, .r, .r, .r, .r, .r, .l, .r, .s]
noncomputable def cb11_3 : Code := codeAt (bodyOf Try.f11) [.r, .r, .r, .r, .r, .r, .r, .r, .l, .r, .s, .b]
noncomputable def co11 : Code := codeAt (bodyOf Try.f11) []
theorem cfg11_ok (k : Nat) : CfgOK Try.prog (cfg11 k) := cfgL_cons (v12 k) (cfgL_cons (v13 k) (cfgL_cons (v14 k) (cfgL_cons (v16 k) (cfgL_cons (v17 k) (cfgL_cons (v18 k) (cfgL_cons (v19 k) (cfgL_cons (v26 k) (cfgL_nil))))))))
noncomputable def bo11_0 (k m : Nat) (v : (fr11_0 k).sh.V) := body Try.prog (stepper Try.prog (cfg11 k) lim11) .go cb11_0 ((fr11_0 k).sh.st v) (loopK (fr11_0 k) fun v => F11_0 k m v.1.1 v.1.2.1 v.1.2.2.1 v.2.1 v.2.2.1 v.2.2.2.1 v.2.2.2.2.1)
theorem pp11_0 (k m : Nat) (v : (fr11_0 k).sh.V) : F11_0 k (m + 1) v.1.1 v.1.2.1 v.1.2.2.1 v.2.1 v.2.2.1 v.2.2.2.1 v.2.2.2.2.1 = (bo11_0 k m v).eval ∧ (bo11_0 k m v).left = (bo11_0 k m v).right := ⟨by kernel_rfl, by kernel_rfl⟩
theorem fr11_0_ok (k : Nat) : FragOK Try.prog lim11 (fr11_0 k) co11_0 :=
 frag_cast (by kernel_rfl) (loop_ok (cfg11_ok k) (planOK_go _) (fun m v => F11_0 k m v.1.1 v.1.2.1 v.1.2.2.1 v.2.1 v.2.2.1 v.2.2.2.1 v.2.2.2.2.1) k (fun _ => rfl) (fun _ => rfl) (pp11_0 k))
def pl11_1 (k : Nat) : Plan := (.seq .go (.seq (.sub (.seq .go (.sub (.frag (fr11_0 k))))) .go))
theorem pq11_1 (k : Nat) : PlanOK Try.prog lim11 (pl11_1 k) cb11_1 = (PlanOK Try.prog lim11 .go (codeAt (bodyOf Try.f11) [.r, .r, .r, .r, .r, .r, .r, .l, .r, .s, .b, .l]) ∧ ((PlanOK Try.prog lim11 .go (codeAt (bodyOf Try.f11) [.r, .r, .r, .r, .r, .r, .r, .l, .r, .s, .b, .r, .l, .s, .l]) ∧ FragOK Try.prog lim11 (fr11_0 k) co11_0) ∧ PlanOK Try.prog lim11 .go (codeAt (bodyOf Try.f11) [.r, .r, .r, .r, .r, .r, .r, .l, .r, .s, .b, .r, .r]))) := by kernel_rfl
noncomputable def bo11_1 (k m : Nat) (v : (fr11_1 k).sh.V) := body Try.prog (stepper Try.prog (cfg11 k) lim11) (pl11_1 k) cb11_1 ((fr11_1 k).sh.st v) (loopK (fr11_1 k) fun v => F11_1 k m v.1.1 v.1.2.1 v.2.1 v.2.2.1 v.2.2.2.1 v.2.2.2.2.1)
theorem pp11_1 (k m : Nat) (v : (fr11_1 k).sh.V) : F11_1 k (m + 1) v.1.1 v.1.2.1 v.2.1 v.2.2.1 v.2.2.2.1 v.2.2.2.2.1 = (bo11_1 k m v).eval ∧ (bo11_1 k m v).left = (bo11_1 k m v).right := ⟨by kernel_rfl, by kernel_rfl⟩
theorem fr11_1_ok (k : Nat) : FragOK Try.prog lim11 (fr11_1 k) co11_1 :=
 frag_cast (by kernel_rfl) (loop_ok (cfg11_ok k) (Eq.mpr (pq11_1 k) ⟨(planOK_go _), ⟨⟨(planOK_go _), (fr11_0_ok k)⟩, (planOK_go _)⟩⟩) (fun m v => F11_1 k m v.1.1 v.1.2.1 v.2.1 v.2.2.1 v.2.2.2.1 v.2.2.2.2.1) k (fun _ => rfl) (fun _ => rfl) (pp11_1 k))
noncomputable def bo11_2 (k m : Nat) (v : (fr11_2 k).sh.V) := body Try.prog (stepper Try.prog (cfg11 k) lim11) .go cb11_2 ((fr11_2 k).sh.st v) (loopK (fr11_2 k) fun v => F11_2 k m v.1.1 v.1.2.1 v.2.1 v.2.2.1 v.2.2.2.1)
theorem pp11_2 (k m : Nat) (v : (fr11_2 k).sh.V) : F11_2 k (m + 1) v.1.1 v.1.2.1 v.2.1 v.2.2.1 v.2.2.2.1 = (bo11_2 k m v).eval ∧ (bo11_2 k m v).left = (bo11_2 k m v).right := ⟨by kernel_rfl, by kernel_rfl⟩
theorem fr11_2_ok (k : Nat) : FragOK Try.prog lim11 (fr11_2 k) co11_2 :=
 frag_cast (by kernel_rfl) (loop_ok (cfg11_ok k) (planOK_go _) (fun m v => F11_2 k m v.1.1 v.1.2.1 v.2.1 v.2.2.1 v.2.2.2.1) k (fun _ => rfl) (fun _ => rfl) (pp11_2 k))
def pl11_3 (k : Nat) : Plan := (.seq .go (.seq (.sub (.seq .go (.sub (.frag (fr11_2 k))))) .go))
theorem pq11_3 (k : Nat) : PlanOK Try.prog lim11 (pl11_3 k) cb11_3 = (PlanOK Try.prog lim11 .go (codeAt (bodyOf Try.f11) [.r, .r, .r, .r, .r, .r, .r, .r, .l, .r, .s, .b, .l]) ∧ ((PlanOK Try.prog lim11 .go (codeAt (bodyOf Try.f11) [.r, .r, .r, .r, .r, .r, .r, .r, .l, .r, .s, .b, .r, .l, .s, .l]) ∧ FragOK Try.prog lim11 (fr11_2 k) co11_2) ∧ PlanOK Try.prog lim11 .go (codeAt (bodyOf Try.f11) [.r, .r, .r, .r, .r, .r, .r, .r, .l, .r, .s, .b, .r, .r]))) := by kernel_rfl
noncomputable def bo11_3 (k m : Nat) (v : (fr11_3 k).sh.V) := body Try.prog (stepper Try.prog (cfg11 k) lim11) (pl11_3 k) cb11_3 ((fr11_3 k).sh.st v) (loopK (fr11_3 k) fun v => F11_3 k m v.1.1 v.2.1 v.2.2.1 v.2.2.2.1)
theorem pp11_3 (k m : Nat) (v : (fr11_3 k).sh.V) : F11_3 k (m + 1) v.1.1 v.2.1 v.2.2.1 v.2.2.2.1 = (bo11_3 k m v).eval ∧ (bo11_3 k m v).left = (bo11_3 k m v).right := ⟨by kernel_rfl, by kernel_rfl⟩
theorem fr11_3_ok (k : Nat) : FragOK Try.prog lim11 (fr11_3 k) co11_3 :=
 frag_cast (by kernel_rfl) (loop_ok (cfg11_ok k) (Eq.mpr (pq11_3 k) ⟨(planOK_go _), ⟨⟨(planOK_go _), (fr11_2_ok k)⟩, (planOK_go _)⟩⟩) (fun m v => F11_3 k m v.1.1 v.2.1 v.2.2.1 v.2.2.2.1) k (fun _ => rfl) (fun _ => rfl) (pp11_3 k))
def pl11 (k : Nat) : Plan := (.seq .go (.seq .go (.seq .go (.seq .go (.seq .go (.seq .go (.seq .go (.seq (.seq .go (.sub (.frag (fr11_1 k)))) (.seq (.seq .go (.sub (.frag (fr11_3 k)))) .go)))))))))
theorem pq11 (k : Nat) : PlanOK Try.prog lim11 (pl11 k) co11 = (PlanOK Try.prog lim11 .go (codeAt (bodyOf Try.f11) [.l]) ∧ (PlanOK Try.prog lim11 .go (codeAt (bodyOf Try.f11) [.r, .l]) ∧ (PlanOK Try.prog lim11 .go (codeAt (bodyOf Try.f11) [.r, .r, .l]) ∧ (PlanOK Try.prog lim11 .go (codeAt (bodyOf Try.f11) [.r, .r, .r, .l]) ∧ (PlanOK Try.prog lim11 .go (codeAt (bodyOf Try.f11) [.r, .r, .r, .r, .l]) ∧ (PlanOK Try.prog lim11 .go (codeAt (bodyOf Try.f11) [.r, .r, .r, .r, .r, .l]) ∧ (PlanOK Try.prog lim11 .go (codeAt (bodyOf Try.f11) [.r, .r, .r, .r, .r, .r, .l]) ∧ ((PlanOK Try.prog lim11 .go (codeAt (bodyOf Try.f11) [.r, .r, .r, .r, .r, .r, .r, .l, .l]) ∧ FragOK Try.prog lim11 (fr11_1 k) co11_1) ∧ ((PlanOK Try.prog lim11 .go (codeAt (bodyOf Try.f11) [.r, .r, .r, .r, .r, .r, .r, .r, .l, .l]) ∧ FragOK Try.prog lim11 (fr11_3 k) co11_3) ∧ PlanOK Try.prog lim11 .go (codeAt (bodyOf Try.f11) [.r, .r, .r, .r, .r, .r, .r, .r, .r])))))))))) := by kernel_rfl
noncomputable def bo11 (k : Nat) (x : AT (sp11 k).ps) := fnT Try.prog (cfg11 k) lim11 Try.f11 (bodyOf Try.f11) (pl11 k) (sp11 k) x
theorem vv11 (k : Nat) (x : AT (sp11 k).ps) : (sp11 k).impl x = (bo11 k x).eval ∧ (bo11 k x).left = (bo11 k x).right := ⟨by kernel_rfl, by kernel_rfl⟩
theorem v11 (k : Nat) : Callable Try.prog 11 ∧ Valid Try.prog 11 (sp11 k) :=
 fn_of (n := lim11) (fn := Try.f11) (p := (pl11 k)) (cfg11_ok k) (by kernel_rfl) (Eq.mpr (pq11 k) ⟨(planOK_go _), ⟨(planOK_go _), ⟨(planOK_go _), ⟨(planOK_go _), ⟨(planOK_go _), ⟨(planOK_go _), ⟨(planOK_go _), ⟨⟨(planOK_go _), (fr11_1_ok k)⟩, ⟨⟨(planOK_go _), (fr11_3_ok k)⟩, (planOK_go _)⟩⟩⟩⟩⟩⟩⟩⟩⟩) (vv11 k)
end Go.Proofs.YtibammoednhnoaaE

