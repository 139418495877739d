/- Functions of the program, as Lean functions, with their contracts; printed by gen.py. Conditions: none. -/
import Derived.Test.YtgojfdimbciaiaaG0
set_option linter.unusedVariables false
namespace Go.Proofs.YtgojfdimbciaiaaE
open Kd
set_option maxRecDepth 20000
/-! f47 hyphen/hyphenref4.points -/
def F47_0 (k : Nat) : Nat → TY50 → Int → Int → Int → Int → (List Int) → (List Int) → Option ((TY34 × TY51))
  | 0, _, _, _, _, _, _, _ => none
  | n + 1, t0, t4, t5, t7, t8, c42, c2000003 =>
    bif (decide (t8 > (0 : Int))) then
      if 0 ≤ t7 ∧ t7 < ((List.length c42 : Nat) : Int) then
        if 0 ≤ (IntKind.wrap .i64 (t8 - (1 : Int))) ∧ (IntKind.wrap .i64 (t8 - (1 : Int))) < ((List.length c2000003 : Nat) : Int) then
          let x10 := (Int.toNat (IntKind.wrap .i64 (t8 - (1 : Int))))
          let x11 := (decide ((List.getD c42 (Int.toNat t7) (0 : Int)) < (List.getD c2000003 x10 (0 : Int))))
          bif x11 then
            (F47_0 k n t0 t4 t5 t7 (IntKind.wrap .i64 (t8 - (1 : Int))) c42 c2000003).bind some
          else
            some ((t0, t4, t5, t7, t8, ()), (c42, c2000003, ()))
        else none
      else none
    else
      some ((t0, t4, t5, t7, t8, ()), (c42, c2000003, ()))
def fr47_0 (k : Nat) : Frag := ⟨⟨[(3, KD53)], [(0, .val KD26), (3, .at 2000003 []), (4, .val (.int .i64)), (5, .val (.int .i64)), (6, .at 42 []), (7, .val (.int .i64)), (8, .val (.int .i64))], [(42, none, KD53), (2000003, none, KD53)]⟩, [(.exit 6, ⟨[], [(0, .val KD26), (3, .at 2000003 []), (4, .val (.int .i64)), (5, .val (.int .i64)), (6, .at 42 []), (7, .val (.int .i64)), (8, .val (.int .i64))], [(42, none, KD53), (2000003, none, KD53)]⟩)], fun v => F47_0 k k v.1.1 v.1.2.1 v.1.2.2.1 v.1.2.2.2.1 v.1.2.2.2.2.1 v.2.1 v.2.2.1⟩
def F47_1 (k : Nat) : Nat → TY50 → Int → Int → Int → (List Int) → (List Int) → Option (((TY50 × Int × Int × Unit) × TY62))
  | 0, _, _, _, _, _, _ => none
  | n + 1, t0, t4, t5, t7, c42, c2000003 =>
    bif (decide (t7 < (2 : Int))) then
      (F47_0 k k t0 t4 t5 t7 ((List.length c2000003 : Nat) : Int) c42 c2000003).bind fun r12 =>
      let y13 := r12.1.1
      let y14 := r12.1.2.1
      let y15 := r12.1.2.2.1
      let y16 := r12.1.2.2.2.1
      let y17 := r12.1.2.2.2.2.1
      let y18 := r12.2.1
      let y19 := r12.2.2.1
      if 0 ≤ y16 ∧ y16 < ((List.length y18 : Nat) : Int) then
        let x20 := (decide ((List.getD y18 (Int.toNat y16) (0 : Int)) ≤ (1114111 : Int)))
        bif x20 then
          bif (y17 == (0 : Int)) then
            if 0 ≤ (0 : Int) ∧ (0 : Int) ≤ y17 ∧ y17 ≤ ((List.length y19 : Nat) : Int) then
              let x21 := (Int.toNat y17 - Int.toNat (0 : Int))
              if 0 ≤ y16 ∧ y16 < ((List.length y18 : Nat) : Int) then
                if 0 ≤ y17 ∧ y17 ≤ ((List.length y19 : Nat) : Int) ∧ ((List.length y19 : Nat) : Int) ≤ ((List.length y19 : Nat) : Int) then
                  let x22 := (Int.toNat ((List.length y19 : Nat) : Int) - Int.toNat y17)
                  if (List.length (List.replicate 0 (0 : Int)) + List.length (List.take x21 (List.drop (Int.toNat (0 : Int)) y19))) * (8 * 2) ≤ 281474976710656 ∧ List.length (List.replicate 0 (0 : Int)) + List.length (List.take x21 (List.drop (Int.toNat (0 : Int)) y19)) ≤ 9223372036854775807 then
                    let x23 := ((List.replicate 0 (0 : Int)) ++ (List.take x21 (List.drop (Int.toNat (0 : Int)) y19)))
                    let x24 := (List.set (List.replicate 1 (0 : Int)) 0 (List.getD y18 (Int.toNat y16) (0 : Int)))
                    if (List.length x23 + List.length x24) * (8 * 2) ≤ 281474976710656 ∧ List.length x23 + List.length x24 ≤ 9223372036854775807 then
                      if (List.length (x23 ++ x24) + List.length (List.take x22 (List.drop (Int.toNat y17) y19))) * (8 * 2) ≤ 281474976710656 ∧ List.length (x23 ++ x24) + List.length (List.take x22 (List.drop (Int.toNat y17) y19)) ≤ 9223372036854775807 then
                        let x25 := ((x23 ++ x24) ++ (List.take x22 (List.drop (Int.toNat y17) y19)))
                        (F47_1 k n y13 y14 y15 (IntKind.wrap .i64 (y16 + (1 : Int))) y18 x25).bind some
                      else none
                    else none
                  else none
                else none
              else none
            else none
          else
            if 0 ≤ (IntKind.wrap .i64 (y17 - (1 : Int))) ∧ (IntKind.wrap .i64 (y17 - (1 : Int))) < ((List.length y19 : Nat) : Int) then
              let x26 := (Int.toNat (IntKind.wrap .i64 (y17 - (1 : Int))))
              if 0 ≤ y16 ∧ y16 < ((List.length y18 : Nat) : Int) then
                let x27 := ((List.getD y19 x26 (0 : Int)) != (List.getD y18 (Int.toNat y16) (0 : Int)))
                bif x27 then
                  if 0 ≤ (0 : Int) ∧ (0 : Int) ≤ y17 ∧ y17 ≤ ((List.length y19 : Nat) : Int) then
                    let x28 := (Int.toNat y17 - Int.toNat (0 : Int))
                    if 0 ≤ y16 ∧ y16 < ((List.length y18 : Nat) : Int) then
                      if 0 ≤ y17 ∧ y17 ≤ ((List.length y19 : Nat) : Int) ∧ ((List.length y19 : Nat) : Int) ≤ ((List.length y19 : Nat) : Int) then
                        let x29 := (Int.toNat ((List.length y19 : Nat) : Int) - Int.toNat y17)
                        if (List.length (List.replicate 0 (0 : Int)) + List.length (List.take x28 (List.drop (Int.toNat (0 : Int)) y19))) * (8 * 2) ≤ 281474976710656 ∧ List.length (List.replicate 0 (0 : Int)) + List.length (List.take x28 (List.drop (Int.toNat (0 : Int)) y19)) ≤ 9223372036854775807 then
                          let x30 := ((List.replicate 0 (0 : Int)) ++ (List.take x28 (List.drop (Int.toNat (0 : Int)) y19)))
                          let x31 := (List.set (List.replicate 1 (0 : Int)) 0 (List.getD y18 (Int.toNat y16) (0 : Int)))
                          if (List.length x30 + List.length x31) * (8 * 2) ≤ 281474976710656 ∧ List.length x30 + List.length x31 ≤ 9223372036854775807 then
                            if (List.length (x30 ++ x31) + List.length (List.take x29 (List.drop (Int.toNat y17) y19))) * (8 * 2) ≤ 281474976710656 ∧ List.length (x30 ++ x31) + List.length (List.take x29 (List.drop (Int.toNat y17) y19)) ≤ 9223372036854775807 then
                              let x32 := ((x30 ++ x31) ++ (List.take x29 (List.drop (Int.toNat y17) y19)))
                              (F47_1 k n y13 y14 y15 (IntKind.wrap .i64 (y16 + (1 : Int))) y18 x32).bind some
                            else none
                          else none
                        else none
                      else none
                    else none
                  else none
                else
                  (F47_1 k n y13 y14 y15 (IntKind.wrap .i64 (y16 + (1 : Int))) y18 y19).bind some
              else none
            else none
        else
          (F47_1 k n y13 y14 y15 (IntKind.wrap .i64 (y16 + (1 : Int))) y18 y19).bind some
      else none
    else
      some ((t0, t4, t5, ()), (c2000003, ()))
def fr47_1 (k : Nat) : Frag := ⟨⟨[(3, KD53)], [(0, .val KD26), (3, .at 2000003 []), (4, .val (.int .i64)), (5, .val (.int .i64)), (6, .at 42 []), (7, .val (.int .i64))], [(42, none, KD53), (2000003, none, KD53)]⟩, [(.exit 4, ⟨[(3, KD53)], [(0, .val KD26), (3, .at 2000003 []), (4, .val (.int .i64)), (5, .val (.int .i64))], [(2000003, none, KD53)]⟩)], fun v => F47_1 k k v.1.1 v.1.2.1 v.1.2.2.1 v.1.2.2.2.1 v.2.1 v.2.2.1⟩
def F47_2 (k : Nat) : Nat → TY50 → Int → Int → (List Int) → Option (((TY50 × Int × Unit) × TY62))
  | 0, _, _, _, _ => none
  | n + 1, t0, t4, t5, c2000003 =>
    if 0 ≤ t4 ∧ t4 < ((List.length t0 : Nat) : Int) then
      let x3 := (List.getD t0 (Int.toNat t4) ([] : TY57))
      let x4 := (decide (t5 < ((List.length x3 : Nat) : Int)))
      bif x4 then
        if 0 ≤ t4 ∧ t4 < ((List.length t0 : Nat) : Int) then
          let x5 := (List.getD t0 (Int.toNat t4) ([] : TY57))
          if 0 ≤ t5 ∧ t5 < ((List.length x5 : Nat) : Int) then
            let x6 := (List.getD x5 (Int.toNat t5) ((0 : Int), ((0 : Int), ())))
            if 0 ≤ t4 ∧ t4 < ((List.length t0 : Nat) : Int) then
              let x7 := (List.getD t0 (Int.toNat t4) ([] : TY57))
              if 0 ≤ t5 ∧ t5 < ((List.length x7 : Nat) : Int) then
                let x8 := (List.getD x7 (Int.toNat t5) ((0 : Int), ((0 : Int), ())))
                let x9 := (List.set (List.set (List.replicate 2 (0 : Int)) 0 x6.1) 1 (IntKind.wrap .i64 (x8.2.1 + (1 : Int))))
                (F47_1 k k t0 t4 t5 (0 : Int) x9 c2000003).bind fun r33 =>
                let y34 := r33.1.1
                let y35 := r33.1.2.1
                let y36 := r33.1.2.2.1
                let y37 := r33.2.1
                (F47_2 k n y34 y35 (IntKind.wrap .i64 (y36 + (1 : Int))) y37).bind some
              else none
            else none
          else none
        else none
      else
        some ((t0, t4, ()), (c2000003, ()))
    else none
def fr47_2 (k : Nat) : Frag := ⟨⟨[(3, KD53)], [(0, .val KD26), (3, .at 2000003 []), (4, .val (.int .i64)), (5, .val (.int .i64))], [(2000003, none, KD53)]⟩, [(.exit 2, ⟨[(3, KD53)], [(0, .val KD26), (3, .at 2000003 []), (4, .val (.int .i64))], [(2000003, none, KD53)]⟩)], fun v => F47_2 k k v.1.1 v.1.2.1 v.1.2.2.1 v.2.1⟩
def F47_3 (k : Nat) : Nat → TY50 → Int → (List Int) → Option ((Unit × TY62))
  | 0, _, _, _ => none
  | n + 1, t0, t4, c2000003 =>
    let x2 := (decide (t4 < ((List.length t0 : Nat) : Int)))
    bif x2 then
      (F47_2 k k t0 t4 (0 : Int) c2000003).bind fun r38 =>
      let y39 := r38.1.1
      let y40 := r38.1.2.1
      let y41 := r38.2.1
      (F47_3 k n y39 (IntKind.wrap .i64 (y40 + (1 : Int))) y41).bind some
    else
      some ((), (c2000003, ()))
def fr47_3 (k : Nat) : Frag := ⟨⟨[(3, KD53)], [(0, .val KD26), (3, .at 2000003 []), (4, .val (.int .i64))], [(2000003, none, KD53)]⟩, [(.exit 0, ⟨[(3, KD53)], [(3, .at 2000003 [])], [(2000003, none, KD53)]⟩)], fun v => F47_3 k k v.1.1 v.1.2.1 v.2.1⟩
def F47 (k : Nat) (a0 : TY50) : Option (TY62 × Unit) :=
  let x1 := (List.set (List.replicate 1 (0 : Int)) 0 (0 : Int))
  (F47_3 k k a0 (0 : Int) x1).bind fun r42 =>
  let y43 := r42.2.1
  some ((y43, ()), ())
def sp47 (k : Nat) : Spec := ⟨[.val KD26], [.own KD53], fun x => F47 k x.1⟩
def lim47 : Lim := ⟨102, 1, false, true, []⟩
def cfg47 (k : Nat) : Nat → Option Spec := cfgL []
theorem cfg47_ok (k : Nat) : CfgOK Try.prog (cfg47 k) := cfgL_nil
def pl47_0 (k : Nat) : Plan := .go
theorem pq47_0 (k : Nat) : PlanOK Try.prog lim47 (pl47_0 k) (codeAt (bodyOf Try.f47) [.r, .r, .l, .r, .s, .b, .r, .l, .s, .r, .s, .b, .r, .l, .s, .r, .r, .s, .b, .r, .l, .s, .r, .l, .s, .b]) = PlanOK Try.prog lim47 .go (codeAt (bodyOf Try.f47) [.r, .r, .l, .r, .s, .b, .r, .l, .s, .r, .s, .b, .r, .l, .s, .r, .r, .s, .b, .r, .l, .s, .r, .l, .s, .b]) := by kernel_rfl
theorem ps47_0 (k m : Nat) (v : (fr47_0 k).sh.V) : F47_0 k (m + 1) v.1.1 v.1.2.1 v.1.2.2.1 v.1.2.2.2.1 v.1.2.2.2.2.1 v.2.1 v.2.2.1 = (body Try.prog (stepper Try.prog (cfg47 k) lim47) (pl47_0 k) (codeAt (bodyOf Try.f47) [.r, .r, .l, .r, .s, .b, .r, .l, .s, .r, .s, .b, .r, .l, .s, .r, .r, .s, .b, .r, .l, .s, .r, .l, .s, .b]) ((fr47_0 k).sh.st v) (loopK (fr47_0 k) fun v => F47_0 k m v.1.1 v.1.2.1 v.1.2.2.1 v.1.2.2.2.1 v.1.2.2.2.2.1 v.2.1 v.2.2.1)).eval := by kernel_rfl
theorem pe47_0 (k m : Nat) (v : (fr47_0 k).sh.V) : (body Try.prog (stepper Try.prog (cfg47 k) lim47) (pl47_0 k) (codeAt (bodyOf Try.f47) [.r, .r, .l, .r, .s, .b, .r, .l, .s, .r, .s, .b, .r, .l, .s, .r, .r, .s, .b, .r, .l, .s, .r, .l, .s, .b]) ((fr47_0 k).sh.st v) (loopK (fr47_0 k) fun v => F47_0 k m v.1.1 v.1.2.1 v.1.2.2.1 v.1.2.2.2.1 v.1.2.2.2.2.1 v.2.1 v.2.2.1)).left = (body Try.prog (stepper Try.prog (cfg47 k) lim47) (pl47_0 k) (codeAt (bodyOf Try.f47) [.r, .r, .l, .r, .s, .b, .r, .l, .s, .r, .s, .b, .r, .l, .s, .r, .r, .s, .b, .r, .l, .s, .r, .l, .s, .b]) ((fr47_0 k).sh.st v) (loopK (fr47_0 k) fun v => F47_0 k m v.1.1 v.1.2.1 v.1.2.2.1 v.1.2.2.2.1 v.1.2.2.2.2.1 v.2.1 v.2.2.1)).right := by kernel_rfl
theorem fr47_0_ok (k : Nat) : FragOK Try.prog lim47 (fr47_0 k) (codeAt (bodyOf Try.f47) [.r, .r, .l, .r, .s, .b, .r, .l, .s, .r, .s, .b, .r, .l, .s, .r, .r, .s, .b, .r, .l, .s, .r, .l, .s]) :=
  frag_cast (by kernel_rfl) (loop_ok (cfg47_ok k) (Eq.mpr (pq47_0 k) (planOK_go _)) (fun m v => F47_0 k m v.1.1 v.1.2.1 v.1.2.2.1 v.1.2.2.2.1 v.1.2.2.2.2.1 v.2.1 v.2.2.1) k (fun _ => rfl) (fun _ => rfl) fun m v => ⟨ps47_0 k m v, pe47_0 k m v⟩)
def pl47_1 (k : Nat) : Plan := (.seq .go (.seq (.sub (.seq .go (.seq (.sub (.frag (fr47_0 k))) .go))) .go))
theorem pq47_1 (k : Nat) : PlanOK Try.prog lim47 (pl47_1 k) (codeAt (bodyOf Try.f47) [.r, .r, .l, .r, .s, .b, .r, .l, .s, .r, .s, .b, .r, .l, .s, .r, .r, .s, .b]) = (PlanOK Try.prog lim47 .go (codeAt (bodyOf Try.f47) [.r, .r, .l, .r, .s, .b, .r, .l, .s, .r, .s, .b, .r, .l, .s, .r, .r, .s, .b, .l]) ∧ ((PlanOK Try.prog lim47 .go (codeAt (bodyOf Try.f47) [.r, .r, .l, .r, .s, .b, .r, .l, .s, .r, .s, .b, .r, .l, .s, .r, .r, .s, .b, .r, .l, .s, .l]) ∧ (FragOK Try.prog lim47 (fr47_0 k) (codeAt (bodyOf Try.f47) [.r, .r, .l, .r, .s, .b, .r, .l, .s, .r, .s, .b, .r, .l, .s, .r, .r, .s, .b, .r, .l, .s, .r, .l, .s]) ∧ PlanOK Try.prog lim47 .go (codeAt (bodyOf Try.f47) [.r, .r, .l, .r, .s, .b, .r, .l, .s, .r, .s, .b, .r, .l, .s, .r, .r, .s, .b, .r, .l, .s, .r, .r]))) ∧ PlanOK Try.prog lim47 .go (codeAt (bodyOf Try.f47) [.r, .r, .l, .r, .s, .b, .r, .l, .s, .r, .s, .b, .r, .l, .s, .r, .r, .s, .b, .r, .r]))) := by kernel_rfl
theorem ps47_1 (k m : Nat) (v : (fr47_1 k).sh.V) : F47_1 k (m + 1) v.1.1 v.1.2.1 v.1.2.2.1 v.1.2.2.2.1 v.2.1 v.2.2.1 = (body Try.prog (stepper Try.prog (cfg47 k) lim47) (pl47_1 k) (codeAt (bodyOf Try.f47) [.r, .r, .l, .r, .s, .b, .r, .l, .s, .r, .s, .b, .r, .l, .s, .r, .r, .s, .b]) ((fr47_1 k).sh.st v) (loopK (fr47_1 k) fun v => F47_1 k m v.1.1 v.1.2.1 v.1.2.2.1 v.1.2.2.2.1 v.2.1 v.2.2.1)).eval := by kernel_rfl
theorem pe47_1 (k m : Nat) (v : (fr47_1 k).sh.V) : (body Try.prog (stepper Try.prog (cfg47 k) lim47) (pl47_1 k) (codeAt (bodyOf Try.f47) [.r, .r, .l, .r, .s, .b, .r, .l, .s, .r, .s, .b, .r, .l, .s, .r, .r, .s, .b]) ((fr47_1 k).sh.st v) (loopK (fr47_1 k) fun v => F47_1 k m v.1.1 v.1.2.1 v.1.2.2.1 v.1.2.2.2.1 v.2.1 v.2.2.1)).left = (body Try.prog (stepper Try.prog (cfg47 k) lim47) (pl47_1 k) (codeAt (bodyOf Try.f47) [.r, .r, .l, .r, .s, .b, .r, .l, .s, .r, .s, .b, .r, .l, .s, .r, .r, .s, .b]) ((fr47_1 k).sh.st v) (loopK (fr47_1 k) fun v => F47_1 k m v.1.1 v.1.2.1 v.1.2.2.1 v.1.2.2.2.1 v.2.1 v.2.2.1)).right := by kernel_rfl
theorem fr47_1_ok (k : Nat) : FragOK Try.prog lim47 (fr47_1 k) (codeAt (bodyOf Try.f47) [.r, .r, .l, .r, .s, .b, .r, .l, .s, .r, .s, .b, .r, .l, .s, .r, .r, .s]) :=
  frag_cast (by kernel_rfl) (loop_ok (cfg47_ok k) (Eq.mpr (pq47_1 k) ⟨(planOK_go _), ⟨⟨(planOK_go _), ⟨(fr47_0_ok k), (planOK_go _)⟩⟩, (planOK_go _)⟩⟩) (fun m v => F47_1 k m v.1.1 v.1.2.1 v.1.2.2.1 v.1.2.2.2.1 v.2.1 v.2.2.1) k (fun _ => rfl) (fun _ => rfl) fun m v => ⟨ps47_1 k m v, pe47_1 k m v⟩)
def pl47_2 (k : Nat) : Plan := (.seq .go (.seq (.sub (.seq .go (.seq .go (.sub (.frag (fr47_1 k)))))) .go))
theorem pq47_2 (k : Nat) : PlanOK Try.prog lim47 (pl47_2 k) (codeAt (bodyOf Try.f47) [.r, .r, .l, .r, .s, .b, .r, .l, .s, .r, .s, .b]) = (PlanOK Try.prog lim47 .go (codeAt (bodyOf Try.f47) [.r, .r, .l, .r, .s, .b, .r, .l, .s, .r, .s, .b, .l]) ∧ ((PlanOK Try.prog lim47 .go (codeAt (bodyOf Try.f47) [.r, .r, .l, .r, .s, .b, .r, .l, .s, .r, .s, .b, .r, .l, .s, .l]) ∧ (PlanOK Try.prog lim47 .go (codeAt (bodyOf Try.f47) [.r, .r, .l, .r, .s, .b, .r, .l, .s, .r, .s, .b, .r, .l, .s, .r, .l]) ∧ FragOK Try.prog lim47 (fr47_1 k) (codeAt (bodyOf Try.f47) [.r, .r, .l, .r, .s, .b, .r, .l, .s, .r, .s, .b, .r, .l, .s, .r, .r, .s]))) ∧ PlanOK Try.prog lim47 .go (codeAt (bodyOf Try.f47) [.r, .r, .l, .r, .s, .b, .r, .l, .s, .r, .s, .b, .r, .r]))) := by kernel_rfl
theorem ps47_2 (k m : Nat) (v : (fr47_2 k).sh.V) : F47_2 k (m + 1) v.1.1 v.1.2.1 v.1.2.2.1 v.2.1 = (body Try.prog (stepper Try.prog (cfg47 k) lim47) (pl47_2 k) (codeAt (bodyOf Try.f47) [.r, .r, .l, .r, .s, .b, .r, .l, .s, .r, .s, .b]) ((fr47_2 k).sh.st v) (loopK (fr47_2 k) fun v => F47_2 k m v.1.1 v.1.2.1 v.1.2.2.1 v.2.1)).eval := by kernel_rfl
theorem pe47_2 (k m : Nat) (v : (fr47_2 k).sh.V) : (body Try.prog (stepper Try.prog (cfg47 k) lim47) (pl47_2 k) (codeAt (bodyOf Try.f47) [.r, .r, .l, .r, .s, .b, .r, .l, .s, .r, .s, .b]) ((fr47_2 k).sh.st v) (loopK (fr47_2 k) fun v => F47_2 k m v.1.1 v.1.2.1 v.1.2.2.1 v.2.1)).left = (body Try.prog (stepper Try.prog (cfg47 k) lim47) (pl47_2 k) (codeAt (bodyOf Try.f47) [.r, .r, .l, .r, .s, .b, .r, .l, .s, .r, .s, .b]) ((fr47_2 k).sh.st v) (loopK (fr47_2 k) fun v => F47_2 k m v.1.1 v.1.2.1 v.1.2.2.1 v.2.1)).right := by kernel_rfl
theorem fr47_2_ok (k : Nat) : FragOK Try.prog lim47 (fr47_2 k) (codeAt (bodyOf Try.f47) [.r, .r, .l, .r, .s, .b, .r, .l, .s, .r, .s]) :=
  frag_cast (by kernel_rfl) (loop_ok (cfg47_ok k) (Eq.mpr (pq47_2 k) ⟨(planOK_go _), ⟨⟨(planOK_go _), ⟨(planOK_go _), (fr47_1_ok k)⟩⟩, (planOK_go _)⟩⟩) (fun m v => F47_2 k m v.1.1 v.1.2.1 v.1.2.2.1 v.2.1) k (fun _ => rfl) (fun _ => rfl) fun m v => ⟨ps47_2 k m v, pe47_2 k m v⟩)
def pl47_3 (k : Nat) : Plan := (.seq .go (.seq (.sub (.seq .go (.sub (.frag (fr47_2 k))))) .go))
theorem pq47_3 (k : Nat) : PlanOK Try.prog lim47 (pl47_3 k) (codeAt (bodyOf Try.f47) [.r, .r, .l, .r, .s, .b]) = (PlanOK Try.prog lim47 .go (codeAt (bodyOf Try.f47) [.r, .r, .l, .r, .s, .b, .l]) ∧ ((PlanOK Try.prog lim47 .go (codeAt (bodyOf Try.f47) [.r, .r, .l, .r, .s, .b, .r, .l, .s, .l]) ∧ FragOK Try.prog lim47 (fr47_2 k) (codeAt (bodyOf Try.f47) [.r, .r, .l, .r, .s, .b, .r, .l, .s, .r, .s])) ∧ PlanOK Try.prog lim47 .go (codeAt (bodyOf Try.f47) [.r, .r, .l, .r, .s, .b, .r, .r]))) := by kernel_rfl
theorem ps47_3 (k m : Nat) (v : (fr47_3 k).sh.V) : F47_3 k (m + 1) v.1.1 v.1.2.1 v.2.1 = (body Try.prog (stepper Try.prog (cfg47 k) lim47) (pl47_3 k) (codeAt (bodyOf Try.f47) [.r, .r, .l, .r, .s, .b]) ((fr47_3 k).sh.st v) (loopK (fr47_3 k) fun v => F47_3 k m v.1.1 v.1.2.1 v.2.1)).eval := by kernel_rfl
theorem pe47_3 (k m : Nat) (v : (fr47_3 k).sh.V) : (body Try.prog (stepper Try.prog (cfg47 k) lim47) (pl47_3 k) (codeAt (bodyOf Try.f47) [.r, .r, .l, .r, .s, .b]) ((fr47_3 k).sh.st v) (loopK (fr47_3 k) fun v => F47_3 k m v.1.1 v.1.2.1 v.2.1)).left = (body Try.prog (stepper Try.prog (cfg47 k) lim47) (pl47_3 k) (codeAt (bodyOf Try.f47) [.r, .r, .l, .r, .s, .b]) ((fr47_3 k).sh.st v) (loopK (fr47_3 k) fun v => F47_3 k m v.1.1 v.1.2.1 v.2.1)).right := by kernel_rfl
theorem fr47_3_ok (k : Nat) : FragOK Try.prog lim47 (fr47_3 k) (codeAt (bodyOf Try.f47) [.r, .r, .l, .r, .s]) :=
  frag_cast (by kernel_rfl) (loop_ok (cfg47_ok k) (Eq.mpr (pq47_3 k) ⟨(planOK_go _), ⟨⟨(planOK_go _), (fr47_2_ok k)⟩, (planOK_go _)⟩⟩) (fun m v => F47_3 k m v.1.1 v.1.2.1 v.2.1) k (fun _ => rfl) (fun _ => rfl) fun m v => ⟨ps47_3 k m v, pe47_3 k m v⟩)
def pl47 (k : Nat) : Plan := (.seq .go (.seq .go (.seq (.seq .go (.sub (.frag (fr47_3 k)))) .go)))
theorem pq47 (k : Nat) : PlanOK Try.prog lim47 (pl47 k) (codeAt (bodyOf Try.f47) []) = (PlanOK Try.prog lim47 .go (codeAt (bodyOf Try.f47) [.l]) ∧ (PlanOK Try.prog lim47 .go (codeAt (bodyOf Try.f47) [.r, .l]) ∧ ((PlanOK Try.prog lim47 .go (codeAt (bodyOf Try.f47) [.r, .r, .l, .l]) ∧ FragOK Try.prog lim47 (fr47_3 k) (codeAt (bodyOf Try.f47) [.r, .r, .l, .r, .s])) ∧ PlanOK Try.prog lim47 .go (codeAt (bodyOf Try.f47) [.r, .r, .r])))) := by kernel_rfl
theorem ev47 (k : Nat) (x : AT (sp47 k).ps) : (sp47 k).impl x = (fnT Try.prog (cfg47 k) lim47 Try.f47 (bodyOf Try.f47) (pl47 k) (sp47 k) x).eval := by kernel_rfl
theorem eq47 (k : Nat) (x : AT (sp47 k).ps) : (fnT Try.prog (cfg47 k) lim47 Try.f47 (bodyOf Try.f47) (pl47 k) (sp47 k) x).left = (fnT Try.prog (cfg47 k) lim47 Try.f47 (bodyOf Try.f47) (pl47 k) (sp47 k) x).right := by kernel_rfl
theorem v47 (k : Nat) : Callable Try.prog 47 ∧ Valid Try.prog 47 (sp47 k) :=
  fn_ok (cfg47_ok k) (f := 47) (fn := Try.f47) (by kernel_rfl) (c := bodyOf Try.f47) (by kernel_rfl) (by kernel_rfl) rfl rfl (Nat.le_of_ble_eq_true rfl) (Nat.le_of_ble_eq_true rfl) (p := pl47 k) (Eq.mpr (pq47 k) ⟨(planOK_go _), ⟨(planOK_go _), ⟨⟨(planOK_go _), (fr47_3_ok k)⟩, (planOK_go _)⟩⟩⟩) fun x => ⟨ev47 k x, eq47 k x⟩
/-! f51 hyphen/hyphenref3.Has -/
def F51_0 (k : Nat) : Nat → TY57 → Int → Int → Option ((Unit × Unit) ⊕ TY60)
  | 0, _, _, _ => none
  | n + 1, t0, t1, t5 =>
    let x4 := (decide (t5 < ((List.length t0 : Nat) : Int)))
    bif x4 then
      if 0 ≤ t5 ∧ t5 < ((List.length t0 : Nat) : Int) then
        let x5 := (List.getD t0 (Int.toNat t5) ((0 : Int), ((0 : Int), ())))
        bif (decide (t1 ≥ x5.1)) then
          if 0 ≤ t5 ∧ t5 < ((List.length t0 : Nat) : Int) then
            let x6 := (List.getD t0 (Int.toNat t5) ((0 : Int), ((0 : Int), ())))
            bif (decide (t1 ≤ x6.2.1)) then
              some (.inr ((true, ()), ()))
            else
              (F51_0 k n t0 t1 (IntKind.wrap .i64 (t5 + (1 : Int)))).bind some
          else none
        else
          (F51_0 k n t0 t1 (IntKind.wrap .i64 (t5 + (1 : Int)))).bind some
      else none
    else
      some (.inl ((), ()))
def fr51_0 (k : Nat) : Frag := ⟨⟨[], [(0, .val KD35), (1, .val (.int .i64)), (5, .val (.int .i64))], []⟩, [(.exit 0, ⟨[], [], []⟩), (.ret, ⟨[], [(4, .val .bool)], []⟩)], fun v => F51_0 k k v.1.1 v.1.2.1 v.1.2.2.1⟩
def F51 (k : Nat) (a0 : TY57) (a1 : Int) : Option TY60 :=
  (F51_0 k k a0 a1 (0 : Int)).bind fun r7 =>
  match r7 with
  | .inl r8 =>
    some ((false, ()), ())
  | .inr r8 =>
    let y9 := r8.1.1
    some ((y9, ()), ())
def sp51 (k : Nat) : Spec := ⟨[.val KD35, .val (.int .i64)], [.val .bool], fun x => F51 k x.1 x.2.1⟩
def lim51 : Lim := ⟨28, 2, false, false, []⟩
def cfg51 (k : Nat) : Nat → Option Spec := cfgL []
theorem cfg51_ok (k : Nat) : CfgOK Try.prog (cfg51 k) := cfgL_nil
def pl51_0 (k : Nat) : Plan := .go
theorem pq51_0 (k : Nat) : PlanOK Try.prog lim51 (pl51_0 k) (codeAt (bodyOf Try.f51) [.r, .l, .r, .s, .b]) = PlanOK Try.prog lim51 .go (codeAt (bodyOf Try.f51) [.r, .l, .r, .s, .b]) := by kernel_rfl
theorem ps51_0 (k m : Nat) (v : (fr51_0 k).sh.V) : F51_0 k (m + 1) v.1.1 v.1.2.1 v.1.2.2.1 = (body Try.prog (stepper Try.prog (cfg51 k) lim51) (pl51_0 k) (codeAt (bodyOf Try.f51) [.r, .l, .r, .s, .b]) ((fr51_0 k).sh.st v) (loopK (fr51_0 k) fun v => F51_0 k m v.1.1 v.1.2.1 v.1.2.2.1)).eval := by kernel_rfl
theorem pe51_0 (k m : Nat) (v : (fr51_0 k).sh.V) : (body Try.prog (stepper Try.prog (cfg51 k) lim51) (pl51_0 k) (codeAt (bodyOf Try.f51) [.r, .l, .r, .s, .b]) ((fr51_0 k).sh.st v) (loopK (fr51_0 k) fun v => F51_0 k m v.1.1 v.1.2.1 v.1.2.2.1)).left = (body Try.prog (stepper Try.prog (cfg51 k) lim51) (pl51_0 k) (codeAt (bodyOf Try.f51) [.r, .l, .r, .s, .b]) ((fr51_0 k).sh.st v) (loopK (fr51_0 k) fun v => F51_0 k m v.1.1 v.1.2.1 v.1.2.2.1)).right := by kernel_rfl
theorem fr51_0_ok (k : Nat) : FragOK Try.prog lim51 (fr51_0 k) (codeAt (bodyOf Try.f51) [.r, .l, .r, .s]) :=
  frag_cast (by kernel_rfl) (loop_ok (cfg51_ok k) (Eq.mpr (pq51_0 k) (planOK_go _)) (fun m v => F51_0 k m v.1.1 v.1.2.1 v.1.2.2.1) k (fun _ => rfl) (fun _ => rfl) fun m v => ⟨ps51_0 k m v, pe51_0 k m v⟩)
def pl51 (k : Nat) : Plan := (.seq .go (.seq (.seq .go (.sub (.frag (fr51_0 k)))) .go))
theorem pq51 (k : Nat) : PlanOK Try.prog lim51 (pl51 k) (codeAt (bodyOf Try.f51) []) = (PlanOK Try.prog lim51 .go (codeAt (bodyOf Try.f51) [.l]) ∧ ((PlanOK Try.prog lim51 .go (codeAt (bodyOf Try.f51) [.r, .l, .l]) ∧ FragOK Try.prog lim51 (fr51_0 k) (codeAt (bodyOf Try.f51) [.r, .l, .r, .s])) ∧ PlanOK Try.prog lim51 .go (codeAt (bodyOf Try.f51) [.r, .r]))) := by kernel_rfl
theorem ev51 (k : Nat) (x : AT (sp51 k).ps) : (sp51 k).impl x = (fnT Try.prog (cfg51 k) lim51 Try.f51 (bodyOf Try.f51) (pl51 k) (sp51 k) x).eval := by kernel_rfl
theorem eq51 (k : Nat) (x : AT (sp51 k).ps) : (fnT Try.prog (cfg51 k) lim51 Try.f51 (bodyOf Try.f51) (pl51 k) (sp51 k) x).left = (fnT Try.prog (cfg51 k) lim51 Try.f51 (bodyOf Try.f51) (pl51 k) (sp51 k) x).right := by kernel_rfl
theorem v51 (k : Nat) : Callable Try.prog 51 ∧ Valid Try.prog 51 (sp51 k) :=
  fn_ok (cfg51_ok k) (f := 51) (fn := Try.f51) (by kernel_rfl) (c := bodyOf Try.f51) (by kernel_rfl) (by kernel_rfl) rfl rfl (Nat.le_of_ble_eq_true rfl) (Nat.le_of_ble_eq_true rfl) (p := pl51 k) (Eq.mpr (pq51 k) ⟨(planOK_go _), ⟨⟨(planOK_go _), (fr51_0_ok k)⟩, (planOK_go _)⟩⟩) fun x => ⟨ev51 k x, eq51 k x⟩
/-! f48 hyphen/hyphenref4.key -/
def F48_0 (k : Nat) : Nat → TY50 → Int → Int → Int → Option (TY61)
  | 0, _, _, _, _ => none
  | n + 1, t0, t1, t5, t6 =>
    let x5 := (decide (t6 < ((List.length t0 : Nat) : Int)))
    bif x5 then
      if 0 ≤ t6 ∧ t6 < ((List.length t0 : Nat) : Int) then
        let x6 := (List.getD t0 (Int.toNat t6) ([] : TY57))
        (F51 k x6 t1).bind fun r7 =>
        bif r7.1.1 then
          let x8 := (IntKind.wrap .i64 ((IntKind.wrap .i64 ((2 : Int) * t5)) + (1 : Int)))
          (F48_0 k n t0 t1 x8 (IntKind.wrap .i64 (t6 + (1 : Int)))).bind some
        else
          (F48_0 k n t0 t1 (IntKind.wrap .i64 ((2 : Int) * t5)) (IntKind.wrap .i64 (t6 + (1 : Int)))).bind some
      else none
    else
      some ((t5, ()), ())
def fr48_0 (k : Nat) : Frag := ⟨⟨[], [(0, .val KD26), (1, .val (.int .i64)), (5, .val (.int .i64)), (6, .val (.int .i64))], []⟩, [(.exit 0, ⟨[], [(5, .val (.int .i64))], []⟩)], fun v => F48_0 k k v.1.1 v.1.2.1 v.1.2.2.1 v.1.2.2.2.1⟩
def F48 (k : Nat) (a0 : TY50) (a1 : Int) : Option TY61 :=
  (F48_0 k k a0 a1 (0 : Int) (0 : Int)).bind fun r9 =>
  let y10 := r9.1.1
  some ((y10, ()), ())
def sp48 (k : Nat) : Spec := ⟨[.val KD26, .val (.int .i64)], [.val (.int .i64)], fun x => F48 k x.1 x.2.1⟩
def lim48 : Lim := ⟨24, 2, false, false, []⟩
def cfg48 (k : Nat) : Nat → Option Spec := cfgL [(51, sp51 k)]
theorem cfg48_ok (k : Nat) : CfgOK Try.prog (cfg48 k) := cfgL_cons (v51 k) (cfgL_nil)
def pl48_0 (k : Nat) : Plan := .go
theorem pq48_0 (k : Nat) : PlanOK Try.prog lim48 (pl48_0 k) (codeAt (bodyOf Try.f48) [.r, .r, .l, .r, .s, .b]) = PlanOK Try.prog lim48 .go (codeAt (bodyOf Try.f48) [.r, .r, .l, .r, .s, .b]) := by kernel_rfl
theorem ps48_0 (k m : Nat) (v : (fr48_0 k).sh.V) : F48_0 k (m + 1) v.1.1 v.1.2.1 v.1.2.2.1 v.1.2.2.2.1 = (body Try.prog (stepper Try.prog (cfg48 k) lim48) (pl48_0 k) (codeAt (bodyOf Try.f48) [.r, .r, .l, .r, .s, .b]) ((fr48_0 k).sh.st v) (loopK (fr48_0 k) fun v => F48_0 k m v.1.1 v.1.2.1 v.1.2.2.1 v.1.2.2.2.1)).eval := by kernel_rfl
theorem pe48_0 (k m : Nat) (v : (fr48_0 k).sh.V) : (body Try.prog (stepper Try.prog (cfg48 k) lim48) (pl48_0 k) (codeAt (bodyOf Try.f48) [.r, .r, .l, .r, .s, .b]) ((fr48_0 k).sh.st v) (loopK (fr48_0 k) fun v => F48_0 k m v.1.1 v.1.2.1 v.1.2.2.1 v.1.2.2.2.1)).left = (body Try.prog (stepper Try.prog (cfg48 k) lim48) (pl48_0 k) (codeAt (bodyOf Try.f48) [.r, .r, .l, .r, .s, .b]) ((fr48_0 k).sh.st v) (loopK (fr48_0 k) fun v => F48_0 k m v.1.1 v.1.2.1 v.1.2.2.1 v.1.2.2.2.1)).right := by kernel_rfl
theorem fr48_0_ok (k : Nat) : FragOK Try.prog lim48 (fr48_0 k) (codeAt (bodyOf Try.f48) [.r, .r, .l, .r, .s]) :=
  frag_cast (by kernel_rfl) (loop_ok (cfg48_ok k) (Eq.mpr (pq48_0 k) (planOK_go _)) (fun m v => F48_0 k m v.1.1 v.1.2.1 v.1.2.2.1 v.1.2.2.2.1) k (fun _ => rfl) (fun _ => rfl) fun m v => ⟨ps48_0 k m v, pe48_0 k m v⟩)
def pl48 (k : Nat) : Plan := (.seq .go (.seq .go (.seq (.seq .go (.sub (.frag (fr48_0 k)))) .go)))
theorem pq48 (k : Nat) : PlanOK Try.prog lim48 (pl48 k) (codeAt (bodyOf Try.f48) []) = (PlanOK Try.prog lim48 .go (codeAt (bodyOf Try.f48) [.l]) ∧ (PlanOK Try.prog lim48 .go (codeAt (bodyOf Try.f48) [.r, .l]) ∧ ((PlanOK Try.prog lim48 .go (codeAt (bodyOf Try.f48) [.r, .r, .l, .l]) ∧ FragOK Try.prog lim48 (fr48_0 k) (codeAt (bodyOf Try.f48) [.r, .r, .l, .r, .s])) ∧ PlanOK Try.prog lim48 .go (codeAt (bodyOf Try.f48) [.r, .r, .r])))) := by kernel_rfl
theorem ev48 (k : Nat) (x : AT (sp48 k).ps) : (sp48 k).impl x = (fnT Try.prog (cfg48 k) lim48 Try.f48 (bodyOf Try.f48) (pl48 k) (sp48 k) x).eval := by kernel_rfl
theorem eq48 (k : Nat) (x : AT (sp48 k).ps) : (fnT Try.prog (cfg48 k) lim48 Try.f48 (bodyOf Try.f48) (pl48 k) (sp48 k) x).left = (fnT Try.prog (cfg48 k) lim48 Try.f48 (bodyOf Try.f48) (pl48 k) (sp48 k) x).right := by kernel_rfl
theorem v48 (k : Nat) : Callable Try.prog 48 ∧ Valid Try.prog 48 (sp48 k) :=
  fn_ok (cfg48_ok k) (f := 48) (fn := Try.f48) (by kernel_rfl) (c := bodyOf Try.f48) (by kernel_rfl) (by kernel_rfl) rfl rfl (Nat.le_of_ble_eq_true rfl) (Nat.le_of_ble_eq_true rfl) (p := pl48 k) (Eq.mpr (pq48 k) ⟨(planOK_go _), ⟨(planOK_go _), ⟨⟨(planOK_go _), (fr48_0_ok k)⟩, (planOK_go _)⟩⟩⟩) fun x => ⟨ev48 k x, eq48 k x⟩
/-! f29 hyphen/hyphenref4.Cuts -/
def F29_0 (k : Nat) : Nat → TY50 → Int → Int → Int → Int → (List Int) → (List Int) → (List Int) → (List Int) → Option ((TY34 × ((List Int) × (List Int) × (List Int) × (List Int) × Unit)))
  | 0, _, _, _, _, _, _, _, _, _ => none
  | n + 1, t0, t8, t9, t10, t11, c1000208, c2000004, c2000005, c2000006 =>
    let x5 := (decide (t11 < ((List.length c2000006 : Nat) : Int)))
    bif x5 then
      if 0 ≤ t11 ∧ t11 < ((List.length c2000006 : Nat) : Int) then
        let x6 := (List.getD c2000006 (Int.toNat t11) (0 : Int))
        bif (x6 != t10) then
          (F29_0 k n t0 t8 t9 t10 (IntKind.wrap .i64 (t11 + (1 : Int))) c1000208 c2000004 c2000005 c2000006).bind some
        else
          some ((t0, t8, t9, t10, t11, ()), (c1000208, c2000004, c2000005, c2000006, ()))
      else none
    else
      some ((t0, t8, t9, t10, t11, ()), (c1000208, c2000004, c2000005, c2000006, ()))
def fr29_0 (k : Nat) : Frag := ⟨⟨[(4, KD53), (5, KD53), (6, KD53)], [(0, .val KD26), (4, .at 2000004 []), (5, .at 2000005 []), (6, .at 2000006 []), (7, .at 1000208 []), (8, .val (.int .i64)), (9, .val (.int .i64)), (10, .val (.int .i64)), (11, .val (.int .i64))], [(1000208, none, KD53), (2000004, none, KD53), (2000005, none, KD53), (2000006, none, KD53)]⟩, [(.exit 2, ⟨[], [(0, .val KD26), (4, .at 2000004 []), (5, .at 2000005 []), (6, .at 2000006 []), (7, .at 1000208 []), (8, .val (.int .i64)), (9, .val (.int .i64)), (10, .val (.int .i64)), (11, .val (.int .i64))], [(1000208, none, KD53), (2000004, none, KD53), (2000005, none, KD53), (2000006, none, KD53)]⟩)], fun v => F29_0 k k v.1.1 v.1.2.1 v.1.2.2.1 v.1.2.2.2.1 v.1.2.2.2.2.1 v.2.1 v.2.2.1 v.2.2.2.1 v.2.2.2.2.1⟩
def F29_1 (k : Nat) : Nat → TY50 → Int → Int → (List Int) → (List Int) → (List Int) → (List Int) → Option ((Unit × TY51))
  | 0, _, _, _, _, _, _, _ => none
  | n + 1, t0, t8, t9, c1000208, c2000004, c2000005, c2000006 =>
    let x2 := (decide (t9 < ((List.length c1000208 : Nat) : Int)))
    bif x2 then
      if 0 ≤ t9 ∧ t9 < ((List.length c1000208 : Nat) : Int) then
        let x3 := (List.getD c1000208 (Int.toNat t9) (0 : Int))
        (F48 k t0 x3).bind fun r4 =>
        bif (r4.1.1 == t8) then
          (F29_1 k n t0 t8 (IntKind.wrap .i64 (t9 + (1 : Int))) c1000208 c2000004 c2000005 c2000006).bind some
        else
          (F29_0 k k t0 r4.1.1 t9 r4.1.1 (0 : Int) c1000208 c2000004 c2000005 c2000006).bind fun r7 =>
          let y8 := r7.1.1
          let y9 := r7.1.2.1
          let y10 := r7.1.2.2.1
          let y11 := r7.1.2.2.2.1
          let y12 := r7.1.2.2.2.2.1
          let y13 := r7.2.1
          let y14 := r7.2.2.1
          let y15 := r7.2.2.2.1
          let y16 := r7.2.2.2.2.1
          bif (y12 == ((List.length y16 : Nat) : Int)) then
            let x17 := (List.set (List.replicate 1 (0 : Int)) 0 y11)
            if (List.length y16 + List.length x17) * (8 * 2) ≤ 281474976710656 ∧ List.length y16 + List.length x17 ≤ 9223372036854775807 then
              if 0 ≤ y10 ∧ y10 < ((List.length y13 : Nat) : Int) then
                let x18 := (List.set (List.replicate 1 (0 : Int)) 0 (List.getD y13 (Int.toNat y10) (0 : Int)))
                if (List.length y14 + List.length x18) * (8 * 2) ≤ 281474976710656 ∧ List.length y14 + List.length x18 ≤ 9223372036854775807 then
                  let x19 := (List.set (List.replicate 1 (0 : Int)) 0 y12)
                  if (List.length y15 + List.length x19) * (8 * 2) ≤ 281474976710656 ∧ List.length y15 + List.length x19 ≤ 9223372036854775807 then
                    (F29_1 k n y8 y9 (IntKind.wrap .i64 (y10 + (1 : Int))) y13 (y14 ++ x18) (y15 ++ x19) (y16 ++ x17)).bind some
                  else none
                else none
              else none
            else none
          else
            if 0 ≤ y10 ∧ y10 < ((List.length y13 : Nat) : Int) then
              let x20 := (List.set (List.replicate 1 (0 : Int)) 0 (List.getD y13 (Int.toNat y10) (0 : Int)))
              if (List.length y14 + List.length x20) * (8 * 2) ≤ 281474976710656 ∧ List.length y14 + List.length x20 ≤ 9223372036854775807 then
                let x21 := (List.set (List.replicate 1 (0 : Int)) 0 y12)
                if (List.length y15 + List.length x21) * (8 * 2) ≤ 281474976710656 ∧ List.length y15 + List.length x21 ≤ 9223372036854775807 then
                  (F29_1 k n y8 y9 (IntKind.wrap .i64 (y10 + (1 : Int))) y13 (y14 ++ x20) (y15 ++ x21) y16).bind some
                else none
              else none
            else none
      else none
    else
      some ((), (c2000004, c2000005, ()))
def fr29_1 (k : Nat) : Frag := ⟨⟨[(4, KD53), (5, KD53), (6, KD53)], [(0, .val KD26), (4, .at 2000004 []), (5, .at 2000005 []), (6, .at 2000006 []), (7, .at 1000208 []), (8, .val (.int .i64)), (9, .val (.int .i64))], [(1000208, none, KD53), (2000004, none, KD53), (2000005, none, KD53), (2000006, none, KD53)]⟩, [(.exit 0, ⟨[(4, KD53), (5, KD53)], [(4, .at 2000004 []), (5, .at 2000005 [])], [(2000004, none, KD53), (2000005, none, KD53)]⟩)], fun v => F29_1 k k v.1.1 v.1.2.1 v.1.2.2.1 v.2.1 v.2.2.1 v.2.2.2.1 v.2.2.2.2.1⟩
def F29 (k : Nat) (a0 : TY50) : Option (TY51 × Unit) :=
  (F47 k a0).bind fun r1 =>
  (F29_1 k k a0 (-1 : Int) (0 : Int) r1.1.1 [] [] []).bind fun r22 =>
  let y23 := r22.2.1
  let y24 := r22.2.2.1
  some ((y23, y24, ()), ())
def sp29 (k : Nat) : Spec := ⟨[.val KD26], [.own KD53, .own KD53], fun x => F29 k x.1⟩
def lim29 : Lim := ⟨65, 1, false, false, []⟩
def cfg29 (k : Nat) : Nat → Option Spec := cfgL [(47, sp47 k), (48, sp48 k)]
theorem cfg29_ok (k : Nat) : CfgOK Try.prog (cfg29 k) := cfgL_cons (v47 k) (cfgL_cons (v48 k) (cfgL_nil))
def pl29_0 (k : Nat) : Plan := .go
theorem pq29_0 (k : Nat) : PlanOK Try.prog lim29 (pl29_0 k) (codeAt (bodyOf Try.f29) [.r, .r, .r, .r, .l, .r, .s, .b, .r, .l, .s, .r, .r, .r, .r, .l, .s, .b]) = PlanOK Try.prog lim29 .go (codeAt (bodyOf Try.f29) [.r, .r, .r, .r, .l, .r, .s, .b, .r, .l, .s, .r, .r, .r, .r, .l, .s, .b]) := by kernel_rfl
theorem ps29_0 (k m : Nat) (v : (fr29_0 k).sh.V) : F29_0 k (m + 1) v.1.1 v.1.2.1 v.1.2.2.1 v.1.2.2.2.1 v.1.2.2.2.2.1 v.2.1 v.2.2.1 v.2.2.2.1 v.2.2.2.2.1 = (body Try.prog (stepper Try.prog (cfg29 k) lim29) (pl29_0 k) (codeAt (bodyOf Try.f29) [.r, .r, .r, .r, .l, .r, .s, .b, .r, .l, .s, .r, .r, .r, .r, .l, .s, .b]) ((fr29_0 k).sh.st v) (loopK (fr29_0 k) fun v => F29_0 k m v.1.1 v.1.2.1 v.1.2.2.1 v.1.2.2.2.1 v.1.2.2.2.2.1 v.2.1 v.2.2.1 v.2.2.2.1 v.2.2.2.2.1)).eval := by kernel_rfl
theorem pe29_0 (k m : Nat) (v : (fr29_0 k).sh.V) : (body Try.prog (stepper Try.prog (cfg29 k) lim29) (pl29_0 k) (codeAt (bodyOf Try.f29) [.r, .r, .r, .r, .l, .r, .s, .b, .r, .l, .s, .r, .r, .r, .r, .l, .s, .b]) ((fr29_0 k).sh.st v) (loopK (fr29_0 k) fun v => F29_0 k m v.1.1 v.1.2.1 v.1.2.2.1 v.1.2.2.2.1 v.1.2.2.2.2.1 v.2.1 v.2.2.1 v.2.2.2.1 v.2.2.2.2.1)).left = (body Try.prog (stepper Try.prog (cfg29 k) lim29) (pl29_0 k) (codeAt (bodyOf Try.f29) [.r, .r, .r, .r, .l, .r, .s, .b, .r, .l, .s, .r, .r, .r, .r, .l, .s, .b]) ((fr29_0 k).sh.st v) (loopK (fr29_0 k) fun v => F29_0 k m v.1.1 v.1.2.1 v.1.2.2.1 v.1.2.2.2.1 v.1.2.2.2.2.1 v.2.1 v.2.2.1 v.2.2.2.1 v.2.2.2.2.1)).right := by kernel_rfl
theorem fr29_0_ok (k : Nat) : FragOK Try.prog lim29 (fr29_0 k) (codeAt (bodyOf Try.f29) [.r, .r, .r, .r, .l, .r, .s, .b, .r, .l, .s, .r, .r, .r, .r, .l, .s]) :=
  frag_cast (by kernel_rfl) (loop_ok (cfg29_ok k) (Eq.mpr (pq29_0 k) (planOK_go _)) (fun m v => F29_0 k m v.1.1 v.1.2.1 v.1.2.2.1 v.1.2.2.2.1 v.1.2.2.2.2.1 v.2.1 v.2.2.1 v.2.2.2.1 v.2.2.2.2.1) k (fun _ => rfl) (fun _ => rfl) fun m v => ⟨ps29_0 k m v, pe29_0 k m v⟩)
def pl29_1 (k : Nat) : Plan := (.seq .go (.seq (.sub (.seq .go (.seq .go (.seq .go (.seq .go (.seq (.sub (.frag (fr29_0 k))) .go)))))) .go))
theorem pq29_1 (k : Nat) : PlanOK Try.prog lim29 (pl29_1 k) (codeAt (bodyOf Try.f29) [.r, .r, .r, .r, .l, .r, .s, .b]) = (PlanOK Try.prog lim29 .go (codeAt (bodyOf Try.f29) [.r, .r, .r, .r, .l, .r, .s, .b, .l]) ∧ ((PlanOK Try.prog lim29 .go (codeAt (bodyOf Try.f29) [.r, .r, .r, .r, .l, .r, .s, .b, .r, .l, .s, .l]) ∧ (PlanOK Try.prog lim29 .go (codeAt (bodyOf Try.f29) [.r, .r, .r, .r, .l, .r, .s, .b, .r, .l, .s, .r, .l]) ∧ (PlanOK Try.prog lim29 .go (codeAt (bodyOf Try.f29) [.r, .r, .r, .r, .l, .r, .s, .b, .r, .l, .s, .r, .r, .l]) ∧ (PlanOK Try.prog lim29 .go (codeAt (bodyOf Try.f29) [.r, .r, .r, .r, .l, .r, .s, .b, .r, .l, .s, .r, .r, .r, .l]) ∧ (FragOK Try.prog lim29 (fr29_0 k) (codeAt (bodyOf Try.f29) [.r, .r, .r, .r, .l, .r, .s, .b, .r, .l, .s, .r, .r, .r, .r, .l, .s]) ∧ PlanOK Try.prog lim29 .go (codeAt (bodyOf Try.f29) [.r, .r, .r, .r, .l, .r, .s, .b, .r, .l, .s, .r, .r, .r, .r, .r])))))) ∧ PlanOK Try.prog lim29 .go (codeAt (bodyOf Try.f29) [.r, .r, .r, .r, .l, .r, .s, .b, .r, .r]))) := by kernel_rfl
theorem ps29_1 (k m : Nat) (v : (fr29_1 k).sh.V) : F29_1 k (m + 1) v.1.1 v.1.2.1 v.1.2.2.1 v.2.1 v.2.2.1 v.2.2.2.1 v.2.2.2.2.1 = (body Try.prog (stepper Try.prog (cfg29 k) lim29) (pl29_1 k) (codeAt (bodyOf Try.f29) [.r, .r, .r, .r, .l, .r, .s, .b]) ((fr29_1 k).sh.st v) (loopK (fr29_1 k) fun v => F29_1 k m v.1.1 v.1.2.1 v.1.2.2.1 v.2.1 v.2.2.1 v.2.2.2.1 v.2.2.2.2.1)).eval := by kernel_rfl
theorem pe29_1 (k m : Nat) (v : (fr29_1 k).sh.V) : (body Try.prog (stepper Try.prog (cfg29 k) lim29) (pl29_1 k) (codeAt (bodyOf Try.f29) [.r, .r, .r, .r, .l, .r, .s, .b]) ((fr29_1 k).sh.st v) (loopK (fr29_1 k) fun v => F29_1 k m v.1.1 v.1.2.1 v.1.2.2.1 v.2.1 v.2.2.1 v.2.2.2.1 v.2.2.2.2.1)).left = (body Try.prog (stepper Try.prog (cfg29 k) lim29) (pl29_1 k) (codeAt (bodyOf Try.f29) [.r, .r, .r, .r, .l, .r, .s, .b]) ((fr29_1 k).sh.st v) (loopK (fr29_1 k) fun v => F29_1 k m v.1.1 v.1.2.1 v.1.2.2.1 v.2.1 v.2.2.1 v.2.2.2.1 v.2.2.2.2.1)).right := by kernel_rfl
theorem fr29_1_ok (k : Nat) : FragOK Try.prog lim29 (fr29_1 k) (codeAt (bodyOf Try.f29) [.r, .r, .r, .r, .l, .r, .s]) :=
  frag_cast (by kernel_rfl) (loop_ok (cfg29_ok k) (Eq.mpr (pq29_1 k) ⟨(planOK_go _), ⟨⟨(planOK_go _), ⟨(planOK_go _), ⟨(planOK_go _), ⟨(planOK_go _), ⟨(fr29_0_ok k), (planOK_go _)⟩⟩⟩⟩⟩, (planOK_go _)⟩⟩) (fun m v => F29_1 k m v.1.1 v.1.2.1 v.1.2.2.1 v.2.1 v.2.2.1 v.2.2.2.1 v.2.2.2.2.1) k (fun _ => rfl) (fun _ => rfl) fun m v => ⟨ps29_1 k m v, pe29_1 k m v⟩)
def pl29 (k : Nat) : Plan := (.seq .go (.seq .go (.seq .go (.seq .go (.seq (.seq .go (.sub (.frag (fr29_1 k)))) .go)))))
theorem pq29 (k : Nat) : PlanOK Try.prog lim29 (pl29 k) (codeAt (bodyOf Try.f29) []) = (PlanOK Try.prog lim29 .go (codeAt (bodyOf Try.f29) [.l]) ∧ (PlanOK Try.prog lim29 .go (codeAt (bodyOf Try.f29) [.r, .l]) ∧ (PlanOK Try.prog lim29 .go (codeAt (bodyOf Try.f29) [.r, .r, .l]) ∧ (PlanOK Try.prog lim29 .go (codeAt (bodyOf Try.f29) [.r, .r, .r, .l]) ∧ ((PlanOK Try.prog lim29 .go (codeAt (bodyOf Try.f29) [.r, .r, .r, .r, .l, .l]) ∧ FragOK Try.prog lim29 (fr29_1 k) (codeAt (bodyOf Try.f29) [.r, .r, .r, .r, .l, .r, .s])) ∧ PlanOK Try.prog lim29 .go (codeAt (bodyOf Try.f29) [.r, .r, .r, .r, .r])))))) := by kernel_rfl
theorem ev29 (k : Nat) (x : AT (sp29 k).ps) : (sp29 k).impl x = (fnT Try.prog (cfg29 k) lim29 Try.f29 (bodyOf Try.f29) (pl29 k) (sp29 k) x).eval := by kernel_rfl
theorem eq29 (k : Nat) (x : AT (sp29 k).ps) : (fnT Try.prog (cfg29 k) lim29 Try.f29 (bodyOf Try.f29) (pl29 k) (sp29 k) x).left = (fnT Try.prog (cfg29 k) lim29 Try.f29 (bodyOf Try.f29) (pl29 k) (sp29 k) x).right := by kernel_rfl
theorem v29 (k : Nat) : Callable Try.prog 29 ∧ Valid Try.prog 29 (sp29 k) :=
  fn_ok (cfg29_ok k) (f := 29) (fn := Try.f29) (by kernel_rfl) (c := bodyOf Try.f29) (by kernel_rfl) (by kernel_rfl) rfl rfl (Nat.le_of_ble_eq_true rfl) (Nat.le_of_ble_eq_true rfl) (p := pl29 k) (Eq.mpr (pq29 k) ⟨(planOK_go _), ⟨(planOK_go _), ⟨(planOK_go _), ⟨(planOK_go _), ⟨⟨(planOK_go _), (fr29_1_ok k)⟩, (planOK_go _)⟩⟩⟩⟩⟩) fun x => ⟨ev29 k x, eq29 k x⟩
/-! f50 hyphen/hyphenref4.Count -/
def F50_0 (k : Nat) : Nat → (List Int) → Int → Int → Option (TY61)
  | 0, _, _, _ => none
  | n + 1, t0, t3, t4 =>
    let x3 := (decide (t4 < ((List.length t0 : Nat) : Int)))
    bif x3 then
      if 0 ≤ t4 ∧ t4 < ((List.length t0 : Nat) : Int) then
        let x4 := (IntKind.wrap .i64 ((List.getD t0 (Int.toNat t4) (0 : Int)) + (1 : Int)))
        (F50_0 k n t0 (maxI t3 x4) (IntKind.wrap .i64 (t4 + (1 : Int)))).bind some
      else none
    else
      some ((t3, ()), ())
def fr50_0 (k : Nat) : Frag := ⟨⟨[], [(0, .val KD52), (3, .val (.int .i64)), (4, .val (.int .i64))], []⟩, [(.exit 0, ⟨[], [(3, .val (.int .i64))], []⟩)], fun v => F50_0 k k v.1.1 v.1.2.1 v.1.2.2.1⟩
def F50 (k : Nat) (a0 : (List Int)) : Option TY61 :=
  (F50_0 k k a0 (0 : Int) (0 : Int)).bind fun r5 =>
  let y6 := r5.1.1
  some ((y6, ()), ())
def sp50 (k : Nat) : Spec := ⟨[.val KD52], [.val (.int .i64)], fun x => F50 k x.1⟩
def lim50 : Lim := ⟨19, 1, false, false, []⟩
def cfg50 (k : Nat) : Nat → Option Spec := cfgL []
theorem cfg50_ok (k : Nat) : CfgOK Try.prog (cfg50 k) := cfgL_nil
def pl50_0 (k : Nat) : Plan := .go
theorem pq50_0 (k : Nat) : PlanOK Try.prog lim50 (pl50_0 k) (codeAt (bodyOf Try.f50) [.r, .r, .l, .r, .s, .b]) = PlanOK Try.prog lim50 .go (codeAt (bodyOf Try.f50) [.r, .r, .l, .r, .s, .b]) := by kernel_rfl
theorem ps50_0 (k m : Nat) (v : (fr50_0 k).sh.V) : F50_0 k (m + 1) v.1.1 v.1.2.1 v.1.2.2.1 = (body Try.prog (stepper Try.prog (cfg50 k) lim50) (pl50_0 k) (codeAt (bodyOf Try.f50) [.r, .r, .l, .r, .s, .b]) ((fr50_0 k).sh.st v) (loopK (fr50_0 k) fun v => F50_0 k m v.1.1 v.1.2.1 v.1.2.2.1)).eval := by kernel_rfl
theorem pe50_0 (k m : Nat) (v : (fr50_0 k).sh.V) : (body Try.prog (stepper Try.prog (cfg50 k) lim50) (pl50_0 k) (codeAt (bodyOf Try.f50) [.r, .r, .l, .r, .s, .b]) ((fr50_0 k).sh.st v) (loopK (fr50_0 k) fun v => F50_0 k m v.1.1 v.1.2.1 v.1.2.2.1)).left = (body Try.prog (stepper Try.prog (cfg50 k) lim50) (pl50_0 k) (codeAt (bodyOf Try.f50) [.r, .r, .l, .r, .s, .b]) ((fr50_0 k).sh.st v) (loopK (fr50_0 k) fun v => F50_0 k m v.1.1 v.1.2.1 v.1.2.2.1)).right := by kernel_rfl
theorem fr50_0_ok (k : Nat) : FragOK Try.prog lim50 (fr50_0 k) (codeAt (bodyOf Try.f50) [.r, .r, .l, .r, .s]) :=
  frag_cast (by kernel_rfl) (loop_ok (cfg50_ok k) (Eq.mpr (pq50_0 k) (planOK_go _)) (fun m v => F50_0 k m v.1.1 v.1.2.1 v.1.2.2.1) k (fun _ => rfl) (fun _ => rfl) fun m v => ⟨ps50_0 k m v, pe50_0 k m v⟩)
def pl50 (k : Nat) : Plan := (.seq .go (.seq .go (.seq (.seq .go (.sub (.frag (fr50_0 k)))) .go)))
theorem pq50 (k : Nat) : PlanOK Try.prog lim50 (pl50 k) (codeAt (bodyOf Try.f50) []) = (PlanOK Try.prog lim50 .go (codeAt (bodyOf Try.f50) [.l]) ∧ (PlanOK Try.prog lim50 .go (codeAt (bodyOf Try.f50) [.r, .l]) ∧ ((PlanOK Try.prog lim50 .go (codeAt (bodyOf Try.f50) [.r, .r, .l, .l]) ∧ FragOK Try.prog lim50 (fr50_0 k) (codeAt (bodyOf Try.f50) [.r, .r, .l, .r, .s])) ∧ PlanOK Try.prog lim50 .go (codeAt (bodyOf Try.f50) [.r, .r, .r])))) := by kernel_rfl
theorem ev50 (k : Nat) (x : AT (sp50 k).ps) : (sp50 k).impl x = (fnT Try.prog (cfg50 k) lim50 Try.f50 (bodyOf Try.f50) (pl50 k) (sp50 k) x).eval := by kernel_rfl
theorem eq50 (k : Nat) (x : AT (sp50 k).ps) : (fnT Try.prog (cfg50 k) lim50 Try.f50 (bodyOf Try.f50) (pl50 k) (sp50 k) x).left = (fnT Try.prog (cfg50 k) lim50 Try.f50 (bodyOf Try.f50) (pl50 k) (sp50 k) x).right := by kernel_rfl
theorem v50 (k : Nat) : Callable Try.prog 50 ∧ Valid Try.prog 50 (sp50 k) :=
  fn_ok (cfg50_ok k) (f := 50) (fn := Try.f50) (by kernel_rfl) (c := bodyOf Try.f50) (by kernel_rfl) (by kernel_rfl) rfl rfl (Nat.le_of_ble_eq_true rfl) (Nat.le_of_ble_eq_true rfl) (p := pl50 k) (Eq.mpr (pq50 k) ⟨(planOK_go _), ⟨(planOK_go _), ⟨⟨(planOK_go _), (fr50_0_ok k)⟩, (planOK_go _)⟩⟩⟩) fun x => ⟨ev50 k x, eq50 k x⟩
/-! f31 hyphen/hyphenref4.In -/
def F31_0 (k : Nat) : Nat → TY50 → (List Int) → (List Int) → Int → Int → (List Bool) → (List (List Bool)) → Option (((TY50 × (List Int) × (List Int) × Int × Unit) × ((List Bool) × (List (List Bool)) × Unit)))
  | 0, _, _, _, _, _, _, _ => none
  | n + 1, t0, t1, t2, t8, t10, c19, c2000007 =>
    let x3 := (decide (t10 < ((List.length t1 : Nat) : Int)))
    bif x3 then
      if 0 ≤ t10 ∧ t10 < ((List.length t2 : Nat) : Int) then
        if 0 ≤ t8 ∧ t8 < ((List.length t0 : Nat) : Int) then
          let x4 := (List.getD t0 (Int.toNat t8) ([] : TY57))
          if 0 ≤ t10 ∧ t10 < ((List.length t1 : Nat) : Int) then
            (F51 k x4 (List.getD t1 (Int.toNat t10) (0 : Int))).bind fun r5 =>
            if 0 ≤ (List.getD t2 (Int.toNat t10) (0 : Int)) ∧ (List.getD t2 (Int.toNat t10) (0 : Int)) < ((List.length c19 : Nat) : Int) then
              let x6 := (Int.toNat (List.getD t2 (Int.toNat t10) (0 : Int)))
              (F31_0 k n t0 t1 t2 t8 (IntKind.wrap .i64 (t10 + (1 : Int))) (List.set c19 x6 r5.1.1) c2000007).bind some
            else none
          else none
        else none
      else none
    else
      some ((t0, t1, t2, t8, ()), (c19, c2000007, ()))
def fr31_0 (k : Nat) : Frag := ⟨⟨[(7, KD46)], [(0, .val KD26), (1, .val KD52), (2, .val KD52), (7, .at 2000007 []), (8, .val (.int .i64)), (9, .at 19 []), (10, .val (.int .i64))], [(19, none, KD59), (2000007, none, KD46)]⟩, [(.exit 2, ⟨[], [(0, .val KD26), (1, .val KD52), (2, .val KD52), (7, .at 2000007 []), (8, .val (.int .i64)), (9, .at 19 [])], [(19, none, KD59), (2000007, none, KD46)]⟩)], fun v => F31_0 k k v.1.1 v.1.2.1 v.1.2.2.1 v.1.2.2.2.1 v.1.2.2.2.2.1 v.2.1 v.2.2.1⟩
def F31_1 (k : Nat) : Nat → TY50 → (List Int) → (List Int) → Int → (List (List Bool)) → Option ((Unit × ((List (List Bool)) × Unit)))
  | 0, _, _, _, _, _ => none
  | n + 1, t0, t1, t2, t8, c2000007 =>
    let x1 := (decide (t8 < ((List.length t0 : Nat) : Int)))
    bif x1 then
      (F50 k t2).bind fun r2 =>
      if (0 ≤ r2.1.1 ∧ r2.1.1 < r2.1.1 + 1) ∧ r2.1.1 ≤ 9223372036854775807 ∧ ((1 : Nat) : Int) * r2.1.1 ≤ 281474976710656 then
        (F31_0 k k t0 t1 t2 t8 (0 : Int) (List.replicate (Int.toNat r2.1.1) false) c2000007).bind fun r7 =>
        let y8 := r7.1.1
        let y9 := r7.1.2.1
        let y10 := r7.1.2.2.1
        let y11 := r7.1.2.2.2.1
        let y12 := r7.2.1
        let y13 := r7.2.2.1
        let x14 := (List.set (List.replicate 1 ([] : (List Bool))) 0 y12)
        if (List.length y13 + List.length x14) * (24 * 2) ≤ 281474976710656 ∧ List.length y13 + List.length x14 ≤ 9223372036854775807 then
          (F31_1 k n y8 y9 y10 (IntKind.wrap .i64 (y11 + (1 : Int))) (y13 ++ x14)).bind some
        else none
      else none
    else
      some ((), (c2000007, ()))
def fr31_1 (k : Nat) : Frag := ⟨⟨[(7, KD46)], [(0, .val KD26), (1, .val KD52), (2, .val KD52), (7, .at 2000007 []), (8, .val (.int .i64))], [(2000007, none, KD46)]⟩, [(.exit 0, ⟨[(7, KD46)], [(7, .at 2000007 [])], [(2000007, none, KD46)]⟩)], fun v => F31_1 k k v.1.1 v.1.2.1 v.1.2.2.1 v.1.2.2.2.1 v.2.1⟩
def F31 (k : Nat) (a0 : TY50) (a1 : (List Int)) (a2 : (List Int)) : Option (((List (List Bool)) × Unit) × Unit) :=
  (F31_1 k k a0 a1 a2 (0 : Int) []).bind fun r15 =>
  let y16 := r15.2.1
  some ((y16, ()), ())
def sp31 (k : Nat) : Spec := ⟨[.val KD26, .val KD52, .val KD52], [.own KD46], fun x => F31 k x.1 x.2.1 x.2.2.1⟩
def lim31 : Lim := ⟨46, 3, false, false, []⟩
def cfg31 (k : Nat) : Nat → Option Spec := cfgL [(50, sp50 k), (51, sp51 k)]
theorem cfg31_ok (k : Nat) : CfgOK Try.prog (cfg31 k) := cfgL_cons (v50 k) (cfgL_cons (v51 k) (cfgL_nil))
def pl31_0 (k : Nat) : Plan := .go
theorem pq31_0 (k : Nat) : PlanOK Try.prog lim31 (pl31_0 k) (codeAt (bodyOf Try.f31) [.r, .r, .l, .r, .s, .b, .r, .l, .s, .r, .l, .r, .s, .b]) = PlanOK Try.prog lim31 .go (codeAt (bodyOf Try.f31) [.r, .r, .l, .r, .s, .b, .r, .l, .s, .r, .l, .r, .s, .b]) := by kernel_rfl
theorem ps31_0 (k m : Nat) (v : (fr31_0 k).sh.V) : F31_0 k (m + 1) v.1.1 v.1.2.1 v.1.2.2.1 v.1.2.2.2.1 v.1.2.2.2.2.1 v.2.1 v.2.2.1 = (body Try.prog (stepper Try.prog (cfg31 k) lim31) (pl31_0 k) (codeAt (bodyOf Try.f31) [.r, .r, .l, .r, .s, .b, .r, .l, .s, .r, .l, .r, .s, .b]) ((fr31_0 k).sh.st v) (loopK (fr31_0 k) fun v => F31_0 k m v.1.1 v.1.2.1 v.1.2.2.1 v.1.2.2.2.1 v.1.2.2.2.2.1 v.2.1 v.2.2.1)).eval := by kernel_rfl
theorem pe31_0 (k m : Nat) (v : (fr31_0 k).sh.V) : (body Try.prog (stepper Try.prog (cfg31 k) lim31) (pl31_0 k) (codeAt (bodyOf Try.f31) [.r, .r, .l, .r, .s, .b, .r, .l, .s, .r, .l, .r, .s, .b]) ((fr31_0 k).sh.st v) (loopK (fr31_0 k) fun v => F31_0 k m v.1.1 v.1.2.1 v.1.2.2.1 v.1.2.2.2.1 v.1.2.2.2.2.1 v.2.1 v.2.2.1)).left = (body Try.prog (stepper Try.prog (cfg31 k) lim31) (pl31_0 k) (codeAt (bodyOf Try.f31) [.r, .r, .l, .r, .s, .b, .r, .l, .s, .r, .l, .r, .s, .b]) ((fr31_0 k).sh.st v) (loopK (fr31_0 k) fun v => F31_0 k m v.1.1 v.1.2.1 v.1.2.2.1 v.1.2.2.2.1 v.1.2.2.2.2.1 v.2.1 v.2.2.1)).right := by kernel_rfl
theorem fr31_0_ok (k : Nat) : FragOK Try.prog lim31 (fr31_0 k) (codeAt (bodyOf Try.f31) [.r, .r, .l, .r, .s, .b, .r, .l, .s, .r, .l, .r, .s]) :=
  frag_cast (by kernel_rfl) (loop_ok (cfg31_ok k) (Eq.mpr (pq31_0 k) (planOK_go _)) (fun m v => F31_0 k m v.1.1 v.1.2.1 v.1.2.2.1 v.1.2.2.2.1 v.1.2.2.2.2.1 v.2.1 v.2.2.1) k (fun _ => rfl) (fun _ => rfl) fun m v => ⟨ps31_0 k m v, pe31_0 k m v⟩)
def pl31_1 (k : Nat) : Plan := (.seq .go (.seq (.sub (.seq .go (.seq (.seq .go (.sub (.frag (fr31_0 k)))) .go))) .go))
theorem pq31_1 (k : Nat) : PlanOK Try.prog lim31 (pl31_1 k) (codeAt (bodyOf Try.f31) [.r, .r, .l, .r, .s, .b]) = (PlanOK Try.prog lim31 .go (codeAt (bodyOf Try.f31) [.r, .r, .l, .r, .s, .b, .l]) ∧ ((PlanOK Try.prog lim31 .go (codeAt (bodyOf Try.f31) [.r, .r, .l, .r, .s, .b, .r, .l, .s, .l]) ∧ ((PlanOK Try.prog lim31 .go (codeAt (bodyOf Try.f31) [.r, .r, .l, .r, .s, .b, .r, .l, .s, .r, .l, .l]) ∧ FragOK Try.prog lim31 (fr31_0 k) (codeAt (bodyOf Try.f31) [.r, .r, .l, .r, .s, .b, .r, .l, .s, .r, .l, .r, .s])) ∧ PlanOK Try.prog lim31 .go (codeAt (bodyOf Try.f31) [.r, .r, .l, .r, .s, .b, .r, .l, .s, .r, .r]))) ∧ PlanOK Try.prog lim31 .go (codeAt (bodyOf Try.f31) [.r, .r, .l, .r, .s, .b, .r, .r]))) := by kernel_rfl
theorem ps31_1 (k m : Nat) (v : (fr31_1 k).sh.V) : F31_1 k (m + 1) v.1.1 v.1.2.1 v.1.2.2.1 v.1.2.2.2.1 v.2.1 = (body Try.prog (stepper Try.prog (cfg31 k) lim31) (pl31_1 k) (codeAt (bodyOf Try.f31) [.r, .r, .l, .r, .s, .b]) ((fr31_1 k).sh.st v) (loopK (fr31_1 k) fun v => F31_1 k m v.1.1 v.1.2.1 v.1.2.2.1 v.1.2.2.2.1 v.2.1)).eval := by kernel_rfl
theorem pe31_1 (k m : Nat) (v : (fr31_1 k).sh.V) : (body Try.prog (stepper Try.prog (cfg31 k) lim31) (pl31_1 k) (codeAt (bodyOf Try.f31) [.r, .r, .l, .r, .s, .b]) ((fr31_1 k).sh.st v) (loopK (fr31_1 k) fun v => F31_1 k m v.1.1 v.1.2.1 v.1.2.2.1 v.1.2.2.2.1 v.2.1)).left = (body Try.prog (stepper Try.prog (cfg31 k) lim31) (pl31_1 k) (codeAt (bodyOf Try.f31) [.r, .r, .l, .r, .s, .b]) ((fr31_1 k).sh.st v) (loopK (fr31_1 k) fun v => F31_1 k m v.1.1 v.1.2.1 v.1.2.2.1 v.1.2.2.2.1 v.2.1)).right := by kernel_rfl
theorem fr31_1_ok (k : Nat) : FragOK Try.prog lim31 (fr31_1 k) (codeAt (bodyOf Try.f31) [.r, .r, .l, .r, .s]) :=
  frag_cast (by kernel_rfl) (loop_ok (cfg31_ok k) (Eq.mpr (pq31_1 k) ⟨(planOK_go _), ⟨⟨(planOK_go _), ⟨⟨(planOK_go _), (fr31_0_ok k)⟩, (planOK_go _)⟩⟩, (planOK_go _)⟩⟩) (fun m v => F31_1 k m v.1.1 v.1.2.1 v.1.2.2.1 v.1.2.2.2.1 v.2.1) k (fun _ => rfl) (fun _ => rfl) fun m v => ⟨ps31_1 k m v, pe31_1 k m v⟩)
def pl31 (k : Nat) : Plan := (.seq .go (.seq .go (.seq (.seq .go (.sub (.frag (fr31_1 k)))) .go)))
theorem pq31 (k : Nat) : PlanOK Try.prog lim31 (pl31 k) (codeAt (bodyOf Try.f31) []) = (PlanOK Try.prog lim31 .go (codeAt (bodyOf Try.f31) [.l]) ∧ (PlanOK Try.prog lim31 .go (codeAt (bodyOf Try.f31) [.r, .l]) ∧ ((PlanOK Try.prog lim31 .go (codeAt (bodyOf Try.f31) [.r, .r, .l, .l]) ∧ FragOK Try.prog lim31 (fr31_1 k) (codeAt (bodyOf Try.f31) [.r, .r, .l, .r, .s])) ∧ PlanOK Try.prog lim31 .go (codeAt (bodyOf Try.f31) [.r, .r, .r])))) := by kernel_rfl
theorem ev31 (k : Nat) (x : AT (sp31 k).ps) : (sp31 k).impl x = (fnT Try.prog (cfg31 k) lim31 Try.f31 (bodyOf Try.f31) (pl31 k) (sp31 k) x).eval := by kernel_rfl
theorem eq31 (k : Nat) (x : AT (sp31 k).ps) : (fnT Try.prog (cfg31 k) lim31 Try.f31 (bodyOf Try.f31) (pl31 k) (sp31 k) x).left = (fnT Try.prog (cfg31 k) lim31 Try.f31 (bodyOf Try.f31) (pl31 k) (sp31 k) x).right := by kernel_rfl
theorem v31 (k : Nat) : Callable Try.prog 31 ∧ Valid Try.prog 31 (sp31 k) :=
  fn_ok (cfg31_ok k) (f := 31) (fn := Try.f31) (by kernel_rfl) (c := bodyOf Try.f31) (by kernel_rfl) (by kernel_rfl) rfl rfl (Nat.le_of_ble_eq_true rfl) (Nat.le_of_ble_eq_true rfl) (p := pl31 k) (Eq.mpr (pq31 k) ⟨(planOK_go _), ⟨(planOK_go _), ⟨⟨(planOK_go _), (fr31_1_ok k)⟩, (planOK_go _)⟩⟩⟩) fun x => ⟨ev31 k x, eq31 k x⟩
/-! f49 hyphen/hyphenref7.some -/
def F49_0 (k : Nat) : Nat → (List (List Bool)) → Int → Int → TY23 → Option ((Unit × Unit) ⊕ TY60)
  | 0, _, _, _, _ => none
  | n + 1, t1, t2, t7, c3 =>
    if 0 ≤ t2 ∧ t2 < ((List.length c3.1 : Nat) : Int) then
      if 0 ≤ (List.getD c3.1 (Int.toNat t2) (0 : Int)) ∧ (List.getD c3.1 (Int.toNat t2) (0 : Int)) < ((List.length t1 : Nat) : Int) then
        let x5 := (List.getD t1 (Int.toNat (List.getD c3.1 (Int.toNat t2) (0 : Int))) ([] : (List Bool)))
        let x6 := (decide (t7 < ((List.length x5 : Nat) : Int)))
        bif x6 then
          if 0 ≤ t2 ∧ t2 < ((List.length c3.1 : Nat) : Int) then
            if 0 ≤ (List.getD c3.1 (Int.toNat t2) (0 : Int)) ∧ (List.getD c3.1 (Int.toNat t2) (0 : Int)) < ((List.length t1 : Nat) : Int) then
              let x7 := (List.getD t1 (Int.toNat (List.getD c3.1 (Int.toNat t2) (0 : Int))) ([] : (List Bool)))
              if 0 ≤ t7 ∧ t7 < ((List.length x7 : Nat) : Int) then
                bif (List.getD x7 (Int.toNat t7) false) then
                  some (.inr ((true, ()), ()))
                else
                  (F49_0 k n t1 t2 (IntKind.wrap .i64 (t7 + (1 : Int))) c3).bind some
              else none
            else none
          else none
        else
          some (.inl ((), ()))
      else none
    else none
def fr49_0 (k : Nat) : Frag := ⟨⟨[], [(1, .val KD45), (2, .val (.int .i64)), (3, .ptr 3 []), (7, .val (.int .i64))], [(3, some 28, KD5)]⟩, [(.exit 0, ⟨[], [], []⟩), (.ret, ⟨[], [(6, .val .bool)], []⟩)], fun v => F49_0 k k v.1.1 v.1.2.1 v.1.2.2.1 v.2.1⟩
def F49 (k : Nat) (a0 : TY23) (a1 : (List (List Bool))) (a2 : Int) : Option TY60 :=
  if 0 ≤ a2 ∧ a2 < ((List.length a0.1 : Nat) : Int) then
    let x1 := (decide ((List.getD a0.1 (Int.toNat a2) (0 : Int)) < (0 : Int)))
    bif x1 then
      some ((true, ()), ())
    else
      (F49_0 k k a1 a2 (0 : Int) a0).bind fun r8 =>
      match r8 with
      | .inl r9 =>
        some ((false, ()), ())
      | .inr r9 =>
        let y10 := r9.1.1
        some ((y10, ()), ())
  else none
def sp49 (k : Nat) : Spec := ⟨[.val KD5, .val KD45, .val (.int .i64)], [.val .bool], fun x => F49 k x.1 x.2.1 x.2.2.1⟩
def lim49 : Lim := ⟨38, 3, false, false, []⟩
def cfg49 (k : Nat) : Nat → Option Spec := cfgL []
theorem cfg49_ok (k : Nat) : CfgOK Try.prog (cfg49 k) := cfgL_nil
def pl49_0 (k : Nat) : Plan := .go
theorem pq49_0 (k : Nat) : PlanOK Try.prog lim49 (pl49_0 k) (codeAt (bodyOf Try.f49) [.r, .r, .l, .r, .s, .b]) = PlanOK Try.prog lim49 .go (codeAt (bodyOf Try.f49) [.r, .r, .l, .r, .s, .b]) := by kernel_rfl
theorem ps49_0 (k m : Nat) (v : (fr49_0 k).sh.V) : F49_0 k (m + 1) v.1.1 v.1.2.1 v.1.2.2.1 v.2.1 = (body Try.prog (stepper Try.prog (cfg49 k) lim49) (pl49_0 k) (codeAt (bodyOf Try.f49) [.r, .r, .l, .r, .s, .b]) ((fr49_0 k).sh.st v) (loopK (fr49_0 k) fun v => F49_0 k m v.1.1 v.1.2.1 v.1.2.2.1 v.2.1)).eval := by kernel_rfl
theorem pe49_0 (k m : Nat) (v : (fr49_0 k).sh.V) : (body Try.prog (stepper Try.prog (cfg49 k) lim49) (pl49_0 k) (codeAt (bodyOf Try.f49) [.r, .r, .l, .r, .s, .b]) ((fr49_0 k).sh.st v) (loopK (fr49_0 k) fun v => F49_0 k m v.1.1 v.1.2.1 v.1.2.2.1 v.2.1)).left = (body Try.prog (stepper Try.prog (cfg49 k) lim49) (pl49_0 k) (codeAt (bodyOf Try.f49) [.r, .r, .l, .r, .s, .b]) ((fr49_0 k).sh.st v) (loopK (fr49_0 k) fun v => F49_0 k m v.1.1 v.1.2.1 v.1.2.2.1 v.2.1)).right := by kernel_rfl
theorem fr49_0_ok (k : Nat) : FragOK Try.prog lim49 (fr49_0 k) (codeAt (bodyOf Try.f49) [.r, .r, .l, .r, .s]) :=
  frag_cast (by kernel_rfl) (loop_ok (cfg49_ok k) (Eq.mpr (pq49_0 k) (planOK_go _)) (fun m v => F49_0 k m v.1.1 v.1.2.1 v.1.2.2.1 v.2.1) k (fun _ => rfl) (fun _ => rfl) fun m v => ⟨ps49_0 k m v, pe49_0 k m v⟩)
def pl49 (k : Nat) : Plan := (.seq .go (.seq .go (.seq (.seq .go (.sub (.frag (fr49_0 k)))) .go)))
theorem pq49 (k : Nat) : PlanOK Try.prog lim49 (pl49 k) (codeAt (bodyOf Try.f49) []) = (PlanOK Try.prog lim49 .go (codeAt (bodyOf Try.f49) [.l]) ∧ (PlanOK Try.prog lim49 .go (codeAt (bodyOf Try.f49) [.r, .l]) ∧ ((PlanOK Try.prog lim49 .go (codeAt (bodyOf Try.f49) [.r, .r, .l, .l]) ∧ FragOK Try.prog lim49 (fr49_0 k) (codeAt (bodyOf Try.f49) [.r, .r, .l, .r, .s])) ∧ PlanOK Try.prog lim49 .go (codeAt (bodyOf Try.f49) [.r, .r, .r])))) := by kernel_rfl
theorem ev49 (k : Nat) (x : AT (sp49 k).ps) : (sp49 k).impl x = (fnT Try.prog (cfg49 k) lim49 Try.f49 (bodyOf Try.f49) (pl49 k) (sp49 k) x).eval := by kernel_rfl
theorem eq49 (k : Nat) (x : AT (sp49 k).ps) : (fnT Try.prog (cfg49 k) lim49 Try.f49 (bodyOf Try.f49) (pl49 k) (sp49 k) x).left = (fnT Try.prog (cfg49 k) lim49 Try.f49 (bodyOf Try.f49) (pl49 k) (sp49 k) x).right := by kernel_rfl
theorem v49 (k : Nat) : Callable Try.prog 49 ∧ Valid Try.prog 49 (sp49 k) :=
  fn_ok (cfg49_ok k) (f := 49) (fn := Try.f49) (by kernel_rfl) (c := bodyOf Try.f49) (by kernel_rfl) (by kernel_rfl) rfl rfl (Nat.le_of_ble_eq_true rfl) (Nat.le_of_ble_eq_true rfl) (p := pl49 k) (Eq.mpr (pq49 k) ⟨(planOK_go _), ⟨(planOK_go _), ⟨⟨(planOK_go _), (fr49_0_ok k)⟩, (planOK_go _)⟩⟩⟩) fun x => ⟨ev49 k x, eq49 k x⟩
/-! f30 hyphen/hyphenref7.Trim -/
def F30_0 (k : Nat) : Nat → (List (List Bool)) → Int → Int → TY23 → TY23 → (List Bool) → (List Bool) → (List Bool) → Option (((Int × Unit) × TY2))
  | 0, _, _, _, _, _, _, _, _ => none
  | n + 1, t1, t5, t9, c2, c4, c22, c24, c26 =>
    bif (decide (t9 < t5)) then
      (F49 k c2 t1 t9).bind fun r13 =>
      if 0 ≤ t9 ∧ t9 < ((List.length c26 : Nat) : Int) then
        if 0 ≤ t9 ∧ t9 < ((List.length (List.set c26 (Int.toNat t9) r13.1.1) : Nat) : Int) then
          let x14 := (List.getD (List.set c26 (Int.toNat t9) r13.1.1) (Int.toNat t9) false)
          bif x14 then
            if 0 ≤ t9 ∧ t9 < ((List.length c2.2.1 : Nat) : Int) then
              let x15 := (decide ((List.getD c2.2.1 (Int.toNat t9) (0 : Int)) < (1152921504606846976 : Int)))
              if 0 ≤ t9 ∧ t9 < ((List.length (List.set c26 (Int.toNat t9) r13.1.1) : Nat) : Int) then
                let x16 := (List.getD (List.set c26 (Int.toNat t9) r13.1.1) (Int.toNat t9) false)
                bif x16 then
                  if 0 ≤ t9 ∧ t9 < ((List.length c2.2.2.1 : Nat) : Int) then
                    let x17 := (List.getD c2.2.2.1 (Int.toNat t9) (0 : Int))
                    if 0 ≤ t9 ∧ t9 < ((List.length c22 : Nat) : Int) then
                      if 0 ≤ t9 ∧ t9 < ((List.length c24 : Nat) : Int) then
                        let x18 := (List.set c24 (Int.toNat t9) (decide (x17 < (1152921504606846976 : Int))))
                        (F30_0 k n t1 t5 (IntKind.wrap .i64 (t9 + (1 : Int))) c2 c4 (List.set c22 (Int.toNat t9) x15) x18 (List.set c26 (Int.toNat t9) r13.1.1)).bind some
                      else none
                    else none
                  else none
                else
                  if 0 ≤ t9 ∧ t9 < ((List.length c22 : Nat) : Int) then
                    if 0 ≤ t9 ∧ t9 < ((List.length c24 : Nat) : Int) then
                      (F30_0 k n t1 t5 (IntKind.wrap .i64 (t9 + (1 : Int))) c2 c4 (List.set c22 (Int.toNat t9) x15) (List.set c24 (Int.toNat t9) false) (List.set c26 (Int.toNat t9) r13.1.1)).bind some
                    else none
                  else none
              else none
            else none
          else
            if 0 ≤ t9 ∧ t9 < ((List.length (List.set c26 (Int.toNat t9) r13.1.1) : Nat) : Int) then
              let x19 := (List.getD (List.set c26 (Int.toNat t9) r13.1.1) (Int.toNat t9) false)
              bif x19 then
                if 0 ≤ t9 ∧ t9 < ((List.length c2.2.2.1 : Nat) : Int) then
                  let x20 := (List.getD c2.2.2.1 (Int.toNat t9) (0 : Int))
                  if 0 ≤ t9 ∧ t9 < ((List.length c22 : Nat) : Int) then
                    if 0 ≤ t9 ∧ t9 < ((List.length c24 : Nat) : Int) then
                      let x21 := (List.set c24 (Int.toNat t9) (decide (x20 < (1152921504606846976 : Int))))
                      (F30_0 k n t1 t5 (IntKind.wrap .i64 (t9 + (1 : Int))) c2 c4 (List.set c22 (Int.toNat t9) false) x21 (List.set c26 (Int.toNat t9) r13.1.1)).bind some
                    else none
                  else none
                else none
              else
                if 0 ≤ t9 ∧ t9 < ((List.length c22 : Nat) : Int) then
                  if 0 ≤ t9 ∧ t9 < ((List.length c24 : Nat) : Int) then
                    (F30_0 k n t1 t5 (IntKind.wrap .i64 (t9 + (1 : Int))) c2 c4 (List.set c22 (Int.toNat t9) false) (List.set c24 (Int.toNat t9) false) (List.set c26 (Int.toNat t9) r13.1.1)).bind some
                  else none
                else none
            else none
        else none
      else none
    else
      some ((t5, ()), (c2, c4, c22, c24, c26, ()))
def fr30_0 (k : Nat) : Frag := ⟨⟨[], [(1, .val KD45), (2, .ptr 2 []), (4, .ptr 4 []), (5, .val (.int .i64)), (6, .at 22 []), (7, .at 24 []), (8, .at 26 []), (9, .val (.int .i64))], [(2, some 28, KD5), (4, some 28, KD6), (22, none, KD59), (24, none, KD59), (26, none, KD59)]⟩, [(.exit 0, ⟨[], [(2, .ptr 2 []), (4, .ptr 4 []), (5, .val (.int .i64)), (6, .at 22 []), (7, .at 24 []), (8, .at 26 [])], [(2, some 28, KD5), (4, some 28, KD6), (22, none, KD59), (24, none, KD59), (26, none, KD59)]⟩)], fun v => F30_0 k k v.1.1 v.1.2.1 v.1.2.2.1 v.2.1 v.2.2.1 v.2.2.2.1 v.2.2.2.2.1 v.2.2.2.2.2.1⟩
def F30_1 (k : Nat) : Nat → Int → Bool → Int → TY23 → TY23 → (List Bool) → (List Bool) → (List Bool) → Option (((Int × Bool × Unit) × TY2))
  | 0, _, _, _, _, _, _, _, _ => none
  | n + 1, t5, t10, t11, c2, c4, c22, c24, c26 =>
    let x31 := (decide (t11 < ((List.length c2.2.2.2.1 : Nat) : Int)))
    bif x31 then
      if 0 ≤ t11 ∧ t11 < ((List.length c2.2.2.2.1 : Nat) : Int) then
        let x32 := (List.getD c2.2.2.2.1 (Int.toNat t11) ((0 : Int), ((0 : Int), ((0 : Int), ()))))
        if 0 ≤ x32.1 ∧ x32.1 < ((List.length c22 : Nat) : Int) then
          bif (List.getD c22 (Int.toNat x32.1) false) then
            if 0 ≤ x32.2.1 ∧ x32.2.1 < ((List.length c26 : Nat) : Int) then
              bif (List.getD c26 (Int.toNat x32.2.1) false) then
                if 0 ≤ x32.2.1 ∧ x32.2.1 < ((List.length c22 : Nat) : Int) then
                  bif (!(List.getD c22 (Int.toNat x32.2.1) false)) then
                    if 0 ≤ x32.2.1 ∧ x32.2.1 < ((List.length c22 : Nat) : Int) then
                      if 0 ≤ x32.2.1 ∧ x32.2.1 < ((List.length c24 : Nat) : Int) then
                        bif (List.getD c24 (Int.toNat x32.2.1) false) then
                          if 0 ≤ x32.1 ∧ x32.1 < ((List.length c26 : Nat) : Int) then
                            bif (List.getD c26 (Int.toNat x32.1) false) then
                              if 0 ≤ x32.1 ∧ x32.1 < ((List.length c24 : Nat) : Int) then
                                bif (!(List.getD c24 (Int.toNat x32.1) false)) then
                                  if 0 ≤ x32.1 ∧ x32.1 < ((List.length c24 : Nat) : Int) then
                                    (F30_1 k n t5 true (IntKind.wrap .i64 (t11 + (1 : Int))) c2 c4 (List.set c22 (Int.toNat x32.2.1) true) (List.set c24 (Int.toNat x32.1) true) c26).bind some
                                  else none
                                else
                                  (F30_1 k n t5 true (IntKind.wrap .i64 (t11 + (1 : Int))) c2 c4 (List.set c22 (Int.toNat x32.2.1) true) c24 c26).bind some
                              else none
                            else
                              (F30_1 k n t5 true (IntKind.wrap .i64 (t11 + (1 : Int))) c2 c4 (List.set c22 (Int.toNat x32.2.1) true) c24 c26).bind some
                          else none
                        else
                          (F30_1 k n t5 true (IntKind.wrap .i64 (t11 + (1 : Int))) c2 c4 (List.set c22 (Int.toNat x32.2.1) true) c24 c26).bind some
                      else none
                    else none
                  else
                    if 0 ≤ x32.2.1 ∧ x32.2.1 < ((List.length c24 : Nat) : Int) then
                      bif (List.getD c24 (Int.toNat x32.2.1) false) then
                        if 0 ≤ x32.1 ∧ x32.1 < ((List.length c26 : Nat) : Int) then
                          bif (List.getD c26 (Int.toNat x32.1) false) then
                            if 0 ≤ x32.1 ∧ x32.1 < ((List.length c24 : Nat) : Int) then
                              bif (!(List.getD c24 (Int.toNat x32.1) false)) then
                                if 0 ≤ x32.1 ∧ x32.1 < ((List.length c24 : Nat) : Int) then
                                  (F30_1 k n t5 true (IntKind.wrap .i64 (t11 + (1 : Int))) c2 c4 c22 (List.set c24 (Int.toNat x32.1) true) c26).bind some
                                else none
                              else
                                (F30_1 k n t5 t10 (IntKind.wrap .i64 (t11 + (1 : Int))) c2 c4 c22 c24 c26).bind some
                            else none
                          else
                            (F30_1 k n t5 t10 (IntKind.wrap .i64 (t11 + (1 : Int))) c2 c4 c22 c24 c26).bind some
                        else none
                      else
                        (F30_1 k n t5 t10 (IntKind.wrap .i64 (t11 + (1 : Int))) c2 c4 c22 c24 c26).bind some
                    else none
                else none
              else
                if 0 ≤ x32.2.1 ∧ x32.2.1 < ((List.length c24 : Nat) : Int) then
                  bif (List.getD c24 (Int.toNat x32.2.1) false) then
                    if 0 ≤ x32.1 ∧ x32.1 < ((List.length c26 : Nat) : Int) then
                      bif (List.getD c26 (Int.toNat x32.1) false) then
                        if 0 ≤ x32.1 ∧ x32.1 < ((List.length c24 : Nat) : Int) then
                          bif (!(List.getD c24 (Int.toNat x32.1) false)) then
                            if 0 ≤ x32.1 ∧ x32.1 < ((List.length c24 : Nat) : Int) then
                              (F30_1 k n t5 true (IntKind.wrap .i64 (t11 + (1 : Int))) c2 c4 c22 (List.set c24 (Int.toNat x32.1) true) c26).bind some
                            else none
                          else
                            (F30_1 k n t5 t10 (IntKind.wrap .i64 (t11 + (1 : Int))) c2 c4 c22 c24 c26).bind some
                        else none
                      else
                        (F30_1 k n t5 t10 (IntKind.wrap .i64 (t11 + (1 : Int))) c2 c4 c22 c24 c26).bind some
                    else none
                  else
                    (F30_1 k n t5 t10 (IntKind.wrap .i64 (t11 + (1 : Int))) c2 c4 c22 c24 c26).bind some
                else none
            else none
          else
            if 0 ≤ x32.2.1 ∧ x32.2.1 < ((List.length c24 : Nat) : Int) then
              bif (List.getD c24 (Int.toNat x32.2.1) false) then
                if 0 ≤ x32.1 ∧ x32.1 < ((List.length c26 : Nat) : Int) then
                  bif (List.getD c26 (Int.toNat x32.1) false) then
                    if 0 ≤ x32.1 ∧ x32.1 < ((List.length c24 : Nat) : Int) then
                      bif (!(List.getD c24 (Int.toNat x32.1) false)) then
                        if 0 ≤ x32.1 ∧ x32.1 < ((List.length c24 : Nat) : Int) then
                          (F30_1 k n t5 true (IntKind.wrap .i64 (t11 + (1 : Int))) c2 c4 c22 (List.set c24 (Int.toNat x32.1) true) c26).bind some
                        else none
                      else
                        (F30_1 k n t5 t10 (IntKind.wrap .i64 (t11 + (1 : Int))) c2 c4 c22 c24 c26).bind some
                    else none
                  else
                    (F30_1 k n t5 t10 (IntKind.wrap .i64 (t11 + (1 : Int))) c2 c4 c22 c24 c26).bind some
                else none
              else
                (F30_1 k n t5 t10 (IntKind.wrap .i64 (t11 + (1 : Int))) c2 c4 c22 c24 c26).bind some
            else none
        else none
      else none
    else
      some ((t5, t10, ()), (c2, c4, c22, c24, c26, ()))
def fr30_1 (k : Nat) : Frag := ⟨⟨[], [(2, .ptr 2 []), (4, .ptr 4 []), (5, .val (.int .i64)), (6, .at 22 []), (7, .at 24 []), (8, .at 26 []), (10, .val .bool), (11, .val (.int .i64))], [(2, some 28, KD5), (4, some 28, KD6), (22, none, KD59), (24, none, KD59), (26, none, KD59)]⟩, [(.exit 4, ⟨[], [(2, .ptr 2 []), (4, .ptr 4 []), (5, .val (.int .i64)), (6, .at 22 []), (7, .at 24 []), (8, .at 26 []), (10, .val .bool)], [(2, some 28, KD5), (4, some 28, KD6), (22, none, KD59), (24, none, KD59), (26, none, KD59)]⟩)], fun v => F30_1 k k v.1.1 v.1.2.1 v.1.2.2.1 v.2.1 v.2.2.1 v.2.2.2.1 v.2.2.2.2.1 v.2.2.2.2.2.1⟩
def F30_2 (k : Nat) : Nat → Int → Bool → TY23 → TY23 → (List Bool) → (List Bool) → (List Bool) → Option (((Int × Unit) × (TY23 × TY23 × (List Bool) × (List Bool) × Unit)))
  | 0, _, _, _, _, _, _, _ => none
  | n + 1, t5, t10, c2, c4, c22, c24, c26 =>
    bif t10 then
      (F30_1 k k t5 false (0 : Int) c2 c4 c22 c24 c26).bind fun r41 =>
      let y42 := r41.1.1
      let y43 := r41.1.2.1
      let y44 := r41.2.1
      let y45 := r41.2.2.1
      let y46 := r41.2.2.2.1
      let y47 := r41.2.2.2.2.1
      let y48 := r41.2.2.2.2.2.1
      (F30_2 k n y42 y43 y44 y45 y46 y47 y48).bind some
    else
      some ((t5, ()), (c2, c4, c22, c24, ()))
def fr30_2 (k : Nat) : Frag := ⟨⟨[], [(2, .ptr 2 []), (4, .ptr 4 []), (5, .val (.int .i64)), (6, .at 22 []), (7, .at 24 []), (8, .at 26 []), (10, .val .bool)], [(2, some 28, KD5), (4, some 28, KD6), (22, none, KD59), (24, none, KD59), (26, none, KD59)]⟩, [(.exit 2, ⟨[], [(2, .ptr 2 []), (4, .ptr 4 []), (5, .val (.int .i64)), (6, .at 22 []), (7, .at 24 [])], [(2, some 28, KD5), (4, some 28, KD6), (22, none, KD59), (24, none, KD59)]⟩)], fun v => F30_2 k k v.1.1 v.1.2.1 v.2.1 v.2.2.1 v.2.2.2.1 v.2.2.2.2.1 v.2.2.2.2.2.1⟩
def F30_3 (k : Nat) : Nat → Int → Int → TY23 → TY23 → TY23 → (List Bool) → (List Bool) → (List Int) → Option ((Unit × (TY23 × TY23 × TY23 × (List Int) × Unit)))
  | 0, _, _, _, _, _, _, _, _ => none
  | n + 1, t5, t15, c2, c4, c13, c22, c24, c134 =>
    bif (decide (t15 < t5)) then
      if 0 ≤ t15 ∧ t15 < ((List.length c134 : Nat) : Int) then
        if 0 ≤ t15 ∧ t15 < ((List.length c22 : Nat) : Int) then
          bif (List.getD c22 (Int.toNat t15) false) then
            if 0 ≤ t15 ∧ t15 < ((List.length c24 : Nat) : Int) then
              bif (List.getD c24 (Int.toNat t15) false) then
                if 0 ≤ t15 ∧ t15 < ((List.length (List.set c134 (Int.toNat t15) (-1 : Int)) : Nat) : Int) then
                  let x60 := (List.set (List.set c134 (Int.toNat t15) (-1 : Int)) (Int.toNat t15) ((List.length c13.1 : Nat) : Int))
                  if 0 ≤ t15 ∧ t15 < ((List.length c2.1 : Nat) : Int) then
                    if 0 ≤ t15 ∧ t15 < ((List.length c2.2.1 : Nat) : Int) then
                      if 0 ≤ t15 ∧ t15 < ((List.length c2.2.2.1 : Nat) : Int) then
                        let x61 := (List.getD c2.2.2.1 (Int.toNat t15) (0 : Int))
                        let x62 := (List.set (List.replicate 1 (0 : Int)) 0 (List.getD c2.1 (Int.toNat t15) (0 : Int)))
                        if (List.length c13.1 + List.length x62) * (8 * 2) ≤ 281474976710656 ∧ List.length c13.1 + List.length x62 ≤ 9223372036854775807 then
                          let x63 := (List.set (List.replicate 1 (0 : Int)) 0 (List.getD c2.2.1 (Int.toNat t15) (0 : Int)))
                          if (List.length c13.2.1 + List.length x63) * (8 * 2) ≤ 281474976710656 ∧ List.length c13.2.1 + List.length x63 ≤ 9223372036854775807 then
                            let x64 := (List.set (List.replicate 1 (0 : Int)) 0 x61)
                            if (List.length c13.2.2.1 + List.length x64) * (8 * 2) ≤ 281474976710656 ∧ List.length c13.2.2.1 + List.length x64 ≤ 9223372036854775807 then
                              (F30_3 k n t5 (IntKind.wrap .i64 (t15 + (1 : Int))) c2 c4 ((c13.1 ++ x62), ((c13.2.1 ++ x63), ((c13.2.2.1 ++ x64), c13.2.2.2))) c22 c24 x60).bind some
                            else none
                          else none
                        else none
                      else none
                    else none
                  else none
                else none
              else
                (F30_3 k n t5 (IntKind.wrap .i64 (t15 + (1 : Int))) c2 c4 c13 c22 c24 (List.set c134 (Int.toNat t15) (-1 : Int))).bind some
            else none
          else
            (F30_3 k n t5 (IntKind.wrap .i64 (t15 + (1 : Int))) c2 c4 c13 c22 c24 (List.set c134 (Int.toNat t15) (-1 : Int))).bind some
        else none
      else none
    else
      some ((), (c2, c4, c13, c134, ()))
def fr30_3 (k : Nat) : Frag := ⟨⟨[], [(2, .ptr 2 []), (4, .ptr 4 []), (5, .val (.int .i64)), (6, .at 22 []), (7, .at 24 []), (13, .ptr 13 []), (14, .at 134 []), (15, .val (.int .i64))], [(2, some 28, KD5), (4, some 28, KD6), (13, some 28, KD6), (22, none, KD59), (24, none, KD59), (134, none, KD53)]⟩, [(.exit 6, ⟨[], [(2, .ptr 2 []), (4, .ptr 4 []), (13, .ptr 13 []), (14, .at 134 [])], [(2, some 28, KD5), (4, some 28, KD6), (13, some 28, KD6), (134, none, KD53)]⟩)], fun v => F30_3 k k v.1.1 v.1.2.1 v.2.1 v.2.2.1 v.2.2.2.1 v.2.2.2.2.1 v.2.2.2.2.2.1 v.2.2.2.2.2.2.1⟩
def F30_4 (k : Nat) : Nat → Int → TY23 → TY23 → TY23 → (List Int) → Option TY7
  | 0, _, _, _, _, _ => none
  | n + 1, t16, c2, c4, c13, c134 =>
    let x76 := (decide (t16 < ((List.length c2.2.2.2.1 : Nat) : Int)))
    bif x76 then
      if 0 ≤ t16 ∧ t16 < ((List.length c2.2.2.2.1 : Nat) : Int) then
        let x77 := (List.getD c2.2.2.2.1 (Int.toNat t16) ((0 : Int), ((0 : Int), ((0 : Int), ()))))
        if 0 ≤ x77.1 ∧ x77.1 < ((List.length c134 : Nat) : Int) then
          let x78 := (decide ((List.getD c134 (Int.toNat x77.1) (0 : Int)) ≥ (0 : Int)))
          bif x78 then
            if 0 ≤ x77.2.1 ∧ x77.2.1 < ((List.length c134 : Nat) : Int) then
              let x79 := (List.getD c134 (Int.toNat x77.2.1) (0 : Int))
              bif (decide (x79 ≥ (0 : Int))) then
                if 0 ≤ x77.1 ∧ x77.1 < ((List.length c134 : Nat) : Int) then
                  if 0 ≤ x77.2.1 ∧ x77.2.1 < ((List.length c134 : Nat) : Int) then
                    let x80 := (List.getD c134 (Int.toNat x77.2.1) (0 : Int))
                    let x81 := (List.set (List.replicate 1 ((0 : Int), ((0 : Int), ((0 : Int), ())))) 0 ((List.getD c134 (Int.toNat x77.1) (0 : Int)), (x80, (x77.2.2.1, ()))))
                    if (List.length c13.2.2.2.1 + List.length x81) * (24 * 2) ≤ 281474976710656 ∧ List.length c13.2.2.2.1 + List.length x81 ≤ 9223372036854775807 then
                      (F30_4 k n (IntKind.wrap .i64 (t16 + (1 : Int))) c2 c4 (c13.1, (c13.2.1, (c13.2.2.1, ((c13.2.2.2.1 ++ x81), c13.2.2.2.2)))) c134).bind some
                    else none
                  else none
                else none
              else
                (F30_4 k n (IntKind.wrap .i64 (t16 + (1 : Int))) c2 c4 c13 c134).bind some
            else none
          else
            (F30_4 k n (IntKind.wrap .i64 (t16 + (1 : Int))) c2 c4 c13 c134).bind some
        else none
      else none
    else
      some ((), (c4, c13, ()))
def fr30_4 (k : Nat) : Frag := ⟨⟨[], [(2, .ptr 2 []), (4, .ptr 4 []), (13, .ptr 13 []), (14, .at 134 []), (16, .val (.int .i64))], [(2, some 28, KD5), (4, some 28, KD6), (13, some 28, KD6), (134, none, KD53)]⟩, [(.exit 8, ⟨[], [(4, .ptr 4 []), (13, .ptr 13 [])], [(4, some 28, KD6), (13, some 28, KD6)]⟩)], fun v => F30_4 k k v.1.1 v.2.1 v.2.2.1 v.2.2.2.1 v.2.2.2.2.1⟩
def F30 (k : Nat) (a0 : TY23) (a1 : (List (List Bool))) : Option TY19 :=
  if (0 ≤ ((List.length a0.1 : Nat) : Int) ∧ ((List.length a0.1 : Nat) : Int) < ((List.length a0.1 : Nat) : Int) + 1) ∧ ((List.length a0.1 : Nat) : Int) ≤ 9223372036854775807 ∧ ((1 : Nat) : Int) * ((List.length a0.1 : Nat) : Int) ≤ 281474976710656 then
    let x1 := (List.replicate (Int.toNat ((List.length a0.1 : Nat) : Int)) false)
    if (0 ≤ ((List.length a0.1 : Nat) : Int) ∧ ((List.length a0.1 : Nat) : Int) < ((List.length a0.1 : Nat) : Int) + 1) ∧ ((List.length a0.1 : Nat) : Int) ≤ 9223372036854775807 ∧ ((1 : Nat) : Int) * ((List.length a0.1 : Nat) : Int) ≤ 281474976710656 then
      let x2 := (List.replicate (Int.toNat ((List.length a0.1 : Nat) : Int)) false)
      if (0 ≤ ((List.length a0.1 : Nat) : Int) ∧ ((List.length a0.1 : Nat) : Int) < ((List.length a0.1 : Nat) : Int) + 1) ∧ ((List.length a0.1 : Nat) : Int) ≤ 9223372036854775807 ∧ ((1 : Nat) : Int) * ((List.length a0.1 : Nat) : Int) ≤ 281474976710656 then
        let x3 := (List.replicate (Int.toNat ((List.length a0.1 : Nat) : Int)) false)
        (F30_0 k k a1 ((List.length a0.1 : Nat) : Int) (0 : Int) a0 (([] : (List Int)), (([] : (List Int)), (([] : (List Int)), (([] : TY48), ((0 : Int), ()))))) x1 x2 x3).bind fun r22 =>
        let y23 := r22.1.1
        let y24 := r22.2.1
        let y25 := r22.2.2.1
        let y26 := r22.2.2.2.1
        let y27 := r22.2.2.2.2.1
        let y28 := r22.2.2.2.2.2.1
        (F30_2 k k y23 true y24 y25 y26 y27 y28).bind fun r49 =>
        let y50 := r49.1.1
        let y51 := r49.2.1
        let y52 := r49.2.2.1
        let y53 := r49.2.2.2.1
        let y54 := r49.2.2.2.2.1
        if (0 ≤ y50 ∧ y50 < y50 + 1) ∧ y50 ≤ 9223372036854775807 ∧ ((8 : Nat) : Int) * y50 ≤ 281474976710656 then
          (F30_3 k k y50 (0 : Int) y51 y52 (([] : (List Int)), (([] : (List Int)), (([] : (List Int)), (([] : TY48), (y51.2.2.2.2.1, ()))))) y53 y54 (List.replicate (Int.toNat y50) (0 : Int))).bind fun r65 =>
          let y66 := r65.2.1
          let y67 := r65.2.2.1
          let y68 := r65.2.2.2.1
          let y69 := r65.2.2.2.2.1
          (F30_4 k k (0 : Int) y66 y67 y68 y69).bind fun r82 =>
          let y84 := r82.2.2.1
          some ((y84, ()), ())
        else none
      else none
    else none
  else none
def sp30 (k : Nat) : Spec := ⟨[.val KD5, .val KD45], [.own KD6], fun x => F30 k x.1 x.2.1⟩
def lim30 : Lim := ⟨234, 2, false, false, []⟩
def cfg30 (k : Nat) : Nat → Option Spec := cfgL [(49, sp49 k)]
theorem cfg30_ok (k : Nat) : CfgOK Try.prog (cfg30 k) := cfgL_cons (v49 k) (cfgL_nil)
def pl30_0 (k : Nat) : Plan := .go
theorem pq30_0 (k : Nat) : PlanOK Try.prog lim30 (pl30_0 k) (codeAt (bodyOf Try.f30) [.r, .r, .r, .r, .l, .r, .s, .b]) = PlanOK Try.prog lim30 .go (codeAt (bodyOf Try.f30) [.r, .r, .r, .r, .l, .r, .s, .b]) := by kernel_rfl
theorem ps30_0 (k m : Nat) (v : (fr30_0 k).sh.V) : F30_0 k (m + 1) v.1.1 v.1.2.1 v.1.2.2.1 v.2.1 v.2.2.1 v.2.2.2.1 v.2.2.2.2.1 v.2.2.2.2.2.1 = (body Try.prog (stepper Try.prog (cfg30 k) lim30) (pl30_0 k) (codeAt (bodyOf Try.f30) [.r, .r, .r, .r, .l, .r, .s, .b]) ((fr30_0 k).sh.st v) (loopK (fr30_0 k) fun v => F30_0 k m v.1.1 v.1.2.1 v.1.2.2.1 v.2.1 v.2.2.1 v.2.2.2.1 v.2.2.2.2.1 v.2.2.2.2.2.1)).eval := by kernel_rfl
theorem pe30_0 (k m : Nat) (v : (fr30_0 k).sh.V) : (body Try.prog (stepper Try.prog (cfg30 k) lim30) (pl30_0 k) (codeAt (bodyOf Try.f30) [.r, .r, .r, .r, .l, .r, .s, .b]) ((fr30_0 k).sh.st v) (loopK (fr30_0 k) fun v => F30_0 k m v.1.1 v.1.2.1 v.1.2.2.1 v.2.1 v.2.2.1 v.2.2.2.1 v.2.2.2.2.1 v.2.2.2.2.2.1)).left = (body Try.prog (stepper Try.prog (cfg30 k) lim30) (pl30_0 k) (codeAt (bodyOf Try.f30) [.r, .r, .r, .r, .l, .r, .s, .b]) ((fr30_0 k).sh.st v) (loopK (fr30_0 k) fun v => F30_0 k m v.1.1 v.1.2.1 v.1.2.2.1 v.2.1 v.2.2.1 v.2.2.2.1 v.2.2.2.2.1 v.2.2.2.2.2.1)).right := by kernel_rfl
theorem fr30_0_ok (k : Nat) : FragOK Try.prog lim30 (fr30_0 k) (codeAt (bodyOf Try.f30) [.r, .r, .r, .r, .l, .r, .s]) :=
  frag_cast (by kernel_rfl) (loop_ok (cfg30_ok k) (Eq.mpr (pq30_0 k) (planOK_go _)) (fun m v => F30_0 k m v.1.1 v.1.2.1 v.1.2.2.1 v.2.1 v.2.2.1 v.2.2.2.1 v.2.2.2.2.1 v.2.2.2.2.2.1) k (fun _ => rfl) (fun _ => rfl) fun m v => ⟨ps30_0 k m v, pe30_0 k m v⟩)
def pl30_1 (k : Nat) : Plan := .go
theorem pq30_1 (k : Nat) : PlanOK Try.prog lim30 (pl30_1 k) (codeAt (bodyOf Try.f30) [.r, .r, .r, .r, .r, .l, .r, .s, .b, .r, .s, .r, .r, .s, .b]) = PlanOK Try.prog lim30 .go (codeAt (bodyOf Try.f30) [.r, .r, .r, .r, .r, .l, .r, .s, .b, .r, .s, .r, .r, .s, .b]) := by kernel_rfl
theorem ps30_1 (k m : Nat) (v : (fr30_1 k).sh.V) : F30_1 k (m + 1) v.1.1 v.1.2.1 v.1.2.2.1 v.2.1 v.2.2.1 v.2.2.2.1 v.2.2.2.2.1 v.2.2.2.2.2.1 = (body Try.prog (stepper Try.prog (cfg30 k) lim30) (pl30_1 k) (codeAt (bodyOf Try.f30) [.r, .r, .r, .r, .r, .l, .r, .s, .b, .r, .s, .r, .r, .s, .b]) ((fr30_1 k).sh.st v) (loopK (fr30_1 k) fun v => F30_1 k m v.1.1 v.1.2.1 v.1.2.2.1 v.2.1 v.2.2.1 v.2.2.2.1 v.2.2.2.2.1 v.2.2.2.2.2.1)).eval := by kernel_rfl
theorem pe30_1 (k m : Nat) (v : (fr30_1 k).sh.V) : (body Try.prog (stepper Try.prog (cfg30 k) lim30) (pl30_1 k) (codeAt (bodyOf Try.f30) [.r, .r, .r, .r, .r, .l, .r, .s, .b, .r, .s, .r, .r, .s, .b]) ((fr30_1 k).sh.st v) (loopK (fr30_1 k) fun v => F30_1 k m v.1.1 v.1.2.1 v.1.2.2.1 v.2.1 v.2.2.1 v.2.2.2.1 v.2.2.2.2.1 v.2.2.2.2.2.1)).left = (body Try.prog (stepper Try.prog (cfg30 k) lim30) (pl30_1 k) (codeAt (bodyOf Try.f30) [.r, .r, .r, .r, .r, .l, .r, .s, .b, .r, .s, .r, .r, .s, .b]) ((fr30_1 k).sh.st v) (loopK (fr30_1 k) fun v => F30_1 k m v.1.1 v.1.2.1 v.1.2.2.1 v.2.1 v.2.2.1 v.2.2.2.1 v.2.2.2.2.1 v.2.2.2.2.2.1)).right := by kernel_rfl
theorem fr30_1_ok (k : Nat) : FragOK Try.prog lim30 (fr30_1 k) (codeAt (bodyOf Try.f30) [.r, .r, .r, .r, .r, .l, .r, .s, .b, .r, .s, .r, .r, .s]) :=
  frag_cast (by kernel_rfl) (loop_ok (cfg30_ok k) (Eq.mpr (pq30_1 k) (planOK_go _)) (fun m v => F30_1 k m v.1.1 v.1.2.1 v.1.2.2.1 v.2.1 v.2.2.1 v.2.2.2.1 v.2.2.2.2.1 v.2.2.2.2.2.1) k (fun _ => rfl) (fun _ => rfl) fun m v => ⟨ps30_1 k m v, pe30_1 k m v⟩)
def pl30_2 (k : Nat) : Plan := (.seq .go (.sub (.seq .go (.seq .go (.sub (.frag (fr30_1 k)))))))
theorem pq30_2 (k : Nat) : PlanOK Try.prog lim30 (pl30_2 k) (codeAt (bodyOf Try.f30) [.r, .r, .r, .r, .r, .l, .r, .s, .b]) = (PlanOK Try.prog lim30 .go (codeAt (bodyOf Try.f30) [.r, .r, .r, .r, .r, .l, .r, .s, .b, .l]) ∧ (PlanOK Try.prog lim30 .go (codeAt (bodyOf Try.f30) [.r, .r, .r, .r, .r, .l, .r, .s, .b, .r, .s, .l]) ∧ (PlanOK Try.prog lim30 .go (codeAt (bodyOf Try.f30) [.r, .r, .r, .r, .r, .l, .r, .s, .b, .r, .s, .r, .l]) ∧ FragOK Try.prog lim30 (fr30_1 k) (codeAt (bodyOf Try.f30) [.r, .r, .r, .r, .r, .l, .r, .s, .b, .r, .s, .r, .r, .s])))) := by kernel_rfl
theorem ps30_2 (k m : Nat) (v : (fr30_2 k).sh.V) : F30_2 k (m + 1) v.1.1 v.1.2.1 v.2.1 v.2.2.1 v.2.2.2.1 v.2.2.2.2.1 v.2.2.2.2.2.1 = (body Try.prog (stepper Try.prog (cfg30 k) lim30) (pl30_2 k) (codeAt (bodyOf Try.f30) [.r, .r, .r, .r, .r, .l, .r, .s, .b]) ((fr30_2 k).sh.st v) (loopK (fr30_2 k) fun v => F30_2 k m v.1.1 v.1.2.1 v.2.1 v.2.2.1 v.2.2.2.1 v.2.2.2.2.1 v.2.2.2.2.2.1)).eval := by kernel_rfl
theorem pe30_2 (k m : Nat) (v : (fr30_2 k).sh.V) : (body Try.prog (stepper Try.prog (cfg30 k) lim30) (pl30_2 k) (codeAt (bodyOf Try.f30) [.r, .r, .r, .r, .r, .l, .r, .s, .b]) ((fr30_2 k).sh.st v) (loopK (fr30_2 k) fun v => F30_2 k m v.1.1 v.1.2.1 v.2.1 v.2.2.1 v.2.2.2.1 v.2.2.2.2.1 v.2.2.2.2.2.1)).left = (body Try.prog (stepper Try.prog (cfg30 k) lim30) (pl30_2 k) (codeAt (bodyOf Try.f30) [.r, .r, .r, .r, .r, .l, .r, .s, .b]) ((fr30_2 k).sh.st v) (loopK (fr30_2 k) fun v => F30_2 k m v.1.1 v.1.2.1 v.2.1 v.2.2.1 v.2.2.2.1 v.2.2.2.2.1 v.2.2.2.2.2.1)).right := by kernel_rfl
theorem fr30_2_ok (k : Nat) : FragOK Try.prog lim30 (fr30_2 k) (codeAt (bodyOf Try.f30) [.r, .r, .r, .r, .r, .l, .r, .s]) :=
  frag_cast (by kernel_rfl) (loop_ok (cfg30_ok k) (Eq.mpr (pq30_2 k) ⟨(planOK_go _), ⟨(planOK_go _), ⟨(planOK_go _), (fr30_1_ok k)⟩⟩⟩) (fun m v => F30_2 k m v.1.1 v.1.2.1 v.2.1 v.2.2.1 v.2.2.2.1 v.2.2.2.2.1 v.2.2.2.2.2.1) k (fun _ => rfl) (fun _ => rfl) fun m v => ⟨ps30_2 k m v, pe30_2 k m v⟩)
def pl30_3 (k : Nat) : Plan := .go
theorem pq30_3 (k : Nat) : PlanOK Try.prog lim30 (pl30_3 k) (codeAt (bodyOf Try.f30) [.r, .r, .r, .r, .r, .r, .r, .r, .l, .r, .s, .b]) = PlanOK Try.prog lim30 .go (codeAt (bodyOf Try.f30) [.r, .r, .r, .r, .r, .r, .r, .r, .l, .r, .s, .b]) := by kernel_rfl
theorem ps30_3 (k m : Nat) (v : (fr30_3 k).sh.V) : F30_3 k (m + 1) v.1.1 v.1.2.1 v.2.1 v.2.2.1 v.2.2.2.1 v.2.2.2.2.1 v.2.2.2.2.2.1 v.2.2.2.2.2.2.1 = (body Try.prog (stepper Try.prog (cfg30 k) lim30) (pl30_3 k) (codeAt (bodyOf Try.f30) [.r, .r, .r, .r, .r, .r, .r, .r, .l, .r, .s, .b]) ((fr30_3 k).sh.st v) (loopK (fr30_3 k) fun v => F30_3 k m v.1.1 v.1.2.1 v.2.1 v.2.2.1 v.2.2.2.1 v.2.2.2.2.1 v.2.2.2.2.2.1 v.2.2.2.2.2.2.1)).eval := by kernel_rfl
theorem pe30_3 (k m : Nat) (v : (fr30_3 k).sh.V) : (body Try.prog (stepper Try.prog (cfg30 k) lim30) (pl30_3 k) (codeAt (bodyOf Try.f30) [.r, .r, .r, .r, .r, .r, .r, .r, .l, .r, .s, .b]) ((fr30_3 k).sh.st v) (loopK (fr30_3 k) fun v => F30_3 k m v.1.1 v.1.2.1 v.2.1 v.2.2.1 v.2.2.2.1 v.2.2.2.2.1 v.2.2.2.2.2.1 v.2.2.2.2.2.2.1)).left = (body Try.prog (stepper Try.prog (cfg30 k) lim30) (pl30_3 k) (codeAt (bodyOf Try.f30) [.r, .r, .r, .r, .r, .r, .r, .r, .l, .r, .s, .b]) ((fr30_3 k).sh.st v) (loopK (fr30_3 k) fun v => F30_3 k m v.1.1 v.1.2.1 v.2.1 v.2.2.1 v.2.2.2.1 v.2.2.2.2.1 v.2.2.2.2.2.1 v.2.2.2.2.2.2.1)).right := by kernel_rfl
theorem fr30_3_ok (k : Nat) : FragOK Try.prog lim30 (fr30_3 k) (codeAt (bodyOf Try.f30) [.r, .r, .r, .r, .r, .r, .r, .r, .l, .r, .s]) :=
  frag_cast (by kernel_rfl) (loop_ok (cfg30_ok k) (Eq.mpr (pq30_3 k) (planOK_go _)) (fun m v => F30_3 k m v.1.1 v.1.2.1 v.2.1 v.2.2.1 v.2.2.2.1 v.2.2.2.2.1 v.2.2.2.2.2.1 v.2.2.2.2.2.2.1) k (fun _ => rfl) (fun _ => rfl) fun m v => ⟨ps30_3 k m v, pe30_3 k m v⟩)
def pl30_4 (k : Nat) : Plan := .go
theorem pq30_4 (k : Nat) : PlanOK Try.prog lim30 (pl30_4 k) (codeAt (bodyOf Try.f30) [.r, .r, .r, .r, .r, .r, .r, .r, .r, .l, .r, .s, .b]) = PlanOK Try.prog lim30 .go (codeAt (bodyOf Try.f30) [.r, .r, .r, .r, .r, .r, .r, .r, .r, .l, .r, .s, .b]) := by kernel_rfl
theorem ps30_4 (k m : Nat) (v : (fr30_4 k).sh.V) : F30_4 k (m + 1) v.1.1 v.2.1 v.2.2.1 v.2.2.2.1 v.2.2.2.2.1 = (body Try.prog (stepper Try.prog (cfg30 k) lim30) (pl30_4 k) (codeAt (bodyOf Try.f30) [.r, .r, .r, .r, .r, .r, .r, .r, .r, .l, .r, .s, .b]) ((fr30_4 k).sh.st v) (loopK (fr30_4 k) fun v => F30_4 k m v.1.1 v.2.1 v.2.2.1 v.2.2.2.1 v.2.2.2.2.1)).eval := by kernel_rfl
theorem pe30_4 (k m : Nat) (v : (fr30_4 k).sh.V) : (body Try.prog (stepper Try.prog (cfg30 k) lim30) (pl30_4 k) (codeAt (bodyOf Try.f30) [.r, .r, .r, .r, .r, .r, .r, .r, .r, .l, .r, .s, .b]) ((fr30_4 k).sh.st v) (loopK (fr30_4 k) fun v => F30_4 k m v.1.1 v.2.1 v.2.2.1 v.2.2.2.1 v.2.2.2.2.1)).left = (body Try.prog (stepper Try.prog (cfg30 k) lim30) (pl30_4 k) (codeAt (bodyOf Try.f30) [.r, .r, .r, .r, .r, .r, .r, .r, .r, .l, .r, .s, .b]) ((fr30_4 k).sh.st v) (loopK (fr30_4 k) fun v => F30_4 k m v.1.1 v.2.1 v.2.2.1 v.2.2.2.1 v.2.2.2.2.1)).right := by kernel_rfl
theorem fr30_4_ok (k : Nat) : FragOK Try.prog lim30 (fr30_4 k) (codeAt (bodyOf Try.f30) [.r, .r, .r, .r, .r, .r, .r, .r, .r, .l, .r, .s]) :=
  frag_cast (by kernel_rfl) (loop_ok (cfg30_ok k) (Eq.mpr (pq30_4 k) (planOK_go _)) (fun m v => F30_4 k m v.1.1 v.2.1 v.2.2.1 v.2.2.2.1 v.2.2.2.2.1) k (fun _ => rfl) (fun _ => rfl) fun m v => ⟨ps30_4 k m v, pe30_4 k m v⟩)
def pl30 (k : Nat) : Plan := (.seq .go (.seq .go (.seq .go (.seq .go (.seq (.seq .go (.sub (.frag (fr30_0 k)))) (.seq (.seq .go (.sub (.frag (fr30_2 k)))) (.seq .go (.seq .go (.seq (.seq .go (.sub (.frag (fr30_3 k)))) (.seq (.seq .go (.sub (.frag (fr30_4 k)))) .go))))))))))
theorem pq30 (k : Nat) : PlanOK Try.prog lim30 (pl30 k) (codeAt (bodyOf Try.f30) []) = (PlanOK Try.prog lim30 .go (codeAt (bodyOf Try.f30) [.l]) ∧ (PlanOK Try.prog lim30 .go (codeAt (bodyOf Try.f30) [.r, .l]) ∧ (PlanOK Try.prog lim30 .go (codeAt (bodyOf Try.f30) [.r, .r, .l]) ∧ (PlanOK Try.prog lim30 .go (codeAt (bodyOf Try.f30) [.r, .r, .r, .l]) ∧ ((PlanOK Try.prog lim30 .go (codeAt (bodyOf Try.f30) [.r, .r, .r, .r, .l, .l]) ∧ FragOK Try.prog lim30 (fr30_0 k) (codeAt (bodyOf Try.f30) [.r, .r, .r, .r, .l, .r, .s])) ∧ ((PlanOK Try.prog lim30 .go (codeAt (bodyOf Try.f30) [.r, .r, .r, .r, .r, .l, .l]) ∧ FragOK Try.prog lim30 (fr30_2 k) (codeAt (bodyOf Try.f30) [.r, .r, .r, .r, .r, .l, .r, .s])) ∧ (PlanOK Try.prog lim30 .go (codeAt (bodyOf Try.f30) [.r, .r, .r, .r, .r, .r, .l]) ∧ (PlanOK Try.prog lim30 .go (codeAt (bodyOf Try.f30) [.r, .r, .r, .r, .r, .r, .r, .l]) ∧ ((PlanOK Try.prog lim30 .go (codeAt (bodyOf Try.f30) [.r, .r, .r, .r, .r, .r, .r, .r, .l, .l]) ∧ FragOK Try.prog lim30 (fr30_3 k) (codeAt (bodyOf Try.f30) [.r, .r, .r, .r, .r, .r, .r, .r, .l, .r, .s])) ∧ ((PlanOK Try.prog lim30 .go (codeAt (bodyOf Try.f30) [.r, .r, .r, .r, .r, .r, .r, .r, .r, .l, .l]) ∧ FragOK Try.prog lim30 (fr30_4 k) (codeAt (bodyOf Try.f30) [.r, .r, .r, .r, .r, .r, .r, .r, .r, .l, .r, .s])) ∧ PlanOK Try.prog lim30 .go (codeAt (bodyOf Try.f30) [.r, .r, .r, .r, .r, .r, .r, .r, .r, .r]))))))))))) := by kernel_rfl
theorem ev30 (k : Nat) (x : AT (sp30 k).ps) : (sp30 k).impl x = (fnT Try.prog (cfg30 k) lim30 Try.f30 (bodyOf Try.f30) (pl30 k) (sp30 k) x).eval := by kernel_rfl
theorem eq30 (k : Nat) (x : AT (sp30 k).ps) : (fnT Try.prog (cfg30 k) lim30 Try.f30 (bodyOf Try.f30) (pl30 k) (sp30 k) x).left = (fnT Try.prog (cfg30 k) lim30 Try.f30 (bodyOf Try.f30) (pl30 k) (sp30 k) x).right := by kernel_rfl
theorem v30 (k : Nat) : Callable Try.prog 30 ∧ Valid Try.prog 30 (sp30 k) :=
  fn_ok (cfg30_ok k) (f := 30) (fn := Try.f30) (by kernel_rfl) (c := bodyOf Try.f30) (by kernel_rfl) (by kernel_rfl) rfl rfl (Nat.le_of_ble_eq_true rfl) (Nat.le_of_ble_eq_true rfl) (p := pl30 k) (Eq.mpr (pq30 k) ⟨(planOK_go _), ⟨(planOK_go _), ⟨(planOK_go _), ⟨(planOK_go _), ⟨⟨(planOK_go _), (fr30_0_ok k)⟩, ⟨⟨(planOK_go _), (fr30_2_ok k)⟩, ⟨(planOK_go _), ⟨(planOK_go _), ⟨⟨(planOK_go _), (fr30_3_ok k)⟩, ⟨⟨(planOK_go _), (fr30_4_ok k)⟩, (planOK_go _)⟩⟩⟩⟩⟩⟩⟩⟩⟩⟩) fun x => ⟨ev30 k x, eq30 k x⟩
/-! f13 hyphen/hyphenlaw8.Side -/
def F13 (k : Nat) (a0 : TY56) (a1 : (List Int)) : Option TY16 :=
  (F21 k a1).bind fun r1 =>
  let x2 := ([] : (List (Int × (Int × (TY40 × (TY40 × Unit))))))
  let x5 := (Tree.mk ((Tree.a a0).1, ((Tree.a a0).2.1, ())) (Tree.l a0))
  (F27 k x5 false).bind fun r6 =>
  (F22 k r6.1.1 (r1.1.1, (x2, ()))).bind fun r7 =>
  bif (!r7.1.2.1) then
    some (((([] : (List Int)), (([] : (List Int)), (([] : (List Int)), (([] : TY48), ((0 : Int), ()))))), false, ()), ())
  else
    (F28 k (r1.1.1, (x2, ()))).bind fun r8 =>
    (F29 k r8.1.1).bind fun r9 =>
    (F31 k r8.1.1 r9.1.1 r9.1.2.1).bind fun r10 =>
    (F30 k r7.1.1 r10.1.1).bind fun r11 =>
    some ((r11.1.1, true, ()), ())
def sp13 (k : Nat) : Spec := ⟨[.val KD41, .val KD52], [.own KD6, .val .bool], fun x => F13 k x.1 x.2.1⟩
def lim13 : Lim := ⟨38, 2, false, false, [14]⟩
def cfg13 (k : Nat) : Nat → Option Spec := cfgL [(21, sp21 k), (22, sp22 k), (27, sp27 k), (28, sp28 k), (29, sp29 k), (30, sp30 k), (31, sp31 k)]
theorem cfg13_ok (k : Nat) : CfgOK Try.prog (cfg13 k) := cfgL_cons (v21 k) (cfgL_cons (v22 k) (cfgL_cons (v27 k) (cfgL_cons (v28 k) (cfgL_cons (v29 k) (cfgL_cons (v30 k) (cfgL_cons (v31 k) (cfgL_nil)))))))
def pl13 (k : Nat) : Plan := .go
theorem pq13 (k : Nat) : PlanOK Try.prog lim13 (pl13 k) (codeAt (bodyOf Try.f13) []) = PlanOK Try.prog lim13 .go (codeAt (bodyOf Try.f13) []) := by kernel_rfl
theorem ev13 (k : Nat) (x : AT (sp13 k).ps) : (sp13 k).impl x = (fnT Try.prog (cfg13 k) lim13 Try.f13 (bodyOf Try.f13) (pl13 k) (sp13 k) x).eval := by kernel_rfl
theorem eq13 (k : Nat) (x : AT (sp13 k).ps) : (fnT Try.prog (cfg13 k) lim13 Try.f13 (bodyOf Try.f13) (pl13 k) (sp13 k) x).left = (fnT Try.prog (cfg13 k) lim13 Try.f13 (bodyOf Try.f13) (pl13 k) (sp13 k) x).right := by kernel_rfl
theorem v13 (k : Nat) : Callable Try.prog 13 ∧ Valid Try.prog 13 (sp13 k) :=
  fn_ok (cfg13_ok k) (f := 13) (fn := Try.f13) (by kernel_rfl) (c := bodyOf Try.f13) (by kernel_rfl) (by kernel_rfl) rfl rfl (Nat.le_of_ble_eq_true rfl) (Nat.le_of_ble_eq_true rfl) (p := pl13 k) (Eq.mpr (pq13 k) (planOK_go _)) fun x => ⟨ev13 k x, eq13 k x⟩
/-! f15 hyphen/hyphenref8.Round -/
def F15_0 (k : Nat) : Nat → Int → Int → TY23 → (List (List Bool)) → Option TY12
  | 0, _, _, _, _ => none
  | n + 1, t3, t5, c1, c16 =>
    bif (decide (t5 < t3)) then
      if (0 ≤ t3 ∧ t3 < t3 + 1) ∧ t3 ≤ 9223372036854775807 ∧ ((1 : Nat) : Int) * t3 ≤ 281474976710656 then
        if 0 ≤ t5 ∧ t5 < ((List.length c16 : Nat) : Int) then
          let x4 := (List.set c16 (Int.toNat t5) (List.replicate (Int.toNat t3) false))
          if 0 ≤ t5 ∧ t5 < ((List.length x4 : Nat) : Int) then
            if 0 ≤ t5 ∧ t5 < ((List.length (List.getD x4 (Int.toNat t5) ([] : (List Bool))) : Nat) : Int) then
              let x5 := (List.set x4 (Int.toNat t5) (List.set (List.getD x4 (Int.toNat t5) ([] : (List Bool))) (Int.toNat t5) true))
              (F15_0 k n t3 (IntKind.wrap .i64 (t5 + (1 : Int))) c1 x5).bind some
            else none
          else none
        else none
      else none
    else
      some ((t3, ()), (c1, c16, ()))
def fr15_0 (k : Nat) : Frag := ⟨⟨[], [(1, .ptr 1 []), (3, .val (.int .i64)), (4, .at 16 []), (5, .val (.int .i64))], [(1, some 28, KD5), (16, none, KD46)]⟩, [(.exit 0, ⟨[], [(1, .ptr 1 []), (3, .val (.int .i64)), (4, .at 16 [])], [(1, some 28, KD5), (16, none, KD46)]⟩)], fun v => F15_0 k k v.1.1 v.1.2.1 v.2.1 v.2.2.1⟩
def F15_1 (k : Nat) : Nat → Int → Int → TY23 → (List (List Bool)) → Option TY12
  | 0, _, _, _, _ => none
  | n + 1, t3, t6, c1, c16 =>
    let x14 := (decide (t6 < ((List.length c1.2.2.2.1 : Nat) : Int)))
    bif x14 then
      if 0 ≤ t6 ∧ t6 < ((List.length c1.2.2.2.1 : Nat) : Int) then
        let x15 := (List.getD c1.2.2.2.1 (Int.toNat t6) ((0 : Int), ((0 : Int), ((0 : Int), ()))))
        if 0 ≤ x15.1 ∧ x15.1 < ((List.length c16 : Nat) : Int) then
          if 0 ≤ t6 ∧ t6 < ((List.length c1.2.2.2.1 : Nat) : Int) then
            let x16 := (List.getD c1.2.2.2.1 (Int.toNat t6) ((0 : Int), ((0 : Int), ((0 : Int), ()))))
            if 0 ≤ x16.2.1 ∧ x16.2.1 < ((List.length (List.getD c16 (Int.toNat x15.1) ([] : (List Bool))) : Nat) : Int) then
              let x17 := (List.set c16 (Int.toNat x15.1) (List.set (List.getD c16 (Int.toNat x15.1) ([] : (List Bool))) (Int.toNat x16.2.1) true))
              (F15_1 k n t3 (IntKind.wrap .i64 (t6 + (1 : Int))) c1 x17).bind some
            else none
          else none
        else none
      else none
    else
      some ((t3, ()), (c1, c16, ()))
def fr15_1 (k : Nat) : Frag := ⟨⟨[], [(1, .ptr 1 []), (3, .val (.int .i64)), (4, .at 16 []), (6, .val (.int .i64))], [(1, some 28, KD5), (16, none, KD46)]⟩, [(.exit 2, ⟨[], [(1, .ptr 1 []), (3, .val (.int .i64)), (4, .at 16 [])], [(1, some 28, KD5), (16, none, KD46)]⟩)], fun v => F15_1 k k v.1.1 v.1.2.1 v.2.1 v.2.2.1⟩
def F15_2 (k : Nat) : Nat → Int → Int → Int → Int → TY23 → (List (List Bool)) → Option (((Int × Int × Int × Unit) × TY15))
  | 0, _, _, _, _, _, _ => none
  | n + 1, t3, t7, t8, t9, c1, c16 =>
    bif (decide (t9 < t3)) then
      if 0 ≤ t8 ∧ t8 < ((List.length c16 : Nat) : Int) then
        if 0 ≤ t8 ∧ t8 < ((List.length c16 : Nat) : Int) then
          if 0 ≤ t9 ∧ t9 < ((List.length (List.getD c16 (Int.toNat t8) ([] : (List Bool))) : Nat) : Int) then
            let x28 := (List.getD (List.getD c16 (Int.toNat t8) ([] : (List Bool))) (Int.toNat t9) false)
            bif x28 then
              if 0 ≤ t9 ∧ t9 < ((List.length (List.getD c16 (Int.toNat t8) ([] : (List Bool))) : Nat) : Int) then
                let x29 := (List.set c16 (Int.toNat t8) (List.set (List.getD c16 (Int.toNat t8) ([] : (List Bool))) (Int.toNat t9) true))
                (F15_2 k n t3 t7 t8 (IntKind.wrap .i64 (t9 + (1 : Int))) c1 x29).bind some
              else none
            else
              if 0 ≤ t8 ∧ t8 < ((List.length c16 : Nat) : Int) then
                if 0 ≤ t7 ∧ t7 < ((List.length (List.getD c16 (Int.toNat t8) ([] : (List Bool))) : Nat) : Int) then
                  let x30 := (List.getD (List.getD c16 (Int.toNat t8) ([] : (List Bool))) (Int.toNat t7) false)
                  bif x30 then
                    if 0 ≤ t7 ∧ t7 < ((List.length c16 : Nat) : Int) then
                      if 0 ≤ t9 ∧ t9 < ((List.length (List.getD c16 (Int.toNat t7) ([] : (List Bool))) : Nat) : Int) then
                        let x31 := (List.getD (List.getD c16 (Int.toNat t7) ([] : (List Bool))) (Int.toNat t9) false)
                        if 0 ≤ t9 ∧ t9 < ((List.length (List.getD c16 (Int.toNat t8) ([] : (List Bool))) : Nat) : Int) then
                          let x32 := (List.set c16 (Int.toNat t8) (List.set (List.getD c16 (Int.toNat t8) ([] : (List Bool))) (Int.toNat t9) x31))
                          (F15_2 k n t3 t7 t8 (IntKind.wrap .i64 (t9 + (1 : Int))) c1 x32).bind some
                        else none
                      else none
                    else none
                  else
                    if 0 ≤ t9 ∧ t9 < ((List.length (List.getD c16 (Int.toNat t8) ([] : (List Bool))) : Nat) : Int) then
                      let x33 := (List.set c16 (Int.toNat t8) (List.set (List.getD c16 (Int.toNat t8) ([] : (List Bool))) (Int.toNat t9) false))
                      (F15_2 k n t3 t7 t8 (IntKind.wrap .i64 (t9 + (1 : Int))) c1 x33).bind some
                    else none
                else none
              else none
          else none
        else none
      else none
    else
      some ((t3, t7, t8, ()), (c1, c16, ()))
def fr15_2 (k : Nat) : Frag := ⟨⟨[], [(1, .ptr 1 []), (3, .val (.int .i64)), (4, .at 16 []), (7, .val (.int .i64)), (8, .val (.int .i64)), (9, .val (.int .i64))], [(1, some 28, KD5), (16, none, KD46)]⟩, [(.exit 8, ⟨[], [(1, .ptr 1 []), (3, .val (.int .i64)), (4, .at 16 []), (7, .val (.int .i64)), (8, .val (.int .i64))], [(1, some 28, KD5), (16, none, KD46)]⟩)], fun v => F15_2 k k v.1.1 v.1.2.1 v.1.2.2.1 v.1.2.2.2.1 v.2.1 v.2.2.1⟩
def F15_3 (k : Nat) : Nat → Int → Int → Int → TY23 → (List (List Bool)) → Option (((Int × Int × Unit) × TY15))
  | 0, _, _, _, _, _ => none
  | n + 1, t3, t7, t8, c1, c16 =>
    bif (decide (t8 < t3)) then
      (F15_2 k k t3 t7 t8 (0 : Int) c1 c16).bind fun r40 =>
      let y41 := r40.1.1
      let y42 := r40.1.2.1
      let y43 := r40.1.2.2.1
      let y44 := r40.2.1
      let y45 := r40.2.2.1
      (F15_3 k n y41 y42 (IntKind.wrap .i64 (y43 + (1 : Int))) y44 y45).bind some
    else
      some ((t3, t7, ()), (c1, c16, ()))
def fr15_3 (k : Nat) : Frag := ⟨⟨[], [(1, .ptr 1 []), (3, .val (.int .i64)), (4, .at 16 []), (7, .val (.int .i64)), (8, .val (.int .i64))], [(1, some 28, KD5), (16, none, KD46)]⟩, [(.exit 6, ⟨[], [(1, .ptr 1 []), (3, .val (.int .i64)), (4, .at 16 []), (7, .val (.int .i64))], [(1, some 28, KD5), (16, none, KD46)]⟩)], fun v => F15_3 k k v.1.1 v.1.2.1 v.1.2.2.1 v.2.1 v.2.2.1⟩
def F15_4 (k : Nat) : Nat → Int → Int → TY23 → (List (List Bool)) → Option ((Unit × TY15))
  | 0, _, _, _, _ => none
  | n + 1, t3, t7, c1, c16 =>
    bif (decide (t7 < t3)) then
      (F15_3 k k t3 t7 (0 : Int) c1 c16).bind fun r51 =>
      let y52 := r51.1.1
      let y53 := r51.1.2.1
      let y54 := r51.2.1
      let y55 := r51.2.2.1
      (F15_4 k n y52 (IntKind.wrap .i64 (y53 + (1 : Int))) y54 y55).bind some
    else
      some ((), (c1, c16, ()))
def fr15_4 (k : Nat) : Frag := ⟨⟨[], [(1, .ptr 1 []), (3, .val (.int .i64)), (4, .at 16 []), (7, .val (.int .i64))], [(1, some 28, KD5), (16, none, KD46)]⟩, [(.exit 4, ⟨[], [(1, .ptr 1 []), (4, .at 16 [])], [(1, some 28, KD5), (16, none, KD46)]⟩)], fun v => F15_4 k k v.1.1 v.1.2.1 v.2.1 v.2.2.1⟩
def F15_5 (k : Nat) : Nat → Int → TY23 → (List (List Bool)) → Option ((Unit × Unit) ⊕ TY60)
  | 0, _, _, _ => none
  | n + 1, t10, c1, c16 =>
    let x62 := (decide (t10 < ((List.length c1.2.2.2.1 : Nat) : Int)))
    bif x62 then
      if 0 ≤ t10 ∧ t10 < ((List.length c1.2.2.2.1 : Nat) : Int) then
        let x63 := (List.getD c1.2.2.2.1 (Int.toNat t10) ((0 : Int), ((0 : Int), ((0 : Int), ()))))
        bif (decide (x63.2.2.1 > (0 : Int))) then
          if 0 ≤ x63.2.1 ∧ x63.2.1 < ((List.length c16 : Nat) : Int) then
            if 0 ≤ x63.1 ∧ x63.1 < ((List.length (List.getD c16 (Int.toNat x63.2.1) ([] : (List Bool))) : Nat) : Int) then
              let x64 := (List.getD (List.getD c16 (Int.toNat x63.2.1) ([] : (List Bool))) (Int.toNat x63.1) false)
              bif x64 then
                some (.inr ((true, ()), ()))
              else
                (F15_5 k n (IntKind.wrap .i64 (t10 + (1 : Int))) c1 c16).bind some
            else none
          else none
        else
          (F15_5 k n (IntKind.wrap .i64 (t10 + (1 : Int))) c1 c16).bind some
      else none
    else
      some (.inl ((), ()))
def fr15_5 (k : Nat) : Frag := ⟨⟨[], [(1, .ptr 1 []), (4, .at 16 []), (10, .val (.int .i64))], [(1, some 28, KD5), (16, none, KD46)]⟩, [(.exit 10, ⟨[], [], []⟩), (.ret, ⟨[], [(2, .val .bool)], []⟩)], fun v => F15_5 k k v.1.1 v.2.1 v.2.2.1⟩
def F15 (k : Nat) (a0 : TY23) : Option TY60 :=
  if (0 ≤ ((List.length a0.1 : Nat) : Int) ∧ ((List.length a0.1 : Nat) : Int) < ((List.length a0.1 : Nat) : Int) + 1) ∧ ((List.length a0.1 : Nat) : Int) ≤ 9223372036854775807 ∧ ((24 : Nat) : Int) * ((List.length a0.1 : Nat) : Int) ≤ 281474976710656 then
    let x1 := (List.replicate (Int.toNat ((List.length a0.1 : Nat) : Int)) ([] : (List Bool)))
    (F15_0 k k ((List.length a0.1 : Nat) : Int) (0 : Int) a0 x1).bind fun r6 =>
    let y7 := r6.1.1
    let y8 := r6.2.1
    let y9 := r6.2.2.1
    (F15_1 k k y7 (0 : Int) y8 y9).bind fun r18 =>
    let y19 := r18.1.1
    let y20 := r18.2.1
    let y21 := r18.2.2.1
    (F15_4 k k y19 (0 : Int) y20 y21).bind fun r56 =>
    let y57 := r56.2.1
    let y58 := r56.2.2.1
    (F15_5 k k (0 : Int) y57 y58).bind fun r65 =>
    match r65 with
    | .inl r66 =>
      some ((false, ()), ())
    | .inr r66 =>
      let y67 := r66.1.1
      some ((y67, ()), ())
  else none
def sp15 (k : Nat) : Spec := ⟨[.val KD5], [.val .bool], fun x => F15 k x.1⟩
def lim15 : Lim := ⟨128, 1, false, false, []⟩
def cfg15 (k : Nat) : Nat → Option Spec := cfgL []
theorem cfg15_ok (k : Nat) : CfgOK Try.prog (cfg15 k) := cfgL_nil
def pl15_0 (k : Nat) : Plan := .go
theorem pq15_0 (k : Nat) : PlanOK Try.prog lim15 (pl15_0 k) (codeAt (bodyOf Try.f15) [.r, .r, .r, .l, .r, .s, .b]) = PlanOK Try.prog lim15 .go (codeAt (bodyOf Try.f15) [.r, .r, .r, .l, .r, .s, .b]) := by kernel_rfl
theorem ps15_0 (k m : Nat) (v : (fr15_0 k).sh.V) : F15_0 k (m + 1) v.1.1 v.1.2.1 v.2.1 v.2.2.1 = (body Try.prog (stepper Try.prog (cfg15 k) lim15) (pl15_0 k) (codeAt (bodyOf Try.f15) [.r, .r, .r, .l, .r, .s, .b]) ((fr15_0 k).sh.st v) (loopK (fr15_0 k) fun v => F15_0 k m v.1.1 v.1.2.1 v.2.1 v.2.2.1)).eval := by kernel_rfl
theorem pe15_0 (k m : Nat) (v : (fr15_0 k).sh.V) : (body Try.prog (stepper Try.prog (cfg15 k) lim15) (pl15_0 k) (codeAt (bodyOf Try.f15) [.r, .r, .r, .l, .r, .s, .b]) ((fr15_0 k).sh.st v) (loopK (fr15_0 k) fun v => F15_0 k m v.1.1 v.1.2.1 v.2.1 v.2.2.1)).left = (body Try.prog (stepper Try.prog (cfg15 k) lim15) (pl15_0 k) (codeAt (bodyOf Try.f15) [.r, .r, .r, .l, .r, .s, .b]) ((fr15_0 k).sh.st v) (loopK (fr15_0 k) fun v => F15_0 k m v.1.1 v.1.2.1 v.2.1 v.2.2.1)).right := by kernel_rfl
theorem fr15_0_ok (k : Nat) : FragOK Try.prog lim15 (fr15_0 k) (codeAt (bodyOf Try.f15) [.r, .r, .r, .l, .r, .s]) :=
  frag_cast (by kernel_rfl) (loop_ok (cfg15_ok k) (Eq.mpr (pq15_0 k) (planOK_go _)) (fun m v => F15_0 k m v.1.1 v.1.2.1 v.2.1 v.2.2.1) k (fun _ => rfl) (fun _ => rfl) fun m v => ⟨ps15_0 k m v, pe15_0 k m v⟩)
def pl15_1 (k : Nat) : Plan := .go
theorem pq15_1 (k : Nat) : PlanOK Try.prog lim15 (pl15_1 k) (codeAt (bodyOf Try.f15) [.r, .r, .r, .r, .l, .r, .s, .b]) = PlanOK Try.prog lim15 .go (codeAt (bodyOf Try.f15) [.r, .r, .r, .r, .l, .r, .s, .b]) := by kernel_rfl
theorem ps15_1 (k m : Nat) (v : (fr15_1 k).sh.V) : F15_1 k (m + 1) v.1.1 v.1.2.1 v.2.1 v.2.2.1 = (body Try.prog (stepper Try.prog (cfg15 k) lim15) (pl15_1 k) (codeAt (bodyOf Try.f15) [.r, .r, .r, .r, .l, .r, .s, .b]) ((fr15_1 k).sh.st v) (loopK (fr15_1 k) fun v => F15_1 k m v.1.1 v.1.2.1 v.2.1 v.2.2.1)).eval := by kernel_rfl
theorem pe15_1 (k m : Nat) (v : (fr15_1 k).sh.V) : (body Try.prog (stepper Try.prog (cfg15 k) lim15) (pl15_1 k) (codeAt (bodyOf Try.f15) [.r, .r, .r, .r, .l, .r, .s, .b]) ((fr15_1 k).sh.st v) (loopK (fr15_1 k) fun v => F15_1 k m v.1.1 v.1.2.1 v.2.1 v.2.2.1)).left = (body Try.prog (stepper Try.prog (cfg15 k) lim15) (pl15_1 k) (codeAt (bodyOf Try.f15) [.r, .r, .r, .r, .l, .r, .s, .b]) ((fr15_1 k).sh.st v) (loopK (fr15_1 k) fun v => F15_1 k m v.1.1 v.1.2.1 v.2.1 v.2.2.1)).right := by kernel_rfl
theorem fr15_1_ok (k : Nat) : FragOK Try.prog lim15 (fr15_1 k) (codeAt (bodyOf Try.f15) [.r, .r, .r, .r, .l, .r, .s]) :=
  frag_cast (by kernel_rfl) (loop_ok (cfg15_ok k) (Eq.mpr (pq15_1 k) (planOK_go _)) (fun m v => F15_1 k m v.1.1 v.1.2.1 v.2.1 v.2.2.1) k (fun _ => rfl) (fun _ => rfl) fun m v => ⟨ps15_1 k m v, pe15_1 k m v⟩)
def pl15_2 (k : Nat) : Plan := .go
theorem pq15_2 (k : Nat) : PlanOK Try.prog lim15 (pl15_2 k) (codeAt (bodyOf Try.f15) [.r, .r, .r, .r, .r, .l, .r, .s, .b, .r, .l, .s, .r, .s, .b, .r, .l, .s, .r, .s, .b]) = PlanOK Try.prog lim15 .go (codeAt (bodyOf Try.f15) [.r, .r, .r, .r, .r, .l, .r, .s, .b, .r, .l, .s, .r, .s, .b, .r, .l, .s, .r, .s, .b]) := by kernel_rfl
theorem ps15_2 (k m : Nat) (v : (fr15_2 k).sh.V) : F15_2 k (m + 1) v.1.1 v.1.2.1 v.1.2.2.1 v.1.2.2.2.1 v.2.1 v.2.2.1 = (body Try.prog (stepper Try.prog (cfg15 k) lim15) (pl15_2 k) (codeAt (bodyOf Try.f15) [.r, .r, .r, .r, .r, .l, .r, .s, .b, .r, .l, .s, .r, .s, .b, .r, .l, .s, .r, .s, .b]) ((fr15_2 k).sh.st v) (loopK (fr15_2 k) fun v => F15_2 k m v.1.1 v.1.2.1 v.1.2.2.1 v.1.2.2.2.1 v.2.1 v.2.2.1)).eval := by kernel_rfl
theorem pe15_2 (k m : Nat) (v : (fr15_2 k).sh.V) : (body Try.prog (stepper Try.prog (cfg15 k) lim15) (pl15_2 k) (codeAt (bodyOf Try.f15) [.r, .r, .r, .r, .r, .l, .r, .s, .b, .r, .l, .s, .r, .s, .b, .r, .l, .s, .r, .s, .b]) ((fr15_2 k).sh.st v) (loopK (fr15_2 k) fun v => F15_2 k m v.1.1 v.1.2.1 v.1.2.2.1 v.1.2.2.2.1 v.2.1 v.2.2.1)).left = (body Try.prog (stepper Try.prog (cfg15 k) lim15) (pl15_2 k) (codeAt (bodyOf Try.f15) [.r, .r, .r, .r, .r, .l, .r, .s, .b, .r, .l, .s, .r, .s, .b, .r, .l, .s, .r, .s, .b]) ((fr15_2 k).sh.st v) (loopK (fr15_2 k) fun v => F15_2 k m v.1.1 v.1.2.1 v.1.2.2.1 v.1.2.2.2.1 v.2.1 v.2.2.1)).right := by kernel_rfl
theorem fr15_2_ok (k : Nat) : FragOK Try.prog lim15 (fr15_2 k) (codeAt (bodyOf Try.f15) [.r, .r, .r, .r, .r, .l, .r, .s, .b, .r, .l, .s, .r, .s, .b, .r, .l, .s, .r, .s]) :=
  frag_cast (by kernel_rfl) (loop_ok (cfg15_ok k) (Eq.mpr (pq15_2 k) (planOK_go _)) (fun m v => F15_2 k m v.1.1 v.1.2.1 v.1.2.2.1 v.1.2.2.2.1 v.2.1 v.2.2.1) k (fun _ => rfl) (fun _ => rfl) fun m v => ⟨ps15_2 k m v, pe15_2 k m v⟩)
def pl15_3 (k : Nat) : Plan := (.seq .go (.seq (.sub (.seq .go (.sub (.frag (fr15_2 k))))) .go))
theorem pq15_3 (k : Nat) : PlanOK Try.prog lim15 (pl15_3 k) (codeAt (bodyOf Try.f15) [.r, .r, .r, .r, .r, .l, .r, .s, .b, .r, .l, .s, .r, .s, .b]) = (PlanOK Try.prog lim15 .go (codeAt (bodyOf Try.f15) [.r, .r, .r, .r, .r, .l, .r, .s, .b, .r, .l, .s, .r, .s, .b, .l]) ∧ ((PlanOK Try.prog lim15 .go (codeAt (bodyOf Try.f15) [.r, .r, .r, .r, .r, .l, .r, .s, .b, .r, .l, .s, .r, .s, .b, .r, .l, .s, .l]) ∧ FragOK Try.prog lim15 (fr15_2 k) (codeAt (bodyOf Try.f15) [.r, .r, .r, .r, .r, .l, .r, .s, .b, .r, .l, .s, .r, .s, .b, .r, .l, .s, .r, .s])) ∧ PlanOK Try.prog lim15 .go (codeAt (bodyOf Try.f15) [.r, .r, .r, .r, .r, .l, .r, .s, .b, .r, .l, .s, .r, .s, .b, .r, .r]))) := by kernel_rfl
theorem ps15_3 (k m : Nat) (v : (fr15_3 k).sh.V) : F15_3 k (m + 1) v.1.1 v.1.2.1 v.1.2.2.1 v.2.1 v.2.2.1 = (body Try.prog (stepper Try.prog (cfg15 k) lim15) (pl15_3 k) (codeAt (bodyOf Try.f15) [.r, .r, .r, .r, .r, .l, .r, .s, .b, .r, .l, .s, .r, .s, .b]) ((fr15_3 k).sh.st v) (loopK (fr15_3 k) fun v => F15_3 k m v.1.1 v.1.2.1 v.1.2.2.1 v.2.1 v.2.2.1)).eval := by kernel_rfl
theorem pe15_3 (k m : Nat) (v : (fr15_3 k).sh.V) : (body Try.prog (stepper Try.prog (cfg15 k) lim15) (pl15_3 k) (codeAt (bodyOf Try.f15) [.r, .r, .r, .r, .r, .l, .r, .s, .b, .r, .l, .s, .r, .s, .b]) ((fr15_3 k).sh.st v) (loopK (fr15_3 k) fun v => F15_3 k m v.1.1 v.1.2.1 v.1.2.2.1 v.2.1 v.2.2.1)).left = (body Try.prog (stepper Try.prog (cfg15 k) lim15) (pl15_3 k) (codeAt (bodyOf Try.f15) [.r, .r, .r, .r, .r, .l, .r, .s, .b, .r, .l, .s, .r, .s, .b]) ((fr15_3 k).sh.st v) (loopK (fr15_3 k) fun v => F15_3 k m v.1.1 v.1.2.1 v.1.2.2.1 v.2.1 v.2.2.1)).right := by kernel_rfl
theorem fr15_3_ok (k : Nat) : FragOK Try.prog lim15 (fr15_3 k) (codeAt (bodyOf Try.f15) [.r, .r, .r, .r, .r, .l, .r, .s, .b, .r, .l, .s, .r, .s]) :=
  frag_cast (by kernel_rfl) (loop_ok (cfg15_ok k) (Eq.mpr (pq15_3 k) ⟨(planOK_go _), ⟨⟨(planOK_go _), (fr15_2_ok k)⟩, (planOK_go _)⟩⟩) (fun m v => F15_3 k m v.1.1 v.1.2.1 v.1.2.2.1 v.2.1 v.2.2.1) k (fun _ => rfl) (fun _ => rfl) fun m v => ⟨ps15_3 k m v, pe15_3 k m v⟩)
def pl15_4 (k : Nat) : Plan := (.seq .go (.seq (.sub (.seq .go (.sub (.frag (fr15_3 k))))) .go))
theorem pq15_4 (k : Nat) : PlanOK Try.prog lim15 (pl15_4 k) (codeAt (bodyOf Try.f15) [.r, .r, .r, .r, .r, .l, .r, .s, .b]) = (PlanOK Try.prog lim15 .go (codeAt (bodyOf Try.f15) [.r, .r, .r, .r, .r, .l, .r, .s, .b, .l]) ∧ ((PlanOK Try.prog lim15 .go (codeAt (bodyOf Try.f15) [.r, .r, .r, .r, .r, .l, .r, .s, .b, .r, .l, .s, .l]) ∧ FragOK Try.prog lim15 (fr15_3 k) (codeAt (bodyOf Try.f15) [.r, .r, .r, .r, .r, .l, .r, .s, .b, .r, .l, .s, .r, .s])) ∧ PlanOK Try.prog lim15 .go (codeAt (bodyOf Try.f15) [.r, .r, .r, .r, .r, .l, .r, .s, .b, .r, .r]))) := by kernel_rfl
theorem ps15_4 (k m : Nat) (v : (fr15_4 k).sh.V) : F15_4 k (m + 1) v.1.1 v.1.2.1 v.2.1 v.2.2.1 = (body Try.prog (stepper Try.prog (cfg15 k) lim15) (pl15_4 k) (codeAt (bodyOf Try.f15) [.r, .r, .r, .r, .r, .l, .r, .s, .b]) ((fr15_4 k).sh.st v) (loopK (fr15_4 k) fun v => F15_4 k m v.1.1 v.1.2.1 v.2.1 v.2.2.1)).eval := by kernel_rfl
theorem pe15_4 (k m : Nat) (v : (fr15_4 k).sh.V) : (body Try.prog (stepper Try.prog (cfg15 k) lim15) (pl15_4 k) (codeAt (bodyOf Try.f15) [.r, .r, .r, .r, .r, .l, .r, .s, .b]) ((fr15_4 k).sh.st v) (loopK (fr15_4 k) fun v => F15_4 k m v.1.1 v.1.2.1 v.2.1 v.2.2.1)).left = (body Try.prog (stepper Try.prog (cfg15 k) lim15) (pl15_4 k) (codeAt (bodyOf Try.f15) [.r, .r, .r, .r, .r, .l, .r, .s, .b]) ((fr15_4 k).sh.st v) (loopK (fr15_4 k) fun v => F15_4 k m v.1.1 v.1.2.1 v.2.1 v.2.2.1)).right := by kernel_rfl
theorem fr15_4_ok (k : Nat) : FragOK Try.prog lim15 (fr15_4 k) (codeAt (bodyOf Try.f15) [.r, .r, .r, .r, .r, .l, .r, .s]) :=
  frag_cast (by kernel_rfl) (loop_ok (cfg15_ok k) (Eq.mpr (pq15_4 k) ⟨(planOK_go _), ⟨⟨(planOK_go _), (fr15_3_ok k)⟩, (planOK_go _)⟩⟩) (fun m v => F15_4 k m v.1.1 v.1.2.1 v.2.1 v.2.2.1) k (fun _ => rfl) (fun _ => rfl) fun m v => ⟨ps15_4 k m v, pe15_4 k m v⟩)
def pl15_5 (k : Nat) : Plan := .go
theorem pq15_5 (k : Nat) : PlanOK Try.prog lim15 (pl15_5 k) (codeAt (bodyOf Try.f15) [.r, .r, .r, .r, .r, .r, .l, .r, .s, .b]) = PlanOK Try.prog lim15 .go (codeAt (bodyOf Try.f15) [.r, .r, .r, .r, .r, .r, .l, .r, .s, .b]) := by kernel_rfl
theorem ps15_5 (k m : Nat) (v : (fr15_5 k).sh.V) : F15_5 k (m + 1) v.1.1 v.2.1 v.2.2.1 = (body Try.prog (stepper Try.prog (cfg15 k) lim15) (pl15_5 k) (codeAt (bodyOf Try.f15) [.r, .r, .r, .r, .r, .r, .l, .r, .s, .b]) ((fr15_5 k).sh.st v) (loopK (fr15_5 k) fun v => F15_5 k m v.1.1 v.2.1 v.2.2.1)).eval := by kernel_rfl
theorem pe15_5 (k m : Nat) (v : (fr15_5 k).sh.V) : (body Try.prog (stepper Try.prog (cfg15 k) lim15) (pl15_5 k) (codeAt (bodyOf Try.f15) [.r, .r, .r, .r, .r, .r, .l, .r, .s, .b]) ((fr15_5 k).sh.st v) (loopK (fr15_5 k) fun v => F15_5 k m v.1.1 v.2.1 v.2.2.1)).left = (body Try.prog (stepper Try.prog (cfg15 k) lim15) (pl15_5 k) (codeAt (bodyOf Try.f15) [.r, .r, .r, .r, .r, .r, .l, .r, .s, .b]) ((fr15_5 k).sh.st v) (loopK (fr15_5 k) fun v => F15_5 k m v.1.1 v.2.1 v.2.2.1)).right := by kernel_rfl
theorem fr15_5_ok (k : Nat) : FragOK Try.prog lim15 (fr15_5 k) (codeAt (bodyOf Try.f15) [.r, .r, .r, .r, .r, .r, .l, .r, .s]) :=
  frag_cast (by kernel_rfl) (loop_ok (cfg15_ok k) (Eq.mpr (pq15_5 k) (planOK_go _)) (fun m v => F15_5 k m v.1.1 v.2.1 v.2.2.1) k (fun _ => rfl) (fun _ => rfl) fun m v => ⟨ps15_5 k m v, pe15_5 k m v⟩)
def pl15 (k : Nat) : Plan := (.seq .go (.seq .go (.seq .go (.seq (.seq .go (.sub (.frag (fr15_0 k)))) (.seq (.seq .go (.sub (.frag (fr15_1 k)))) (.seq (.seq .go (.sub (.frag (fr15_4 k)))) (.seq (.seq .go (.sub (.frag (fr15_5 k)))) .go)))))))
theorem pq15 (k : Nat) : PlanOK Try.prog lim15 (pl15 k) (codeAt (bodyOf Try.f15) []) = (PlanOK Try.prog lim15 .go (codeAt (bodyOf Try.f15) [.l]) ∧ (PlanOK Try.prog lim15 .go (codeAt (bodyOf Try.f15) [.r, .l]) ∧ (PlanOK Try.prog lim15 .go (codeAt (bodyOf Try.f15) [.r, .r, .l]) ∧ ((PlanOK Try.prog lim15 .go (codeAt (bodyOf Try.f15) [.r, .r, .r, .l, .l]) ∧ FragOK Try.prog lim15 (fr15_0 k) (codeAt (bodyOf Try.f15) [.r, .r, .r, .l, .r, .s])) ∧ ((PlanOK Try.prog lim15 .go (codeAt (bodyOf Try.f15) [.r, .r, .r, .r, .l, .l]) ∧ FragOK Try.prog lim15 (fr15_1 k) (codeAt (bodyOf Try.f15) [.r, .r, .r, .r, .l, .r, .s])) ∧ ((PlanOK Try.prog lim15 .go (codeAt (bodyOf Try.f15) [.r, .r, .r, .r, .r, .l, .l]) ∧ FragOK Try.prog lim15 (fr15_4 k) (codeAt (bodyOf Try.f15) [.r, .r, .r, .r, .r, .l, .r, .s])) ∧ ((PlanOK Try.prog lim15 .go (codeAt (bodyOf Try.f15) [.r, .r, .r, .r, .r, .r, .l, .l]) ∧ FragOK Try.prog lim15 (fr15_5 k) (codeAt (bodyOf Try.f15) [.r, .r, .r, .r, .r, .r, .l, .r, .s])) ∧ PlanOK Try.prog lim15 .go (codeAt (bodyOf Try.f15) [.r, .r, .r, .r, .r, .r, .r])))))))) := by kernel_rfl
theorem ev15 (k : Nat) (x : AT (sp15 k).ps) : (sp15 k).impl x = (fnT Try.prog (cfg15 k) lim15 Try.f15 (bodyOf Try.f15) (pl15 k) (sp15 k) x).eval := by kernel_rfl
theorem eq15 (k : Nat) (x : AT (sp15 k).ps) : (fnT Try.prog (cfg15 k) lim15 Try.f15 (bodyOf Try.f15) (pl15 k) (sp15 k) x).left = (fnT Try.prog (cfg15 k) lim15 Try.f15 (bodyOf Try.f15) (pl15 k) (sp15 k) x).right := by kernel_rfl
theorem v15 (k : Nat) : Callable Try.prog 15 ∧ Valid Try.prog 15 (sp15 k) :=
  fn_ok (cfg15_ok k) (f := 15) (fn := Try.f15) (by kernel_rfl) (c := bodyOf Try.f15) (by kernel_rfl) (by kernel_rfl) rfl rfl (Nat.le_of_ble_eq_true rfl) (Nat.le_of_ble_eq_true rfl) (p := pl15 k) (Eq.mpr (pq15 k) ⟨(planOK_go _), ⟨(planOK_go _), ⟨(planOK_go _), ⟨⟨(planOK_go _), (fr15_0_ok k)⟩, ⟨⟨(planOK_go _), (fr15_1_ok k)⟩, ⟨⟨(planOK_go _), (fr15_4_ok k)⟩, ⟨⟨(planOK_go _), (fr15_5_ok k)⟩, (planOK_go _)⟩⟩⟩⟩⟩⟩⟩) fun x => ⟨ev15 k x, eq15 k x⟩
/-! f36 hyphen/hyphenref8.cost -/
def F36_0 (k : Nat) : Nat → Int → Int → Int → TY23 → Option ((Unit × Unit) ⊕ TY55)
  | 0, _, _, _, _ => none
  | n + 1, t1, t2, t8, c3 =>
    let x5 := (decide (t8 < ((List.length c3.2.2.2.1 : Nat) : Int)))
    bif x5 then
      if 0 ≤ t8 ∧ t8 < ((List.length c3.2.2.2.1 : Nat) : Int) then
        let x6 := (List.getD c3.2.2.2.1 (Int.toNat t8) ((0 : Int), ((0 : Int), ((0 : Int), ()))))
        bif (x6.1 == t1) then
          if 0 ≤ t8 ∧ t8 < ((List.length c3.2.2.2.1 : Nat) : Int) then
            let x7 := (List.getD c3.2.2.2.1 (Int.toNat t8) ((0 : Int), ((0 : Int), ((0 : Int), ()))))
            bif (x7.2.1 == t2) then
              if 0 ≤ t8 ∧ t8 < ((List.length c3.2.2.2.1 : Nat) : Int) then
                let x8 := (List.getD c3.2.2.2.1 (Int.toNat t8) ((0 : Int), ((0 : Int), ((0 : Int), ()))))
                some (.inr ((x8.2.2.1, true, ()), ()))
              else none
            else
              (F36_0 k n t1 t2 (IntKind.wrap .i64 (t8 + (1 : Int))) c3).bind some
          else none
        else
          (F36_0 k n t1 t2 (IntKind.wrap .i64 (t8 + (1 : Int))) c3).bind some
      else none
    else
      some (.inl ((), ()))
def fr36_0 (k : Nat) : Frag := ⟨⟨[], [(1, .val (.int .i64)), (2, .val (.int .i64)), (3, .ptr 3 []), (8, .val (.int .i64))], [(3, some 28, KD5)]⟩, [(.exit 0, ⟨[], [], []⟩), (.ret, ⟨[], [(6, .val (.int .i64)), (7, .val .bool)], []⟩)], fun v => F36_0 k k v.1.1 v.1.2.1 v.1.2.2.1 v.2.1⟩
def F36 (k : Nat) (a0 : TY23) (a1 : Int) (a2 : Int) : Option TY55 :=
  (F36_0 k k a1 a2 (0 : Int) a0).bind fun r9 =>
  match r9 with
  | .inl r10 =>
    some (((0 : Int), false, ()), ())
  | .inr r10 =>
    let y11 := r10.1.1
    let y12 := r10.1.2.1
    some ((y11, y12, ()), ())
def sp36 (k : Nat) : Spec := ⟨[.val KD5, .val (.int .i64), .val (.int .i64)], [.val (.int .i64), .val .bool], fun x => F36 k x.1 x.2.1 x.2.2.1⟩
def lim36 : Lim := ⟨40, 3, false, false, []⟩
def cfg36 (k : Nat) : Nat → Option Spec := cfgL []
theorem cfg36_ok (k : Nat) : CfgOK Try.prog (cfg36 k) := cfgL_nil
def pl36_0 (k : Nat) : Plan := .go
theorem pq36_0 (k : Nat) : PlanOK Try.prog lim36 (pl36_0 k) (codeAt (bodyOf Try.f36) [.r, .l, .r, .s, .b]) = PlanOK Try.prog lim36 .go (codeAt (bodyOf Try.f36) [.r, .l, .r, .s, .b]) := by kernel_rfl
theorem ps36_0 (k m : Nat) (v : (fr36_0 k).sh.V) : F36_0 k (m + 1) v.1.1 v.1.2.1 v.1.2.2.1 v.2.1 = (body Try.prog (stepper Try.prog (cfg36 k) lim36) (pl36_0 k) (codeAt (bodyOf Try.f36) [.r, .l, .r, .s, .b]) ((fr36_0 k).sh.st v) (loopK (fr36_0 k) fun v => F36_0 k m v.1.1 v.1.2.1 v.1.2.2.1 v.2.1)).eval := by kernel_rfl
theorem pe36_0 (k m : Nat) (v : (fr36_0 k).sh.V) : (body Try.prog (stepper Try.prog (cfg36 k) lim36) (pl36_0 k) (codeAt (bodyOf Try.f36) [.r, .l, .r, .s, .b]) ((fr36_0 k).sh.st v) (loopK (fr36_0 k) fun v => F36_0 k m v.1.1 v.1.2.1 v.1.2.2.1 v.2.1)).left = (body Try.prog (stepper Try.prog (cfg36 k) lim36) (pl36_0 k) (codeAt (bodyOf Try.f36) [.r, .l, .r, .s, .b]) ((fr36_0 k).sh.st v) (loopK (fr36_0 k) fun v => F36_0 k m v.1.1 v.1.2.1 v.1.2.2.1 v.2.1)).right := by kernel_rfl
theorem fr36_0_ok (k : Nat) : FragOK Try.prog lim36 (fr36_0 k) (codeAt (bodyOf Try.f36) [.r, .l, .r, .s]) :=
  frag_cast (by kernel_rfl) (loop_ok (cfg36_ok k) (Eq.mpr (pq36_0 k) (planOK_go _)) (fun m v => F36_0 k m v.1.1 v.1.2.1 v.1.2.2.1 v.2.1) k (fun _ => rfl) (fun _ => rfl) fun m v => ⟨ps36_0 k m v, pe36_0 k m v⟩)
def pl36 (k : Nat) : Plan := (.seq .go (.seq (.seq .go (.sub (.frag (fr36_0 k)))) .go))
theorem pq36 (k : Nat) : PlanOK Try.prog lim36 (pl36 k) (codeAt (bodyOf Try.f36) []) = (PlanOK Try.prog lim36 .go (codeAt (bodyOf Try.f36) [.l]) ∧ ((PlanOK Try.prog lim36 .go (codeAt (bodyOf Try.f36) [.r, .l, .l]) ∧ FragOK Try.prog lim36 (fr36_0 k) (codeAt (bodyOf Try.f36) [.r, .l, .r, .s])) ∧ PlanOK Try.prog lim36 .go (codeAt (bodyOf Try.f36) [.r, .r]))) := by kernel_rfl
theorem ev36 (k : Nat) (x : AT (sp36 k).ps) : (sp36 k).impl x = (fnT Try.prog (cfg36 k) lim36 Try.f36 (bodyOf Try.f36) (pl36 k) (sp36 k) x).eval := by kernel_rfl
theorem eq36 (k : Nat) (x : AT (sp36 k).ps) : (fnT Try.prog (cfg36 k) lim36 Try.f36 (bodyOf Try.f36) (pl36 k) (sp36 k) x).left = (fnT Try.prog (cfg36 k) lim36 Try.f36 (bodyOf Try.f36) (pl36 k) (sp36 k) x).right := by kernel_rfl
theorem v36 (k : Nat) : Callable Try.prog 36 ∧ Valid Try.prog 36 (sp36 k) :=
  fn_ok (cfg36_ok k) (f := 36) (fn := Try.f36) (by kernel_rfl) (c := bodyOf Try.f36) (by kernel_rfl) (by kernel_rfl) rfl rfl (Nat.le_of_ble_eq_true rfl) (Nat.le_of_ble_eq_true rfl) (p := pl36 k) (Eq.mpr (pq36 k) ⟨(planOK_go _), ⟨⟨(planOK_go _), (fr36_0_ok k)⟩, (planOK_go _)⟩⟩) fun x => ⟨ev36 k x, eq36 k x⟩
/-! f16 hyphen/hyphenref8.Check -/
def F16_0 (k : Nat) : Nat → (List Int) → Int → Int → TY23 → Option ((((List Int) × Int × Unit) × Unit) ⊕ TY55)
  | 0, _, _, _, _ => none
  | n + 1, t1, t6, t7, c2 =>
    let x5 := (decide (t7 < ((List.length t1 : Nat) : Int)))
    bif x5 then
      if 0 ≤ t7 ∧ t7 < ((List.length t1 : Nat) : Int) then
        if ((List.length t1 : Nat) : Int) ≠ 0 then
          let x6 := (Int.tmod (IntKind.wrap .i64 (t7 + (1 : Int))) ((List.length t1 : Nat) : Int))
          if 0 ≤ x6 ∧ x6 < ((List.length t1 : Nat) : Int) then
            (F36 k c2 (List.getD t1 (Int.toNat t7) (0 : Int)) (List.getD t1 (Int.toNat x6) (0 : Int))).bind fun r7 =>
            bif (!r7.1.2.1) then
              some (.inr (((0 : Int), false, ()), ()))
            else
              (F37 k t6 r7.1.1).bind fun r8 =>
              (F16_0 k n t1 r8.1.1 (IntKind.wrap .i64 (t7 + (1 : Int))) c2).bind some
          else none
        else none
      else none
    else
      some (.inl ((t1, t6, ()), ()))
def fr16_0 (k : Nat) : Frag := ⟨⟨[], [(1, .val KD52), (2, .ptr 2 []), (6, .val (.int .i64)), (7, .val (.int .i64))], [(2, some 28, KD5)]⟩, [(.exit 0, ⟨[], [(1, .val KD52), (6, .val (.int .i64))], []⟩), (.ret, ⟨[], [(4, .val (.int .i64)), (5, .val .bool)], []⟩)], fun v => F16_0 k k v.1.1 v.1.2.1 v.1.2.2.1 v.2.1⟩
def F16 (k : Nat) (a0 : TY23) (a1 : (List Int)) : Option TY55 :=
  (F16_0 k k a1 (0 : Int) (0 : Int) a0).bind fun r9 =>
  match r9 with
  | .inl r10 =>
    let y11 := r10.1.1
    let y12 := r10.1.2.1
    let x13 := (decide (((List.length y11 : Nat) : Int) > (0 : Int)))
    some ((y12, x13, ()), ())
  | .inr r10 =>
    let y14 := r10.1.1
    let y15 := r10.1.2.1
    some ((y14, y15, ()), ())
def sp16 (k : Nat) : Spec := ⟨[.val KD5, .val KD52], [.val (.int .i64), .val .bool], fun x => F16 k x.1 x.2.1⟩
def lim16 : Lim := ⟨42, 2, false, false, []⟩
def cfg16 (k : Nat) : Nat → Option Spec := cfgL [(36, sp36 k), (37, sp37 k)]
theorem cfg16_ok (k : Nat) : CfgOK Try.prog (cfg16 k) := cfgL_cons (v36 k) (cfgL_cons (v37 k) (cfgL_nil))
def pl16_0 (k : Nat) : Plan := .go
theorem pq16_0 (k : Nat) : PlanOK Try.prog lim16 (pl16_0 k) (codeAt (bodyOf Try.f16) [.r, .r, .l, .r, .s, .b]) = PlanOK Try.prog lim16 .go (codeAt (bodyOf Try.f16) [.r, .r, .l, .r, .s, .b]) := by kernel_rfl
theorem ps16_0 (k m : Nat) (v : (fr16_0 k).sh.V) : F16_0 k (m + 1) v.1.1 v.1.2.1 v.1.2.2.1 v.2.1 = (body Try.prog (stepper Try.prog (cfg16 k) lim16) (pl16_0 k) (codeAt (bodyOf Try.f16) [.r, .r, .l, .r, .s, .b]) ((fr16_0 k).sh.st v) (loopK (fr16_0 k) fun v => F16_0 k m v.1.1 v.1.2.1 v.1.2.2.1 v.2.1)).eval := by kernel_rfl
theorem pe16_0 (k m : Nat) (v : (fr16_0 k).sh.V) : (body Try.prog (stepper Try.prog (cfg16 k) lim16) (pl16_0 k) (codeAt (bodyOf Try.f16) [.r, .r, .l, .r, .s, .b]) ((fr16_0 k).sh.st v) (loopK (fr16_0 k) fun v => F16_0 k m v.1.1 v.1.2.1 v.1.2.2.1 v.2.1)).left = (body Try.prog (stepper Try.prog (cfg16 k) lim16) (pl16_0 k) (codeAt (bodyOf Try.f16) [.r, .r, .l, .r, .s, .b]) ((fr16_0 k).sh.st v) (loopK (fr16_0 k) fun v => F16_0 k m v.1.1 v.1.2.1 v.1.2.2.1 v.2.1)).right := by kernel_rfl
theorem fr16_0_ok (k : Nat) : FragOK Try.prog lim16 (fr16_0 k) (codeAt (bodyOf Try.f16) [.r, .r, .l, .r, .s]) :=
  frag_cast (by kernel_rfl) (loop_ok (cfg16_ok k) (Eq.mpr (pq16_0 k) (planOK_go _)) (fun m v => F16_0 k m v.1.1 v.1.2.1 v.1.2.2.1 v.2.1) k (fun _ => rfl) (fun _ => rfl) fun m v => ⟨ps16_0 k m v, pe16_0 k m v⟩)
def pl16 (k : Nat) : Plan := (.seq .go (.seq .go (.seq (.seq .go (.sub (.frag (fr16_0 k)))) .go)))
theorem pq16 (k : Nat) : PlanOK Try.prog lim16 (pl16 k) (codeAt (bodyOf Try.f16) []) = (PlanOK Try.prog lim16 .go (codeAt (bodyOf Try.f16) [.l]) ∧ (PlanOK Try.prog lim16 .go (codeAt (bodyOf Try.f16) [.r, .l]) ∧ ((PlanOK Try.prog lim16 .go (codeAt (bodyOf Try.f16) [.r, .r, .l, .l]) ∧ FragOK Try.prog lim16 (fr16_0 k) (codeAt (bodyOf Try.f16) [.r, .r, .l, .r, .s])) ∧ PlanOK Try.prog lim16 .go (codeAt (bodyOf Try.f16) [.r, .r, .r])))) := by kernel_rfl
theorem ev16 (k : Nat) (x : AT (sp16 k).ps) : (sp16 k).impl x = (fnT Try.prog (cfg16 k) lim16 Try.f16 (bodyOf Try.f16) (pl16 k) (sp16 k) x).eval := by kernel_rfl
theorem eq16 (k : Nat) (x : AT (sp16 k).ps) : (fnT Try.prog (cfg16 k) lim16 Try.f16 (bodyOf Try.f16) (pl16 k) (sp16 k) x).left = (fnT Try.prog (cfg16 k) lim16 Try.f16 (bodyOf Try.f16) (pl16 k) (sp16 k) x).right := by kernel_rfl
theorem v16 (k : Nat) : Callable Try.prog 16 ∧ Valid Try.prog 16 (sp16 k) :=
  fn_ok (cfg16_ok k) (f := 16) (fn := Try.f16) (by kernel_rfl) (c := bodyOf Try.f16) (by kernel_rfl) (by kernel_rfl) rfl rfl (Nat.le_of_ble_eq_true rfl) (Nat.le_of_ble_eq_true rfl) (p := pl16 k) (Eq.mpr (pq16 k) ⟨(planOK_go _), ⟨(planOK_go _), ⟨⟨(planOK_go _), (fr16_0_ok k)⟩, (planOK_go _)⟩⟩⟩) fun x => ⟨ev16 k x, eq16 k x⟩
/-! f3 hyphen/hyphenlaw8.TwinAll -/
def F3_0 (k : Nat) : Nat → Int → Bool → Int → Bool → Int → Int → (List Int) → Option (((Int × Bool × Int × Bool × Int × Unit) × TY62) ⊕ TY60)
  | 0, _, _, _, _, _, _, _ => none
  | n + 1, t9, t10, t11, t12, t13, t14, c1000592 =>
    bif (decide (t14 < t13)) then
      if 0 ≤ t13 ∧ t13 < ((List.length c1000592 : Nat) : Int) then
        let x14 := (List.getD c1000592 (Int.toNat t13) (0 : Int))
        if 0 ≤ t14 ∧ t14 < ((List.length c1000592 : Nat) : Int) then
          let x15 := (List.getD c1000592 (Int.toNat t14) (0 : Int))
          bif (x14 == x15) then
            some (.inr ((false, ()), ()))
          else
            (F3_0 k n t9 t10 t11 t12 t13 (IntKind.wrap .i64 (t14 + (1 : Int))) c1000592).bind some
        else none
      else none
    else
      some (.inl ((t9, t10, t11, t12, t13, ()), (c1000592, ())))
def fr3_0 (k : Nat) : Frag := ⟨⟨[], [(7, .at 1000592 []), (9, .val (.int .i64)), (10, .val .bool), (11, .val (.int .i64)), (12, .val .bool), (13, .val (.int .i64)), (14, .val (.int .i64))], [(1000592, none, KD53)]⟩, [(.exit 2, ⟨[], [(7, .at 1000592 []), (9, .val (.int .i64)), (10, .val .bool), (11, .val (.int .i64)), (12, .val .bool), (13, .val (.int .i64))], [(1000592, none, KD53)]⟩), (.ret, ⟨[], [(4, .val .bool)], []⟩)], fun v => F3_0 k k v.1.1 v.1.2.1 v.1.2.2.1 v.1.2.2.2.1 v.1.2.2.2.2.1 v.1.2.2.2.2.2.1 v.2.1⟩
def F3_1 (k : Nat) : Nat → Int → Bool → Int → Bool → Int → (List Int) → Option (((Int × Bool × Int × Bool × Unit) × Unit) ⊕ TY60)
  | 0, _, _, _, _, _, _ => none
  | n + 1, t9, t10, t11, t12, t13, c1000592 =>
    let x25 := (decide (t13 < ((List.length c1000592 : Nat) : Int)))
    bif x25 then
      (F3_0 k k t9 t10 t11 t12 t13 (0 : Int) c1000592).bind fun r26 =>
      match r26 with
      | .inl r27 =>
        let y28 := r27.1.1
        let y29 := r27.1.2.1
        let y30 := r27.1.2.2.1
        let y31 := r27.1.2.2.2.1
        let y32 := r27.1.2.2.2.2.1
        let y33 := r27.2.1
        (F3_1 k n y28 y29 y30 y31 (IntKind.wrap .i64 (y32 + (1 : Int))) y33).bind some
      | .inr r27 =>
        let y34 := r27.1.1
        some (.inr ((y34, ()), ()))
    else
      some (.inl ((t9, t10, t11, t12, ()), ()))
def fr3_1 (k : Nat) : Frag := ⟨⟨[], [(7, .at 1000592 []), (9, .val (.int .i64)), (10, .val .bool), (11, .val (.int .i64)), (12, .val .bool), (13, .val (.int .i64))], [(1000592, none, KD53)]⟩, [(.exit 0, ⟨[], [(9, .val (.int .i64)), (10, .val .bool), (11, .val (.int .i64)), (12, .val .bool)], []⟩), (.ret, ⟨[], [(4, .val .bool)], []⟩)], fun v => F3_1 k k v.1.1 v.1.2.1 v.1.2.2.1 v.1.2.2.2.1 v.1.2.2.2.2.1 v.2.1⟩
def F3 (k : Nat) (a0 : TY49) (a1 : (List Int)) : Option TY60 :=
  (F11 k).bind fun r1 =>
  bif (!r1.1.1) then
    some ((false, ()), ())
  else
    (F12 k a0).bind fun r2 =>
    bif (!r2.1.1) then
      some ((true, ()), ())
    else
      let x3 := (((List.length a0 : Nat) : Int) == (0 : Int))
      bif x3 then
        some ((true, ()), ())
      else
        if 0 ≤ (0 : Int) ∧ (0 : Int) < ((List.length a0 : Nat) : Int) then
          let x4 := (List.getD a0 (Int.toNat (0 : Int)) (Tree.mk ((0 : Int), ((0 : Int), ())) []))
          (F13 k x4 a1).bind fun r5 =>
          bif (!r5.1.2.1) then
            some ((true, ()), ())
          else
            (F14 k r5.1.1).bind fun r6 =>
            (F15 k r5.1.1).bind fun r7 =>
            bif (!(r6.1.2.1 == r7.1.1)) then
              some ((false, ()), ())
            else
              bif (!r6.1.2.1) then
                let x8 := (((List.length r6.1.1 : Nat) : Int) == (0 : Int))
                some ((x8, ()), ())
              else
                (F16 k r5.1.1 r6.1.1).bind fun r9 =>
                (F17 k r5.1.1 r6.1.1).bind fun r10 =>
                (F3_1 k k r9.1.1 r9.1.2.1 r10.1.1 r10.1.2.1 (0 : Int) r6.1.1).bind fun r35 =>
                match r35 with
                | .inl r36 =>
                  let y37 := r36.1.1
                  let y38 := r36.1.2.1
                  let y39 := r36.1.2.2.1
                  let y40 := r36.1.2.2.2.1
                  bif y38 then
                    bif (decide (y37 > (0 : Int))) then
                      bif y40 then
                        some (((y39 == y37), ()), ())
                      else
                        some ((false, ()), ())
                    else
                      some ((false, ()), ())
                  else
                    some ((false, ()), ())
                | .inr r36 =>
                  let y41 := r36.1.1
                  some ((y41, ()), ())
        else none
def sp3 (k : Nat) : Spec := ⟨[.val KD42, .val KD52], [.val .bool], fun x => F3 k x.1 x.2.1⟩
def lim3 : Lim := ⟨94, 2, false, false, []⟩
def cfg3 (k : Nat) : Nat → Option Spec := cfgL [(11, sp11 k), (12, sp12 k), (13, sp13 k), (14, sp14 k), (15, sp15 k), (16, sp16 k), (17, sp17 k)]
theorem cfg3_ok (k : Nat) : CfgOK Try.prog (cfg3 k) := cfgL_cons (v11 k) (cfgL_cons (v12 k) (cfgL_cons (v13 k) (cfgL_cons (v14 k) (cfgL_cons (v15 k) (cfgL_cons (v16 k) (cfgL_cons (v17 k) (cfgL_nil)))))))
def pl3_0 (k : Nat) : Plan := .go
theorem pq3_0 (k : Nat) : PlanOK Try.prog lim3 (pl3_0 k) (codeAt (bodyOf Try.f3) [.r, .r, .r, .r, .r, .r, .r, .r, .r, .r, .l, .r, .s, .b, .r, .l, .s, .r, .s, .b]) = PlanOK Try.prog lim3 .go (codeAt (bodyOf Try.f3) [.r, .r, .r, .r, .r, .r, .r, .r, .r, .r, .l, .r, .s, .b, .r, .l, .s, .r, .s, .b]) := by kernel_rfl
theorem ps3_0 (k m : Nat) (v : (fr3_0 k).sh.V) : F3_0 k (m + 1) v.1.1 v.1.2.1 v.1.2.2.1 v.1.2.2.2.1 v.1.2.2.2.2.1 v.1.2.2.2.2.2.1 v.2.1 = (body Try.prog (stepper Try.prog (cfg3 k) lim3) (pl3_0 k) (codeAt (bodyOf Try.f3) [.r, .r, .r, .r, .r, .r, .r, .r, .r, .r, .l, .r, .s, .b, .r, .l, .s, .r, .s, .b]) ((fr3_0 k).sh.st v) (loopK (fr3_0 k) fun v => F3_0 k m v.1.1 v.1.2.1 v.1.2.2.1 v.1.2.2.2.1 v.1.2.2.2.2.1 v.1.2.2.2.2.2.1 v.2.1)).eval := by kernel_rfl
theorem pe3_0 (k m : Nat) (v : (fr3_0 k).sh.V) : (body Try.prog (stepper Try.prog (cfg3 k) lim3) (pl3_0 k) (codeAt (bodyOf Try.f3) [.r, .r, .r, .r, .r, .r, .r, .r, .r, .r, .l, .r, .s, .b, .r, .l, .s, .r, .s, .b]) ((fr3_0 k).sh.st v) (loopK (fr3_0 k) fun v => F3_0 k m v.1.1 v.1.2.1 v.1.2.2.1 v.1.2.2.2.1 v.1.2.2.2.2.1 v.1.2.2.2.2.2.1 v.2.1)).left = (body Try.prog (stepper Try.prog (cfg3 k) lim3) (pl3_0 k) (codeAt (bodyOf Try.f3) [.r, .r, .r, .r, .r, .r, .r, .r, .r, .r, .l, .r, .s, .b, .r, .l, .s, .r, .s, .b]) ((fr3_0 k).sh.st v) (loopK (fr3_0 k) fun v => F3_0 k m v.1.1 v.1.2.1 v.1.2.2.1 v.1.2.2.2.1 v.1.2.2.2.2.1 v.1.2.2.2.2.2.1 v.2.1)).right := by kernel_rfl
theorem fr3_0_ok (k : Nat) : FragOK Try.prog lim3 (fr3_0 k) (codeAt (bodyOf Try.f3) [.r, .r, .r, .r, .r, .r, .r, .r, .r, .r, .l, .r, .s, .b, .r, .l, .s, .r, .s]) :=
  frag_cast (by kernel_rfl) (loop_ok (cfg3_ok k) (Eq.mpr (pq3_0 k) (planOK_go _)) (fun m v => F3_0 k m v.1.1 v.1.2.1 v.1.2.2.1 v.1.2.2.2.1 v.1.2.2.2.2.1 v.1.2.2.2.2.2.1 v.2.1) k (fun _ => rfl) (fun _ => rfl) fun m v => ⟨ps3_0 k m v, pe3_0 k m v⟩)
def pl3_1 (k : Nat) : Plan := (.seq .go (.seq (.sub (.seq .go (.sub (.frag (fr3_0 k))))) .go))
theorem pq3_1 (k : Nat) : PlanOK Try.prog lim3 (pl3_1 k) (codeAt (bodyOf Try.f3) [.r, .r, .r, .r, .r, .r, .r, .r, .r, .r, .l, .r, .s, .b]) = (PlanOK Try.prog lim3 .go (codeAt (bodyOf Try.f3) [.r, .r, .r, .r, .r, .r, .r, .r, .r, .r, .l, .r, .s, .b, .l]) ∧ ((PlanOK Try.prog lim3 .go (codeAt (bodyOf Try.f3) [.r, .r, .r, .r, .r, .r, .r, .r, .r, .r, .l, .r, .s, .b, .r, .l, .s, .l]) ∧ FragOK Try.prog lim3 (fr3_0 k) (codeAt (bodyOf Try.f3) [.r, .r, .r, .r, .r, .r, .r, .r, .r, .r, .l, .r, .s, .b, .r, .l, .s, .r, .s])) ∧ PlanOK Try.prog lim3 .go (codeAt (bodyOf Try.f3) [.r, .r, .r, .r, .r, .r, .r, .r, .r, .r, .l, .r, .s, .b, .r, .r]))) := by kernel_rfl
theorem ps3_1 (k m : Nat) (v : (fr3_1 k).sh.V) : F3_1 k (m + 1) v.1.1 v.1.2.1 v.1.2.2.1 v.1.2.2.2.1 v.1.2.2.2.2.1 v.2.1 = (body Try.prog (stepper Try.prog (cfg3 k) lim3) (pl3_1 k) (codeAt (bodyOf Try.f3) [.r, .r, .r, .r, .r, .r, .r, .r, .r, .r, .l, .r, .s, .b]) ((fr3_1 k).sh.st v) (loopK (fr3_1 k) fun v => F3_1 k m v.1.1 v.1.2.1 v.1.2.2.1 v.1.2.2.2.1 v.1.2.2.2.2.1 v.2.1)).eval := by kernel_rfl
theorem pe3_1 (k m : Nat) (v : (fr3_1 k).sh.V) : (body Try.prog (stepper Try.prog (cfg3 k) lim3) (pl3_1 k) (codeAt (bodyOf Try.f3) [.r, .r, .r, .r, .r, .r, .r, .r, .r, .r, .l, .r, .s, .b]) ((fr3_1 k).sh.st v) (loopK (fr3_1 k) fun v => F3_1 k m v.1.1 v.1.2.1 v.1.2.2.1 v.1.2.2.2.1 v.1.2.2.2.2.1 v.2.1)).left = (body Try.prog (stepper Try.prog (cfg3 k) lim3) (pl3_1 k) (codeAt (bodyOf Try.f3) [.r, .r, .r, .r, .r, .r, .r, .r, .r, .r, .l, .r, .s, .b]) ((fr3_1 k).sh.st v) (loopK (fr3_1 k) fun v => F3_1 k m v.1.1 v.1.2.1 v.1.2.2.1 v.1.2.2.2.1 v.1.2.2.2.2.1 v.2.1)).right := by kernel_rfl
theorem fr3_1_ok (k : Nat) : FragOK Try.prog lim3 (fr3_1 k) (codeAt (bodyOf Try.f3) [.r, .r, .r, .r, .r, .r, .r, .r, .r, .r, .l, .r, .s]) :=
  frag_cast (by kernel_rfl) (loop_ok (cfg3_ok k) (Eq.mpr (pq3_1 k) ⟨(planOK_go _), ⟨⟨(planOK_go _), (fr3_0_ok k)⟩, (planOK_go _)⟩⟩) (fun m v => F3_1 k m v.1.1 v.1.2.1 v.1.2.2.1 v.1.2.2.2.1 v.1.2.2.2.2.1 v.2.1) k (fun _ => rfl) (fun _ => rfl) fun m v => ⟨ps3_1 k m v, pe3_1 k m v⟩)
def pl3 (k : Nat) : Plan := (.seq .go (.seq .go (.seq .go (.seq .go (.seq .go (.seq .go (.seq .go (.seq .go (.seq .go (.seq .go (.seq (.seq .go (.sub (.frag (fr3_1 k)))) .go)))))))))))
theorem pq3 (k : Nat) : PlanOK Try.prog lim3 (pl3 k) (codeAt (bodyOf Try.f3) []) = (PlanOK Try.prog lim3 .go (codeAt (bodyOf Try.f3) [.l]) ∧ (PlanOK Try.prog lim3 .go (codeAt (bodyOf Try.f3) [.r, .l]) ∧ (PlanOK Try.prog lim3 .go (codeAt (bodyOf Try.f3) [.r, .r, .l]) ∧ (PlanOK Try.prog lim3 .go (codeAt (bodyOf Try.f3) [.r, .r, .r, .l]) ∧ (PlanOK Try.prog lim3 .go (codeAt (bodyOf Try.f3) [.r, .r, .r, .r, .l]) ∧ (PlanOK Try.prog lim3 .go (codeAt (bodyOf Try.f3) [.r, .r, .r, .r, .r, .l]) ∧ (PlanOK Try.prog lim3 .go (codeAt (bodyOf Try.f3) [.r, .r, .r, .r, .r, .r, .l]) ∧ (PlanOK Try.prog lim3 .go (codeAt (bodyOf Try.f3) [.r, .r, .r, .r, .r, .r, .r, .l]) ∧ (PlanOK Try.prog lim3 .go (codeAt (bodyOf Try.f3) [.r, .r, .r, .r, .r, .r, .r, .r, .l]) ∧ (PlanOK Try.prog lim3 .go (codeAt (bodyOf Try.f3) [.r, .r, .r, .r, .r, .r, .r, .r, .r, .l]) ∧ ((PlanOK Try.prog lim3 .go (codeAt (bodyOf Try.f3) [.r, .r, .r, .r, .r, .r, .r, .r, .r, .r, .l, .l]) ∧ FragOK Try.prog lim3 (fr3_1 k) (codeAt (bodyOf Try.f3) [.r, .r, .r, .r, .r, .r, .r, .r, .r, .r, .l, .r, .s])) ∧ PlanOK Try.prog lim3 .go (codeAt (bodyOf Try.f3) [.r, .r, .r, .r, .r, .r, .r, .r, .r, .r, .r])))))))))))) := by kernel_rfl
theorem ev3 (k : Nat) (x : AT (sp3 k).ps) : (sp3 k).impl x = (fnT Try.prog (cfg3 k) lim3 Try.f3 (bodyOf Try.f3) (pl3 k) (sp3 k) x).eval := by kernel_rfl
theorem eq3 (k : Nat) (x : AT (sp3 k).ps) : (fnT Try.prog (cfg3 k) lim3 Try.f3 (bodyOf Try.f3) (pl3 k) (sp3 k) x).left = (fnT Try.prog (cfg3 k) lim3 Try.f3 (bodyOf Try.f3) (pl3 k) (sp3 k) x).right := by kernel_rfl
theorem v3 (k : Nat) : Callable Try.prog 3 ∧ Valid Try.prog 3 (sp3 k) :=
  fn_ok (cfg3_ok k) (f := 3) (fn := Try.f3) (by kernel_rfl) (c := bodyOf Try.f3) (by kernel_rfl) (by kernel_rfl) rfl rfl (Nat.le_of_ble_eq_true rfl) (Nat.le_of_ble_eq_true rfl) (p := pl3 k) (Eq.mpr (pq3 k) ⟨(planOK_go _), ⟨(planOK_go _), ⟨(planOK_go _), ⟨(planOK_go _), ⟨(planOK_go _), ⟨(planOK_go _), ⟨(planOK_go _), ⟨(planOK_go _), ⟨(planOK_go _), ⟨(planOK_go _), ⟨⟨(planOK_go _), (fr3_1_ok k)⟩, (planOK_go _)⟩⟩⟩⟩⟩⟩⟩⟩⟩⟩⟩) fun x => ⟨ev3 k x, eq3 k x⟩
/-! f18 hyphen/hyphenlaw8.within -/
def F18 (k : Nat) (a0 : Int) (a1 : Int) : Option TY61 :=
  if a1 ≠ 0 then
    bif (decide ((Int.tmod a0 a1) < (0 : Int))) then
      some (((IntKind.wrap .i64 ((Int.tmod a0 a1) + a1)), ()), ())
    else
      some (((Int.tmod a0 a1), ()), ())
  else none
def sp18 (k : Nat) : Spec := ⟨[.val (.int .i64), .val (.int .i64)], [.val (.int .i64)], fun x => F18 k x.1 x.2.1⟩
def lim18 : Lim := ⟨15, 2, false, false, []⟩
def cfg18 (k : Nat) : Nat → Option Spec := cfgL []
theorem cfg18_ok (k : Nat) : CfgOK Try.prog (cfg18 k) := cfgL_nil
def pl18 (k : Nat) : Plan := .go
theorem pq18 (k : Nat) : PlanOK Try.prog lim18 (pl18 k) (codeAt (bodyOf Try.f18) []) = PlanOK Try.prog lim18 .go (codeAt (bodyOf Try.f18) []) := by kernel_rfl
theorem ev18 (k : Nat) (x : AT (sp18 k).ps) : (sp18 k).impl x = (fnT Try.prog (cfg18 k) lim18 Try.f18 (bodyOf Try.f18) (pl18 k) (sp18 k) x).eval := by kernel_rfl
theorem eq18 (k : Nat) (x : AT (sp18 k).ps) : (fnT Try.prog (cfg18 k) lim18 Try.f18 (bodyOf Try.f18) (pl18 k) (sp18 k) x).left = (fnT Try.prog (cfg18 k) lim18 Try.f18 (bodyOf Try.f18) (pl18 k) (sp18 k) x).right := by kernel_rfl
theorem v18 (k : Nat) : Callable Try.prog 18 ∧ Valid Try.prog 18 (sp18 k) :=
  fn_ok (cfg18_ok k) (f := 18) (fn := Try.f18) (by kernel_rfl) (c := bodyOf Try.f18) (by kernel_rfl) (by kernel_rfl) rfl rfl (Nat.le_of_ble_eq_true rfl) (Nat.le_of_ble_eq_true rfl) (p := pl18 k) (Eq.mpr (pq18 k) (planOK_go _)) fun x => ⟨ev18 k x, eq18 k x⟩
/-! f5 hyphen/hyphenlaw8.TwinChecks -/
def F5_0 (k : Nat) : Nat → (List Int) → (List Int) → Int → TY23 → (List Int) → Option ((TY51 × TY17))
  | 0, _, _, _, _, _ => none
  | n + 1, t2, t3, t12, c9, c2000011 =>
    let x8 := (decide (t12 < ((List.length t2 : Nat) : Int)))
    bif x8 then
      bif (decide (t12 < (4 : Int))) then
        if 0 ≤ t12 ∧ t12 < ((List.length t2 : Nat) : Int) then
          (F18 k (List.getD t2 (Int.toNat t12) (0 : Int)) ((List.length c9.1 : Nat) : Int)).bind fun r9 =>
          let x10 := (List.set (List.replicate 1 (0 : Int)) 0 r9.1.1)
          if (List.length c2000011 + List.length x10) * (8 * 2) ≤ 281474976710656 ∧ List.length c2000011 + List.length x10 ≤ 9223372036854775807 then
            (F5_0 k n t2 t3 (IntKind.wrap .i64 (t12 + (1 : Int))) c9 (c2000011 ++ x10)).bind some
          else none
        else none
      else
        some ((t2, t3, ()), (c9, c2000011, ()))
    else
      some ((t2, t3, ()), (c9, c2000011, ()))
def fr5_0 (k : Nat) : Frag := ⟨⟨[(11, KD53)], [(2, .val KD52), (3, .val KD52), (9, .ptr 9 []), (11, .at 2000011 []), (12, .val (.int .i64))], [(9, some 28, KD6), (2000011, none, KD53)]⟩, [(.exit 0, ⟨[(11, KD53)], [(2, .val KD52), (3, .val KD52), (9, .ptr 9 []), (11, .at 2000011 [])], [(9, some 28, KD6), (2000011, none, KD53)]⟩)], fun v => F5_0 k k v.1.1 v.1.2.1 v.1.2.2.1 v.2.1 v.2.2.1⟩
def F5_1 (k : Nat) : Nat → (List Int) → (List Int) → Int → Int → Int → Int → Bool → TY23 → (List Int) → (List Int) → Option ((((List Int) × (List Int) × Int × Int × Int × Bool × Unit) × TY14))
  | 0, _, _, _, _, _, _, _, _, _, _ => none
  | n + 1, t2, t3, t14, t15, t16, t80, t81, c9, c88, c2000011 =>
    let x18 := (decide (t16 < ((List.length c9.2.2.2.1 : Nat) : Int)))
    bif x18 then
      if 0 ≤ t16 ∧ t16 < ((List.length c9.2.2.2.1 : Nat) : Int) then
        let x19 := (List.getD c9.2.2.2.1 (Int.toNat t16) ((0 : Int), ((0 : Int), ((0 : Int), ())))).1
        bif (x19 == t14) then
          if 0 ≤ t15 ∧ t15 < ((List.length t2 : Nat) : Int) then
            let x20 := (IntKind.wrap .i64 ((List.getD t2 (Int.toNat t15) (0 : Int)) + t16))
            (F18 k x20 (3 : Int)).bind fun r21 =>
            bif (decide (r21.1.1 > (0 : Int))) then
              if 0 ≤ t16 ∧ t16 < ((List.length c9.2.2.2.1 : Nat) : Int) then
                let x22 := (List.getD c9.2.2.2.1 (Int.toNat t16) ((0 : Int), ((0 : Int), ((0 : Int), ())))).2.1
                (F5_1 k n t2 t3 x22 t15 (IntKind.wrap .i64 (t16 + (1 : Int))) t80 t81 c9 c88 c2000011).bind some
              else none
            else
              (F5_1 k n t2 t3 t14 t15 (IntKind.wrap .i64 (t16 + (1 : Int))) t80 t81 c9 c88 c2000011).bind some
          else none
        else
          (F5_1 k n t2 t3 t14 t15 (IntKind.wrap .i64 (t16 + (1 : Int))) t80 t81 c9 c88 c2000011).bind some
      else none
    else
      some ((t2, t3, t14, t15, t80, t81, ()), (c9, c88, c2000011, ()))
def fr5_1 (k : Nat) : Frag := ⟨⟨[], [(2, .val KD52), (3, .val KD52), (9, .ptr 9 []), (11, .at 2000011 []), (13, .at 88 []), (14, .val (.int .i64)), (15, .val (.int .i64)), (16, .val (.int .i64)), (80, .val (.int .i64)), (81, .val .bool)], [(9, some 28, KD6), (88, none, KD53), (2000011, none, KD53)]⟩, [(.exit 4, ⟨[], [(2, .val KD52), (3, .val KD52), (9, .ptr 9 []), (11, .at 2000011 []), (13, .at 88 []), (14, .val (.int .i64)), (15, .val (.int .i64)), (80, .val (.int .i64)), (81, .val .bool)], [(9, some 28, KD6), (88, none, KD53), (2000011, none, KD53)]⟩)], fun v => F5_1 k k v.1.1 v.1.2.1 v.1.2.2.1 v.1.2.2.2.1 v.1.2.2.2.2.1 v.1.2.2.2.2.2.1 v.1.2.2.2.2.2.2.1 v.2.1 v.2.2.1 v.2.2.2.1⟩
def F5_2 (k : Nat) : Nat → (List Int) → (List Int) → Int → Int → TY23 → (List Int) → (List Int) → Option ((TY51 × TY14))
  | 0, _, _, _, _, _, _, _ => none
  | n + 1, t2, t3, t14, t15, c9, c2000011, c2000013 =>
    let x16 := (decide (t15 < ((List.length t2 : Nat) : Int)))
    bif x16 then
      bif (decide (t15 < (6 : Int))) then
        let x17 := (List.set (List.replicate 1 (0 : Int)) 0 t14)
        if (List.length c2000013 + List.length x17) * (8 * 2) ≤ 281474976710656 ∧ List.length c2000013 + List.length x17 ≤ 9223372036854775807 then
          (F5_1 k k t2 t3 t14 t15 (0 : Int) t15 (decide (t15 < (6 : Int))) c9 (c2000013 ++ x17) c2000011).bind fun r23 =>
          let y24 := r23.1.1
          let y25 := r23.1.2.1
          let y26 := r23.1.2.2.1
          let y27 := r23.1.2.2.2.1
          let y30 := r23.2.1
          let y31 := r23.2.2.1
          let y32 := r23.2.2.2.1
          (F5_2 k n y24 y25 y26 (IntKind.wrap .i64 (y27 + (1 : Int))) y30 y32 y31).bind some
        else none
      else
        some ((t2, t3, ()), (c9, c2000011, c2000013, ()))
    else
      some ((t2, t3, ()), (c9, c2000011, c2000013, ()))
def fr5_2 (k : Nat) : Frag := ⟨⟨[(13, KD53)], [(2, .val KD52), (3, .val KD52), (9, .ptr 9 []), (11, .at 2000011 []), (13, .at 2000013 []), (14, .val (.int .i64)), (15, .val (.int .i64))], [(9, some 28, KD6), (2000011, none, KD53), (2000013, none, KD53)]⟩, [(.exit 2, ⟨[(13, KD53)], [(2, .val KD52), (3, .val KD52), (9, .ptr 9 []), (11, .at 2000011 []), (13, .at 2000013 [])], [(9, some 28, KD6), (2000011, none, KD53), (2000013, none, KD53)]⟩)], fun v => F5_2 k k v.1.1 v.1.2.1 v.1.2.2.1 v.1.2.2.2.1 v.2.1 v.2.2.1 v.2.2.2.1⟩
def F5_3 (k : Nat) : Nat → Int → TY23 → (List (List Int)) → Option ((Unit × Unit) ⊕ TY60)
  | 0, _, _, _ => none
  | n + 1, t18, c9, c130 =>
    let x42 := (decide (t18 < ((List.length c130 : Nat) : Int)))
    bif x42 then
      if 0 ≤ t18 ∧ t18 < ((List.length c130 : Nat) : Int) then
        let x43 := (List.getD c130 (Int.toNat t18) ([] : (List Int)))
        (F17 k c9 x43).bind fun r44 =>
        if 0 ≤ t18 ∧ t18 < ((List.length c130 : Nat) : Int) then
          let x45 := (List.getD c130 (Int.toNat t18) ([] : (List Int)))
          (F16 k c9 x45).bind fun r46 =>
          bif (r44.1.1 != r46.1.1) then
            some (.inr ((false, ()), ()))
          else
            bif (!(r44.1.2.1 == r46.1.2.1)) then
              some (.inr ((false, ()), ()))
            else
              (F5_3 k n (IntKind.wrap .i64 (t18 + (1 : Int))) c9 c130).bind some
        else none
      else none
    else
      some (.inl ((), ()))
def fr5_3 (k : Nat) : Frag := ⟨⟨[], [(9, .ptr 9 []), (17, .at 130 []), (18, .val (.int .i64))], [(9, some 28, KD6), (130, none, (.sl true 23 KD52 none))]⟩, [(.exit 6, ⟨[], [], []⟩), (.ret, ⟨[], [(8, .val .bool)], []⟩)], fun v => F5_3 k k v.1.1 v.2.1 v.2.2.1⟩
def F5 (k : Nat) (a0 : TY49) (a1 : (List Int)) (a2 : (List Int)) (a3 : (List Int)) : Option TY60 :=
  (F11 k).bind fun r1 =>
  bif (!r1.1.1) then
    some ((false, ()), ())
  else
    (F12 k a0).bind fun r2 =>
    bif (!r2.1.1) then
      some ((true, ()), ())
    else
      let x3 := (((List.length a0 : Nat) : Int) == (0 : Int))
      bif x3 then
        some ((true, ()), ())
      else
        let x4 := (decide (((List.length a3 : Nat) : Int) > (50 : Int)))
        bif x4 then
          some ((true, ()), ())
        else
          if 0 ≤ (0 : Int) ∧ (0 : Int) < ((List.length a0 : Nat) : Int) then
            let x5 := (List.getD a0 (Int.toNat (0 : Int)) (Tree.mk ((0 : Int), ((0 : Int), ())) []))
            (F13 k x5 a1).bind fun r6 =>
            bif (!r6.1.2.1) then
              some ((true, ()), ())
            else
              let x7 := (((List.length r6.1.1.1 : Nat) : Int) == (0 : Int))
              bif x7 then
                some ((true, ()), ())
              else
                (F5_0 k k a2 a3 (0 : Int) r6.1.1 []).bind fun r11 =>
                let y12 := r11.1.1
                let y13 := r11.1.2.1
                let y14 := r11.2.1
                let y15 := r11.2.2.1
                (F5_2 k k y12 y13 (0 : Int) (0 : Int) y14 y15 []).bind fun r33 =>
                let y34 := r33.1.1
                let y35 := r33.1.2.1
                let y36 := r33.2.1
                let y37 := r33.2.2.1
                let y38 := r33.2.2.2.1
                (F18 k ((List.length y34 : Nat) : Int) ((List.length y36.1 : Nat) : Int)).bind fun r39 =>
                let x40 := (List.set (List.replicate 1 (0 : Int)) 0 r39.1.1)
                let x41 := (List.set (List.set (List.set (List.set (List.replicate 4 ([] : (List Int))) 0 y37) 1 y38) 2 y35) 3 x40)
                (F5_3 k k (0 : Int) y36 x41).bind fun r47 =>
                match r47 with
                | .inl r48 =>
                  some ((true, ()), ())
                | .inr r48 =>
                  let y49 := r48.1.1
                  some ((y49, ()), ())
          else none
def sp5 (k : Nat) : Spec := ⟨[.val KD42, .val KD52, .val KD52, .val KD52], [.val .bool], fun x => F5 k x.1 x.2.1 x.2.2.1 x.2.2.2.1⟩
def lim5 : Lim := ⟨163, 4, false, false, []⟩
def cfg5 (k : Nat) : Nat → Option Spec := cfgL [(11, sp11 k), (12, sp12 k), (13, sp13 k), (16, sp16 k), (17, sp17 k), (18, sp18 k)]
theorem cfg5_ok (k : Nat) : CfgOK Try.prog (cfg5 k) := cfgL_cons (v11 k) (cfgL_cons (v12 k) (cfgL_cons (v13 k) (cfgL_cons (v16 k) (cfgL_cons (v17 k) (cfgL_cons (v18 k) (cfgL_nil))))))
def pl5_0 (k : Nat) : Plan := .go
theorem pq5_0 (k : Nat) : PlanOK Try.prog lim5 (pl5_0 k) (codeAt (bodyOf Try.f5) [.r, .r, .r, .r, .r, .r, .l, .r, .s, .b]) = PlanOK Try.prog lim5 .go (codeAt (bodyOf Try.f5) [.r, .r, .r, .r, .r, .r, .l, .r, .s, .b]) := by kernel_rfl
theorem ps5_0 (k m : Nat) (v : (fr5_0 k).sh.V) : F5_0 k (m + 1) v.1.1 v.1.2.1 v.1.2.2.1 v.2.1 v.2.2.1 = (body Try.prog (stepper Try.prog (cfg5 k) lim5) (pl5_0 k) (codeAt (bodyOf Try.f5) [.r, .r, .r, .r, .r, .r, .l, .r, .s, .b]) ((fr5_0 k).sh.st v) (loopK (fr5_0 k) fun v => F5_0 k m v.1.1 v.1.2.1 v.1.2.2.1 v.2.1 v.2.2.1)).eval := by kernel_rfl
theorem pe5_0 (k m : Nat) (v : (fr5_0 k).sh.V) : (body Try.prog (stepper Try.prog (cfg5 k) lim5) (pl5_0 k) (codeAt (bodyOf Try.f5) [.r, .r, .r, .r, .r, .r, .l, .r, .s, .b]) ((fr5_0 k).sh.st v) (loopK (fr5_0 k) fun v => F5_0 k m v.1.1 v.1.2.1 v.1.2.2.1 v.2.1 v.2.2.1)).left = (body Try.prog (stepper Try.prog (cfg5 k) lim5) (pl5_0 k) (codeAt (bodyOf Try.f5) [.r, .r, .r, .r, .r, .r, .l, .r, .s, .b]) ((fr5_0 k).sh.st v) (loopK (fr5_0 k) fun v => F5_0 k m v.1.1 v.1.2.1 v.1.2.2.1 v.2.1 v.2.2.1)).right := by kernel_rfl
theorem fr5_0_ok (k : Nat) : FragOK Try.prog lim5 (fr5_0 k) (codeAt (bodyOf Try.f5) [.r, .r, .r, .r, .r, .r, .l, .r, .s]) :=
  frag_cast (by kernel_rfl) (loop_ok (cfg5_ok k) (Eq.mpr (pq5_0 k) (planOK_go _)) (fun m v => F5_0 k m v.1.1 v.1.2.1 v.1.2.2.1 v.2.1 v.2.2.1) k (fun _ => rfl) (fun _ => rfl) fun m v => ⟨ps5_0 k m v, pe5_0 k m v⟩)
def pl5_1 (k : Nat) : Plan := .go
theorem pq5_1 (k : Nat) : PlanOK Try.prog lim5 (pl5_1 k) (codeAt (bodyOf Try.f5) [.r, .r, .r, .r, .r, .r, .r, .r, .r, .l, .r, .s, .b, .r, .l, .s, .r, .r, .s, .b]) = PlanOK Try.prog lim5 .go (codeAt (bodyOf Try.f5) [.r, .r, .r, .r, .r, .r, .r, .r, .r, .l, .r, .s, .b, .r, .l, .s, .r, .r, .s, .b]) := by kernel_rfl
theorem ps5_1 (k m : Nat) (v : (fr5_1 k).sh.V) : F5_1 k (m + 1) v.1.1 v.1.2.1 v.1.2.2.1 v.1.2.2.2.1 v.1.2.2.2.2.1 v.1.2.2.2.2.2.1 v.1.2.2.2.2.2.2.1 v.2.1 v.2.2.1 v.2.2.2.1 = (body Try.prog (stepper Try.prog (cfg5 k) lim5) (pl5_1 k) (codeAt (bodyOf Try.f5) [.r, .r, .r, .r, .r, .r, .r, .r, .r, .l, .r, .s, .b, .r, .l, .s, .r, .r, .s, .b]) ((fr5_1 k).sh.st v) (loopK (fr5_1 k) fun v => F5_1 k m v.1.1 v.1.2.1 v.1.2.2.1 v.1.2.2.2.1 v.1.2.2.2.2.1 v.1.2.2.2.2.2.1 v.1.2.2.2.2.2.2.1 v.2.1 v.2.2.1 v.2.2.2.1)).eval := by kernel_rfl
theorem pe5_1 (k m : Nat) (v : (fr5_1 k).sh.V) : (body Try.prog (stepper Try.prog (cfg5 k) lim5) (pl5_1 k) (codeAt (bodyOf Try.f5) [.r, .r, .r, .r, .r, .r, .r, .r, .r, .l, .r, .s, .b, .r, .l, .s, .r, .r, .s, .b]) ((fr5_1 k).sh.st v) (loopK (fr5_1 k) fun v => F5_1 k m v.1.1 v.1.2.1 v.1.2.2.1 v.1.2.2.2.1 v.1.2.2.2.2.1 v.1.2.2.2.2.2.1 v.1.2.2.2.2.2.2.1 v.2.1 v.2.2.1 v.2.2.2.1)).left = (body Try.prog (stepper Try.prog (cfg5 k) lim5) (pl5_1 k) (codeAt (bodyOf Try.f5) [.r, .r, .r, .r, .r, .r, .r, .r, .r, .l, .r, .s, .b, .r, .l, .s, .r, .r, .s, .b]) ((fr5_1 k).sh.st v) (loopK (fr5_1 k) fun v => F5_1 k m v.1.1 v.1.2.1 v.1.2.2.1 v.1.2.2.2.1 v.1.2.2.2.2.1 v.1.2.2.2.2.2.1 v.1.2.2.2.2.2.2.1 v.2.1 v.2.2.1 v.2.2.2.1)).right := by kernel_rfl
theorem fr5_1_ok (k : Nat) : FragOK Try.prog lim5 (fr5_1 k) (codeAt (bodyOf Try.f5) [.r, .r, .r, .r, .r, .r, .r, .r, .r, .l, .r, .s, .b, .r, .l, .s, .r, .r, .s]) :=
  frag_cast (by kernel_rfl) (loop_ok (cfg5_ok k) (Eq.mpr (pq5_1 k) (planOK_go _)) (fun m v => F5_1 k m v.1.1 v.1.2.1 v.1.2.2.1 v.1.2.2.2.1 v.1.2.2.2.2.1 v.1.2.2.2.2.2.1 v.1.2.2.2.2.2.2.1 v.2.1 v.2.2.1 v.2.2.2.1) k (fun _ => rfl) (fun _ => rfl) fun m v => ⟨ps5_1 k m v, pe5_1 k m v⟩)
def pl5_2 (k : Nat) : Plan := (.seq .go (.seq (.sub (.seq .go (.seq .go (.sub (.frag (fr5_1 k)))))) .go))
theorem pq5_2 (k : Nat) : PlanOK Try.prog lim5 (pl5_2 k) (codeAt (bodyOf Try.f5) [.r, .r, .r, .r, .r, .r, .r, .r, .r, .l, .r, .s, .b]) = (PlanOK Try.prog lim5 .go (codeAt (bodyOf Try.f5) [.r, .r, .r, .r, .r, .r, .r, .r, .r, .l, .r, .s, .b, .l]) ∧ ((PlanOK Try.prog lim5 .go (codeAt (bodyOf Try.f5) [.r, .r, .r, .r, .r, .r, .r, .r, .r, .l, .r, .s, .b, .r, .l, .s, .l]) ∧ (PlanOK Try.prog lim5 .go (codeAt (bodyOf Try.f5) [.r, .r, .r, .r, .r, .r, .r, .r, .r, .l, .r, .s, .b, .r, .l, .s, .r, .l]) ∧ FragOK Try.prog lim5 (fr5_1 k) (codeAt (bodyOf Try.f5) [.r, .r, .r, .r, .r, .r, .r, .r, .r, .l, .r, .s, .b, .r, .l, .s, .r, .r, .s]))) ∧ PlanOK Try.prog lim5 .go (codeAt (bodyOf Try.f5) [.r, .r, .r, .r, .r, .r, .r, .r, .r, .l, .r, .s, .b, .r, .r]))) := by kernel_rfl
theorem ps5_2 (k m : Nat) (v : (fr5_2 k).sh.V) : F5_2 k (m + 1) v.1.1 v.1.2.1 v.1.2.2.1 v.1.2.2.2.1 v.2.1 v.2.2.1 v.2.2.2.1 = (body Try.prog (stepper Try.prog (cfg5 k) lim5) (pl5_2 k) (codeAt (bodyOf Try.f5) [.r, .r, .r, .r, .r, .r, .r, .r, .r, .l, .r, .s, .b]) ((fr5_2 k).sh.st v) (loopK (fr5_2 k) fun v => F5_2 k m v.1.1 v.1.2.1 v.1.2.2.1 v.1.2.2.2.1 v.2.1 v.2.2.1 v.2.2.2.1)).eval := by kernel_rfl
theorem pe5_2 (k m : Nat) (v : (fr5_2 k).sh.V) : (body Try.prog (stepper Try.prog (cfg5 k) lim5) (pl5_2 k) (codeAt (bodyOf Try.f5) [.r, .r, .r, .r, .r, .r, .r, .r, .r, .l, .r, .s, .b]) ((fr5_2 k).sh.st v) (loopK (fr5_2 k) fun v => F5_2 k m v.1.1 v.1.2.1 v.1.2.2.1 v.1.2.2.2.1 v.2.1 v.2.2.1 v.2.2.2.1)).left = (body Try.prog (stepper Try.prog (cfg5 k) lim5) (pl5_2 k) (codeAt (bodyOf Try.f5) [.r, .r, .r, .r, .r, .r, .r, .r, .r, .l, .r, .s, .b]) ((fr5_2 k).sh.st v) (loopK (fr5_2 k) fun v => F5_2 k m v.1.1 v.1.2.1 v.1.2.2.1 v.1.2.2.2.1 v.2.1 v.2.2.1 v.2.2.2.1)).right := by kernel_rfl
theorem fr5_2_ok (k : Nat) : FragOK Try.prog lim5 (fr5_2 k) (codeAt (bodyOf Try.f5) [.r, .r, .r, .r, .r, .r, .r, .r, .r, .l, .r, .s]) :=
  frag_cast (by kernel_rfl) (loop_ok (cfg5_ok k) (Eq.mpr (pq5_2 k) ⟨(planOK_go _), ⟨⟨(planOK_go _), ⟨(planOK_go _), (fr5_1_ok k)⟩⟩, (planOK_go _)⟩⟩) (fun m v => F5_2 k m v.1.1 v.1.2.1 v.1.2.2.1 v.1.2.2.2.1 v.2.1 v.2.2.1 v.2.2.2.1) k (fun _ => rfl) (fun _ => rfl) fun m v => ⟨ps5_2 k m v, pe5_2 k m v⟩)
def pl5_3 (k : Nat) : Plan := .go
theorem pq5_3 (k : Nat) : PlanOK Try.prog lim5 (pl5_3 k) (codeAt (bodyOf Try.f5) [.r, .r, .r, .r, .r, .r, .r, .r, .r, .r, .r, .l, .r, .s, .b]) = PlanOK Try.prog lim5 .go (codeAt (bodyOf Try.f5) [.r, .r, .r, .r, .r, .r, .r, .r, .r, .r, .r, .l, .r, .s, .b]) := by kernel_rfl
theorem ps5_3 (k m : Nat) (v : (fr5_3 k).sh.V) : F5_3 k (m + 1) v.1.1 v.2.1 v.2.2.1 = (body Try.prog (stepper Try.prog (cfg5 k) lim5) (pl5_3 k) (codeAt (bodyOf Try.f5) [.r, .r, .r, .r, .r, .r, .r, .r, .r, .r, .r, .l, .r, .s, .b]) ((fr5_3 k).sh.st v) (loopK (fr5_3 k) fun v => F5_3 k m v.1.1 v.2.1 v.2.2.1)).eval := by kernel_rfl
theorem pe5_3 (k m : Nat) (v : (fr5_3 k).sh.V) : (body Try.prog (stepper Try.prog (cfg5 k) lim5) (pl5_3 k) (codeAt (bodyOf Try.f5) [.r, .r, .r, .r, .r, .r, .r, .r, .r, .r, .r, .l, .r, .s, .b]) ((fr5_3 k).sh.st v) (loopK (fr5_3 k) fun v => F5_3 k m v.1.1 v.2.1 v.2.2.1)).left = (body Try.prog (stepper Try.prog (cfg5 k) lim5) (pl5_3 k) (codeAt (bodyOf Try.f5) [.r, .r, .r, .r, .r, .r, .r, .r, .r, .r, .r, .l, .r, .s, .b]) ((fr5_3 k).sh.st v) (loopK (fr5_3 k) fun v => F5_3 k m v.1.1 v.2.1 v.2.2.1)).right := by kernel_rfl
theorem fr5_3_ok (k : Nat) : FragOK Try.prog lim5 (fr5_3 k) (codeAt (bodyOf Try.f5) [.r, .r, .r, .r, .r, .r, .r, .r, .r, .r, .r, .l, .r, .s]) :=
  frag_cast (by kernel_rfl) (loop_ok (cfg5_ok k) (Eq.mpr (pq5_3 k) (planOK_go _)) (fun m v => F5_3 k m v.1.1 v.2.1 v.2.2.1) k (fun _ => rfl) (fun _ => rfl) fun m v => ⟨ps5_3 k m v, pe5_3 k m v⟩)
def pl5 (k : Nat) : Plan := (.seq .go (.seq .go (.seq .go (.seq .go (.seq .go (.seq .go (.seq (.seq .go (.sub (.frag (fr5_0 k)))) (.seq .go (.seq .go (.seq (.seq .go (.sub (.frag (fr5_2 k)))) (.seq .go (.seq (.seq .go (.sub (.frag (fr5_3 k)))) .go))))))))))))
theorem pq5 (k : Nat) : PlanOK Try.prog lim5 (pl5 k) (codeAt (bodyOf Try.f5) []) = (PlanOK Try.prog lim5 .go (codeAt (bodyOf Try.f5) [.l]) ∧ (PlanOK Try.prog lim5 .go (codeAt (bodyOf Try.f5) [.r, .l]) ∧ (PlanOK Try.prog lim5 .go (codeAt (bodyOf Try.f5) [.r, .r, .l]) ∧ (PlanOK Try.prog lim5 .go (codeAt (bodyOf Try.f5) [.r, .r, .r, .l]) ∧ (PlanOK Try.prog lim5 .go (codeAt (bodyOf Try.f5) [.r, .r, .r, .r, .l]) ∧ (PlanOK Try.prog lim5 .go (codeAt (bodyOf Try.f5) [.r, .r, .r, .r, .r, .l]) ∧ ((PlanOK Try.prog lim5 .go (codeAt (bodyOf Try.f5) [.r, .r, .r, .r, .r, .r, .l, .l]) ∧ FragOK Try.prog lim5 (fr5_0 k) (codeAt (bodyOf Try.f5) [.r, .r, .r, .r, .r, .r, .l, .r, .s])) ∧ (PlanOK Try.prog lim5 .go (codeAt (bodyOf Try.f5) [.r, .r, .r, .r, .r, .r, .r, .l]) ∧ (PlanOK Try.prog lim5 .go (codeAt (bodyOf Try.f5) [.r, .r, .r, .r, .r, .r, .r, .r, .l]) ∧ ((PlanOK Try.prog lim5 .go (codeAt (bodyOf Try.f5) [.r, .r, .r, .r, .r, .r, .r, .r, .r, .l, .l]) ∧ FragOK Try.prog lim5 (fr5_2 k) (codeAt (bodyOf Try.f5) [.r, .r, .r, .r, .r, .r, .r, .r, .r, .l, .r, .s])) ∧ (PlanOK Try.prog lim5 .go (codeAt (bodyOf Try.f5) [.r, .r, .r, .r, .r, .r, .r, .r, .r, .r, .l]) ∧ ((PlanOK Try.prog lim5 .go (codeAt (bodyOf Try.f5) [.r, .r, .r, .r, .r, .r, .r, .r, .r, .r, .r, .l, .l]) ∧ FragOK Try.prog lim5 (fr5_3 k) (codeAt (bodyOf Try.f5) [.r, .r, .r, .r, .r, .r, .r, .r, .r, .r, .r, .l, .r, .s])) ∧ PlanOK Try.prog lim5 .go (codeAt (bodyOf Try.f5) [.r, .r, .r, .r, .r, .r, .r, .r, .r, .r, .r, .r]))))))))))))) := by kernel_rfl
theorem ev5 (k : Nat) (x : AT (sp5 k).ps) : (sp5 k).impl x = (fnT Try.prog (cfg5 k) lim5 Try.f5 (bodyOf Try.f5) (pl5 k) (sp5 k) x).eval := by kernel_rfl
theorem eq5 (k : Nat) (x : AT (sp5 k).ps) : (fnT Try.prog (cfg5 k) lim5 Try.f5 (bodyOf Try.f5) (pl5 k) (sp5 k) x).left = (fnT Try.prog (cfg5 k) lim5 Try.f5 (bodyOf Try.f5) (pl5 k) (sp5 k) x).right := by kernel_rfl
theorem v5 (k : Nat) : Callable Try.prog 5 ∧ Valid Try.prog 5 (sp5 k) :=
  fn_ok (cfg5_ok k) (f := 5) (fn := Try.f5) (by kernel_rfl) (c := bodyOf Try.f5) (by kernel_rfl) (by kernel_rfl) rfl rfl (Nat.le_of_ble_eq_true rfl) (Nat.le_of_ble_eq_true rfl) (p := pl5 k) (Eq.mpr (pq5 k) ⟨(planOK_go _), ⟨(planOK_go _), ⟨(planOK_go _), ⟨(planOK_go _), ⟨(planOK_go _), ⟨(planOK_go _), ⟨⟨(planOK_go _), (fr5_0_ok k)⟩, ⟨(planOK_go _), ⟨(planOK_go _), ⟨⟨(planOK_go _), (fr5_2_ok k)⟩, ⟨(planOK_go _), ⟨⟨(planOK_go _), (fr5_3_ok k)⟩, (planOK_go _)⟩⟩⟩⟩⟩⟩⟩⟩⟩⟩⟩⟩) fun x => ⟨ev5 k x, eq5 k x⟩
end Go.Proofs.YtgojfdimbciaiaaE
