/- Functions of the program, as Lean functions, with their contracts; printed by gen.py. Conditions: none. -/
import Derived.Test.YtgojfdimbciaiaaG0
set_option linter.unusedVariables false
namespace Go.Proofs.YtgojfdimbciaiaaE
open Kd
set_option maxRecDepth 20000
/-! f47 hyphen/hyphenref4.points -/
def F47_0 (k : Nat) : Nat → TY47 → Int → Int → Int → Int → (List Int) → (List Int) → Option ((TY31 × ((List Int) × (List Int) × Unit)))
  | 0, _, _, _, _, _, _, _ => none
  | n + 1, t0, t4, t5, t7, t8, c42, c2000003 =>
    bif (decide (t8 > (0 : Int))) then
      if 0 ≤ t7 ∧ t7 < ((List.length c42 : Nat) : Int) then
        if 0 ≤ (IntKind.wrap .i64 (t8 - (1 : Int))) ∧ (IntKind.wrap .i64 (t8 - (1 : Int))) < ((List.length c2000003 : Nat) : Int) then
          let x10 := (Int.toNat (IntKind.wrap .i64 (t8 - (1 : Int))))
          let x11 := (decide ((List.getD c42 (Int.toNat t7) (0 : Int)) < (List.getD c2000003 x10 (0 : Int))))
          bif x11 then
            (F47_0 k n t0 t4 t5 t7 (IntKind.wrap .i64 (t8 - (1 : Int))) c42 c2000003).bind some
          else
            some ((t0, t4, t5, t7, t8, ()), (c42, c2000003, ()))
        else none
      else none
    else
      some ((t0, t4, t5, t7, t8, ()), (c42, c2000003, ()))
def fr47_0 (k : Nat) : Frag := ⟨⟨[(3, KD49)], [(0, .val KD23), (3, .at 2000003 []), (4, .val (.int .i64)), (5, .val (.int .i64)), (6, .at 42 []), (7, .val (.int .i64)), (8, .val (.int .i64))], [(42, none, KD49), (2000003, none, KD49)]⟩, [(.exit 6, ⟨[], [(0, .val KD23), (3, .at 2000003 []), (4, .val (.int .i64)), (5, .val (.int .i64)), (6, .at 42 []), (7, .val (.int .i64)), (8, .val (.int .i64))], [(42, none, KD49), (2000003, none, KD49)]⟩)], fun v => F47_0 k k v.1.1 v.1.2.1 v.1.2.2.1 v.1.2.2.2.1 v.1.2.2.2.2.1 v.2.1 v.2.2.1⟩
def F47_1 (k : Nat) : Nat → TY47 → Int → Int → Int → (List Int) → (List Int) → Option (((TY47 × Int × Int × Unit) × TY57))
  | 0, _, _, _, _, _, _ => none
  | n + 1, t0, t4, t5, t7, c42, c2000003 =>
    bif (decide (t7 < (2 : Int))) then
      (F47_0 k k t0 t4 t5 t7 ((List.length c2000003 : Nat) : Int) c42 c2000003).bind fun r12 =>
      let y13 := r12.1.1
      let y14 := r12.1.2.1
      let y15 := r12.1.2.2.1
      let y16 := r12.1.2.2.2.1
      let y17 := r12.1.2.2.2.2.1
      let y18 := r12.2.1
      let y19 := r12.2.2.1
      if 0 ≤ y16 ∧ y16 < ((List.length y18 : Nat) : Int) then
        let x20 := (decide ((List.getD y18 (Int.toNat y16) (0 : Int)) ≤ (1114111 : Int)))
        bif x20 then
          bif (y17 == (0 : Int)) then
            if 0 ≤ (0 : Int) ∧ (0 : Int) ≤ y17 ∧ y17 ≤ ((List.length y19 : Nat) : Int) then
              let x21 := (Int.toNat y17 - Int.toNat (0 : Int))
              if 0 ≤ y16 ∧ y16 < ((List.length y18 : Nat) : Int) then
                if 0 ≤ y17 ∧ y17 ≤ ((List.length y19 : Nat) : Int) ∧ ((List.length y19 : Nat) : Int) ≤ ((List.length y19 : Nat) : Int) then
                  let x22 := (Int.toNat ((List.length y19 : Nat) : Int) - Int.toNat y17)
                  if (List.length (List.replicate 0 (0 : Int)) + List.length (List.take x21 (List.drop (Int.toNat (0 : Int)) y19))) * (8 * 2) ≤ 281474976710656 ∧ List.length (List.replicate 0 (0 : Int)) + List.length (List.take x21 (List.drop (Int.toNat (0 : Int)) y19)) ≤ 9223372036854775807 then
                    let x23 := ((List.replicate 0 (0 : Int)) ++ (List.take x21 (List.drop (Int.toNat (0 : Int)) y19)))
                    let x24 := (List.set (List.replicate 1 (0 : Int)) 0 (List.getD y18 (Int.toNat y16) (0 : Int)))
                    if (List.length x23 + List.length x24) * (8 * 2) ≤ 281474976710656 ∧ List.length x23 + List.length x24 ≤ 9223372036854775807 then
                      if (List.length (x23 ++ x24) + List.length (List.take x22 (List.drop (Int.toNat y17) y19))) * (8 * 2) ≤ 281474976710656 ∧ List.length (x23 ++ x24) + List.length (List.take x22 (List.drop (Int.toNat y17) y19)) ≤ 9223372036854775807 then
                        let x25 := ((x23 ++ x24) ++ (List.take x22 (List.drop (Int.toNat y17) y19)))
                        (F47_1 k n y13 y14 y15 (IntKind.wrap .i64 (y16 + (1 : Int))) y18 x25).bind some
                      else none
                    else none
                  else none
                else none
              else none
            else none
          else
            if 0 ≤ (IntKind.wrap .i64 (y17 - (1 : Int))) ∧ (IntKind.wrap .i64 (y17 - (1 : Int))) < ((List.length y19 : Nat) : Int) then
              let x26 := (Int.toNat (IntKind.wrap .i64 (y17 - (1 : Int))))
              if 0 ≤ y16 ∧ y16 < ((List.length y18 : Nat) : Int) then
                let x27 := ((List.getD y19 x26 (0 : Int)) != (List.getD y18 (Int.toNat y16) (0 : Int)))
                bif x27 then
                  if 0 ≤ (0 : Int) ∧ (0 : Int) ≤ y17 ∧ y17 ≤ ((List.length y19 : Nat) : Int) then
                    let x28 := (Int.toNat y17 - Int.toNat (0 : Int))
                    if 0 ≤ y16 ∧ y16 < ((List.length y18 : Nat) : Int) then
                      if 0 ≤ y17 ∧ y17 ≤ ((List.length y19 : Nat) : Int) ∧ ((List.length y19 : Nat) : Int) ≤ ((List.length y19 : Nat) : Int) then
                        let x29 := (Int.toNat ((List.length y19 : Nat) : Int) - Int.toNat y17)
                        if (List.length (List.replicate 0 (0 : Int)) + List.length (List.take x28 (List.drop (Int.toNat (0 : Int)) y19))) * (8 * 2) ≤ 281474976710656 ∧ List.length (List.replicate 0 (0 : Int)) + List.length (List.take x28 (List.drop (Int.toNat (0 : Int)) y19)) ≤ 9223372036854775807 then
                          let x30 := ((List.replicate 0 (0 : Int)) ++ (List.take x28 (List.drop (Int.toNat (0 : Int)) y19)))
                          let x31 := (List.set (List.replicate 1 (0 : Int)) 0 (List.getD y18 (Int.toNat y16) (0 : Int)))
                          if (List.length x30 + List.length x31) * (8 * 2) ≤ 281474976710656 ∧ List.length x30 + List.length x31 ≤ 9223372036854775807 then
                            if (List.length (x30 ++ x31) + List.length (List.take x29 (List.drop (Int.toNat y17) y19))) * (8 * 2) ≤ 281474976710656 ∧ List.length (x30 ++ x31) + List.length (List.take x29 (List.drop (Int.toNat y17) y19)) ≤ 9223372036854775807 then
                              let x32 := ((x30 ++ x31) ++ (List.take x29 (List.drop (Int.toNat y17) y19)))
                              (F47_1 k n y13 y14 y15 (IntKind.wrap .i64 (y16 + (1 : Int))) y18 x32).bind some
                            else none
                          else none
                        else none
                      else none
                    else none
                  else none
                else
                  (F47_1 k n y13 y14 y15 (IntKind.wrap .i64 (y16 + (1 : Int))) y18 y19).bind some
              else none
            else none
        else
          (F47_1 k n y13 y14 y15 (IntKind.wrap .i64 (y16 + (1 : Int))) y18 y19).bind some
      else none
    else
      some ((t0, t4, t5, ()), (c2000003, ()))
def fr47_1 (k : Nat) : Frag := ⟨⟨[(3, KD49)], [(0, .val KD23), (3, .at 2000003 []), (4, .val (.int .i64)), (5, .val (.int .i64)), (6, .at 42 []), (7, .val (.int .i64))], [(42, none, KD49), (2000003, none, KD49)]⟩, [(.exit 4, ⟨[(3, KD49)], [(0, .val KD23), (3, .at 2000003 []), (4, .val (.int .i64)), (5, .val (.int .i64))], [(2000003, none, KD49)]⟩)], fun v => F47_1 k k v.1.1 v.1.2.1 v.1.2.2.1 v.1.2.2.2.1 v.2.1 v.2.2.1⟩
def F47_2 (k : Nat) : Nat → TY47 → Int → Int → (List Int) → Option (((TY47 × Int × Unit) × TY57))
  | 0, _, _, _, _ => none
  | n + 1, t0, t4, t5, c2000003 =>
    if 0 ≤ t4 ∧ t4 < ((List.length t0 : Nat) : Int) then
      let x3 := (List.getD t0 (Int.toNat t4) ([] : TY52))
      let x4 := (decide (t5 < ((List.length x3 : Nat) : Int)))
      bif x4 then
        if 0 ≤ t4 ∧ t4 < ((List.length t0 : Nat) : Int) then
          let x5 := (List.getD t0 (Int.toNat t4) ([] : TY52))
          if 0 ≤ t5 ∧ t5 < ((List.length x5 : Nat) : Int) then
            let x6 := (List.getD x5 (Int.toNat t5) ((0 : Int), ((0 : Int), ())))
            if 0 ≤ t4 ∧ t4 < ((List.length t0 : Nat) : Int) then
              let x7 := (List.getD t0 (Int.toNat t4) ([] : TY52))
              if 0 ≤ t5 ∧ t5 < ((List.length x7 : Nat) : Int) then
                let x8 := (List.getD x7 (Int.toNat t5) ((0 : Int), ((0 : Int), ())))
                let x9 := (List.set (List.set (List.replicate 2 (0 : Int)) 0 x6.1) 1 (IntKind.wrap .i64 (x8.2.1 + (1 : Int))))
                (F47_1 k k t0 t4 t5 (0 : Int) x9 c2000003).bind fun r33 =>
                let y34 := r33.1.1
                let y35 := r33.1.2.1
                let y36 := r33.1.2.2.1
                let y37 := r33.2.1
                (F47_2 k n y34 y35 (IntKind.wrap .i64 (y36 + (1 : Int))) y37).bind some
              else none
            else none
          else none
        else none
      else
        some ((t0, t4, ()), (c2000003, ()))
    else none
def fr47_2 (k : Nat) : Frag := ⟨⟨[(3, KD49)], [(0, .val KD23), (3, .at 2000003 []), (4, .val (.int .i64)), (5, .val (.int .i64))], [(2000003, none, KD49)]⟩, [(.exit 2, ⟨[(3, KD49)], [(0, .val KD23), (3, .at 2000003 []), (4, .val (.int .i64))], [(2000003, none, KD49)]⟩)], fun v => F47_2 k k v.1.1 v.1.2.1 v.1.2.2.1 v.2.1⟩
def F47_3 (k : Nat) : Nat → TY47 → Int → (List Int) → Option ((Unit × TY57))
  | 0, _, _, _ => none
  | n + 1, t0, t4, c2000003 =>
    let x2 := (decide (t4 < ((List.length t0 : Nat) : Int)))
    bif x2 then
      (F47_2 k k t0 t4 (0 : Int) c2000003).bind fun r38 =>
      let y39 := r38.1.1
      let y40 := r38.1.2.1
      let y41 := r38.2.1
      (F47_3 k n y39 (IntKind.wrap .i64 (y40 + (1 : Int))) y41).bind some
    else
      some ((), (c2000003, ()))
def fr47_3 (k : Nat) : Frag := ⟨⟨[(3, KD49)], [(0, .val KD23), (3, .at 2000003 []), (4, .val (.int .i64))], [(2000003, none, KD49)]⟩, [(.exit 0, ⟨[(3, KD49)], [(3, .at 2000003 [])], [(2000003, none, KD49)]⟩)], fun v => F47_3 k k v.1.1 v.1.2.1 v.2.1⟩
def F47 (k : Nat) (a0 : TY47) : Option (TY57 × Unit) :=
  let x1 := (List.set (List.replicate 1 (0 : Int)) 0 (0 : Int))
  (F47_3 k k a0 (0 : Int) x1).bind fun r42 =>
  let y43 := r42.2.1
  some ((y43, ()), ())
def sp47 (k : Nat) : Spec := ⟨[.val KD23], [.own KD49], fun x => F47 k x.1⟩
def lim47 : Lim := ⟨102, 1, false, true, []⟩
def cfg47 (k : Nat) : Nat → Option Spec := cfgL []
theorem cfg47_ok (k : Nat) : CfgOK Try.prog (cfg47 k) := cfgL_nil
def pl47_0 (k : Nat) : Plan := .go
theorem pq47_0 (k : Nat) : PlanOK Try.prog lim47 (pl47_0 k) (codeAt (bodyOf Try.f47) [.r, .r, .l, .r, .s, .b, .r, .l, .s, .r, .s, .b, .r, .l, .s, .r, .r, .s, .b, .r, .l, .s, .r, .l, .s, .b]) = PlanOK Try.prog lim47 .go (codeAt (bodyOf Try.f47) [.r, .r, .l, .r, .s, .b, .r, .l, .s, .r, .s, .b, .r, .l, .s, .r, .r, .s, .b, .r, .l, .s, .r, .l, .s, .b]) := by kernel_rfl
theorem ps47_0 (k m : Nat) (v : (fr47_0 k).sh.V) : F47_0 k (m + 1) v.1.1 v.1.2.1 v.1.2.2.1 v.1.2.2.2.1 v.1.2.2.2.2.1 v.2.1 v.2.2.1 = (body Try.prog (stepper Try.prog (cfg47 k) lim47) (pl47_0 k) (codeAt (bodyOf Try.f47) [.r, .r, .l, .r, .s, .b, .r, .l, .s, .r, .s, .b, .r, .l, .s, .r, .r, .s, .b, .r, .l, .s, .r, .l, .s, .b]) ((fr47_0 k).sh.st v) (loopK (fr47_0 k) fun v => F47_0 k m v.1.1 v.1.2.1 v.1.2.2.1 v.1.2.2.2.1 v.1.2.2.2.2.1 v.2.1 v.2.2.1)).eval := by kernel_rfl
theorem pe47_0 (k m : Nat) (v : (fr47_0 k).sh.V) : (body Try.prog (stepper Try.prog (cfg47 k) lim47) (pl47_0 k) (codeAt (bodyOf Try.f47) [.r, .r, .l, .r, .s, .b, .r, .l, .s, .r, .s, .b, .r, .l, .s, .r, .r, .s, .b, .r, .l, .s, .r, .l, .s, .b]) ((fr47_0 k).sh.st v) (loopK (fr47_0 k) fun v => F47_0 k m v.1.1 v.1.2.1 v.1.2.2.1 v.1.2.2.2.1 v.1.2.2.2.2.1 v.2.1 v.2.2.1)).left = (body Try.prog (stepper Try.prog (cfg47 k) lim47) (pl47_0 k) (codeAt (bodyOf Try.f47) [.r, .r, .l, .r, .s, .b, .r, .l, .s, .r, .s, .b, .r, .l, .s, .r, .r, .s, .b, .r, .l, .s, .r, .l, .s, .b]) ((fr47_0 k).sh.st v) (loopK (fr47_0 k) fun v => F47_0 k m v.1.1 v.1.2.1 v.1.2.2.1 v.1.2.2.2.1 v.1.2.2.2.2.1 v.2.1 v.2.2.1)).right := by kernel_rfl
theorem fr47_0_ok (k : Nat) : FragOK Try.prog lim47 (fr47_0 k) (codeAt (bodyOf Try.f47) [.r, .r, .l, .r, .s, .b, .r, .l, .s, .r, .s, .b, .r, .l, .s, .r, .r, .s, .b, .r, .l, .s, .r, .l, .s]) :=
  frag_cast (by kernel_rfl) (loop_ok (cfg47_ok k) (Eq.mpr (pq47_0 k) (planOK_go _)) (fun m v => F47_0 k m v.1.1 v.1.2.1 v.1.2.2.1 v.1.2.2.2.1 v.1.2.2.2.2.1 v.2.1 v.2.2.1) k (fun _ => rfl) (fun _ => rfl) fun m v => ⟨ps47_0 k m v, pe47_0 k m v⟩)
def pl47_1 (k : Nat) : Plan := (.seq .go (.seq (.sub (.seq .go (.seq (.sub (.frag (fr47_0 k))) .go))) .go))
theorem pq47_1 (k : Nat) : PlanOK Try.prog lim47 (pl47_1 k) (codeAt (bodyOf Try.f47) [.r, .r, .l, .r, .s, .b, .r, .l, .s, .r, .s, .b, .r, .l, .s, .r, .r, .s, .b]) = (PlanOK Try.prog lim47 .go (codeAt (bodyOf Try.f47) [.r, .r, .l, .r, .s, .b, .r, .l, .s, .r, .s, .b, .r, .l, .s, .r, .r, .s, .b, .l]) ∧ ((PlanOK Try.prog lim47 .go (codeAt (bodyOf Try.f47) [.r, .r, .l, .r, .s, .b, .r, .l, .s, .r, .s, .b, .r, .l, .s, .r, .r, .s, .b, .r, .l, .s, .l]) ∧ (FragOK Try.prog lim47 (fr47_0 k) (codeAt (bodyOf Try.f47) [.r, .r, .l, .r, .s, .b, .r, .l, .s, .r, .s, .b, .r, .l, .s, .r, .r, .s, .b, .r, .l, .s, .r, .l, .s]) ∧ PlanOK Try.prog lim47 .go (codeAt (bodyOf Try.f47) [.r, .r, .l, .r, .s, .b, .r, .l, .s, .r, .s, .b, .r, .l, .s, .r, .r, .s, .b, .r, .l, .s, .r, .r]))) ∧ PlanOK Try.prog lim47 .go (codeAt (bodyOf Try.f47) [.r, .r, .l, .r, .s, .b, .r, .l, .s, .r, .s, .b, .r, .l, .s, .r, .r, .s, .b, .r, .r]))) := by kernel_rfl
theorem ps47_1 (k m : Nat) (v : (fr47_1 k).sh.V) : F47_1 k (m + 1) v.1.1 v.1.2.1 v.1.2.2.1 v.1.2.2.2.1 v.2.1 v.2.2.1 = (body Try.prog (stepper Try.prog (cfg47 k) lim47) (pl47_1 k) (codeAt (bodyOf Try.f47) [.r, .r, .l, .r, .s, .b, .r, .l, .s, .r, .s, .b, .r, .l, .s, .r, .r, .s, .b]) ((fr47_1 k).sh.st v) (loopK (fr47_1 k) fun v => F47_1 k m v.1.1 v.1.2.1 v.1.2.2.1 v.1.2.2.2.1 v.2.1 v.2.2.1)).eval := by kernel_rfl
theorem pe47_1 (k m : Nat) (v : (fr47_1 k).sh.V) : (body Try.prog (stepper Try.prog (cfg47 k) lim47) (pl47_1 k) (codeAt (bodyOf Try.f47) [.r, .r, .l, .r, .s, .b, .r, .l, .s, .r, .s, .b, .r, .l, .s, .r, .r, .s, .b]) ((fr47_1 k).sh.st v) (loopK (fr47_1 k) fun v => F47_1 k m v.1.1 v.1.2.1 v.1.2.2.1 v.1.2.2.2.1 v.2.1 v.2.2.1)).left = (body Try.prog (stepper Try.prog (cfg47 k) lim47) (pl47_1 k) (codeAt (bodyOf Try.f47) [.r, .r, .l, .r, .s, .b, .r, .l, .s, .r, .s, .b, .r, .l, .s, .r, .r, .s, .b]) ((fr47_1 k).sh.st v) (loopK (fr47_1 k) fun v => F47_1 k m v.1.1 v.1.2.1 v.1.2.2.1 v.1.2.2.2.1 v.2.1 v.2.2.1)).right := by kernel_rfl
theorem fr47_1_ok (k : Nat) : FragOK Try.prog lim47 (fr47_1 k) (codeAt (bodyOf Try.f47) [.r, .r, .l, .r, .s, .b, .r, .l, .s, .r, .s, .b, .r, .l, .s, .r, .r, .s]) :=
  frag_cast (by kernel_rfl) (loop_ok (cfg47_ok k) (Eq.mpr (pq47_1 k) ⟨(planOK_go _), ⟨⟨(planOK_go _), ⟨(fr47_0_ok k), (planOK_go _)⟩⟩, (planOK_go _)⟩⟩) (fun m v => F47_1 k m v.1.1 v.1.2.1 v.1.2.2.1 v.1.2.2.2.1 v.2.1 v.2.2.1) k (fun _ => rfl) (fun _ => rfl) fun m v => ⟨ps47_1 k m v, pe47_1 k m v⟩)
def pl47_2 (k : Nat) : Plan := (.seq .go (.seq (.sub (.seq .go (.seq .go (.sub (.frag (fr47_1 k)))))) .go))
theorem pq47_2 (k : Nat) : PlanOK Try.prog lim47 (pl47_2 k) (codeAt (bodyOf Try.f47) [.r, .r, .l, .r, .s, .b, .r, .l, .s, .r, .s, .b]) = (PlanOK Try.prog lim47 .go (codeAt (bodyOf Try.f47) [.r, .r, .l, .r, .s, .b, .r, .l, .s, .r, .s, .b, .l]) ∧ ((PlanOK Try.prog lim47 .go (codeAt (bodyOf Try.f47) [.r, .r, .l, .r, .s, .b, .r, .l, .s, .r, .s, .b, .r, .l, .s, .l]) ∧ (PlanOK Try.prog lim47 .go (codeAt (bodyOf Try.f47) [.r, .r, .l, .r, .s, .b, .r, .l, .s, .r, .s, .b, .r, .l, .s, .r, .l]) ∧ FragOK Try.prog lim47 (fr47_1 k) (codeAt (bodyOf Try.f47) [.r, .r, .l, .r, .s, .b, .r, .l, .s, .r, .s, .b, .r, .l, .s, .r, .r, .s]))) ∧ PlanOK Try.prog lim47 .go (codeAt (bodyOf Try.f47) [.r, .r, .l, .r, .s, .b, .r, .l, .s, .r, .s, .b, .r, .r]))) := by kernel_rfl
theorem ps47_2 (k m : Nat) (v : (fr47_2 k).sh.V) : F47_2 k (m + 1) v.1.1 v.1.2.1 v.1.2.2.1 v.2.1 = (body Try.prog (stepper Try.prog (cfg47 k) lim47) (pl47_2 k) (codeAt (bodyOf Try.f47) [.r, .r, .l, .r, .s, .b, .r, .l, .s, .r, .s, .b]) ((fr47_2 k).sh.st v) (loopK (fr47_2 k) fun v => F47_2 k m v.1.1 v.1.2.1 v.1.2.2.1 v.2.1)).eval := by kernel_rfl
theorem pe47_2 (k m : Nat) (v : (fr47_2 k).sh.V) : (body Try.prog (stepper Try.prog (cfg47 k) lim47) (pl47_2 k) (codeAt (bodyOf Try.f47) [.r, .r, .l, .r, .s, .b, .r, .l, .s, .r, .s, .b]) ((fr47_2 k).sh.st v) (loopK (fr47_2 k) fun v => F47_2 k m v.1.1 v.1.2.1 v.1.2.2.1 v.2.1)).left = (body Try.prog (stepper Try.prog (cfg47 k) lim47) (pl47_2 k) (codeAt (bodyOf Try.f47) [.r, .r, .l, .r, .s, .b, .r, .l, .s, .r, .s, .b]) ((fr47_2 k).sh.st v) (loopK (fr47_2 k) fun v => F47_2 k m v.1.1 v.1.2.1 v.1.2.2.1 v.2.1)).right := by kernel_rfl
theorem fr47_2_ok (k : Nat) : FragOK Try.prog lim47 (fr47_2 k) (codeAt (bodyOf Try.f47) [.r, .r, .l, .r, .s, .b, .r, .l, .s, .r, .s]) :=
  frag_cast (by kernel_rfl) (loop_ok (cfg47_ok k) (Eq.mpr (pq47_2 k) ⟨(planOK_go _), ⟨⟨(planOK_go _), ⟨(planOK_go _), (fr47_1_ok k)⟩⟩, (planOK_go _)⟩⟩) (fun m v => F47_2 k m v.1.1 v.1.2.1 v.1.2.2.1 v.2.1) k (fun _ => rfl) (fun _ => rfl) fun m v => ⟨ps47_2 k m v, pe47_2 k m v⟩)
def pl47_3 (k : Nat) : Plan := (.seq .go (.seq (.sub (.seq .go (.sub (.frag (fr47_2 k))))) .go))
theorem pq47_3 (k : Nat) : PlanOK Try.prog lim47 (pl47_3 k) (codeAt (bodyOf Try.f47) [.r, .r, .l, .r, .s, .b]) = (PlanOK Try.prog lim47 .go (codeAt (bodyOf Try.f47) [.r, .r, .l, .r, .s, .b, .l]) ∧ ((PlanOK Try.prog lim47 .go (codeAt (bodyOf Try.f47) [.r, .r, .l, .r, .s, .b, .r, .l, .s, .l]) ∧ FragOK Try.prog lim47 (fr47_2 k) (codeAt (bodyOf Try.f47) [.r, .r, .l, .r, .s, .b, .r, .l, .s, .r, .s])) ∧ PlanOK Try.prog lim47 .go (codeAt (bodyOf Try.f47) [.r, .r, .l, .r, .s, .b, .r, .r]))) := by kernel_rfl
theorem ps47_3 (k m : Nat) (v : (fr47_3 k).sh.V) : F47_3 k (m + 1) v.1.1 v.1.2.1 v.2.1 = (body Try.prog (stepper Try.prog (cfg47 k) lim47) (pl47_3 k) (codeAt (bodyOf Try.f47) [.r, .r, .l, .r, .s, .b]) ((fr47_3 k).sh.st v) (loopK (fr47_3 k) fun v => F47_3 k m v.1.1 v.1.2.1 v.2.1)).eval := by kernel_rfl
theorem pe47_3 (k m : Nat) (v : (fr47_3 k).sh.V) : (body Try.prog (stepper Try.prog (cfg47 k) lim47) (pl47_3 k) (codeAt (bodyOf Try.f47) [.r, .r, .l, .r, .s, .b]) ((fr47_3 k).sh.st v) (loopK (fr47_3 k) fun v => F47_3 k m v.1.1 v.1.2.1 v.2.1)).left = (body Try.prog (stepper Try.prog (cfg47 k) lim47) (pl47_3 k) (codeAt (bodyOf Try.f47) [.r, .r, .l, .r, .s, .b]) ((fr47_3 k).sh.st v) (loopK (fr47_3 k) fun v => F47_3 k m v.1.1 v.1.2.1 v.2.1)).right := by kernel_rfl
theorem fr47_3_ok (k : Nat) : FragOK Try.prog lim47 (fr47_3 k) (codeAt (bodyOf Try.f47) [.r, .r, .l, .r, .s]) :=
  frag_cast (by kernel_rfl) (loop_ok (cfg47_ok k) (Eq.mpr (pq47_3 k) ⟨(planOK_go _), ⟨⟨(planOK_go _), (fr47_2_ok k)⟩, (planOK_go _)⟩⟩) (fun m v => F47_3 k m v.1.1 v.1.2.1 v.2.1) k (fun _ => rfl) (fun _ => rfl) fun m v => ⟨ps47_3 k m v, pe47_3 k m v⟩)
def pl47 (k : Nat) : Plan := (.seq .go (.seq .go (.seq (.seq .go (.sub (.frag (fr47_3 k)))) .go)))
theorem pq47 (k : Nat) : PlanOK Try.prog lim47 (pl47 k) (codeAt (bodyOf Try.f47) []) = (PlanOK Try.prog lim47 .go (codeAt (bodyOf Try.f47) [.l]) ∧ (PlanOK Try.prog lim47 .go (codeAt (bodyOf Try.f47) [.r, .l]) ∧ ((PlanOK Try.prog lim47 .go (codeAt (bodyOf Try.f47) [.r, .r, .l, .l]) ∧ FragOK Try.prog lim47 (fr47_3 k) (codeAt (bodyOf Try.f47) [.r, .r, .l, .r, .s])) ∧ PlanOK Try.prog lim47 .go (codeAt (bodyOf Try.f47) [.r, .r, .r])))) := by kernel_rfl
theorem ev47 (k : Nat) (x : AT (sp47 k).ps) : (sp47 k).impl x = (fnT Try.prog (cfg47 k) lim47 Try.f47 (bodyOf Try.f47) (pl47 k) (sp47 k) x).eval := by kernel_rfl
theorem eq47 (k : Nat) (x : AT (sp47 k).ps) : (fnT Try.prog (cfg47 k) lim47 Try.f47 (bodyOf Try.f47) (pl47 k) (sp47 k) x).left = (fnT Try.prog (cfg47 k) lim47 Try.f47 (bodyOf Try.f47) (pl47 k) (sp47 k) x).right := by kernel_rfl
theorem v47 (k : Nat) : Callable Try.prog 47 ∧ Valid Try.prog 47 (sp47 k) :=
  fn_ok (cfg47_ok k) (f := 47) (fn := Try.f47) (by kernel_rfl) (c := bodyOf Try.f47) (by kernel_rfl) (by kernel_rfl) rfl rfl (Nat.le_of_ble_eq_true rfl) (Nat.le_of_ble_eq_true rfl) (p := pl47 k) (Eq.mpr (pq47 k) ⟨(planOK_go _), ⟨(planOK_go _), ⟨⟨(planOK_go _), (fr47_3_ok k)⟩, (planOK_go _)⟩⟩⟩) fun x => ⟨ev47 k x, eq47 k x⟩
/-! f51 hyphen/hyphenref3.Has -/
def F51_0 (k : Nat) : Nat → TY52 → Int → Int → Option ((Unit × Unit) ⊕ TY55)
  | 0, _, _, _ => none
  | n + 1, t0, t1, t5 =>
    let x4 := (decide (t5 < ((List.length t0 : Nat) : Int)))
    bif x4 then
      if 0 ≤ t5 ∧ t5 < ((List.length t0 : Nat) : Int) then
        let x5 := (List.getD t0 (Int.toNat t5) ((0 : Int), ((0 : Int), ())))
        bif (decide (t1 ≥ x5.1)) then
          if 0 ≤ t5 ∧ t5 < ((List.length t0 : Nat) : Int) then
            let x6 := (List.getD t0 (Int.toNat t5) ((0 : Int), ((0 : Int), ())))
            bif (decide (t1 ≤ x6.2.1)) then
              some (.inr ((true, ()), ()))
            else
              (F51_0 k n t0 t1 (IntKind.wrap .i64 (t5 + (1 : Int)))).bind some
          else none
        else
          (F51_0 k n t0 t1 (IntKind.wrap .i64 (t5 + (1 : Int)))).bind some
      else none
    else
      some (.inl ((), ()))
def fr51_0 (k : Nat) : Frag := ⟨⟨[], [(0, .val KD32), (1, .val (.int .i64)), (5, .val (.int .i64))], []⟩, [(.exit 0, ⟨[], [], []⟩), (.ret, ⟨[], [(4, .val .bool)], []⟩)], fun v => F51_0 k k v.1.1 v.1.2.1 v.1.2.2.1⟩
def F51 (k : Nat) (a0 : TY52) (a1 : Int) : Option TY55 :=
  (F51_0 k k a0 a1 (0 : Int)).bind fun r7 =>
  match r7 with
  | .inl r8 =>
    some ((false, ()), ())
  | .inr r8 =>
    let y9 := r8.1.1
    some ((y9, ()), ())
def sp51 (k : Nat) : Spec := ⟨[.val KD32, .val (.int .i64)], [.val .bool], fun x => F51 k x.1 x.2.1⟩
def lim51 : Lim := ⟨28, 2, false, false, []⟩
def cfg51 (k : Nat) : Nat → Option Spec := cfgL []
theorem cfg51_ok (k : Nat) : CfgOK Try.prog (cfg51 k) := cfgL_nil
def pl51_0 (k : Nat) : Plan := .go
theorem pq51_0 (k : Nat) : PlanOK Try.prog lim51 (pl51_0 k) (codeAt (bodyOf Try.f51) [.r, .l, .r, .s, .b]) = PlanOK Try.prog lim51 .go (codeAt (bodyOf Try.f51) [.r, .l, .r, .s, .b]) := by kernel_rfl
theorem ps51_0 (k m : Nat) (v : (fr51_0 k).sh.V) : F51_0 k (m + 1) v.1.1 v.1.2.1 v.1.2.2.1 = (body Try.prog (stepper Try.prog (cfg51 k) lim51) (pl51_0 k) (codeAt (bodyOf Try.f51) [.r, .l, .r, .s, .b]) ((fr51_0 k).sh.st v) (loopK (fr51_0 k) fun v => F51_0 k m v.1.1 v.1.2.1 v.1.2.2.1)).eval := by kernel_rfl
theorem pe51_0 (k m : Nat) (v : (fr51_0 k).sh.V) : (body Try.prog (stepper Try.prog (cfg51 k) lim51) (pl51_0 k) (codeAt (bodyOf Try.f51) [.r, .l, .r, .s, .b]) ((fr51_0 k).sh.st v) (loopK (fr51_0 k) fun v => F51_0 k m v.1.1 v.1.2.1 v.1.2.2.1)).left = (body Try.prog (stepper Try.prog (cfg51 k) lim51) (pl51_0 k) (codeAt (bodyOf Try.f51) [.r, .l, .r, .s, .b]) ((fr51_0 k).sh.st v) (loopK (fr51_0 k) fun v => F51_0 k m v.1.1 v.1.2.1 v.1.2.2.1)).right := by kernel_rfl
theorem fr51_0_ok (k : Nat) : FragOK Try.prog lim51 (fr51_0 k) (codeAt (bodyOf Try.f51) [.r, .l, .r, .s]) :=
  frag_cast (by kernel_rfl) (loop_ok (cfg51_ok k) (Eq.mpr (pq51_0 k) (planOK_go _)) (fun m v => F51_0 k m v.1.1 v.1.2.1 v.1.2.2.1) k (fun _ => rfl) (fun _ => rfl) fun m v => ⟨ps51_0 k m v, pe51_0 k m v⟩)
def pl51 (k : Nat) : Plan := (.seq .go (.seq (.seq .go (.sub (.frag (fr51_0 k)))) .go))
theorem pq51 (k : Nat) : PlanOK Try.prog lim51 (pl51 k) (codeAt (bodyOf Try.f51) []) = (PlanOK Try.prog lim51 .go (codeAt (bodyOf Try.f51) [.l]) ∧ ((PlanOK Try.prog lim51 .go (codeAt (bodyOf Try.f51) [.r, .l, .l]) ∧ FragOK Try.prog lim51 (fr51_0 k) (codeAt (bodyOf Try.f51) [.r, .l, .r, .s])) ∧ PlanOK Try.prog lim51 .go (codeAt (bodyOf Try.f51) [.r, .r]))) := by kernel_rfl
theorem ev51 (k : Nat) (x : AT (sp51 k).ps) : (sp51 k).impl x = (fnT Try.prog (cfg51 k) lim51 Try.f51 (bodyOf Try.f51) (pl51 k) (sp51 k) x).eval := by kernel_rfl
theorem eq51 (k : Nat) (x : AT (sp51 k).ps) : (fnT Try.prog (cfg51 k) lim51 Try.f51 (bodyOf Try.f51) (pl51 k) (sp51 k) x).left = (fnT Try.prog (cfg51 k) lim51 Try.f51 (bodyOf Try.f51) (pl51 k) (sp51 k) x).right := by kernel_rfl
theorem v51 (k : Nat) : Callable Try.prog 51 ∧ Valid Try.prog 51 (sp51 k) :=
  fn_ok (cfg51_ok k) (f := 51) (fn := Try.f51) (by kernel_rfl) (c := bodyOf Try.f51) (by kernel_rfl) (by kernel_rfl) rfl rfl (Nat.le_of_ble_eq_true rfl) (Nat.le_of_ble_eq_true rfl) (p := pl51 k) (Eq.mpr (pq51 k) ⟨(planOK_go _), ⟨⟨(planOK_go _), (fr51_0_ok k)⟩, (planOK_go _)⟩⟩) fun x => ⟨ev51 k x, eq51 k x⟩
/-! f48 hyphen/hyphenref4.key -/
def F48_0 (k : Nat) : Nat → TY47 → Int → Int → Int → Option (TY56)
  | 0, _, _, _, _ => none
  | n + 1, t0, t1, t5, t6 =>
    let x5 := (decide (t6 < ((List.length t0 : Nat) : Int)))
    bif x5 then
      if 0 ≤ t6 ∧ t6 < ((List.length t0 : Nat) : Int) then
        let x6 := (List.getD t0 (Int.toNat t6) ([] : TY52))
        (F51 k x6 t1).bind fun r7 =>
        bif r7.1.1 then
          let x8 := (IntKind.wrap .i64 ((IntKind.wrap .i64 ((2 : Int) * t5)) + (1 : Int)))
          (F48_0 k n t0 t1 x8 (IntKind.wrap .i64 (t6 + (1 : Int)))).bind some
        else
          (F48_0 k n t0 t1 (IntKind.wrap .i64 ((2 : Int) * t5)) (IntKind.wrap .i64 (t6 + (1 : Int)))).bind some
      else none
    else
      some ((t5, ()), ())
def fr48_0 (k : Nat) : Frag := ⟨⟨[], [(0, .val KD23), (1, .val (.int .i64)), (5, .val (.int .i64)), (6, .val (.int .i64))], []⟩, [(.exit 0, ⟨[], [(5, .val (.int .i64))], []⟩)], fun v => F48_0 k k v.1.1 v.1.2.1 v.1.2.2.1 v.1.2.2.2.1⟩
def F48 (k : Nat) (a0 : TY47) (a1 : Int) : Option TY56 :=
  (F48_0 k k a0 a1 (0 : Int) (0 : Int)).bind fun r9 =>
  let y10 := r9.1.1
  some ((y10, ()), ())
def sp48 (k : Nat) : Spec := ⟨[.val KD23, .val (.int .i64)], [.val (.int .i64)], fun x => F48 k x.1 x.2.1⟩
def lim48 : Lim := ⟨24, 2, false, false, []⟩
def cfg48 (k : Nat) : Nat → Option Spec := cfgL [(51, sp51 k)]
theorem cfg48_ok (k : Nat) : CfgOK Try.prog (cfg48 k) := cfgL_cons (v51 k) (cfgL_nil)
def pl48_0 (k : Nat) : Plan := .go
theorem pq48_0 (k : Nat) : PlanOK Try.prog lim48 (pl48_0 k) (codeAt (bodyOf Try.f48) [.r, .r, .l, .r, .s, .b]) = PlanOK Try.prog lim48 .go (codeAt (bodyOf Try.f48) [.r, .r, .l, .r, .s, .b]) := by kernel_rfl
theorem ps48_0 (k m : Nat) (v : (fr48_0 k).sh.V) : F48_0 k (m + 1) v.1.1 v.1.2.1 v.1.2.2.1 v.1.2.2.2.1 = (body Try.prog (stepper Try.prog (cfg48 k) lim48) (pl48_0 k) (codeAt (bodyOf Try.f48) [.r, .r, .l, .r, .s, .b]) ((fr48_0 k).sh.st v) (loopK (fr48_0 k) fun v => F48_0 k m v.1.1 v.1.2.1 v.1.2.2.1 v.1.2.2.2.1)).eval := by kernel_rfl
theorem pe48_0 (k m : Nat) (v : (fr48_0 k).sh.V) : (body Try.prog (stepper Try.prog (cfg48 k) lim48) (pl48_0 k) (codeAt (bodyOf Try.f48) [.r, .r, .l, .r, .s, .b]) ((fr48_0 k).sh.st v) (loopK (fr48_0 k) fun v => F48_0 k m v.1.1 v.1.2.1 v.1.2.2.1 v.1.2.2.2.1)).left = (body Try.prog (stepper Try.prog (cfg48 k) lim48) (pl48_0 k) (codeAt (bodyOf Try.f48) [.r, .r, .l, .r, .s, .b]) ((fr48_0 k).sh.st v) (loopK (fr48_0 k) fun v => F48_0 k m v.1.1 v.1.2.1 v.1.2.2.1 v.1.2.2.2.1)).right := by kernel_rfl
theorem fr48_0_ok (k : Nat) : FragOK Try.prog lim48 (fr48_0 k) (codeAt (bodyOf Try.f48) [.r, .r, .l, .r, .s]) :=
  frag_cast (by kernel_rfl) (loop_ok (cfg48_ok k) (Eq.mpr (pq48_0 k) (planOK_go _)) (fun m v => F48_0 k m v.1.1 v.1.2.1 v.1.2.2.1 v.1.2.2.2.1) k (fun _ => rfl) (fun _ => rfl) fun m v => ⟨ps48_0 k m v, pe48_0 k m v⟩)
def pl48 (k : Nat) : Plan := (.seq .go (.seq .go (.seq (.seq .go (.sub (.frag (fr48_0 k)))) .go)))
theorem pq48 (k : Nat) : PlanOK Try.prog lim48 (pl48 k) (codeAt (bodyOf Try.f48) []) = (PlanOK Try.prog lim48 .go (codeAt (bodyOf Try.f48) [.l]) ∧ (PlanOK Try.prog lim48 .go (codeAt (bodyOf Try.f48) [.r, .l]) ∧ ((PlanOK Try.prog lim48 .go (codeAt (bodyOf Try.f48) [.r, .r, .l, .l]) ∧ FragOK Try.prog lim48 (fr48_0 k) (codeAt (bodyOf Try.f48) [.r, .r, .l, .r, .s])) ∧ PlanOK Try.prog lim48 .go (codeAt (bodyOf Try.f48) [.r, .r, .r])))) := by kernel_rfl
theorem ev48 (k : Nat) (x : AT (sp48 k).ps) : (sp48 k).impl x = (fnT Try.prog (cfg48 k) lim48 Try.f48 (bodyOf Try.f48) (pl48 k) (sp48 k) x).eval := by kernel_rfl
theorem eq48 (k : Nat) (x : AT (sp48 k).ps) : (fnT Try.prog (cfg48 k) lim48 Try.f48 (bodyOf Try.f48) (pl48 k) (sp48 k) x).left = (fnT Try.prog (cfg48 k) lim48 Try.f48 (bodyOf Try.f48) (pl48 k) (sp48 k) x).right := by kernel_rfl
theorem v48 (k : Nat) : Callable Try.prog 48 ∧ Valid Try.prog 48 (sp48 k) :=
  fn_ok (cfg48_ok k) (f := 48) (fn := Try.f48) (by kernel_rfl) (c := bodyOf Try.f48) (by kernel_rfl) (by kernel_rfl) rfl rfl (Nat.le_of_ble_eq_true rfl) (Nat.le_of_ble_eq_true rfl) (p := pl48 k) (Eq.mpr (pq48 k) ⟨(planOK_go _), ⟨(planOK_go _), ⟨⟨(planOK_go _), (fr48_0_ok k)⟩, (planOK_go _)⟩⟩⟩) fun x => ⟨ev48 k x, eq48 k x⟩
/-! f29 hyphen/hyphenref4.Cuts -/
def F29_0 (k : Nat) : Nat → TY47 → Int → Int → Int → Int → (List Int) → (List Int) → (List Int) → (List Int) → Option ((TY31 × ((List Int) × (List Int) × (List Int) × (List Int) × Unit)))
  | 0, _, _, _, _, _, _, _, _, _ => none
  | n + 1, t0, t8, t9, t10, t11, c1000208, c2000004, c2000005, c2000006 =>
    let x5 := (decide (t11 < ((List.length c2000006 : Nat) : Int)))
    bif x5 then
      if 0 ≤ t11 ∧ t11 < ((List.length c2000006 : Nat) : Int) then
        let x6 := (List.getD c2000006 (Int.toNat t11) (0 : Int))
        bif (x6 != t10) then
          (F29_0 k n t0 t8 t9 t10 (IntKind.wrap .i64 (t11 + (1 : Int))) c1000208 c2000004 c2000005 c2000006).bind some
        else
          some ((t0, t8, t9, t10, t11, ()), (c1000208, c2000004, c2000005, c2000006, ()))
      else none
    else
      some ((t0, t8, t9, t10, t11, ()), (c1000208, c2000004, c2000005, c2000006, ()))
def fr29_0 (k : Nat) : Frag := ⟨⟨[(4, KD49), (5, KD49), (6, KD49)], [(0, .val KD23), (4, .at 2000004 []), (5, .at 2000005 []), (6, .at 2000006 []), (7, .at 1000208 []), (8, .val (.int .i64)), (9, .val (.int .i64)), (10, .val (.int .i64)), (11, .val (.int .i64))], [(1000208, none, KD49), (2000004, none, KD49), (2000005, none, KD49), (2000006, none, KD49)]⟩, [(.exit 2, ⟨[], [(0, .val KD23), (4, .at 2000004 []), (5, .at 2000005 []), (6, .at 2000006 []), (7, .at 1000208 []), (8, .val (.int .i64)), (9, .val (.int .i64)), (10, .val (.int .i64)), (11, .val (.int .i64))], [(1000208, none, KD49), (2000004, none, KD49), (2000005, none, KD49), (2000006, none, KD49)]⟩)], fun v => F29_0 k k v.1.1 v.1.2.1 v.1.2.2.1 v.1.2.2.2.1 v.1.2.2.2.2.1 v.2.1 v.2.2.1 v.2.2.2.1 v.2.2.2.2.1⟩
def F29_1 (k : Nat) : Nat → TY47 → Int → Int → (List Int) → (List Int) → (List Int) → (List Int) → Option ((Unit × ((List Int) × (List Int) × Unit)))
  | 0, _, _, _, _, _, _, _ => none
  | n + 1, t0, t8, t9, c1000208, c2000004, c2000005, c2000006 =>
    let x2 := (decide (t9 < ((List.length c1000208 : Nat) : Int)))
    bif x2 then
      if 0 ≤ t9 ∧ t9 < ((List.length c1000208 : Nat) : Int) then
        let x3 := (List.getD c1000208 (Int.toNat t9) (0 : Int))
        (F48 k t0 x3).bind fun r4 =>
        bif (r4.1.1 == t8) then
          (F29_1 k n t0 t8 (IntKind.wrap .i64 (t9 + (1 : Int))) c1000208 c2000004 c2000005 c2000006).bind some
        else
          (F29_0 k k t0 r4.1.1 t9 r4.1.1 (0 : Int) c1000208 c2000004 c2000005 c2000006).bind fun r7 =>
          let y8 := r7.1.1
          let y9 := r7.1.2.1
          let y10 := r7.1.2.2.1
          let y11 := r7.1.2.2.2.1
          let y12 := r7.1.2.2.2.2.1
          let y13 := r7.2.1
          let y14 := r7.2.2.1
          let y15 := r7.2.2.2.1
          let y16 := r7.2.2.2.2.1
          bif (y12 == ((List.length y16 : Nat) : Int)) then
            let x17 := (List.set (List.replicate 1 (0 : Int)) 0 y11)
            if (List.length y16 + List.length x17) * (8 * 2) ≤ 281474976710656 ∧ List.length y16 + List.length x17 ≤ 9223372036854775807 then
              if 0 ≤ y10 ∧ y10 < ((List.length y13 : Nat) : Int) then
                let x18 := (List.set (List.replicate 1 (0 : Int)) 0 (List.getD y13 (Int.toNat y10) (0 : Int)))
                if (List.length y14 + List.length x18) * (8 * 2) ≤ 281474976710656 ∧ List.length y14 + List.length x18 ≤ 9223372036854775807 then
                  let x19 := (List.set (List.replicate 1 (0 : Int)) 0 y12)
                  if (List.length y15 + List.length x19) * (8 * 2) ≤ 281474976710656 ∧ List.length y15 + List.length x19 ≤ 9223372036854775807 then
                    (F29_1 k n y8 y9 (IntKind.wrap .i64 (y10 + (1 : Int))) y13 (y14 ++ x18) (y15 ++ x19) (y16 ++ x17)).bind some
                  else none
                else none
              else none
            else none
          else
            if 0 ≤ y10 ∧ y10 < ((List.length y13 : Nat) : Int) then
              let x20 := (List.set (List.replicate 1 (0 : Int)) 0 (List.getD y13 (Int.toNat y10) (0 : Int)))
              if (List.length y14 + List.length x20) * (8 * 2) ≤ 281474976710656 ∧ List.length y14 + List.length x20 ≤ 9223372036854775807 then
                let x21 := (List.set (List.replicate 1 (0 : Int)) 0 y12)
                if (List.length y15 + List.length x21) * (8 * 2) ≤ 281474976710656 ∧ List.length y15 + List.length x21 ≤ 9223372036854775807 then
                  (F29_1 k n y8 y9 (IntKind.wrap .i64 (y10 + (1 : Int))) y13 (y14 ++ x20) (y15 ++ x21) y16).bind some
                else none
              else none
            else none
      else none
    else
      some ((), (c2000004, c2000005, ()))
def fr29_1 (k : Nat) : Frag := ⟨⟨[(4, KD49), (5, KD49), (6, KD49)], [(0, .val KD23), (4, .at 2000004 []), (5, .at 2000005 []), (6, .at 2000006 []), (7, .at 1000208 []), (8, .val (.int .i64)), (9, .val (.int .i64))], [(1000208, none, KD49), (2000004, none, KD49), (2000005, none, KD49), (2000006, none, KD49)]⟩, [(.exit 0, ⟨[(4, KD49), (5, KD49)], [(4, .at 2000004 []), (5, .at 2000005 [])], [(2000004, none, KD49), (2000005, none, KD49)]⟩)], fun v => F29_1 k k v.1.1 v.1.2.1 v.1.2.2.1 v.2.1 v.2.2.1 v.2.2.2.1 v.2.2.2.2.1⟩
def F29 (k : Nat) (a0 : TY47) : Option (((List Int) × (List Int) × Unit) × Unit) :=
  (F47 k a0).bind fun r1 =>
  (F29_1 k k a0 (-1 : Int) (0 : Int) r1.1.1 [] [] []).bind fun r22 =>
  let y23 := r22.2.1
  let y24 := r22.2.2.1
  some ((y23, y24, ()), ())
def sp29 (k : Nat) : Spec := ⟨[.val KD23], [.own KD49, .own KD49], fun x => F29 k x.1⟩
def lim29 : Lim := ⟨65, 1, false, false, []⟩
def cfg29 (k : Nat) : Nat → Option Spec := cfgL [(47, sp47 k), (48, sp48 k)]
theorem cfg29_ok (k : Nat) : CfgOK Try.prog (cfg29 k) := cfgL_cons (v47 k) (cfgL_cons (v48 k) (cfgL_nil))
def pl29_0 (k : Nat) : Plan := .go
theorem pq29_0 (k : Nat) : PlanOK Try.prog lim29 (pl29_0 k) (codeAt (bodyOf Try.f29) [.r, .r, .r, .r, .l, .r, .s, .b, .r, .l, .s, .r, .r, .r, .r, .l, .s, .b]) = PlanOK Try.prog lim29 .go (codeAt (bodyOf Try.f29) [.r, .r, .r, .r, .l, .r, .s, .b, .r, .l, .s, .r, .r, .r, .r, .l, .s, .b]) := by kernel_rfl
theorem ps29_0 (k m : Nat) (v : (fr29_0 k).sh.V) : F29_0 k (m + 1) v.1.1 v.1.2.1 v.1.2.2.1 v.1.2.2.2.1 v.1.2.2.2.2.1 v.2.1 v.2.2.1 v.2.2.2.1 v.2.2.2.2.1 = (body Try.prog (stepper Try.prog (cfg29 k) lim29) (pl29_0 k) (codeAt (bodyOf Try.f29) [.r, .r, .r, .r, .l, .r, .s, .b, .r, .l, .s, .r, .r, .r, .r, .l, .s, .b]) ((fr29_0 k).sh.st v) (loopK (fr29_0 k) fun v => F29_0 k m v.1.1 v.1.2.1 v.1.2.2.1 v.1.2.2.2.1 v.1.2.2.2.2.1 v.2.1 v.2.2.1 v.2.2.2.1 v.2.2.2.2.1)).eval := by kernel_rfl
theorem pe29_0 (k m : Nat) (v : (fr29_0 k).sh.V) : (body Try.prog (stepper Try.prog (cfg29 k) lim29) (pl29_0 k) (codeAt (bodyOf Try.f29) [.r, .r, .r, .r, .l, .r, .s, .b, .r, .l, .s, .r, .r, .r, .r, .l, .s, .b]) ((fr29_0 k).sh.st v) (loopK (fr29_0 k) fun v => F29_0 k m v.1.1 v.1.2.1 v.1.2.2.1 v.1.2.2.2.1 v.1.2.2.2.2.1 v.2.1 v.2.2.1 v.2.2.2.1 v.2.2.2.2.1)).left = (body Try.prog (stepper Try.prog (cfg29 k) lim29) (pl29_0 k) (codeAt (bodyOf Try.f29) [.r, .r, .r, .r, .l, .r, .s, .b, .r, .l, .s, .r, .r, .r, .r, .l, .s, .b]) ((fr29_0 k).sh.st v) (loopK (fr29_0 k) fun v => F29_0 k m v.1.1 v.1.2.1 v.1.2.2.1 v.1.2.2.2.1 v.1.2.2.2.2.1 v.2.1 v.2.2.1 v.2.2.2.1 v.2.2.2.2.1)).right := by kernel_rfl
theorem fr29_0_ok (k : Nat) : FragOK Try.prog lim29 (fr29_0 k) (codeAt (bodyOf Try.f29) [.r, .r, .r, .r, .l, .r, .s, .b, .r, .l, .s, .r, .r, .r, .r, .l, .s]) :=
  frag_cast (by kernel_rfl) (loop_ok (cfg29_ok k) (Eq.mpr (pq29_0 k) (planOK_go _)) (fun m v => F29_0 k m v.1.1 v.1.2.1 v.1.2.2.1 v.1.2.2.2.1 v.1.2.2.2.2.1 v.2.1 v.2.2.1 v.2.2.2.1 v.2.2.2.2.1) k (fun _ => rfl) (fun _ => rfl) fun m v => ⟨ps29_0 k m v, pe29_0 k m v⟩)
def pl29_1 (k : Nat) : Plan := (.seq .go (.seq (.sub (.seq .go (.seq .go (.seq .go (.seq .go (.seq (.sub (.frag (fr29_0 k))) .go)))))) .go))
theorem pq29_1 (k : Nat) : PlanOK Try.prog lim29 (pl29_1 k) (codeAt (bodyOf Try.f29) [.r, .r, .r, .r, .l, .r, .s, .b]) = (PlanOK Try.prog lim29 .go (codeAt (bodyOf Try.f29) [.r, .r, .r, .r, .l, .r, .s, .b, .l]) ∧ ((PlanOK Try.prog lim29 .go (codeAt (bodyOf Try.f29) [.r, .r, .r, .r, .l, .r, .s, .b, .r, .l, .s, .l]) ∧ (PlanOK Try.prog lim29 .go (codeAt (bodyOf Try.f29) [.r, .r, .r, .r, .l, .r, .s, .b, .r, .l, .s, .r, .l]) ∧ (PlanOK Try.prog lim29 .go (codeAt (bodyOf Try.f29) [.r, .r, .r, .r, .l, .r, .s, .b, .r, .l, .s, .r, .r, .l]) ∧ (PlanOK Try.prog lim29 .go (codeAt (bodyOf Try.f29) [.r, .r, .r, .r, .l, .r, .s, .b, .r, .l, .s, .r, .r, .r, .l]) ∧ (FragOK Try.prog lim29 (fr29_0 k) (codeAt (bodyOf Try.f29) [.r, .r, .r, .r, .l, .r, .s, .b, .r, .l, .s, .r, .r, .r, .r, .l, .s]) ∧ PlanOK Try.prog lim29 .go (codeAt (bodyOf Try.f29) [.r, .r, .r, .r, .l, .r, .s, .b, .r, .l, .s, .r, .r, .r, .r, .r])))))) ∧ PlanOK Try.prog lim29 .go (codeAt (bodyOf Try.f29) [.r, .r, .r, .r, .l, .r, .s, .b, .r, .r]))) := by kernel_rfl
theorem ps29_1 (k m : Nat) (v : (fr29_1 k).sh.V) : F29_1 k (m + 1) v.1.1 v.1.2.1 v.1.2.2.1 v.2.1 v.2.2.1 v.2.2.2.1 v.2.2.2.2.1 = (body Try.prog (stepper Try.prog (cfg29 k) lim29) (pl29_1 k) (codeAt (bodyOf Try.f29) [.r, .r, .r, .r, .l, .r, .s, .b]) ((fr29_1 k).sh.st v) (loopK (fr29_1 k) fun v => F29_1 k m v.1.1 v.1.2.1 v.1.2.2.1 v.2.1 v.2.2.1 v.2.2.2.1 v.2.2.2.2.1)).eval := by kernel_rfl
theorem pe29_1 (k m : Nat) (v : (fr29_1 k).sh.V) : (body Try.prog (stepper Try.prog (cfg29 k) lim29) (pl29_1 k) (codeAt (bodyOf Try.f29) [.r, .r, .r, .r, .l, .r, .s, .b]) ((fr29_1 k).sh.st v) (loopK (fr29_1 k) fun v => F29_1 k m v.1.1 v.1.2.1 v.1.2.2.1 v.2.1 v.2.2.1 v.2.2.2.1 v.2.2.2.2.1)).left = (body Try.prog (stepper Try.prog (cfg29 k) lim29) (pl29_1 k) (codeAt (bodyOf Try.f29) [.r, .r, .r, .r, .l, .r, .s, .b]) ((fr29_1 k).sh.st v) (loopK (fr29_1 k) fun v => F29_1 k m v.1.1 v.1.2.1 v.1.2.2.1 v.2.1 v.2.2.1 v.2.2.2.1 v.2.2.2.2.1)).right := by kernel_rfl
theorem fr29_1_ok (k : Nat) : FragOK Try.prog lim29 (fr29_1 k) (codeAt (bodyOf Try.f29) [.r, .r, .r, .r, .l, .r, .s]) :=
  frag_cast (by kernel_rfl) (loop_ok (cfg29_ok k) (Eq.mpr (pq29_1 k) ⟨(planOK_go _), ⟨⟨(planOK_go _), ⟨(planOK_go _), ⟨(planOK_go _), ⟨(planOK_go _), ⟨(fr29_0_ok k), (planOK_go _)⟩⟩⟩⟩⟩, (planOK_go _)⟩⟩) (fun m v => F29_1 k m v.1.1 v.1.2.1 v.1.2.2.1 v.2.1 v.2.2.1 v.2.2.2.1 v.2.2.2.2.1) k (fun _ => rfl) (fun _ => rfl) fun m v => ⟨ps29_1 k m v, pe29_1 k m v⟩)
def pl29 (k : Nat) : Plan := (.seq .go (.seq .go (.seq .go (.seq .go (.seq (.seq .go (.sub (.frag (fr29_1 k)))) .go)))))
theorem pq29 (k : Nat) : PlanOK Try.prog lim29 (pl29 k) (codeAt (bodyOf Try.f29) []) = (PlanOK Try.prog lim29 .go (codeAt (bodyOf Try.f29) [.l]) ∧ (PlanOK Try.prog lim29 .go (codeAt (bodyOf Try.f29) [.r, .l]) ∧ (PlanOK Try.prog lim29 .go (codeAt (bodyOf Try.f29) [.r, .r, .l]) ∧ (PlanOK Try.prog lim29 .go (codeAt (bodyOf Try.f29) [.r, .r, .r, .l]) ∧ ((PlanOK Try.prog lim29 .go (codeAt (bodyOf Try.f29) [.r, .r, .r, .r, .l, .l]) ∧ FragOK Try.prog lim29 (fr29_1 k) (codeAt (bodyOf Try.f29) [.r, .r, .r, .r, .l, .r, .s])) ∧ PlanOK Try.prog lim29 .go (codeAt (bodyOf Try.f29) [.r, .r, .r, .r, .r])))))) := by kernel_rfl
theorem ev29 (k : Nat) (x : AT (sp29 k).ps) : (sp29 k).impl x = (fnT Try.prog (cfg29 k) lim29 Try.f29 (bodyOf Try.f29) (pl29 k) (sp29 k) x).eval := by kernel_rfl
theorem eq29 (k : Nat) (x : AT (sp29 k).ps) : (fnT Try.prog (cfg29 k) lim29 Try.f29 (bodyOf Try.f29) (pl29 k) (sp29 k) x).left = (fnT Try.prog (cfg29 k) lim29 Try.f29 (bodyOf Try.f29) (pl29 k) (sp29 k) x).right := by kernel_rfl
theorem v29 (k : Nat) : Callable Try.prog 29 ∧ Valid Try.prog 29 (sp29 k) :=
  fn_ok (cfg29_ok k) (f := 29) (fn := Try.f29) (by kernel_rfl) (c := bodyOf Try.f29) (by kernel_rfl) (by kernel_rfl) rfl rfl (Nat.le_of_ble_eq_true rfl) (Nat.le_of_ble_eq_true rfl) (p := pl29 k) (Eq.mpr (pq29 k) ⟨(planOK_go _), ⟨(planOK_go _), ⟨(planOK_go _), ⟨(planOK_go _), ⟨⟨(planOK_go _), (fr29_1_ok k)⟩, (planOK_go _)⟩⟩⟩⟩⟩) fun x => ⟨ev29 k x, eq29 k x⟩
/-! f50 hyphen/hyphenref4.Count -/
def F50_0 (k : Nat) : Nat → (List Int) → Int → Int → Option (TY56)
  | 0, _, _, _ => none
  | n + 1, t0, t3, t4 =>
    let x3 := (decide (t4 < ((List.length t0 : Nat) : Int)))
    bif x3 then
      if 0 ≤ t4 ∧ t4 < ((List.length t0 : Nat) : Int) then
        let x4 := (IntKind.wrap .i64 ((List.getD t0 (Int.toNat t4) (0 : Int)) + (1 : Int)))
        (F50_0 k n t0 (maxI t3 x4) (IntKind.wrap .i64 (t4 + (1 : Int)))).bind some
      else none
    else
      some ((t3, ()), ())
def fr50_0 (k : Nat) : Frag := ⟨⟨[], [(0, .val KD48), (3, .val (.int .i64)), (4, .val (.int .i64))], []⟩, [(.exit 0, ⟨[], [(3, .val (.int .i64))], []⟩)], fun v => F50_0 k k v.1.1 v.1.2.1 v.1.2.2.1⟩
def F50 (k : Nat) (a0 : (List Int)) : Option TY56 :=
  (F50_0 k k a0 (0 : Int) (0 : Int)).bind fun r5 =>
  let y6 := r5.1.1
  some ((y6, ()), ())
def sp50 (k : Nat) : Spec := ⟨[.val KD48], [.val (.int .i64)], fun x => F50 k x.1⟩
def lim50 : Lim := ⟨19, 1, false, false, []⟩
def cfg50 (k : Nat) : Nat → Option Spec := cfgL []
theorem cfg50_ok (k : Nat) : CfgOK Try.prog (cfg50 k) := cfgL_nil
def pl50_0 (k : Nat) : Plan := .go
theorem pq50_0 (k : Nat) : PlanOK Try.prog lim50 (pl50_0 k) (codeAt (bodyOf Try.f50) [.r, .r, .l, .r, .s, .b]) = PlanOK Try.prog lim50 .go (codeAt (bodyOf Try.f50) [.r, .r, .l, .r, .s, .b]) := by kernel_rfl
theorem ps50_0 (k m : Nat) (v : (fr50_0 k).sh.V) : F50_0 k (m + 1) v.1.1 v.1.2.1 v.1.2.2.1 = (body Try.prog (stepper Try.prog (cfg50 k) lim50) (pl50_0 k) (codeAt (bodyOf Try.f50) [.r, .r, .l, .r, .s, .b]) ((fr50_0 k).sh.st v) (loopK (fr50_0 k) fun v => F50_0 k m v.1.1 v.1.2.1 v.1.2.2.1)).eval := by kernel_rfl
theorem pe50_0 (k m : Nat) (v : (fr50_0 k).sh.V) : (body Try.prog (stepper Try.prog (cfg50 k) lim50) (pl50_0 k) (codeAt (bodyOf Try.f50) [.r, .r, .l, .r, .s, .b]) ((fr50_0 k).sh.st v) (loopK (fr50_0 k) fun v => F50_0 k m v.1.1 v.1.2.1 v.1.2.2.1)).left = (body Try.prog (stepper Try.prog (cfg50 k) lim50) (pl50_0 k) (codeAt (bodyOf Try.f50) [.r, .r, .l, .r, .s, .b]) ((fr50_0 k).sh.st v) (loopK (fr50_0 k) fun v => F50_0 k m v.1.1 v.1.2.1 v.1.2.2.1)).right := by kernel_rfl
theorem fr50_0_ok (k : Nat) : FragOK Try.prog lim50 (fr50_0 k) (codeAt (bodyOf Try.f50) [.r, .r, .l, .r, .s]) :=
  frag_cast (by kernel_rfl) (loop_ok (cfg50_ok k) (Eq.mpr (pq50_0 k) (planOK_go _)) (fun m v => F50_0 k m v.1.1 v.1.2.1 v.1.2.2.1) k (fun _ => rfl) (fun _ => rfl) fun m v => ⟨ps50_0 k m v, pe50_0 k m v⟩)
def pl50 (k : Nat) : Plan := (.seq .go (.seq .go (.seq (.seq .go (.sub (.frag (fr50_0 k)))) .go)))
theorem pq50 (k : Nat) : PlanOK Try.prog lim50 (pl50 k) (codeAt (bodyOf Try.f50) []) = (PlanOK Try.prog lim50 .go (codeAt (bodyOf Try.f50) [.l]) ∧ (PlanOK Try.prog lim50 .go (codeAt (bodyOf Try.f50) [.r, .l]) ∧ ((PlanOK Try.prog lim50 .go (codeAt (bodyOf Try.f50) [.r, .r, .l, .l]) ∧ FragOK Try.prog lim50 (fr50_0 k) (codeAt (bodyOf Try.f50) [.r, .r, .l, .r, .s])) ∧ PlanOK Try.prog lim50 .go (codeAt (bodyOf Try.f50) [.r, .r, .r])))) := by kernel_rfl
theorem ev50 (k : Nat) (x : AT (sp50 k).ps) : (sp50 k).impl x = (fnT Try.prog (cfg50 k) lim50 Try.f50 (bodyOf Try.f50) (pl50 k) (sp50 k) x).eval := by kernel_rfl
theorem eq50 (k : Nat) (x : AT (sp50 k).ps) : (fnT Try.prog (cfg50 k) lim50 Try.f50 (bodyOf Try.f50) (pl50 k) (sp50 k) x).left = (fnT Try.prog (cfg50 k) lim50 Try.f50 (bodyOf Try.f50) (pl50 k) (sp50 k) x).right := by kernel_rfl
theorem v50 (k : Nat) : Callable Try.prog 50 ∧ Valid Try.prog 50 (sp50 k) :=
  fn_ok (cfg50_ok k) (f := 50) (fn := Try.f50) (by kernel_rfl) (c := bodyOf Try.f50) (by kernel_rfl) (by kernel_rfl) rfl rfl (Nat.le_of_ble_eq_true rfl) (Nat.le_of_ble_eq_true rfl) (p := pl50 k) (Eq.mpr (pq50 k) ⟨(planOK_go _), ⟨(planOK_go _), ⟨⟨(planOK_go _), (fr50_0_ok k)⟩, (planOK_go _)⟩⟩⟩) fun x => ⟨ev50 k x, eq50 k x⟩
/-! f31 hyphen/hyphenref4.In -/
def F31_0 (k : Nat) : Nat → TY47 → (List Int) → (List Int) → Int → Int → (List Bool) → (List (List Bool)) → Option (((TY47 × (List Int) × (List Int) × Int × Unit) × ((List Bool) × (List (List Bool)) × Unit)))
  | 0, _, _, _, _, _, _, _ => none
  | n + 1, t0, t1, t2, t8, t10, c19, c2000007 =>
    let x3 := (decide (t10 < ((List.length t1 : Nat) : Int)))
    bif x3 then
      if 0 ≤ t10 ∧ t10 < ((List.length t2 : Nat) : Int) then
        if 0 ≤ t8 ∧ t8 < ((List.length t0 : Nat) : Int) then
          let x4 := (List.getD t0 (Int.toNat t8) ([] : TY52))
          if 0 ≤ t10 ∧ t10 < ((List.length t1 : Nat) : Int) then
            (F51 k x4 (List.getD t1 (Int.toNat t10) (0 : Int))).bind fun r5 =>
            if 0 ≤ (List.getD t2 (Int.toNat t10) (0 : Int)) ∧ (List.getD t2 (Int.toNat t10) (0 : Int)) < ((List.length c19 : Nat) : Int) then
              let x6 := (Int.toNat (List.getD t2 (Int.toNat t10) (0 : Int)))
              (F31_0 k n t0 t1 t2 t8 (IntKind.wrap .i64 (t10 + (1 : Int))) (List.set c19 x6 r5.1.1) c2000007).bind some
            else none
          else none
        else none
      else none
    else
      some ((t0, t1, t2, t8, ()), (c19, c2000007, ()))
def fr31_0 (k : Nat) : Frag := ⟨⟨[(7, KD43)], [(0, .val KD23), (1, .val KD48), (2, .val KD48), (7, .at 2000007 []), (8, .val (.int .i64)), (9, .at 19 []), (10, .val (.int .i64))], [(19, none, KD54), (2000007, none, KD43)]⟩, [(.exit 2, ⟨[], [(0, .val KD23), (1, .val KD48), (2, .val KD48), (7, .at 2000007 []), (8, .val (.int .i64)), (9, .at 19 [])], [(19, none, KD54), (2000007, none, KD43)]⟩)], fun v => F31_0 k k v.1.1 v.1.2.1 v.1.2.2.1 v.1.2.2.2.1 v.1.2.2.2.2.1 v.2.1 v.2.2.1⟩
def F31_1 (k : Nat) : Nat → TY47 → (List Int) → (List Int) → Int → (List (List Bool)) → Option ((Unit × ((List (List Bool)) × Unit)))
  | 0, _, _, _, _, _ => none
  | n + 1, t0, t1, t2, t8, c2000007 =>
    let x1 := (decide (t8 < ((List.length t0 : Nat) : Int)))
    bif x1 then
      (F50 k t2).bind fun r2 =>
      if (0 ≤ r2.1.1 ∧ r2.1.1 < r2.1.1 + 1) ∧ r2.1.1 ≤ 9223372036854775807 ∧ ((1 : Nat) : Int) * r2.1.1 ≤ 281474976710656 then
        (F31_0 k k t0 t1 t2 t8 (0 : Int) (List.replicate (Int.toNat r2.1.1) false) c2000007).bind fun r7 =>
        let y8 := r7.1.1
        let y9 := r7.1.2.1
        let y10 := r7.1.2.2.1
        let y11 := r7.1.2.2.2.1
        let y12 := r7.2.1
        let y13 := r7.2.2.1
        let x14 := (List.set (List.replicate 1 ([] : (List Bool))) 0 y12)
        if (List.length y13 + List.length x14) * (24 * 2) ≤ 281474976710656 ∧ List.length y13 + List.length x14 ≤ 9223372036854775807 then
          (F31_1 k n y8 y9 y10 (IntKind.wrap .i64 (y11 + (1 : Int))) (y13 ++ x14)).bind some
        else none
      else none
    else
      some ((), (c2000007, ()))
def fr31_1 (k : Nat) : Frag := ⟨⟨[(7, KD43)], [(0, .val KD23), (1, .val KD48), (2, .val KD48), (7, .at 2000007 []), (8, .val (.int .i64))], [(2000007, none, KD43)]⟩, [(.exit 0, ⟨[(7, KD43)], [(7, .at 2000007 [])], [(2000007, none, KD43)]⟩)], fun v => F31_1 k k v.1.1 v.1.2.1 v.1.2.2.1 v.1.2.2.2.1 v.2.1⟩
def F31 (k : Nat) (a0 : TY47) (a1 : (List Int)) (a2 : (List Int)) : Option (((List (List Bool)) × Unit) × Unit) :=
  (F31_1 k k a0 a1 a2 (0 : Int) []).bind fun r15 =>
  let y16 := r15.2.1
  some ((y16, ()), ())
def sp31 (k : Nat) : Spec := ⟨[.val KD23, .val KD48, .val KD48], [.own KD43], fun x => F31 k x.1 x.2.1 x.2.2.1⟩
def lim31 : Lim := ⟨46, 3, false, false, []⟩
def cfg31 (k : Nat) : Nat → Option Spec := cfgL [(50, sp50 k), (51, sp51 k)]
theorem cfg31_ok (k : Nat) : CfgOK Try.prog (cfg31 k) := cfgL_cons (v50 k) (cfgL_cons (v51 k) (cfgL_nil))
def pl31_0 (k : Nat) : Plan := .go
theorem pq31_0 (k : Nat) : PlanOK Try.prog lim31 (pl31_0 k) (codeAt (bodyOf Try.f31) [.r, .r, .l, .r, .s, .b, .r, .l, .s, .r, .l, .r, .s, .b]) = PlanOK Try.prog lim31 .go (codeAt (bodyOf Try.f31) [.r, .r, .l, .r, .s, .b, .r, .l, .s, .r, .l, .r, .s, .b]) := by kernel_rfl
theorem ps31_0 (k m : Nat) (v : (fr31_0 k).sh.V) : F31_0 k (m + 1) v.1.1 v.1.2.1 v.1.2.2.1 v.1.2.2.2.1 v.1.2.2.2.2.1 v.2.1 v.2.2.1 = (body Try.prog (stepper Try.prog (cfg31 k) lim31) (pl31_0 k) (codeAt (bodyOf Try.f31) [.r, .r, .l, .r, .s, .b, .r, .l, .s, .r, .l, .r, .s, .b]) ((fr31_0 k).sh.st v) (loopK (fr31_0 k) fun v => F31_0 k m v.1.1 v.1.2.1 v.1.2.2.1 v.1.2.2.2.1 v.1.2.2.2.2.1 v.2.1 v.2.2.1)).eval := by kernel_rfl
theorem pe31_0 (k m : Nat) (v : (fr31_0 k).sh.V) : (body Try.prog (stepper Try.prog (cfg31 k) lim31) (pl31_0 k) (codeAt (bodyOf Try.f31) [.r, .r, .l, .r, .s, .b, .r, .l, .s, .r, .l, .r, .s, .b]) ((fr31_0 k).sh.st v) (loopK (fr31_0 k) fun v => F31_0 k m v.1.1 v.1.2.1 v.1.2.2.1 v.1.2.2.2.1 v.1.2.2.2.2.1 v.2.1 v.2.2.1)).left = (body Try.prog (stepper Try.prog (cfg31 k) lim31) (pl31_0 k) (codeAt (bodyOf Try.f31) [.r, .r, .l, .r, .s, .b, .r, .l, .s, .r, .l, .r, .s, .b]) ((fr31_0 k).sh.st v) (loopK (fr31_0 k) fun v => F31_0 k m v.1.1 v.1.2.1 v.1.2.2.1 v.1.2.2.2.1 v.1.2.2.2.2.1 v.2.1 v.2.2.1)).right := by kernel_rfl
theorem fr31_0_ok (k : Nat) : FragOK Try.prog lim31 (fr31_0 k) (codeAt (bodyOf Try.f31) [.r, .r, .l, .r, .s, .b, .r, .l, .s, .r, .l, .r, .s]) :=
  frag_cast (by kernel_rfl) (loop_ok (cfg31_ok k) (Eq.mpr (pq31_0 k) (planOK_go _)) (fun m v => F31_0 k m v.1.1 v.1.2.1 v.1.2.2.1 v.1.2.2.2.1 v.1.2.2.2.2.1 v.2.1 v.2.2.1) k (fun _ => rfl) (fun _ => rfl) fun m v => ⟨ps31_0 k m v, pe31_0 k m v⟩)
def pl31_1 (k : Nat) : Plan := (.seq .go (.seq (.sub (.seq .go (.seq (.seq .go (.sub (.frag (fr31_0 k)))) .go))) .go))
theorem pq31_1 (k : Nat) : PlanOK Try.prog lim31 (pl31_1 k) (codeAt (bodyOf Try.f31) [.r, .r, .l, .r, .s, .b]) = (PlanOK Try.prog lim31 .go (codeAt (bodyOf Try.f31) [.r, .r, .l, .r, .s, .b, .l]) ∧ ((PlanOK Try.prog lim31 .go (codeAt (bodyOf Try.f31) [.r, .r, .l, .r, .s, .b, .r, .l, .s, .l]) ∧ ((PlanOK Try.prog lim31 .go (codeAt (bodyOf Try.f31) [.r, .r, .l, .r, .s, .b, .r, .l, .s, .r, .l, .l]) ∧ FragOK Try.prog lim31 (fr31_0 k) (codeAt (bodyOf Try.f31) [.r, .r, .l, .r, .s, .b, .r, .l, .s, .r, .l, .r, .s])) ∧ PlanOK Try.prog lim31 .go (codeAt (bodyOf Try.f31) [.r, .r, .l, .r, .s, .b, .r, .l, .s, .r, .r]))) ∧ PlanOK Try.prog lim31 .go (codeAt (bodyOf Try.f31) [.r, .r, .l, .r, .s, .b, .r, .r]))) := by kernel_rfl
theorem ps31_1 (k m : Nat) (v : (fr31_1 k).sh.V) : F31_1 k (m + 1) v.1.1 v.1.2.1 v.1.2.2.1 v.1.2.2.2.1 v.2.1 = (body Try.prog (stepper Try.prog (cfg31 k) lim31) (pl31_1 k) (codeAt (bodyOf Try.f31) [.r, .r, .l, .r, .s, .b]) ((fr31_1 k).sh.st v) (loopK (fr31_1 k) fun v => F31_1 k m v.1.1 v.1.2.1 v.1.2.2.1 v.1.2.2.2.1 v.2.1)).eval := by kernel_rfl
theorem pe31_1 (k m : Nat) (v : (fr31_1 k).sh.V) : (body Try.prog (stepper Try.prog (cfg31 k) lim31) (pl31_1 k) (codeAt (bodyOf Try.f31) [.r, .r, .l, .r, .s, .b]) ((fr31_1 k).sh.st v) (loopK (fr31_1 k) fun v => F31_1 k m v.1.1 v.1.2.1 v.1.2.2.1 v.1.2.2.2.1 v.2.1)).left = (body Try.prog (stepper Try.prog (cfg31 k) lim31) (pl31_1 k) (codeAt (bodyOf Try.f31) [.r, .r, .l, .r, .s, .b]) ((fr31_1 k).sh.st v) (loopK (fr31_1 k) fun v => F31_1 k m v.1.1 v.1.2.1 v.1.2.2.1 v.1.2.2.2.1 v.2.1)).right := by kernel_rfl
theorem fr31_1_ok (k : Nat) : FragOK Try.prog lim31 (fr31_1 k) (codeAt (bodyOf Try.f31) [.r, .r, .l, .r, .s]) :=
  frag_cast (by kernel_rfl) (loop_ok (cfg31_ok k) (Eq.mpr (pq31_1 k) ⟨(planOK_go _), ⟨⟨(planOK_go _), ⟨⟨(planOK_go _), (fr31_0_ok k)⟩, (planOK_go _)⟩⟩, (planOK_go _)⟩⟩) (fun m v => F31_1 k m v.1.1 v.1.2.1 v.1.2.2.1 v.1.2.2.2.1 v.2.1) k (fun _ => rfl) (fun _ => rfl) fun m v => ⟨ps31_1 k m v, pe31_1 k m v⟩)
def pl31 (k : Nat) : Plan := (.seq .go (.seq .go (.seq (.seq .go (.sub (.frag (fr31_1 k)))) .go)))
theorem pq31 (k : Nat) : PlanOK Try.prog lim31 (pl31 k) (codeAt (bodyOf Try.f31) []) = (PlanOK Try.prog lim31 .go (codeAt (bodyOf Try.f31) [.l]) ∧ (PlanOK Try.prog lim31 .go (codeAt (bodyOf Try.f31) [.r, .l]) ∧ ((PlanOK Try.prog lim31 .go (codeAt (bodyOf Try.f31) [.r, .r, .l, .l]) ∧ FragOK Try.prog lim31 (fr31_1 k) (codeAt (bodyOf Try.f31) [.r, .r, .l, .r, .s])) ∧ PlanOK Try.prog lim31 .go (codeAt (bodyOf Try.f31) [.r, .r, .r])))) := by kernel_rfl
theorem ev31 (k : Nat) (x : AT (sp31 k).ps) : (sp31 k).impl x = (fnT Try.prog (cfg31 k) lim31 Try.f31 (bodyOf Try.f31) (pl31 k) (sp31 k) x).eval := by kernel_rfl
theorem eq31 (k : Nat) (x : AT (sp31 k).ps) : (fnT Try.prog (cfg31 k) lim31 Try.f31 (bodyOf Try.f31) (pl31 k) (sp31 k) x).left = (fnT Try.prog (cfg31 k) lim31 Try.f31 (bodyOf Try.f31) (pl31 k) (sp31 k) x).right := by kernel_rfl
theorem v31 (k : Nat) : Callable Try.prog 31 ∧ Valid Try.prog 31 (sp31 k) :=
  fn_ok (cfg31_ok k) (f := 31) (fn := Try.f31) (by kernel_rfl) (c := bodyOf Try.f31) (by kernel_rfl) (by kernel_rfl) rfl rfl (Nat.le_of_ble_eq_true rfl) (Nat.le_of_ble_eq_true rfl) (p := pl31 k) (Eq.mpr (pq31 k) ⟨(planOK_go _), ⟨(planOK_go _), ⟨⟨(planOK_go _), (fr31_1_ok k)⟩, (planOK_go _)⟩⟩⟩) fun x => ⟨ev31 k x, eq31 k x⟩
/-! f49 hyphen/hyphenref7.some -/
def F49_0 (k : Nat) : Nat → (List (List Bool)) → Int → Int → TY20 → Option ((Unit × Unit) ⊕ TY55)
  | 0, _, _, _, _ => none
  | n + 1, t1, t2, t7, c3 =>
    if 0 ≤ t2 ∧ t2 < ((List.length c3.1 : Nat) : Int) then
      if 0 ≤ (List.getD c3.1 (Int.toNat t2) (0 : Int)) ∧ (List.getD c3.1 (Int.toNat t2) (0 : Int)) < ((List.length t1 : Nat) : Int) then
        let x5 := (List.getD t1 (Int.toNat (List.getD c3.1 (Int.toNat t2) (0 : Int))) ([] : (List Bool)))
        let x6 := (decide (t7 < ((List.length x5 : Nat) : Int)))
        bif x6 then
          if 0 ≤ t2 ∧ t2 < ((List.length c3.1 : Nat) : Int) then
            if 0 ≤ (List.getD c3.1 (Int.toNat t2) (0 : Int)) ∧ (List.getD c3.1 (Int.toNat t2) (0 : Int)) < ((List.length t1 : Nat) : Int) then
              let x7 := (List.getD t1 (Int.toNat (List.getD c3.1 (Int.toNat t2) (0 : Int))) ([] : (List Bool)))
              if 0 ≤ t7 ∧ t7 < ((List.length x7 : Nat) : Int) then
                bif (List.getD x7 (Int.toNat t7) false) then
                  some (.inr ((true, ()), ()))
                else
                  (F49_0 k n t1 t2 (IntKind.wrap .i64 (t7 + (1 : Int))) c3).bind some
              else none
            else none
          else none
        else
          some (.inl ((), ()))
      else none
    else none
def fr49_0 (k : Nat) : Frag := ⟨⟨[], [(1, .val KD42), (2, .val (.int .i64)), (3, .ptr 3 []), (7, .val (.int .i64))], [(3, some 28, KD5)]⟩, [(.exit 0, ⟨[], [], []⟩), (.ret, ⟨[], [(6, .val .bool)], []⟩)], fun v => F49_0 k k v.1.1 v.1.2.1 v.1.2.2.1 v.2.1⟩
def F49 (k : Nat) (a0 : TY20) (a1 : (List (List Bool))) (a2 : Int) : Option TY55 :=
  if 0 ≤ a2 ∧ a2 < ((List.length a0.1 : Nat) : Int) then
    let x1 := (decide ((List.getD a0.1 (Int.toNat a2) (0 : Int)) < (0 : Int)))
    bif x1 then
      some ((true, ()), ())
    else
      (F49_0 k k a1 a2 (0 : Int) a0).bind fun r8 =>
      match r8 with
      | .inl r9 =>
        some ((false, ()), ())
      | .inr r9 =>
        let y10 := r9.1.1
        some ((y10, ()), ())
  else none
def sp49 (k : Nat) : Spec := ⟨[.val KD5, .val KD42, .val (.int .i64)], [.val .bool], fun x => F49 k x.1 x.2.1 x.2.2.1⟩
def lim49 : Lim := ⟨38, 3, false, false, []⟩
def cfg49 (k : Nat) : Nat → Option Spec := cfgL []
theorem cfg49_ok (k : Nat) : CfgOK Try.prog (cfg49 k) := cfgL_nil
def pl49_0 (k : Nat) : Plan := .go
theorem pq49_0 (k : Nat) : PlanOK Try.prog lim49 (pl49_0 k) (codeAt (bodyOf Try.f49) [.r, .r, .l, .r, .s, .b]) = PlanOK Try.prog lim49 .go (codeAt (bodyOf Try.f49) [.r, .r, .l, .r, .s, .b]) := by kernel_rfl
theorem ps49_0 (k m : Nat) (v : (fr49_0 k).sh.V) : F49_0 k (m + 1) v.1.1 v.1.2.1 v.1.2.2.1 v.2.1 = (body Try.prog (stepper Try.prog (cfg49 k) lim49) (pl49_0 k) (codeAt (bodyOf Try.f49) [.r, .r, .l, .r, .s, .b]) ((fr49_0 k).sh.st v) (loopK (fr49_0 k) fun v => F49_0 k m v.1.1 v.1.2.1 v.1.2.2.1 v.2.1)).eval := by kernel_rfl
theorem pe49_0 (k m : Nat) (v : (fr49_0 k).sh.V) : (body Try.prog (stepper Try.prog (cfg49 k) lim49) (pl49_0 k) (codeAt (bodyOf Try.f49) [.r, .r, .l, .r, .s, .b]) ((fr49_0 k).sh.st v) (loopK (fr49_0 k) fun v => F49_0 k m v.1.1 v.1.2.1 v.1.2.2.1 v.2.1)).left = (body Try.prog (stepper Try.prog (cfg49 k) lim49) (pl49_0 k) (codeAt (bodyOf Try.f49) [.r, .r, .l, .r, .s, .b]) ((fr49_0 k).sh.st v) (loopK (fr49_0 k) fun v => F49_0 k m v.1.1 v.1.2.1 v.1.2.2.1 v.2.1)).right := by kernel_rfl
theorem fr49_0_ok (k : Nat) : FragOK Try.prog lim49 (fr49_0 k) (codeAt (bodyOf Try.f49) [.r, .r, .l, .r, .s]) :=
  frag_cast (by kernel_rfl) (loop_ok (cfg49_ok k) (Eq.mpr (pq49_0 k) (planOK_go _)) (fun m v => F49_0 k m v.1.1 v.1.2.1 v.1.2.2.1 v.2.1) k (fun _ => rfl) (fun _ => rfl) fun m v => ⟨ps49_0 k m v, pe49_0 k m v⟩)
def pl49 (k : Nat) : Plan := (.seq .go (.seq .go (.seq (.seq .go (.sub (.frag (fr49_0 k)))) .go)))
theorem pq49 (k : Nat) : PlanOK Try.prog lim49 (pl49 k) (codeAt (bodyOf Try.f49) []) = (PlanOK Try.prog lim49 .go (codeAt (bodyOf Try.f49) [.l]) ∧ (PlanOK Try.prog lim49 .go (codeAt (bodyOf Try.f49) [.r, .l]) ∧ ((PlanOK Try.prog lim49 .go (codeAt (bodyOf Try.f49) [.r, .r, .l, .l]) ∧ FragOK Try.prog lim49 (fr49_0 k) (codeAt (bodyOf Try.f49) [.r, .r, .l, .r, .s])) ∧ PlanOK Try.prog lim49 .go (codeAt (bodyOf Try.f49) [.r, .r, .r])))) := by kernel_rfl
theorem ev49 (k : Nat) (x : AT (sp49 k).ps) : (sp49 k).impl x = (fnT Try.prog (cfg49 k) lim49 Try.f49 (bodyOf Try.f49) (pl49 k) (sp49 k) x).eval := by kernel_rfl
theorem eq49 (k : Nat) (x : AT (sp49 k).ps) : (fnT Try.prog (cfg49 k) lim49 Try.f49 (bodyOf Try.f49) (pl49 k) (sp49 k) x).left = (fnT Try.prog (cfg49 k) lim49 Try.f49 (bodyOf Try.f49) (pl49 k) (sp49 k) x).right := by kernel_rfl
theorem v49 (k : Nat) : Callable Try.prog 49 ∧ Valid Try.prog 49 (sp49 k) :=
  fn_ok (cfg49_ok k) (f := 49) (fn := Try.f49) (by kernel_rfl) (c := bodyOf Try.f49) (by kernel_rfl) (by kernel_rfl) rfl rfl (Nat.le_of_ble_eq_true rfl) (Nat.le_of_ble_eq_true rfl) (p := pl49 k) (Eq.mpr (pq49 k) ⟨(planOK_go _), ⟨(planOK_go _), ⟨⟨(planOK_go _), (fr49_0_ok k)⟩, (planOK_go _)⟩⟩⟩) fun x => ⟨ev49 k x, eq49 k x⟩
/-! f30 hyphen/hyphenref7.Trim -/
def F30_0 (k : Nat) : Nat → (List (List Bool)) → Int → Int → TY20 → TY20 → (List Bool) → (List Bool) → (List Bool) → Option (((Int × Unit) × TY2))
  | 0, _, _, _, _, _, _, _, _ => none
  | n + 1, t1, t5, t9, c2, c4, c22, c24, c26 =>
    bif (decide (t9 < t5)) then
      (F49 k c2 t1 t9).bind fun r13 =>
      if 0 ≤ t9 ∧ t9 < ((List.length c26 : Nat) : Int) then
        if 0 ≤ t9 ∧ t9 < ((List.length (List.set c26 (Int.toNat t9) r13.1.1) : Nat) : Int) then
          let x14 := (List.getD (List.set c26 (Int.toNat t9) r13.1.1) (Int.toNat t9) false)
          bif x14 then
            if 0 ≤ t9 ∧ t9 < ((List.length c2.2.1 : Nat) : Int) then
              let x15 := (decide ((List.getD c2.2.1 (Int.toNat t9) (0 : Int)) < (1152921504606846976 : Int)))
              if 0 ≤ t9 ∧ t9 < ((List.length (List.set c26 (Int.toNat t9) r13.1.1) : Nat) : Int) then
                let x16 := (List.getD (List.set c26 (Int.toNat t9) r13.1.1) (Int.toNat t9) false)
                bif x16 then
                  if 0 ≤ t9 ∧ t9 < ((List.length c2.2.2.1 : Nat) : Int) then
                    let x17 := (List.getD c2.2.2.1 (Int.toNat t9) (0 : Int))
                    if 0 ≤ t9 ∧ t9 < ((List.length c22 : Nat) : Int) then
                      if 0 ≤ t9 ∧ t9 < ((List.length c24 : Nat) : Int) then
                        let x18 := (List.set c24 (Int.toNat t9) (decide (x17 < (1152921504606846976 : Int))))
                        (F30_0 k n t1 t5 (IntKind.wrap .i64 (t9 + (1 : Int))) c2 c4 (List.set c22 (Int.toNat t9) x15) x18 (List.set c26 (Int.toNat t9) r13.1.1)).bind some
                      else none
                    else none
                  else none
                else
                  if 0 ≤ t9 ∧ t9 < ((List.length c22 : Nat) : Int) then
                    if 0 ≤ t9 ∧ t9 < ((List.length c24 : Nat) : Int) then
                      (F30_0 k n t1 t5 (IntKind.wrap .i64 (t9 + (1 : Int))) c2 c4 (List.set c22 (Int.toNat t9) x15) (List.set c24 (Int.toNat t9) false) (List.set c26 (Int.toNat t9) r13.1.1)).bind some
                    else none
                  else none
              else none
            else none
          else
            if 0 ≤ t9 ∧ t9 < ((List.length (List.set c26 (Int.toNat t9) r13.1.1) : Nat) : Int) then
              let x19 := (List.getD (List.set c26 (Int.toNat t9) r13.1.1) (Int.toNat t9) false)
              bif x19 then
                if 0 ≤ t9 ∧ t9 < ((List.length c2.2.2.1 : Nat) : Int) then
                  let x20 := (List.getD c2.2.2.1 (Int.toNat t9) (0 : Int))
                  if 0 ≤ t9 ∧ t9 < ((List.length c22 : Nat) : Int) then
                    if 0 ≤ t9 ∧ t9 < ((List.length c24 : Nat) : Int) then
                      let x21 := (List.set c24 (Int.toNat t9) (decide (x20 < (1152921504606846976 : Int))))
                      (F30_0 k n t1 t5 (IntKind.wrap .i64 (t9 + (1 : Int))) c2 c4 (List.set c22 (Int.toNat t9) false) x21 (List.set c26 (Int.toNat t9) r13.1.1)).bind some
                    else none
                  else none
                else none
              else
                if 0 ≤ t9 ∧ t9 < ((List.length c22 : Nat) : Int) then
                  if 0 ≤ t9 ∧ t9 < ((List.length c24 : Nat) : Int) then
                    (F30_0 k n t1 t5 (IntKind.wrap .i64 (t9 + (1 : Int))) c2 c4 (List.set c22 (Int.toNat t9) false) (List.set c24 (Int.toNat t9) false) (List.set c26 (Int.toNat t9) r13.1.1)).bind some
                  else none
                else none
            else none
        else none
      else none
    else
      some ((t5, ()), (c2, c4, c22, c24, c26, ()))
def fr30_0 (k : Nat) : Frag := ⟨⟨[], [(1, .val KD42), (2, .ptr 2 []), (4, .ptr 4 []), (5, .val (.int .i64)), (6, .at 22 []), (7, .at 24 []), (8, .at 26 []), (9, .val (.int .i64))], [(2, some 28, KD5), (4, some 28, KD6), (22, none, KD54), (24, none, KD54), (26, none, KD54)]⟩, [(.exit 0, ⟨[], [(2, .ptr 2 []), (4, .ptr 4 []), (5, .val (.int .i64)), (6, .at 22 []), (7, .at 24 []), (8, .at 26 [])], [(2, some 28, KD5), (4, some 28, KD6), (22, none, KD54), (24, none, KD54), (26, none, KD54)]⟩)], fun v => F30_0 k k v.1.1 v.1.2.1 v.1.2.2.1 v.2.1 v.2.2.1 v.2.2.2.1 v.2.2.2.2.1 v.2.2.2.2.2.1⟩
def F30_1 (k : Nat) : Nat → Int → Bool → Int → TY20 → TY20 → (List Bool) → (List Bool) → (List Bool) → Option (((Int × Bool × Unit) × TY2))
  | 0, _, _, _, _, _, _, _, _ => none
  | n + 1, t5, t10, t11, c2, c4, c22, c24, c26 =>
    let x31 := (decide (t11 < ((List.length c2.2.2.2.1 : Nat) : Int)))
    bif x31 then
      if 0 ≤ t11 ∧ t11 < ((List.length c2.2.2.2.1 : Nat) : Int) then
        let x32 := (List.getD c2.2.2.2.1 (Int.toNat t11) ((0 : Int), ((0 : Int), ((0 : Int), ()))))
        if 0 ≤ x32.1 ∧ x32.1 < ((List.length c22 : Nat) : Int) then
          bif (List.getD c22 (Int.toNat x32.1) false) then
            if 0 ≤ x32.2.1 ∧ x32.2.1 < ((List.length c26 : Nat) : Int) then
              bif (List.getD c26 (Int.toNat x32.2.1) false) then
                if 0 ≤ x32.2.1 ∧ x32.2.1 < ((List.length c22 : Nat) : Int) then
                  bif (!(List.getD c22 (Int.toNat x32.2.1) false)) then
                    if 0 ≤ x32.2.1 ∧ x32.2.1 < ((List.length c22 : Nat) : Int) then
                      if 0 ≤ x32.2.1 ∧ x32.2.1 < ((List.length c24 : Nat) : Int) then
                        bif (List.getD c24 (Int.toNat x32.2.1) false) then
                          if 0 ≤ x32.1 ∧ x32.1 < ((List.length c26 : Nat) : Int) then
                            bif (List.getD c26 (Int.toNat x32.1) false) then
                              if 0 ≤ x32.1 ∧ x32.1 < ((List.length c24 : Nat) : Int) then
                                bif (!(List.getD c24 (Int.toNat x32.1) false)) then
                                  if 0 ≤ x32.1 ∧ x32.1 < ((List.length c24 : Nat) : Int) then
                                    (F30_1 k n t5 true (IntKind.wrap .i64 (t11 + (1 : Int))) c2 c4 (List.set c22 (Int.toNat x32.2.1) true) (List.set c24 (Int.toNat x32.1) true) c26).bind some
                                  else none
                                else
                                  (F30_1 k n t5 true (IntKind.wrap .i64 (t11 + (1 : Int))) c2 c4 (List.set c22 (Int.toNat x32.2.1) true) c24 c26).bind some
                              else none
                            else
                              (F30_1 k n t5 true (IntKind.wrap .i64 (t11 + (1 : Int))) c2 c4 (List.set c22 (Int.toNat x32.2.1) true) c24 c26).bind some
                          else none
                        else
                          (F30_1 k n t5 true (IntKind.wrap .i64 (t11 + (1 : Int))) c2 c4 (List.set c22 (Int.toNat x32.2.1) true) c24 c26).bind some
                      else none
                    else none
                  else
                    if 0 ≤ x32.2.1 ∧ x32.2.1 < ((List.length c24 : Nat) : Int) then
                      bif (List.getD c24 (Int.toNat x32.2.1) false) then
                        if 0 ≤ x32.1 ∧ x32.1 < ((List.length c26 : Nat) : Int) then
                          bif (List.getD c26 (Int.toNat x32.1) false) then
                            if 0 ≤ x32.1 ∧ x32.1 < ((List.length c24 : Nat) : Int) then
                              bif (!(List.getD c24 (Int.toNat x32.1) false)) then
                                if 0 ≤ x32.1 ∧ x32.1 < ((List.length c24 : Nat) : Int) then
                                  (F30_1 k n t5 true (IntKind.wrap .i64 (t11 + (1 : Int))) c2 c4 c22 (List.set c24 (Int.toNat x32.1) true) c26).bind some
                                else none
                              else
                                (F30_1 k n t5 t10 (IntKind.wrap .i64 (t11 + (1 : Int))) c2 c4 c22 c24 c26).bind some
                            else none
                          else
                            (F30_1 k n t5 t10 (IntKind.wrap .i64 (t11 + (1 : Int))) c2 c4 c22 c24 c26).bind some
                        else none
                      else
                        (F30_1 k n t5 t10 (IntKind.wrap .i64 (t11 + (1 : Int))) c2 c4 c22 c24 c26).bind some
                    else none
                else none
              else
                if 0 ≤ x32.2.1 ∧ x32.2.1 < ((List.length c24 : Nat) : Int) then
                  bif (List.getD c24 (Int.toNat x32.2.1) false) then
                    if 0 ≤ x32.1 ∧ x32.1 < ((List.length c26 : Nat) : Int) then
                      bif (List.getD c26 (Int.toNat x32.1) false) then
                        if 0 ≤ x32.1 ∧ x32.1 < ((List.length c24 : Nat) : Int) then
                          bif (!(List.getD c24 (Int.toNat x32.1) false)) then
                            if 0 ≤ x32.1 ∧ x32.1 < ((List.length c24 : Nat) : Int) then
                              (F30_1 k n t5 true (IntKind.wrap .i64 (t11 + (1 : Int))) c2 c4 c22 (List.set c24 (Int.toNat x32.1) true) c26).bind some
                            else none
                          else
                            (F30_1 k n t5 t10 (IntKind.wrap .i64 (t11 + (1 : Int))) c2 c4 c22 c24 c26).bind some
                        else none
                      else
                        (F30_1 k n t5 t10 (IntKind.wrap .i64 (t11 + (1 : Int))) c2 c4 c22 c24 c26).bind some
                    else none
                  else
                    (F30_1 k n t5 t10 (IntKind.wrap .i64 (t11 + (1 : Int))) c2 c4 c22 c24 c26).bind some
                else none
            else none
          else
            if 0 ≤ x32.2.1 ∧ x32.2.1 < ((List.length c24 : Nat) : Int) then
              bif (List.getD c24 (Int.toNat x32.2.1) false) then
                if 0 ≤ x32.1 ∧ x32.1 < ((List.length c26 : Nat) : Int) then
                  bif (List.getD c26 (Int.toNat x32.1) false) then
                    if 0 ≤ x32.1 ∧ x32.1 < ((List.length c24 : Nat) : Int) then
                      bif (!(List.getD c24 (Int.toNat x32.1) false)) then
                        if 0 ≤ x32.1 ∧ x32.1 < ((List.length c24 : Nat) : Int) then
                          (F30_1 k n t5 true (IntKind.wrap .i64 (t11 + (1 : Int))) c2 c4 c22 (List.set c24 (Int.toNat x32.1) true) c26).bind some
                        else none
                      else
                        (F30_1 k n t5 t10 (IntKind.wrap .i64 (t11 + (1 : Int))) c2 c4 c22 c24 c26).bind some
                    else none
                  else
                    (F30_1 k n t5 t10 (IntKind.wrap .i64 (t11 + (1 : Int))) c2 c4 c22 c24 c26).bind some
                else none
              else
                (F30_1 k n t5 t10 (IntKind.wrap .i64 (t11 + (1 : Int))) c2 c4 c22 c24 c26).bind some
            else none
        else none
      else none
    else
      some ((t5, t10, ()), (c2, c4, c22, c24, c26, ()))
def fr30_1 (k : Nat) : Frag := ⟨⟨[], [(2, .ptr 2 []), (4, .ptr 4 []), (5, .val (.int .i64)), (6, .at 22 []), (7, .at 24 []), (8, .at 26 []), (10, .val .bool), (11, .val (.int .i64))], [(2, some 28, KD5), (4, some 28, KD6), (22, none, KD54), (24, none, KD54), (26, none, KD54)]⟩, [(.exit 4, ⟨[], [(2, .ptr 2 []), (4, .ptr 4 []), (5, .val (.int .i64)), (6, .at 22 []), (7, .at 24 []), (8, .at 26 []), (10, .val .bool)], [(2, some 28, KD5), (4, some 28, KD6), (22, none, KD54), (24, none, KD54), (26, none, KD54)]⟩)], fun v => F30_1 k k v.1.1 v.1.2.1 v.1.2.2.1 v.2.1 v.2.2.1 v.2.2.2.1 v.2.2.2.2.1 v.2.2.2.2.2.1⟩
def F30_2 (k : Nat) : Nat → Int → Bool → TY20 → TY20 → (List Bool) → (List Bool) → (List Bool) → Option (((Int × Unit) × (TY20 × TY20 × (List Bool) × (List Bool) × Unit)))
  | 0, _, _, _, _, _, _, _ => none
  | n + 1, t5, t10, c2, c4, c22, c24, c26 =>
    bif t10 then
      (F30_1 k k t5 false (0 : Int) c2 c4 c22 c24 c26).bind fun r41 =>
      let y42 := r41.1.1
      let y43 := r41.1.2.1
      let y44 := r41.2.1
      let y45 := r41.2.2.1
      let y46 := r41.2.2.2.1
      let y47 := r41.2.2.2.2.1
      let y48 := r41.2.2.2.2.2.1
      (F30_2 k n y42 y43 y44 y45 y46 y47 y48).bind some
    else
      some ((t5, ()), (c2, c4, c22, c24, ()))
def fr30_2 (k : Nat) : Frag := ⟨⟨[], [(2, .ptr 2 []), (4, .ptr 4 []), (5, .val (.int .i64)), (6, .at 22 []), (7, .at 24 []), (8, .at 26 []), (10, .val .bool)], [(2, some 28, KD5), (4, some 28, KD6), (22, none, KD54), (24, none, KD54), (26, none, KD54)]⟩, [(.exit 2, ⟨[], [(2, .ptr 2 []), (4, .ptr 4 []), (5, .val (.int .i64)), (6, .at 22 []), (7, .at 24 [])], [(2, some 28, KD5), (4, some 28, KD6), (22, none, KD54), (24, none, KD54)]⟩)], fun v => F30_2 k k v.1.1 v.1.2.1 v.2.1 v.2.2.1 v.2.2.2.1 v.2.2.2.2.1 v.2.2.2.2.2.1⟩
def F30_3 (k : Nat) : Nat → Int → Int → TY20 → TY20 → TY20 → (List Bool) → (List Bool) → (List Int) → Option ((Unit × (TY20 × TY20 × TY20 × (List Int) × Unit)))
  | 0, _, _, _, _, _, _, _, _ => none
  | n + 1, t5, t15, c2, c4, c13, c22, c24, c134 =>
    bif (decide (t15 < t5)) then
      if 0 ≤ t15 ∧ t15 < ((List.length c134 : Nat) : Int) then
        if 0 ≤ t15 ∧ t15 < ((List.length c22 : Nat) : Int) then
          bif (List.getD c22 (Int.toNat t15) false) then
            if 0 ≤ t15 ∧ t15 < ((List.length c24 : Nat) : Int) then
              bif (List.getD c24 (Int.toNat t15) false) then
                if 0 ≤ t15 ∧ t15 < ((List.length (List.set c134 (Int.toNat t15) (-1 : Int)) : Nat) : Int) then
                  let x60 := (List.set (List.set c134 (Int.toNat t15) (-1 : Int)) (Int.toNat t15) ((List.length c13.1 : Nat) : Int))
                  if 0 ≤ t15 ∧ t15 < ((List.length c2.1 : Nat) : Int) then
                    if 0 ≤ t15 ∧ t15 < ((List.length c2.2.1 : Nat) : Int) then
                      if 0 ≤ t15 ∧ t15 < ((List.length c2.2.2.1 : Nat) : Int) then
                        let x61 := (List.getD c2.2.2.1 (Int.toNat t15) (0 : Int))
                        let x62 := (List.set (List.replicate 1 (0 : Int)) 0 (List.getD c2.1 (Int.toNat t15) (0 : Int)))
                        if (List.length c13.1 + List.length x62) * (8 * 2) ≤ 281474976710656 ∧ List.length c13.1 + List.length x62 ≤ 9223372036854775807 then
                          let x63 := (List.set (List.replicate 1 (0 : Int)) 0 (List.getD c2.2.1 (Int.toNat t15) (0 : Int)))
                          if (List.length c13.2.1 + List.length x63) * (8 * 2) ≤ 281474976710656 ∧ List.length c13.2.1 + List.length x63 ≤ 9223372036854775807 then
                            let x64 := (List.set (List.replicate 1 (0 : Int)) 0 x61)
                            if (List.length c13.2.2.1 + List.length x64) * (8 * 2) ≤ 281474976710656 ∧ List.length c13.2.2.1 + List.length x64 ≤ 9223372036854775807 then
                              (F30_3 k n t5 (IntKind.wrap .i64 (t15 + (1 : Int))) c2 c4 ((c13.1 ++ x62), ((c13.2.1 ++ x63), ((c13.2.2.1 ++ x64), c13.2.2.2))) c22 c24 x60).bind some
                            else none
                          else none
                        else none
                      else none
                    else none
                  else none
                else none
              else
                (F30_3 k n t5 (IntKind.wrap .i64 (t15 + (1 : Int))) c2 c4 c13 c22 c24 (List.set c134 (Int.toNat t15) (-1 : Int))).bind some
            else none
          else
            (F30_3 k n t5 (IntKind.wrap .i64 (t15 + (1 : Int))) c2 c4 c13 c22 c24 (List.set c134 (Int.toNat t15) (-1 : Int))).bind some
        else none
      else none
    else
      some ((), (c2, c4, c13, c134, ()))
def fr30_3 (k : Nat) : Frag := ⟨⟨[], [(2, .ptr 2 []), (4, .ptr 4 []), (5, .val (.int .i64)), (6, .at 22 []), (7, .at 24 []), (13, .ptr 13 []), (14, .at 134 []), (15, .val (.int .i64))], [(2, some 28, KD5), (4, some 28, KD6), (13, some 28, KD6), (22, none, KD54), (24, none, KD54), (134, none, KD49)]⟩, [(.exit 6, ⟨[], [(2, .ptr 2 []), (4, .ptr 4 []), (13, .ptr 13 []), (14, .at 134 [])], [(2, some 28, KD5), (4, some 28, KD6), (13, some 28, KD6), (134, none, KD49)]⟩)], fun v => F30_3 k k v.1.1 v.1.2.1 v.2.1 v.2.2.1 v.2.2.2.1 v.2.2.2.2.1 v.2.2.2.2.2.1 v.2.2.2.2.2.2.1⟩
def F30_4 (k : Nat) : Nat → Int → TY20 → TY20 → TY20 → (List Int) → Option TY8
  | 0, _, _, _, _, _ => none
  | n + 1, t16, c2, c4, c13, c134 =>
    let x76 := (decide (t16 < ((List.length c2.2.2.2.1 : Nat) : Int)))
    bif x76 then
      if 0 ≤ t16 ∧ t16 < ((List.length c2.2.2.2.1 : Nat) : Int) then
        let x77 := (List.getD c2.2.2.2.1 (Int.toNat t16) ((0 : Int), ((0 : Int), ((0 : Int), ()))))
        if 0 ≤ x77.1 ∧ x77.1 < ((List.length c134 : Nat) : Int) then
          let x78 := (decide ((List.getD c134 (Int.toNat x77.1) (0 : Int)) ≥ (0 : Int)))
          bif x78 then
            if 0 ≤ x77.2.1 ∧ x77.2.1 < ((List.length c134 : Nat) : Int) then
              let x79 := (List.getD c134 (Int.toNat x77.2.1) (0 : Int))
              bif (decide (x79 ≥ (0 : Int))) then
                if 0 ≤ x77.1 ∧ x77.1 < ((List.length c134 : Nat) : Int) then
                  if 0 ≤ x77.2.1 ∧ x77.2.1 < ((List.length c134 : Nat) : Int) then
                    let x80 := (List.getD c134 (Int.toNat x77.2.1) (0 : Int))
                    let x81 := (List.set (List.replicate 1 ((0 : Int), ((0 : Int), ((0 : Int), ())))) 0 ((List.getD c134 (Int.toNat x77.1) (0 : Int)), (x80, (x77.2.2.1, ()))))
                    if (List.length c13.2.2.2.1 + List.length x81) * (24 * 2) ≤ 281474976710656 ∧ List.length c13.2.2.2.1 + List.length x81 ≤ 9223372036854775807 then
                      (F30_4 k n (IntKind.wrap .i64 (t16 + (1 : Int))) c2 c4 (c13.1, (c13.2.1, (c13.2.2.1, ((c13.2.2.2.1 ++ x81), c13.2.2.2.2)))) c134).bind some
                    else none
                  else none
                else none
              else
                (F30_4 k n (IntKind.wrap .i64 (t16 + (1 : Int))) c2 c4 c13 c134).bind some
            else none
          else
            (F30_4 k n (IntKind.wrap .i64 (t16 + (1 : Int))) c2 c4 c13 c134).bind some
        else none
      else none
    else
      some ((), (c4, c13, ()))
def fr30_4 (k : Nat) : Frag := ⟨⟨[], [(2, .ptr 2 []), (4, .ptr 4 []), (13, .ptr 13 []), (14, .at 134 []), (16, .val (.int .i64))], [(2, some 28, KD5), (4, some 28, KD6), (13, some 28, KD6), (134, none, KD49)]⟩, [(.exit 8, ⟨[], [(4, .ptr 4 []), (13, .ptr 13 [])], [(4, some 28, KD6), (13, some 28, KD6)]⟩)], fun v => F30_4 k k v.1.1 v.2.1 v.2.2.1 v.2.2.2.1 v.2.2.2.2.1⟩
def F30 (k : Nat) (a0 : TY20) (a1 : (List (List Bool))) : Option TY16 :=
  if (0 ≤ ((List.length a0.1 : Nat) : Int) ∧ ((List.length a0.1 : Nat) : Int) < ((List.length a0.1 : Nat) : Int) + 1) ∧ ((List.length a0.1 : Nat) : Int) ≤ 9223372036854775807 ∧ ((1 : Nat) : Int) * ((List.length a0.1 : Nat) : Int) ≤ 281474976710656 then
    let x1 := (List.replicate (Int.toNat ((List.length a0.1 : Nat) : Int)) false)
    if (0 ≤ ((List.length a0.1 : Nat) : Int) ∧ ((List.length a0.1 : Nat) : Int) < ((List.length a0.1 : Nat) : Int) + 1) ∧ ((List.length a0.1 : Nat) : Int) ≤ 9223372036854775807 ∧ ((1 : Nat) : Int) * ((List.length a0.1 : Nat) : Int) ≤ 281474976710656 then
      let x2 := (List.replicate (Int.toNat ((List.length a0.1 : Nat) : Int)) false)
      if (0 ≤ ((List.length a0.1 : Nat) : Int) ∧ ((List.length a0.1 : Nat) : Int) < ((List.length a0.1 : Nat) : Int) + 1) ∧ ((List.length a0.1 : Nat) : Int) ≤ 9223372036854775807 ∧ ((1 : Nat) : Int) * ((List.length a0.1 : Nat) : Int) ≤ 281474976710656 then
        let x3 := (List.replicate (Int.toNat ((List.length a0.1 : Nat) : Int)) false)
        (F30_0 k k a1 ((List.length a0.1 : Nat) : Int) (0 : Int) a0 (([] : (List Int)), (([] : (List Int)), (([] : (List Int)), (([] : TY45), ((0 : Int), ()))))) x1 x2 x3).bind fun r22 =>
        let y23 := r22.1.1
        let y24 := r22.2.1
        let y25 := r22.2.2.1
        let y26 := r22.2.2.2.1
        let y27 := r22.2.2.2.2.1
        let y28 := r22.2.2.2.2.2.1
        (F30_2 k k y23 true y24 y25 y26 y27 y28).bind fun r49 =>
        let y50 := r49.1.1
        let y51 := r49.2.1
        let y52 := r49.2.2.1
        let y53 := r49.2.2.2.1
        let y54 := r49.2.2.2.2.1
        if (0 ≤ y50 ∧ y50 < y50 + 1) ∧ y50 ≤ 9223372036854775807 ∧ ((8 : Nat) : Int) * y50 ≤ 281474976710656 then
          (F30_3 k k y50 (0 : Int) y51 y52 (([] : (List Int)), (([] : (List Int)), (([] : (List Int)), (([] : TY45), (y51.2.2.2.2.1, ()))))) y53 y54 (List.replicate (Int.toNat y50) (0 : Int))).bind fun r65 =>
          let y66 := r65.2.1
          let y67 := r65.2.2.1
          let y68 := r65.2.2.2.1
          let y69 := r65.2.2.2.2.1
          (F30_4 k k (0 : Int) y66 y67 y68 y69).bind fun r82 =>
          let y84 := r82.2.2.1
          some ((y84, ()), ())
        else none
      else none
    else none
  else none
def sp30 (k : Nat) : Spec := ⟨[.val KD5, .val KD42], [.own KD6], fun x => F30 k x.1 x.2.1⟩
def lim30 : Lim := ⟨234, 2, false, false, []⟩
def cfg30 (k : Nat) : Nat → Option Spec := cfgL [(49, sp49 k)]
theorem cfg30_ok (k : Nat) : CfgOK Try.prog (cfg30 k) := cfgL_cons (v49 k) (cfgL_nil)
def pl30_0 (k : Nat) : Plan := .go
theorem pq30_0 (k : Nat) : PlanOK Try.prog lim30 (pl30_0 k) (codeAt (bodyOf Try.f30) [.r, .r, .r, .r, .l, .r, .s, .b]) = PlanOK Try.prog lim30 .go (codeAt (bodyOf Try.f30) [.r, .r, .r, .r, .l, .r, .s, .b]) := by kernel_rfl
theorem ps30_0 (k m : Nat) (v : (fr30_0 k).sh.V) : F30_0 k (m + 1) v.1.1 v.1.2.1 v.1.2.2.1 v.2.1 v.2.2.1 v.2.2.2.1 v.2.2.2.2.1 v.2.2.2.2.2.1 = (body Try.prog (stepper Try.prog (cfg30 k) lim30) (pl30_0 k) (codeAt (bodyOf Try.f30) [.r, .r, .r, .r, .l, .r, .s, .b]) ((fr30_0 k).sh.st v) (loopK (fr30_0 k) fun v => F30_0 k m v.1.1 v.1.2.1 v.1.2.2.1 v.2.1 v.2.2.1 v.2.2.2.1 v.2.2.2.2.1 v.2.2.2.2.2.1)).eval := by kernel_rfl
theorem pe30_0 (k m : Nat) (v : (fr30_0 k).sh.V) : (body Try.prog (stepper Try.prog (cfg30 k) lim30) (pl30_0 k) (codeAt (bodyOf Try.f30) [.r, .r, .r, .r, .l, .r, .s, .b]) ((fr30_0 k).sh.st v) (loopK (fr30_0 k) fun v => F30_0 k m v.1.1 v.1.2.1 v.1.2.2.1 v.2.1 v.2.2.1 v.2.2.2.1 v.2.2.2.2.1 v.2.2.2.2.2.1)).left = (body Try.prog (stepper Try.prog (cfg30 k) lim30) (pl30_0 k) (codeAt (bodyOf Try.f30) [.r, .r, .r, .r, .l, .r, .s, .b]) ((fr30_0 k).sh.st v) (loopK (fr30_0 k) fun v => F30_0 k m v.1.1 v.1.2.1 v.1.2.2.1 v.2.1 v.2.2.1 v.2.2.2.1 v.2.2.2.2.1 v.2.2.2.2.2.1)).right := by kernel_rfl
theorem fr30_0_ok (k : Nat) : FragOK Try.prog lim30 (fr30_0 k) (codeAt (bodyOf Try.f30) [.r, .r, .r, .r, .l, .r, .s]) :=
  frag_cast (by kernel_rfl) (loop_ok (cfg30_ok k) (Eq.mpr (pq30_0 k) (planOK_go _)) (fun m v => F30_0 k m v.1.1 v.1.2.1 v.1.2.2.1 v.2.1 v.2.2.1 v.2.2.2.1 v.2.2.2.2.1 v.2.2.2.2.2.1) k (fun _ => rfl) (fun _ => rfl) fun m v => ⟨ps30_0 k m v, pe30_0 k m v⟩)
def pl30_1 (k : Nat) : Plan := .go
theorem pq30_1 (k : Nat) : PlanOK Try.prog lim30 (pl30_1 k) (codeAt (bodyOf Try.f30) [.r, .r, .r, .r, .r, .l, .r, .s, .b, .r, .s, .r, .r, .s, .b]) = PlanOK Try.prog lim30 .go (codeAt (bodyOf Try.f30) [.r, .r, .r, .r, .r, .l, .r, .s, .b, .r, .s, .r, .r, .s, .b]) := by kernel_rfl
theorem ps30_1 (k m : Nat) (v : (fr30_1 k).sh.V) : F30_1 k (m + 1) v.1.1 v.1.2.1 v.1.2.2.1 v.2.1 v.2.2.1 v.2.2.2.1 v.2.2.2.2.1 v.2.2.2.2.2.1 = (body Try.prog (stepper Try.prog (cfg30 k) lim30) (pl30_1 k) (codeAt (bodyOf Try.f30) [.r, .r, .r, .r, .r, .l, .r, .s, .b, .r, .s, .r, .r, .s, .b]) ((fr30_1 k).sh.st v) (loopK (fr30_1 k) fun v => F30_1 k m v.1.1 v.1.2.1 v.1.2.2.1 v.2.1 v.2.2.1 v.2.2.2.1 v.2.2.2.2.1 v.2.2.2.2.2.1)).eval := by kernel_rfl
theorem pe30_1 (k m : Nat) (v : (fr30_1 k).sh.V) : (body Try.prog (stepper Try.prog (cfg30 k) lim30) (pl30_1 k) (codeAt (bodyOf Try.f30) [.r, .r, .r, .r, .r, .l, .r, .s, .b, .r, .s, .r, .r, .s, .b]) ((fr30_1 k).sh.st v) (loopK (fr30_1 k) fun v => F30_1 k m v.1.1 v.1.2.1 v.1.2.2.1 v.2.1 v.2.2.1 v.2.2.2.1 v.2.2.2.2.1 v.2.2.2.2.2.1)).left = (body Try.prog (stepper Try.prog (cfg30 k) lim30) (pl30_1 k) (codeAt (bodyOf Try.f30) [.r, .r, .r, .r, .r, .l, .r, .s, .b, .r, .s, .r, .r, .s, .b]) ((fr30_1 k).sh.st v) (loopK (fr30_1 k) fun v => F30_1 k m v.1.1 v.1.2.1 v.1.2.2.1 v.2.1 v.2.2.1 v.2.2.2.1 v.2.2.2.2.1 v.2.2.2.2.2.1)).right := by kernel_rfl
theorem fr30_1_ok (k : Nat) : FragOK Try.prog lim30 (fr30_1 k) (codeAt (bodyOf Try.f30) [.r, .r, .r, .r, .r, .l, .r, .s, .b, .r, .s, .r, .r, .s]) :=
  frag_cast (by kernel_rfl) (loop_ok (cfg30_ok k) (Eq.mpr (pq30_1 k) (planOK_go _)) (fun m v => F30_1 k m v.1.1 v.1.2.1 v.1.2.2.1 v.2.1 v.2.2.1 v.2.2.2.1 v.2.2.2.2.1 v.2.2.2.2.2.1) k (fun _ => rfl) (fun _ => rfl) fun m v => ⟨ps30_1 k m v, pe30_1 k m v⟩)
def pl30_2 (k : Nat) : Plan := (.seq .go (.sub (.seq .go (.seq .go (.sub (.frag (fr30_1 k)))))))
theorem pq30_2 (k : Nat) : PlanOK Try.prog lim30 (pl30_2 k) (codeAt (bodyOf Try.f30) [.r, .r, .r, .r, .r, .l, .r, .s, .b]) = (PlanOK Try.prog lim30 .go (codeAt (bodyOf Try.f30) [.r, .r, .r, .r, .r, .l, .r, .s, .b, .l]) ∧ (PlanOK Try.prog lim30 .go (codeAt (bodyOf Try.f30) [.r, .r, .r, .r, .r, .l, .r, .s, .b, .r, .s, .l]) ∧ (PlanOK Try.prog lim30 .go (codeAt (bodyOf Try.f30) [.r, .r, .r, .r, .r, .l, .r, .s, .b, .r, .s, .r, .l]) ∧ FragOK Try.prog lim30 (fr30_1 k) (codeAt (bodyOf Try.f30) [.r, .r, .r, .r, .r, .l, .r, .s, .b, .r, .s, .r, .r, .s])))) := by kernel_rfl
theorem ps30_2 (k m : Nat) (v : (fr30_2 k).sh.V) : F30_2 k (m + 1) v.1.1 v.1.2.1 v.2.1 v.2.2.1 v.2.2.2.1 v.2.2.2.2.1 v.2.2.2.2.2.1 = (body Try.prog (stepper Try.prog (cfg30 k) lim30) (pl30_2 k) (codeAt (bodyOf Try.f30) [.r, .r, .r, .r, .r, .l, .r, .s, .b]) ((fr30_2 k).sh.st v) (loopK (fr30_2 k) fun v => F30_2 k m v.1.1 v.1.2.1 v.2.1 v.2.2.1 v.2.2.2.1 v.2.2.2.2.1 v.2.2.2.2.2.1)).eval := by kernel_rfl
theorem pe30_2 (k m : Nat) (v : (fr30_2 k).sh.V) : (body Try.prog (stepper Try.prog (cfg30 k) lim30) (pl30_2 k) (codeAt (bodyOf Try.f30) [.r, .r, .r, .r, .r, .l, .r, .s, .b]) ((fr30_2 k).sh.st v) (loopK (fr30_2 k) fun v => F30_2 k m v.1.1 v.1.2.1 v.2.1 v.2.2.1 v.2.2.2.1 v.2.2.2.2.1 v.2.2.2.2.2.1)).left = (body Try.prog (stepper Try.prog (cfg30 k) lim30) (pl30_2 k) (codeAt (bodyOf Try.f30) [.r, .r, .r, .r, .r, .l, .r, .s, .b]) ((fr30_2 k).sh.st v) (loopK (fr30_2 k) fun v => F30_2 k m v.1.1 v.1.2.1 v.2.1 v.2.2.1 v.2.2.2.1 v.2.2.2.2.1 v.2.2.2.2.2.1)).right := by kernel_rfl
theorem fr30_2_ok (k : Nat) : FragOK Try.prog lim30 (fr30_2 k) (codeAt (bodyOf Try.f30) [.r, .r, .r, .r, .r, .l, .r, .s]) :=
  frag_cast (by kernel_rfl) (loop_ok (cfg30_ok k) (Eq.mpr (pq30_2 k) ⟨(planOK_go _), ⟨(planOK_go _), ⟨(planOK_go _), (fr30_1_ok k)⟩⟩⟩) (fun m v => F30_2 k m v.1.1 v.1.2.1 v.2.1 v.2.2.1 v.2.2.2.1 v.2.2.2.2.1 v.2.2.2.2.2.1) k (fun _ => rfl) (fun _ => rfl) fun m v => ⟨ps30_2 k m v, pe30_2 k m v⟩)
def pl30_3 (k : Nat) : Plan := .go
theorem pq30_3 (k : Nat) : PlanOK Try.prog lim30 (pl30_3 k) (codeAt (bodyOf Try.f30) [.r, .r, .r, .r, .r, .r, .r, .r, .l, .r, .s, .b]) = PlanOK Try.prog lim30 .go (codeAt (bodyOf Try.f30) [.r, .r, .r, .r, .r, .r, .r, .r, .l, .r, .s, .b]) := by kernel_rfl
theorem ps30_3 (k m : Nat) (v : (fr30_3 k).sh.V) : F30_3 k (m + 1) v.1.1 v.1.2.1 v.2.1 v.2.2.1 v.2.2.2.1 v.2.2.2.2.1 v.2.2.2.2.2.1 v.2.2.2.2.2.2.1 = (body Try.prog (stepper Try.prog (cfg30 k) lim30) (pl30_3 k) (codeAt (bodyOf Try.f30) [.r, .r, .r, .r, .r, .r, .r, .r, .l, .r, .s, .b]) ((fr30_3 k).sh.st v) (loopK (fr30_3 k) fun v => F30_3 k m v.1.1 v.1.2.1 v.2.1 v.2.2.1 v.2.2.2.1 v.2.2.2.2.1 v.2.2.2.2.2.1 v.2.2.2.2.2.2.1)).eval := by kernel_rfl
theorem pe30_3 (k m : Nat) (v : (fr30_3 k).sh.V) : (body Try.prog (stepper Try.prog (cfg30 k) lim30) (pl30_3 k) (codeAt (bodyOf Try.f30) [.r, .r, .r, .r, .r, .r, .r, .r, .l, .r, .s, .b]) ((fr30_3 k).sh.st v) (loopK (fr30_3 k) fun v => F30_3 k m v.1.1 v.1.2.1 v.2.1 v.2.2.1 v.2.2.2.1 v.2.2.2.2.1 v.2.2.2.2.2.1 v.2.2.2.2.2.2.1)).left = (body Try.prog (stepper Try.prog (cfg30 k) lim30) (pl30_3 k) (codeAt (bodyOf Try.f30) [.r, .r, .r, .r, .r, .r, .r, .r, .l, .r, .s, .b]) ((fr30_3 k).sh.st v) (loopK (fr30_3 k) fun v => F30_3 k m v.1.1 v.1.2.1 v.2.1 v.2.2.1 v.2.2.2.1 v.2.2.2.2.1 v.2.2.2.2.2.1 v.2.2.2.2.2.2.1)).right := by kernel_rfl
theorem fr30_3_ok (k : Nat) : FragOK Try.prog lim30 (fr30_3 k) (codeAt (bodyOf Try.f30) [.r, .r, .r, .r, .r, .r, .r, .r, .l, .r, .s]) :=
  frag_cast (by kernel_rfl) (loop_ok (cfg30_ok k) (Eq.mpr (pq30_3 k) (planOK_go _)) (fun m v => F30_3 k m v.1.1 v.1.2.1 v.2.1 v.2.2.1 v.2.2.2.1 v.2.2.2.2.1 v.2.2.2.2.2.1 v.2.2.2.2.2.2.1) k (fun _ => rfl) (fun _ => rfl) fun m v => ⟨ps30_3 k m v, pe30_3 k m v⟩)
def pl30_4 (k : Nat) : Plan := .go
theorem pq30_4 (k : Nat) : PlanOK Try.prog lim30 (pl30_4 k) (codeAt (bodyOf Try.f30) [.r, .r, .r, .r, .r, .r, .r, .r, .r, .l, .r, .s, .b]) = PlanOK Try.prog lim30 .go (codeAt (bodyOf Try.f30) [.r, .r, .r, .r, .r, .r, .r, .r, .r, .l, .r, .s, .b]) := by kernel_rfl
theorem ps30_4 (k m : Nat) (v : (fr30_4 k).sh.V) : F30_4 k (m + 1) v.1.1 v.2.1 v.2.2.1 v.2.2.2.1 v.2.2.2.2.1 = (body Try.prog (stepper Try.prog (cfg30 k) lim30) (pl30_4 k) (codeAt (bodyOf Try.f30) [.r, .r, .r, .r, .r, .r, .r, .r, .r, .l, .r, .s, .b]) ((fr30_4 k).sh.st v) (loopK (fr30_4 k) fun v => F30_4 k m v.1.1 v.2.1 v.2.2.1 v.2.2.2.1 v.2.2.2.2.1)).eval := by kernel_rfl
theorem pe30_4 (k m : Nat) (v : (fr30_4 k).sh.V) : (body Try.prog (stepper Try.prog (cfg30 k) lim30) (pl30_4 k) (codeAt (bodyOf Try.f30) [.r, .r, .r, .r, .r, .r, .r, .r, .r, .l, .r, .s, .b]) ((fr30_4 k).sh.st v) (loopK (fr30_4 k) fun v => F30_4 k m v.1.1 v.2.1 v.2.2.1 v.2.2.2.1 v.2.2.2.2.1)).left = (body Try.prog (stepper Try.prog (cfg30 k) lim30) (pl30_4 k) (codeAt (bodyOf Try.f30) [.r, .r, .r, .r, .r, .r, .r, .r, .r, .l, .r, .s, .b]) ((fr30_4 k).sh.st v) (loopK (fr30_4 k) fun v => F30_4 k m v.1.1 v.2.1 v.2.2.1 v.2.2.2.1 v.2.2.2.2.1)).right := by kernel_rfl
theorem fr30_4_ok (k : Nat) : FragOK Try.prog lim30 (fr30_4 k) (codeAt (bodyOf Try.f30) [.r, .r, .r, .r, .r, .r, .r, .r, .r, .l, .r, .s]) :=
  frag_cast (by kernel_rfl) (loop_ok (cfg30_ok k) (Eq.mpr (pq30_4 k) (planOK_go _)) (fun m v => F30_4 k m v.1.1 v.2.1 v.2.2.1 v.2.2.2.1 v.2.2.2.2.1) k (fun _ => rfl) (fun _ => rfl) fun m v => ⟨ps30_4 k m v, pe30_4 k m v⟩)
def pl30 (k : Nat) : Plan := (.seq .go (.seq .go (.seq .go (.seq .go (.seq (.seq .go (.sub (.frag (fr30_0 k)))) (.seq (.seq .go (.sub (.frag (fr30_2 k)))) (.seq .go (.seq .go (.seq (.seq .go (.sub (.frag (fr30_3 k)))) (.seq (.seq .go (.sub (.frag (fr30_4 k)))) .go))))))))))
theorem pq30 (k : Nat) : PlanOK Try.prog lim30 (pl30 k) (codeAt (bodyOf Try.f30) []) = (PlanOK Try.prog lim30 .go (codeAt (bodyOf Try.f30) [.l]) ∧ (PlanOK Try.prog lim30 .go (codeAt (bodyOf Try.f30) [.r, .l]) ∧ (PlanOK Try.prog lim30 .go (codeAt (bodyOf Try.f30) [.r, .r, .l]) ∧ (PlanOK Try.prog lim30 .go (codeAt (bodyOf Try.f30) [.r, .r, .r, .l]) ∧ ((PlanOK Try.prog lim30 .go (codeAt (bodyOf Try.f30) [.r, .r, .r, .r, .l, .l]) ∧ FragOK Try.prog lim30 (fr30_0 k) (codeAt (bodyOf Try.f30) [.r, .r, .r, .r, .l, .r, .s])) ∧ ((PlanOK Try.prog lim30 .go (codeAt (bodyOf Try.f30) [.r, .r, .r, .r, .r, .l, .l]) ∧ FragOK Try.prog lim30 (fr30_2 k) (codeAt (bodyOf Try.f30) [.r, .r, .r, .r, .r, .l, .r, .s])) ∧ (PlanOK Try.prog lim30 .go (codeAt (bodyOf Try.f30) [.r, .r, .r, .r, .r, .r, .l]) ∧ (PlanOK Try.prog lim30 .go (codeAt (bodyOf Try.f30) [.r, .r, .r, .r, .r, .r, .r, .l]) ∧ ((PlanOK Try.prog lim30 .go (codeAt (bodyOf Try.f30) [.r, .r, .r, .r, .r, .r, .r, .r, .l, .l]) ∧ FragOK Try.prog lim30 (fr30_3 k) (codeAt (bodyOf Try.f30) [.r, .r, .r, .r, .r, .r, .r, .r, .l, .r, .s])) ∧ ((PlanOK Try.prog lim30 .go (codeAt (bodyOf Try.f30) [.r, .r, .r, .r, .r, .r, .r, .r, .r, .l, .l]) ∧ FragOK Try.prog lim30 (fr30_4 k) (codeAt (bodyOf Try.f30) [.r, .r, .r, .r, .r, .r, .r, .r, .r, .l, .r, .s])) ∧ PlanOK Try.prog lim30 .go (codeAt (bodyOf Try.f30) [.r, .r, .r, .r, .r, .r, .r, .r, .r, .r]))))))))))) := by kernel_rfl
theorem ev30 (k : Nat) (x : AT (sp30 k).ps) : (sp30 k).impl x = (fnT Try.prog (cfg30 k) lim30 Try.f30 (bodyOf Try.f30) (pl30 k) (sp30 k) x).eval := by kernel_rfl
theorem eq30 (k : Nat) (x : AT (sp30 k).ps) : (fnT Try.prog (cfg30 k) lim30 Try.f30 (bodyOf Try.f30) (pl30 k) (sp30 k) x).left = (fnT Try.prog (cfg30 k) lim30 Try.f30 (bodyOf Try.f30) (pl30 k) (sp30 k) x).right := by kernel_rfl
theorem v30 (k : Nat) : Callable Try.prog 30 ∧ Valid Try.prog 30 (sp30 k) :=
  fn_ok (cfg30_ok k) (f := 30) (fn := Try.f30) (by kernel_rfl) (c := bodyOf Try.f30) (by kernel_rfl) (by kernel_rfl) rfl rfl (Nat.le_of_ble_eq_true rfl) (Nat.le_of_ble_eq_true rfl) (p := pl30 k) (Eq.mpr (pq30 k) ⟨(planOK_go _), ⟨(planOK_go _), ⟨(planOK_go _), ⟨(planOK_go _), ⟨⟨(planOK_go _), (fr30_0_ok k)⟩, ⟨⟨(planOK_go _), (fr30_2_ok k)⟩, ⟨(planOK_go _), ⟨(planOK_go _), ⟨⟨(planOK_go _), (fr30_3_ok k)⟩, ⟨⟨(planOK_go _), (fr30_4_ok k)⟩, (planOK_go _)⟩⟩⟩⟩⟩⟩⟩⟩⟩⟩) fun x => ⟨ev30 k x, eq30 k x⟩
/-! f13 hyphen/hyphenlaw8.Side -/
def F13 (k : Nat) (a0 : TY51) (a1 : (List Int)) : Option TY14 :=
  (F21 k a1).bind fun r1 =>
  let x2 := ([] : (List (Int × (Int × (TY37 × (TY37 × Unit))))))
  let x5 := (Tree.mk ((Tree.a a0).1, ((Tree.a a0).2.1, ())) (Tree.l a0))
  (F27 k x5 false).bind fun r6 =>
  (F22 k r6.1.1 (r1.1.1, (x2, ()))).bind fun r7 =>
  bif (!r7.1.2.1) then
    some (((([] : (List Int)), (([] : (List Int)), (([] : (List Int)), (([] : TY45), ((0 : Int), ()))))), false, ()), ())
  else
    (F28 k (r1.1.1, (x2, ()))).bind fun r8 =>
    (F29 k r8.1.1).bind fun r9 =>
    (F31 k r8.1.1 r9.1.1 r9.1.2.1).bind fun r10 =>
    (F30 k r7.1.1 r10.1.1).bind fun r11 =>
    some ((r11.1.1, true, ()), ())
def sp13 (k : Nat) : Spec := ⟨[.val KD38, .val KD48], [.own KD6, .val .bool], fun x => F13 k x.1 x.2.1⟩
def lim13 : Lim := ⟨38, 2, false, false, [14]⟩
def cfg13 (k : Nat) : Nat → Option Spec := cfgL [(21, sp21 k), (22, sp22 k), (27, sp27 k), (28, sp28 k), (29, sp29 k), (30, sp30 k), (31, sp31 k)]
theorem cfg13_ok (k : Nat) : CfgOK Try.prog (cfg13 k) := cfgL_cons (v21 k) (cfgL_cons (v22 k) (cfgL_cons (v27 k) (cfgL_cons (v28 k) (cfgL_cons (v29 k) (cfgL_cons (v30 k) (cfgL_cons (v31 k) (cfgL_nil)))))))
def pl13 (k : Nat) : Plan := .go
theorem pq13 (k : Nat) : PlanOK Try.prog lim13 (pl13 k) (codeAt (bodyOf Try.f13) []) = PlanOK Try.prog lim13 .go (codeAt (bodyOf Try.f13) []) := by kernel_rfl
theorem ev13 (k : Nat) (x : AT (sp13 k).ps) : (sp13 k).impl x = (fnT Try.prog (cfg13 k) lim13 Try.f13 (bodyOf Try.f13) (pl13 k) (sp13 k) x).eval := by kernel_rfl
theorem eq13 (k : Nat) (x : AT (sp13 k).ps) : (fnT Try.prog (cfg13 k) lim13 Try.f13 (bodyOf Try.f13) (pl13 k) (sp13 k) x).left = (fnT Try.prog (cfg13 k) lim13 Try.f13 (bodyOf Try.f13) (pl13 k) (sp13 k) x).right := by kernel_rfl
theorem v13 (k : Nat) : Callable Try.prog 13 ∧ Valid Try.prog 13 (sp13 k) :=
  fn_ok (cfg13_ok k) (f := 13) (fn := Try.f13) (by kernel_rfl) (c := bodyOf Try.f13) (by kernel_rfl) (by kernel_rfl) rfl rfl (Nat.le_of_ble_eq_true rfl) (Nat.le_of_ble_eq_true rfl) (p := pl13 k) (Eq.mpr (pq13 k) (planOK_go _)) fun x => ⟨ev13 k x, eq13 k x⟩
/-! f25 hyphen/hyphenref1.Ints -/
def F25_0 (k : Nat) : Nat → (List Int) → (List Int) → Int → Option ((Unit × Unit) ⊕ TY55)
  | 0, _, _, _ => none
  | n + 1, t0, t1, t5 =>
    let x4 := (decide (t5 < ((List.length t0 : Nat) : Int)))
    bif x4 then
      if 0 ≤ t5 ∧ t5 < ((List.length t0 : Nat) : Int) then
        if 0 ≤ t5 ∧ t5 < ((List.length t1 : Nat) : Int) then
          let x5 := ((List.getD t0 (Int.toNat t5) (0 : Int)) != (List.getD t1 (Int.toNat t5) (0 : Int)))
          bif x5 then
            some (.inr ((false, ()), ()))
          else
            (F25_0 k n t0 t1 (IntKind.wrap .i64 (t5 + (1 : Int)))).bind some
        else none
      else none
    else
      some (.inl ((), ()))
def fr25_0 (k : Nat) : Frag := ⟨⟨[], [(0, .val KD48), (1, .val KD48), (5, .val (.int .i64))], []⟩, [(.exit 0, ⟨[], [], []⟩), (.ret, ⟨[], [(4, .val .bool)], []⟩)], fun v => F25_0 k k v.1.1 v.1.2.1 v.1.2.2.1⟩
def F25 (k : Nat) (a0 : (List Int)) (a1 : (List Int)) : Option TY55 :=
  let x1 := (((List.length a0 : Nat) : Int) != ((List.length a1 : Nat) : Int))
  bif x1 then
    some ((false, ()), ())
  else
    (F25_0 k k a0 a1 (0 : Int)).bind fun r6 =>
    match r6 with
    | .inl r7 =>
      some ((true, ()), ())
    | .inr r7 =>
      let y8 := r7.1.1
      some ((y8, ()), ())
def sp25 (k : Nat) : Spec := ⟨[.val KD48, .val KD48], [.val .bool], fun x => F25 k x.1 x.2.1⟩
def lim25 : Lim := ⟨26, 2, false, false, []⟩
def cfg25 (k : Nat) : Nat → Option Spec := cfgL []
theorem cfg25_ok (k : Nat) : CfgOK Try.prog (cfg25 k) := cfgL_nil
def pl25_0 (k : Nat) : Plan := .go
theorem pq25_0 (k : Nat) : PlanOK Try.prog lim25 (pl25_0 k) (codeAt (bodyOf Try.f25) [.r, .r, .l, .r, .s, .b]) = PlanOK Try.prog lim25 .go (codeAt (bodyOf Try.f25) [.r, .r, .l, .r, .s, .b]) := by kernel_rfl
theorem ps25_0 (k m : Nat) (v : (fr25_0 k).sh.V) : F25_0 k (m + 1) v.1.1 v.1.2.1 v.1.2.2.1 = (body Try.prog (stepper Try.prog (cfg25 k) lim25) (pl25_0 k) (codeAt (bodyOf Try.f25) [.r, .r, .l, .r, .s, .b]) ((fr25_0 k).sh.st v) (loopK (fr25_0 k) fun v => F25_0 k m v.1.1 v.1.2.1 v.1.2.2.1)).eval := by kernel_rfl
theorem pe25_0 (k m : Nat) (v : (fr25_0 k).sh.V) : (body Try.prog (stepper Try.prog (cfg25 k) lim25) (pl25_0 k) (codeAt (bodyOf Try.f25) [.r, .r, .l, .r, .s, .b]) ((fr25_0 k).sh.st v) (loopK (fr25_0 k) fun v => F25_0 k m v.1.1 v.1.2.1 v.1.2.2.1)).left = (body Try.prog (stepper Try.prog (cfg25 k) lim25) (pl25_0 k) (codeAt (bodyOf Try.f25) [.r, .r, .l, .r, .s, .b]) ((fr25_0 k).sh.st v) (loopK (fr25_0 k) fun v => F25_0 k m v.1.1 v.1.2.1 v.1.2.2.1)).right := by kernel_rfl
theorem fr25_0_ok (k : Nat) : FragOK Try.prog lim25 (fr25_0 k) (codeAt (bodyOf Try.f25) [.r, .r, .l, .r, .s]) :=
  frag_cast (by kernel_rfl) (loop_ok (cfg25_ok k) (Eq.mpr (pq25_0 k) (planOK_go _)) (fun m v => F25_0 k m v.1.1 v.1.2.1 v.1.2.2.1) k (fun _ => rfl) (fun _ => rfl) fun m v => ⟨ps25_0 k m v, pe25_0 k m v⟩)
def pl25 (k : Nat) : Plan := (.seq .go (.seq .go (.seq (.seq .go (.sub (.frag (fr25_0 k)))) .go)))
theorem pq25 (k : Nat) : PlanOK Try.prog lim25 (pl25 k) (codeAt (bodyOf Try.f25) []) = (PlanOK Try.prog lim25 .go (codeAt (bodyOf Try.f25) [.l]) ∧ (PlanOK Try.prog lim25 .go (codeAt (bodyOf Try.f25) [.r, .l]) ∧ ((PlanOK Try.prog lim25 .go (codeAt (bodyOf Try.f25) [.r, .r, .l, .l]) ∧ FragOK Try.prog lim25 (fr25_0 k) (codeAt (bodyOf Try.f25) [.r, .r, .l, .r, .s])) ∧ PlanOK Try.prog lim25 .go (codeAt (bodyOf Try.f25) [.r, .r, .r])))) := by kernel_rfl
theorem ev25 (k : Nat) (x : AT (sp25 k).ps) : (sp25 k).impl x = (fnT Try.prog (cfg25 k) lim25 Try.f25 (bodyOf Try.f25) (pl25 k) (sp25 k) x).eval := by kernel_rfl
theorem eq25 (k : Nat) (x : AT (sp25 k).ps) : (fnT Try.prog (cfg25 k) lim25 Try.f25 (bodyOf Try.f25) (pl25 k) (sp25 k) x).left = (fnT Try.prog (cfg25 k) lim25 Try.f25 (bodyOf Try.f25) (pl25 k) (sp25 k) x).right := by kernel_rfl
theorem v25 (k : Nat) : Callable Try.prog 25 ∧ Valid Try.prog 25 (sp25 k) :=
  fn_ok (cfg25_ok k) (f := 25) (fn := Try.f25) (by kernel_rfl) (c := bodyOf Try.f25) (by kernel_rfl) (by kernel_rfl) rfl rfl (Nat.le_of_ble_eq_true rfl) (Nat.le_of_ble_eq_true rfl) (p := pl25 k) (Eq.mpr (pq25 k) ⟨(planOK_go _), ⟨(planOK_go _), ⟨⟨(planOK_go _), (fr25_0_ok k)⟩, (planOK_go _)⟩⟩⟩) fun x => ⟨ev25 k x, eq25 k x⟩
/-! f24 hyphen/hyphenref7.Same -/
def F24_0 (k : Nat) : Nat → Int → TY20 → TY20 → Option ((Unit × Unit) ⊕ TY55)
  | 0, _, _, _ => none
  | n + 1, t5, c2, c3 =>
    let x8 := (decide (t5 < ((List.length c2.2.2.2.1 : Nat) : Int)))
    bif x8 then
      if 0 ≤ t5 ∧ t5 < ((List.length c2.2.2.2.1 : Nat) : Int) then
        let x9 := (List.getD c2.2.2.2.1 (Int.toNat t5) ((0 : Int), ((0 : Int), ((0 : Int), ()))))
        if 0 ≤ t5 ∧ t5 < ((List.length c3.2.2.2.1 : Nat) : Int) then
          let x10 := (List.getD c3.2.2.2.1 (Int.toNat t5) ((0 : Int), ((0 : Int), ((0 : Int), ()))))
          bif (!(eqT3 x9 x10)) then
            some (.inr ((false, ()), ()))
          else
            (F24_0 k n (IntKind.wrap .i64 (t5 + (1 : Int))) c2 c3).bind some
        else none
      else none
    else
      some (.inl ((), ()))
def fr24_0 (k : Nat) : Frag := ⟨⟨[], [(2, .ptr 2 []), (3, .ptr 3 []), (5, .val (.int .i64))], [(2, some 28, KD5), (3, some 28, KD5)]⟩, [(.exit 0, ⟨[], [], []⟩), (.ret, ⟨[], [(4, .val .bool)], []⟩)], fun v => F24_0 k k v.1.1 v.2.1 v.2.2.1⟩
def F24 (k : Nat) (a0 : TY20) (a1 : TY20) : Option TY55 :=
  (F25 k a0.1 a1.1).bind fun r1 =>
  bif (!r1.1.1) then
    some ((false, ()), ())
  else
    (F25 k a0.2.1 a1.2.1).bind fun r2 =>
    bif (!r2.1.1) then
      some ((false, ()), ())
    else
      (F25 k a0.2.2.1 a1.2.2.1).bind fun r3 =>
      bif (!r3.1.1) then
        some ((false, ()), ())
      else
        bif (a0.2.2.2.2.1 != a1.2.2.2.2.1) then
          some ((false, ()), ())
        else
          let x4 := (((List.length a0.2.2.2.1 : Nat) : Int) != ((List.length a1.2.2.2.1 : Nat) : Int))
          bif x4 then
            some ((false, ()), ())
          else
            (F24_0 k k (0 : Int) a0 a1).bind fun r11 =>
            match r11 with
            | .inl r12 =>
              some ((true, ()), ())
            | .inr r12 =>
              let y13 := r12.1.1
              some ((y13, ()), ())
def sp24 (k : Nat) : Spec := ⟨[.val KD5, .val KD5], [.val .bool], fun x => F24 k x.1 x.2.1⟩
def lim24 : Lim := ⟨62, 2, false, false, []⟩
def cfg24 (k : Nat) : Nat → Option Spec := cfgL [(25, sp25 k)]
theorem cfg24_ok (k : Nat) : CfgOK Try.prog (cfg24 k) := cfgL_cons (v25 k) (cfgL_nil)
def pl24_0 (k : Nat) : Plan := .go
theorem pq24_0 (k : Nat) : PlanOK Try.prog lim24 (pl24_0 k) (codeAt (bodyOf Try.f24) [.r, .r, .l, .r, .s, .b]) = PlanOK Try.prog lim24 .go (codeAt (bodyOf Try.f24) [.r, .r, .l, .r, .s, .b]) := by kernel_rfl
theorem ps24_0 (k m : Nat) (v : (fr24_0 k).sh.V) : F24_0 k (m + 1) v.1.1 v.2.1 v.2.2.1 = (body Try.prog (stepper Try.prog (cfg24 k) lim24) (pl24_0 k) (codeAt (bodyOf Try.f24) [.r, .r, .l, .r, .s, .b]) ((fr24_0 k).sh.st v) (loopK (fr24_0 k) fun v => F24_0 k m v.1.1 v.2.1 v.2.2.1)).eval := by kernel_rfl
theorem pe24_0 (k m : Nat) (v : (fr24_0 k).sh.V) : (body Try.prog (stepper Try.prog (cfg24 k) lim24) (pl24_0 k) (codeAt (bodyOf Try.f24) [.r, .r, .l, .r, .s, .b]) ((fr24_0 k).sh.st v) (loopK (fr24_0 k) fun v => F24_0 k m v.1.1 v.2.1 v.2.2.1)).left = (body Try.prog (stepper Try.prog (cfg24 k) lim24) (pl24_0 k) (codeAt (bodyOf Try.f24) [.r, .r, .l, .r, .s, .b]) ((fr24_0 k).sh.st v) (loopK (fr24_0 k) fun v => F24_0 k m v.1.1 v.2.1 v.2.2.1)).right := by kernel_rfl
theorem fr24_0_ok (k : Nat) : FragOK Try.prog lim24 (fr24_0 k) (codeAt (bodyOf Try.f24) [.r, .r, .l, .r, .s]) :=
  frag_cast (by kernel_rfl) (loop_ok (cfg24_ok k) (Eq.mpr (pq24_0 k) (planOK_go _)) (fun m v => F24_0 k m v.1.1 v.2.1 v.2.2.1) k (fun _ => rfl) (fun _ => rfl) fun m v => ⟨ps24_0 k m v, pe24_0 k m v⟩)
def pl24 (k : Nat) : Plan := (.seq .go (.seq .go (.seq (.seq .go (.sub (.frag (fr24_0 k)))) .go)))
theorem pq24 (k : Nat) : PlanOK Try.prog lim24 (pl24 k) (codeAt (bodyOf Try.f24) []) = (PlanOK Try.prog lim24 .go (codeAt (bodyOf Try.f24) [.l]) ∧ (PlanOK Try.prog lim24 .go (codeAt (bodyOf Try.f24) [.r, .l]) ∧ ((PlanOK Try.prog lim24 .go (codeAt (bodyOf Try.f24) [.r, .r, .l, .l]) ∧ FragOK Try.prog lim24 (fr24_0 k) (codeAt (bodyOf Try.f24) [.r, .r, .l, .r, .s])) ∧ PlanOK Try.prog lim24 .go (codeAt (bodyOf Try.f24) [.r, .r, .r])))) := by kernel_rfl
theorem ev24 (k : Nat) (x : AT (sp24 k).ps) : (sp24 k).impl x = (fnT Try.prog (cfg24 k) lim24 Try.f24 (bodyOf Try.f24) (pl24 k) (sp24 k) x).eval := by kernel_rfl
theorem eq24 (k : Nat) (x : AT (sp24 k).ps) : (fnT Try.prog (cfg24 k) lim24 Try.f24 (bodyOf Try.f24) (pl24 k) (sp24 k) x).left = (fnT Try.prog (cfg24 k) lim24 Try.f24 (bodyOf Try.f24) (pl24 k) (sp24 k) x).right := by kernel_rfl
theorem v24 (k : Nat) : Callable Try.prog 24 ∧ Valid Try.prog 24 (sp24 k) :=
  fn_ok (cfg24_ok k) (f := 24) (fn := Try.f24) (by kernel_rfl) (c := bodyOf Try.f24) (by kernel_rfl) (by kernel_rfl) rfl rfl (Nat.le_of_ble_eq_true rfl) (Nat.le_of_ble_eq_true rfl) (p := pl24 k) (Eq.mpr (pq24 k) ⟨(planOK_go _), ⟨(planOK_go _), ⟨⟨(planOK_go _), (fr24_0_ok k)⟩, (planOK_go _)⟩⟩⟩) fun x => ⟨ev24 k x, eq24 k x⟩
/-! f10 hyphen/hyphenlaw8.TwinOwn -/
def F10_0 (k : Nat) : Nat → Int → Bool → Int → TY20 → TY20 → (List Int) → (List Int) → Option (((Int × Bool × Unit) × TY7))
  | 0, _, _, _, _, _, _, _ => none
  | n + 1, t2, t12, t14, c7, c9, c55, c1000800 =>
    let x10 := (decide (t14 < ((List.length c1000800 : Nat) : Int)))
    bif x10 then
      if 0 ≤ t14 ∧ t14 < ((List.length c1000800 : Nat) : Int) then
        (F10_0 k n t2 t12 (IntKind.wrap .i64 (t14 + (1 : Int))) c7 c9 c55 (List.set c1000800 (Int.toNat t14) t2)).bind some
      else none
    else
      some ((t2, t12, ()), (c7, c9, c55, ()))
def fr10_0 (k : Nat) : Frag := ⟨⟨[], [(2, .val (.int .i64)), (7, .ptr 7 []), (9, .ptr 9 []), (11, .at 1000800 []), (12, .val .bool), (13, .at 55 []), (14, .val (.int .i64))], [(7, some 28, KD6), (9, some 28, KD6), (55, none, KD49), (1000800, none, KD49)]⟩, [(.exit 0, ⟨[], [(2, .val (.int .i64)), (7, .ptr 7 []), (9, .ptr 9 []), (12, .val .bool), (13, .at 55 [])], [(7, some 28, KD6), (9, some 28, KD6), (55, none, KD49)]⟩)], fun v => F10_0 k k v.1.1 v.1.2.1 v.1.2.2.1 v.2.1 v.2.2.1 v.2.2.2.1 v.2.2.2.2.1⟩
def F10_1 (k : Nat) : Nat → Int → Bool → Int → TY20 → TY20 → (List Int) → (List Int) → Option (((Bool × Unit) × TY7))
  | 0, _, _, _, _, _, _, _ => none
  | n + 1, t2, t12, t17, c7, c9, c55, c1001088 =>
    let x19 := (decide (t17 < ((List.length c1001088 : Nat) : Int)))
    bif x19 then
      if 0 ≤ t17 ∧ t17 < ((List.length c1001088 : Nat) : Int) then
        (F10_1 k n t2 t12 (IntKind.wrap .i64 (t17 + (1 : Int))) c7 c9 c55 (List.set c1001088 (Int.toNat t17) t2)).bind some
      else none
    else
      some ((t12, ()), (c7, c9, c55, ()))
def fr10_1 (k : Nat) : Frag := ⟨⟨[], [(2, .val (.int .i64)), (7, .ptr 7 []), (9, .ptr 9 []), (12, .val .bool), (13, .at 55 []), (15, .at 1001088 []), (17, .val (.int .i64))], [(7, some 28, KD6), (9, some 28, KD6), (55, none, KD49), (1001088, none, KD49)]⟩, [(.exit 2, ⟨[], [(7, .ptr 7 []), (9, .ptr 9 []), (12, .val .bool), (13, .at 55 [])], [(7, some 28, KD6), (9, some 28, KD6), (55, none, KD49)]⟩)], fun v => F10_1 k k v.1.1 v.1.2.1 v.1.2.2.1 v.2.1 v.2.2.1 v.2.2.2.1 v.2.2.2.2.1⟩
def F10 (k : Nat) (a0 : TY46) (a1 : (List Int)) (a2 : Int) : Option TY55 :=
  (F11 k).bind fun r1 =>
  bif (!r1.1.1) then
    some ((false, ()), ())
  else
    (F12 k a0).bind fun r2 =>
    bif (!r2.1.1) then
      some ((true, ()), ())
    else
      let x3 := (((List.length a0 : Nat) : Int) == (0 : Int))
      bif x3 then
        some ((true, ()), ())
      else
        if 0 ≤ (0 : Int) ∧ (0 : Int) < ((List.length a0 : Nat) : Int) then
          let x4 := (List.getD a0 (Int.toNat (0 : Int)) (Tree.mk ((0 : Int), ((0 : Int), ())) []))
          (F13 k x4 a1).bind fun r5 =>
          if 0 ≤ (0 : Int) ∧ (0 : Int) < ((List.length a0 : Nat) : Int) then
            let x6 := (List.getD a0 (Int.toNat (0 : Int)) (Tree.mk ((0 : Int), ((0 : Int), ())) []))
            (F13 k x6 a1).bind fun r7 =>
            bif (!r5.1.2.1) then
              some ((true, ()), ())
            else
              (F14 k r5.1.1).bind fun r8 =>
              if (List.length (List.replicate 0 (0 : Int)) + List.length r8.1.1) * (8 * 2) ≤ 281474976710656 ∧ List.length (List.replicate 0 (0 : Int)) + List.length r8.1.1 ≤ 9223372036854775807 then
                (F10_0 k k a2 r8.1.2.1 (0 : Int) r5.1.1 r7.1.1 ((List.replicate 0 (0 : Int)) ++ r8.1.1) r8.1.1).bind fun r11 =>
                let y12 := r11.1.1
                let y13 := r11.1.2.1
                let y14 := r11.2.1
                let y15 := r11.2.2.1
                let y16 := r11.2.2.2.1
                (F19 k y14 (0 : Int)).bind fun r17 =>
                (F10_1 k k y12 y13 (0 : Int) y14 y15 y16 r17.1.1).bind fun r20 =>
                let y21 := r20.1.1
                let y22 := r20.2.1
                let y23 := r20.2.2.1
                let y24 := r20.2.2.2.1
                (F14 k y22).bind fun r25 =>
                (F24 k y22 y23).bind fun r26 =>
                bif r26.1.1 then
                  bif (y21 == r25.1.2.1) then
                    (F25 k r25.1.1 y24).bind fun r27 =>
                    some ((r27.1.1, ()), ())
                  else
                    some ((false, ()), ())
                else
                  some ((false, ()), ())
              else none
          else none
        else none
def sp10 (k : Nat) : Spec := ⟨[.val KD39, .val KD48, .val (.int .i64)], [.val .bool], fun x => F10 k x.1 x.2.1 x.2.2.1⟩
def lim10 : Lim := ⟨99, 3, false, false, []⟩
def cfg10 (k : Nat) : Nat → Option Spec := cfgL [(11, sp11 k), (12, sp12 k), (13, sp13 k), (14, sp14 k), (19, sp19 k), (24, sp24 k), (25, sp25 k)]
theorem cfg10_ok (k : Nat) : CfgOK Try.prog (cfg10 k) := cfgL_cons (v11 k) (cfgL_cons (v12 k) (cfgL_cons (v13 k) (cfgL_cons (v14 k) (cfgL_cons (v19 k) (cfgL_cons (v24 k) (cfgL_cons (v25 k) (cfgL_nil)))))))
def pl10_0 (k : Nat) : Plan := .go
theorem pq10_0 (k : Nat) : PlanOK Try.prog lim10 (pl10_0 k) (codeAt (bodyOf Try.f10) [.r, .r, .r, .r, .r, .r, .r, .r, .l, .r, .s, .b]) = PlanOK Try.prog lim10 .go (codeAt (bodyOf Try.f10) [.r, .r, .r, .r, .r, .r, .r, .r, .l, .r, .s, .b]) := by kernel_rfl
theorem ps10_0 (k m : Nat) (v : (fr10_0 k).sh.V) : F10_0 k (m + 1) v.1.1 v.1.2.1 v.1.2.2.1 v.2.1 v.2.2.1 v.2.2.2.1 v.2.2.2.2.1 = (body Try.prog (stepper Try.prog (cfg10 k) lim10) (pl10_0 k) (codeAt (bodyOf Try.f10) [.r, .r, .r, .r, .r, .r, .r, .r, .l, .r, .s, .b]) ((fr10_0 k).sh.st v) (loopK (fr10_0 k) fun v => F10_0 k m v.1.1 v.1.2.1 v.1.2.2.1 v.2.1 v.2.2.1 v.2.2.2.1 v.2.2.2.2.1)).eval := by kernel_rfl
theorem pe10_0 (k m : Nat) (v : (fr10_0 k).sh.V) : (body Try.prog (stepper Try.prog (cfg10 k) lim10) (pl10_0 k) (codeAt (bodyOf Try.f10) [.r, .r, .r, .r, .r, .r, .r, .r, .l, .r, .s, .b]) ((fr10_0 k).sh.st v) (loopK (fr10_0 k) fun v => F10_0 k m v.1.1 v.1.2.1 v.1.2.2.1 v.2.1 v.2.2.1 v.2.2.2.1 v.2.2.2.2.1)).left = (body Try.prog (stepper Try.prog (cfg10 k) lim10) (pl10_0 k) (codeAt (bodyOf Try.f10) [.r, .r, .r, .r, .r, .r, .r, .r, .l, .r, .s, .b]) ((fr10_0 k).sh.st v) (loopK (fr10_0 k) fun v => F10_0 k m v.1.1 v.1.2.1 v.1.2.2.1 v.2.1 v.2.2.1 v.2.2.2.1 v.2.2.2.2.1)).right := by kernel_rfl
theorem fr10_0_ok (k : Nat) : FragOK Try.prog lim10 (fr10_0 k) (codeAt (bodyOf Try.f10) [.r, .r, .r, .r, .r, .r, .r, .r, .l, .r, .s]) :=
  frag_cast (by kernel_rfl) (loop_ok (cfg10_ok k) (Eq.mpr (pq10_0 k) (planOK_go _)) (fun m v => F10_0 k m v.1.1 v.1.2.1 v.1.2.2.1 v.2.1 v.2.2.1 v.2.2.2.1 v.2.2.2.2.1) k (fun _ => rfl) (fun _ => rfl) fun m v => ⟨ps10_0 k m v, pe10_0 k m v⟩)
def pl10_1 (k : Nat) : Plan := .go
theorem pq10_1 (k : Nat) : PlanOK Try.prog lim10 (pl10_1 k) (codeAt (bodyOf Try.f10) [.r, .r, .r, .r, .r, .r, .r, .r, .r, .r, .l, .r, .s, .b]) = PlanOK Try.prog lim10 .go (codeAt (bodyOf Try.f10) [.r, .r, .r, .r, .r, .r, .r, .r, .r, .r, .l, .r, .s, .b]) := by kernel_rfl
theorem ps10_1 (k m : Nat) (v : (fr10_1 k).sh.V) : F10_1 k (m + 1) v.1.1 v.1.2.1 v.1.2.2.1 v.2.1 v.2.2.1 v.2.2.2.1 v.2.2.2.2.1 = (body Try.prog (stepper Try.prog (cfg10 k) lim10) (pl10_1 k) (codeAt (bodyOf Try.f10) [.r, .r, .r, .r, .r, .r, .r, .r, .r, .r, .l, .r, .s, .b]) ((fr10_1 k).sh.st v) (loopK (fr10_1 k) fun v => F10_1 k m v.1.1 v.1.2.1 v.1.2.2.1 v.2.1 v.2.2.1 v.2.2.2.1 v.2.2.2.2.1)).eval := by kernel_rfl
theorem pe10_1 (k m : Nat) (v : (fr10_1 k).sh.V) : (body Try.prog (stepper Try.prog (cfg10 k) lim10) (pl10_1 k) (codeAt (bodyOf Try.f10) [.r, .r, .r, .r, .r, .r, .r, .r, .r, .r, .l, .r, .s, .b]) ((fr10_1 k).sh.st v) (loopK (fr10_1 k) fun v => F10_1 k m v.1.1 v.1.2.1 v.1.2.2.1 v.2.1 v.2.2.1 v.2.2.2.1 v.2.2.2.2.1)).left = (body Try.prog (stepper Try.prog (cfg10 k) lim10) (pl10_1 k) (codeAt (bodyOf Try.f10) [.r, .r, .r, .r, .r, .r, .r, .r, .r, .r, .l, .r, .s, .b]) ((fr10_1 k).sh.st v) (loopK (fr10_1 k) fun v => F10_1 k m v.1.1 v.1.2.1 v.1.2.2.1 v.2.1 v.2.2.1 v.2.2.2.1 v.2.2.2.2.1)).right := by kernel_rfl
theorem fr10_1_ok (k : Nat) : FragOK Try.prog lim10 (fr10_1 k) (codeAt (bodyOf Try.f10) [.r, .r, .r, .r, .r, .r, .r, .r, .r, .r, .l, .r, .s]) :=
  frag_cast (by kernel_rfl) (loop_ok (cfg10_ok k) (Eq.mpr (pq10_1 k) (planOK_go _)) (fun m v => F10_1 k m v.1.1 v.1.2.1 v.1.2.2.1 v.2.1 v.2.2.1 v.2.2.2.1 v.2.2.2.2.1) k (fun _ => rfl) (fun _ => rfl) fun m v => ⟨ps10_1 k m v, pe10_1 k m v⟩)
def pl10 (k : Nat) : Plan := (.seq .go (.seq .go (.seq .go (.seq .go (.seq .go (.seq .go (.seq .go (.seq .go (.seq (.seq .go (.sub (.frag (fr10_0 k)))) (.seq .go (.seq (.seq .go (.sub (.frag (fr10_1 k)))) .go)))))))))))
theorem pq10 (k : Nat) : PlanOK Try.prog lim10 (pl10 k) (codeAt (bodyOf Try.f10) []) = (PlanOK Try.prog lim10 .go (codeAt (bodyOf Try.f10) [.l]) ∧ (PlanOK Try.prog lim10 .go (codeAt (bodyOf Try.f10) [.r, .l]) ∧ (PlanOK Try.prog lim10 .go (codeAt (bodyOf Try.f10) [.r, .r, .l]) ∧ (PlanOK Try.prog lim10 .go (codeAt (bodyOf Try.f10) [.r, .r, .r, .l]) ∧ (PlanOK Try.prog lim10 .go (codeAt (bodyOf Try.f10) [.r, .r, .r, .r, .l]) ∧ (PlanOK Try.prog lim10 .go (codeAt (bodyOf Try.f10) [.r, .r, .r, .r, .r, .l]) ∧ (PlanOK Try.prog lim10 .go (codeAt (bodyOf Try.f10) [.r, .r, .r, .r, .r, .r, .l]) ∧ (PlanOK Try.prog lim10 .go (codeAt (bodyOf Try.f10) [.r, .r, .r, .r, .r, .r, .r, .l]) ∧ ((PlanOK Try.prog lim10 .go (codeAt (bodyOf Try.f10) [.r, .r, .r, .r, .r, .r, .r, .r, .l, .l]) ∧ FragOK Try.prog lim10 (fr10_0 k) (codeAt (bodyOf Try.f10) [.r, .r, .r, .r, .r, .r, .r, .r, .l, .r, .s])) ∧ (PlanOK Try.prog lim10 .go (codeAt (bodyOf Try.f10) [.r, .r, .r, .r, .r, .r, .r, .r, .r, .l]) ∧ ((PlanOK Try.prog lim10 .go (codeAt (bodyOf Try.f10) [.r, .r, .r, .r, .r, .r, .r, .r, .r, .r, .l, .l]) ∧ FragOK Try.prog lim10 (fr10_1 k) (codeAt (bodyOf Try.f10) [.r, .r, .r, .r, .r, .r, .r, .r, .r, .r, .l, .r, .s])) ∧ PlanOK Try.prog lim10 .go (codeAt (bodyOf Try.f10) [.r, .r, .r, .r, .r, .r, .r, .r, .r, .r, .r])))))))))))) := by kernel_rfl
theorem ev10 (k : Nat) (x : AT (sp10 k).ps) : (sp10 k).impl x = (fnT Try.prog (cfg10 k) lim10 Try.f10 (bodyOf Try.f10) (pl10 k) (sp10 k) x).eval := by kernel_rfl
theorem eq10 (k : Nat) (x : AT (sp10 k).ps) : (fnT Try.prog (cfg10 k) lim10 Try.f10 (bodyOf Try.f10) (pl10 k) (sp10 k) x).left = (fnT Try.prog (cfg10 k) lim10 Try.f10 (bodyOf Try.f10) (pl10 k) (sp10 k) x).right := by kernel_rfl
theorem v10 (k : Nat) : Callable Try.prog 10 ∧ Valid Try.prog 10 (sp10 k) :=
  fn_ok (cfg10_ok k) (f := 10) (fn := Try.f10) (by kernel_rfl) (c := bodyOf Try.f10) (by kernel_rfl) (by kernel_rfl) rfl rfl (Nat.le_of_ble_eq_true rfl) (Nat.le_of_ble_eq_true rfl) (p := pl10 k) (Eq.mpr (pq10 k) ⟨(planOK_go _), ⟨(planOK_go _), ⟨(planOK_go _), ⟨(planOK_go _), ⟨(planOK_go _), ⟨(planOK_go _), ⟨(planOK_go _), ⟨(planOK_go _), ⟨⟨(planOK_go _), (fr10_0_ok k)⟩, ⟨(planOK_go _), ⟨⟨(planOK_go _), (fr10_1_ok k)⟩, (planOK_go _)⟩⟩⟩⟩⟩⟩⟩⟩⟩⟩⟩) fun x => ⟨ev10 k x, eq10 k x⟩
end Go.Proofs.YtgojfdimbciaiaaE
