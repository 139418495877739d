/- Functions of the program, as Lean functions, with their contracts; printed by gen.py. Conditions: none. -/
import Derived.Test.YtdgdeckaoajceaaG0
set_option linter.unusedVariables false
namespace Go.Proofs.YtdgdeckaoajceaaE
open Kd
set_option maxRecDepth 20000
/-! f34 hyphen/hyphenref12.Right -/
def F34_0 (k : Nat) : Nat → Int → ((List Int) × ((List Int) × (((List (List Int)) × ((List Int) × Unit)) × (((List (List Int)) × ((List (List (List Int))) × Unit)) × Unit)))) → Option ((Unit × (((List Int) × ((List Int) × (((List (List Int)) × ((List Int) × Unit)) × (((List (List Int)) × ((List (List (List Int))) × Unit)) × Unit)))) × Unit)) ⊕ ((Bool × Unit) × Unit))
  | 0, _, _ => none
  | n + 1, t5, c1 =>
    let x13 := (decide (t5 < ((List.length c1.1 : Nat) : Int)))
    bif x13 then
      if 0 ≤ t5 ∧ t5 < ((List.length c1.1 : Nat) : Int) then
        if 0 ≤ (IntKind.wrap .i64 (t5 - (1 : Int))) ∧ (IntKind.wrap .i64 (t5 - (1 : Int))) < ((List.length c1.1 : Nat) : Int) then
          let x14 := (List.getD c1.1 (Int.toNat (IntKind.wrap .i64 (t5 - (1 : Int)))) (0 : Int))
          let x15 := (decide ((List.getD c1.1 (Int.toNat t5) (0 : Int)) ≤ x14))
          bif x15 then
            some (.inr ((false, ()), ()))
          else
            if 0 ≤ t5 ∧ t5 < ((List.length c1.1 : Nat) : Int) then
              let x16 := (decide ((List.getD c1.1 (Int.toNat t5) (0 : Int)) > (1114111 : Int)))
              bif x16 then
                some (.inr ((false, ()), ()))
              else
                (F34_0 k n (IntKind.wrap .i64 (t5 + (1 : Int))) c1).bind some
            else none
        else none
      else none
    else
      some (.inl ((), (c1, ())))
def fr34_0 (k : Nat) : Frag := ⟨⟨[], [(1, .ptr 1 []), (5, .val (.int .i64))], [(1, some 32, (.pair (.sl false 3 (.int .i64) none) (.pair (.sl false 3 (.int .i64) none) (.pair (.pair (.sl false 22 (.sl false 3 (.int .i64) none) none) (.pair (.sl false 3 (.int .i64) none) .unit)) (.pair (.pair (.sl false 22 (.sl false 3 (.int .i64) none) none) (.pair (.sl false 36 (.sl false 57 (.arr 3 (.int .i64)) none) none) .unit)) .unit)))))]⟩, [(.exit 0, ⟨[], [(1, .ptr 1 [])], [(1, some 32, (.pair (.sl false 3 (.int .i64) none) (.pair (.sl false 3 (.int .i64) none) (.pair (.pair (.sl false 22 (.sl false 3 (.int .i64) none) none) (.pair (.sl false 3 (.int .i64) none) .unit)) (.pair (.pair (.sl false 22 (.sl false 3 (.int .i64) none) none) (.pair (.sl false 36 (.sl false 57 (.arr 3 (.int .i64)) none) none) .unit)) .unit)))))]⟩), (.ret, ⟨[], [(2, .val .bool)], []⟩)], fun v => F34_0 k k v.1.1 v.2.1⟩
def F34_1 (k : Nat) : Nat → Int → Int → ((List Int) × ((List Int) × (((List (List Int)) × ((List Int) × Unit)) × (((List (List Int)) × ((List (List (List Int))) × Unit)) × Unit)))) → Option (((Int × Unit) × (((List Int) × ((List Int) × (((List (List Int)) × ((List Int) × Unit)) × (((List (List Int)) × ((List (List (List Int))) × Unit)) × Unit)))) × Unit)) ⊕ ((Bool × Unit) × Unit))
  | 0, _, _, _ => none
  | n + 1, t6, t7, c1 =>
    let x24 := (decide (t7 < ((List.length c1.2.2.1.2.1 : Nat) : Int)))
    bif x24 then
      if 0 ≤ t7 ∧ t7 < ((List.length c1.2.2.1.2.1 : Nat) : Int) then
        let x25 := (List.getD c1.2.2.1.2.1 (Int.toNat t7) (0 : Int))
        bif (decide (x25 < (0 : Int))) then
          some (.inr ((false, ()), ()))
        else
          if 0 ≤ t7 ∧ t7 < ((List.length c1.2.2.1.2.1 : Nat) : Int) then
            let x26 := (List.getD c1.2.2.1.2.1 (Int.toNat t7) (0 : Int))
            bif (decide (x26 ≥ (100000 : Int))) then
              some (.inr ((false, ()), ()))
            else
              if 0 ≤ t7 ∧ t7 < ((List.length c1.2.2.1.2.1 : Nat) : Int) then
                let x27 := (List.getD c1.2.2.1.2.1 (Int.toNat t7) (0 : Int))
                (F34_1 k n (maxI t6 x27) (IntKind.wrap .i64 (t7 + (1 : Int))) c1).bind some
              else none
          else none
      else none
    else
      some (.inl ((t6, ()), (c1, ())))
def fr34_1 (k : Nat) : Frag := ⟨⟨[], [(1, .ptr 1 []), (6, .val (.int .i64)), (7, .val (.int .i64))], [(1, some 32, (.pair (.sl false 3 (.int .i64) none) (.pair (.sl false 3 (.int .i64) none) (.pair (.pair (.sl false 22 (.sl false 3 (.int .i64) none) none) (.pair (.sl false 3 (.int .i64) none) .unit)) (.pair (.pair (.sl false 22 (.sl false 3 (.int .i64) none) none) (.pair (.sl false 36 (.sl false 57 (.arr 3 (.int .i64)) none) none) .unit)) .unit)))))]⟩, [(.exit 2, ⟨[], [(1, .ptr 1 []), (6, .val (.int .i64))], [(1, some 32, (.pair (.sl false 3 (.int .i64) none) (.pair (.sl false 3 (.int .i64) none) (.pair (.pair (.sl false 22 (.sl false 3 (.int .i64) none) none) (.pair (.sl false 3 (.int .i64) none) .unit)) (.pair (.pair (.sl false 22 (.sl false 3 (.int .i64) none) none) (.pair (.sl false 36 (.sl false 57 (.arr 3 (.int .i64)) none) none) .unit)) .unit)))))]⟩), (.ret, ⟨[], [(2, .val .bool)], []⟩)], fun v => F34_1 k k v.1.1 v.1.2.1 v.2.1⟩
def F34_2 (k : Nat) : Nat → Int → Int → Int → Int → ((List Int) × ((List Int) × (((List (List Int)) × ((List Int) × Unit)) × (((List (List Int)) × ((List (List (List Int))) × Unit)) × Unit)))) → Option (((Int × Int × Int × Unit) × (((List Int) × ((List Int) × (((List (List Int)) × ((List Int) × Unit)) × (((List (List Int)) × ((List (List (List Int))) × Unit)) × Unit)))) × Unit)) ⊕ ((Bool × Unit) × Unit))
  | 0, _, _, _, _, _ => none
  | n + 1, t6, t8, t9, t10, c1 =>
    bif (decide (t10 < (3 : Int))) then
      if 0 ≤ t8 ∧ t8 < ((List.length c1.2.2.2.1.2.1 : Nat) : Int) then
        let x41 := (List.getD c1.2.2.2.1.2.1 (Int.toNat t8) ([] : (List (List Int))))
        if 0 ≤ t9 ∧ t9 < ((List.length x41 : Nat) : Int) then
          let x42 := (List.getD x41 (Int.toNat t9) ([] : (List Int)))
          if 0 ≤ t10 ∧ t10 < ((3 : Nat) : Int) then
            let x43 := (decide ((List.getD x42 (Int.toNat t10) (0 : Int)) < (0 : Int)))
            bif x43 then
              some (.inr ((false, ()), ()))
            else
              if 0 ≤ t8 ∧ t8 < ((List.length c1.2.2.2.1.2.1 : Nat) : Int) then
                let x44 := (List.getD c1.2.2.2.1.2.1 (Int.toNat t8) ([] : (List (List Int))))
                if 0 ≤ t9 ∧ t9 < ((List.length x44 : Nat) : Int) then
                  let x45 := (List.getD x44 (Int.toNat t9) ([] : (List Int)))
                  if 0 ≤ t10 ∧ t10 < ((3 : Nat) : Int) then
                    let x46 := (decide ((List.getD x45 (Int.toNat t10) (0 : Int)) > (1152921504606846976 : Int)))
                    bif x46 then
                      some (.inr ((false, ()), ()))
                    else
                      (F34_2 k n t6 t8 t9 (IntKind.wrap .i64 (t10 + (1 : Int))) c1).bind some
                  else none
                else none
              else none
          else none
        else none
      else none
    else
      some (.inl ((t6, t8, t9, ()), (c1, ())))
def fr34_2 (k : Nat) : Frag := ⟨⟨[], [(1, .ptr 1 []), (6, .val (.int .i64)), (8, .val (.int .i64)), (9, .val (.int .i64)), (10, .val (.int .i64))], [(1, some 32, (.pair (.sl false 3 (.int .i64) none) (.pair (.sl false 3 (.int .i64) none) (.pair (.pair (.sl false 22 (.sl false 3 (.int .i64) none) none) (.pair (.sl false 3 (.int .i64) none) .unit)) (.pair (.pair (.sl false 22 (.sl false 3 (.int .i64) none) none) (.pair (.sl false 36 (.sl false 57 (.arr 3 (.int .i64)) none) none) .unit)) .unit)))))]⟩, [(.exit 8, ⟨[], [(1, .ptr 1 []), (6, .val (.int .i64)), (8, .val (.int .i64)), (9, .val (.int .i64))], [(1, some 32, (.pair (.sl false 3 (.int .i64) none) (.pair (.sl false 3 (.int .i64) none) (.pair (.pair (.sl false 22 (.sl false 3 (.int .i64) none) none) (.pair (.sl false 3 (.int .i64) none) .unit)) (.pair (.pair (.sl false 22 (.sl false 3 (.int .i64) none) none) (.pair (.sl false 36 (.sl false 57 (.arr 3 (.int .i64)) none) none) .unit)) .unit)))))]⟩), (.ret, ⟨[], [(2, .val .bool)], []⟩)], fun v => F34_2 k k v.1.1 v.1.2.1 v.1.2.2.1 v.1.2.2.2.1 v.2.1⟩
def F34_3 (k : Nat) : Nat → Int → Int → Int → ((List Int) × ((List Int) × (((List (List Int)) × ((List Int) × Unit)) × (((List (List Int)) × ((List (List (List Int))) × Unit)) × Unit)))) → Option (((Int × Int × Unit) × (((List Int) × ((List Int) × (((List (List Int)) × ((List Int) × Unit)) × (((List (List Int)) × ((List (List (List Int))) × Unit)) × Unit)))) × Unit)) ⊕ ((Bool × Unit) × Unit))
  | 0, _, _, _, _ => none
  | n + 1, t6, t8, t9, c1 =>
    bif (decide (t9 ≤ t6)) then
      (F34_2 k k t6 t8 t9 (0 : Int) c1).bind fun r54 =>
      match r54 with
      | .inl r55 =>
        let y56 := r55.1.1
        let y57 := r55.1.2.1
        let y58 := r55.1.2.2.1
        let y59 := r55.2.1
        (F34_3 k n y56 y57 (IntKind.wrap .i64 (y58 + (1 : Int))) y59).bind some
      | .inr r55 =>
        let y60 := r55.1.1
        some (.inr ((y60, ()), ()))
    else
      some (.inl ((t6, t8, ()), (c1, ())))
def fr34_3 (k : Nat) : Frag := ⟨⟨[], [(1, .ptr 1 []), (6, .val (.int .i64)), (8, .val (.int .i64)), (9, .val (.int .i64))], [(1, some 32, (.pair (.sl false 3 (.int .i64) none) (.pair (.sl false 3 (.int .i64) none) (.pair (.pair (.sl false 22 (.sl false 3 (.int .i64) none) none) (.pair (.sl false 3 (.int .i64) none) .unit)) (.pair (.pair (.sl false 22 (.sl false 3 (.int .i64) none) none) (.pair (.sl false 36 (.sl false 57 (.arr 3 (.int .i64)) none) none) .unit)) .unit)))))]⟩, [(.exit 6, ⟨[], [(1, .ptr 1 []), (6, .val (.int .i64)), (8, .val (.int .i64))], [(1, some 32, (.pair (.sl false 3 (.int .i64) none) (.pair (.sl false 3 (.int .i64) none) (.pair (.pair (.sl false 22 (.sl false 3 (.int .i64) none) none) (.pair (.sl false 3 (.int .i64) none) .unit)) (.pair (.pair (.sl false 22 (.sl false 3 (.int .i64) none) none) (.pair (.sl false 36 (.sl false 57 (.arr 3 (.int .i64)) none) none) .unit)) .unit)))))]⟩), (.ret, ⟨[], [(2, .val .bool)], []⟩)], fun v => F34_3 k k v.1.1 v.1.2.1 v.1.2.2.1 v.2.1⟩
def F34_4 (k : Nat) : Nat → Int → Int → ((List Int) × ((List Int) × (((List (List Int)) × ((List Int) × Unit)) × (((List (List Int)) × ((List (List (List Int))) × Unit)) × Unit)))) → Option ((Unit × Unit) ⊕ ((Bool × Unit) × Unit))
  | 0, _, _, _ => none
  | n + 1, t6, t8, c1 =>
    let x67 := (decide (t8 < ((List.length c1.2.2.2.1.2.1 : Nat) : Int)))
    bif x67 then
      if 0 ≤ t8 ∧ t8 < ((List.length c1.2.2.2.1.2.1 : Nat) : Int) then
        let x68 := (List.getD c1.2.2.2.1.2.1 (Int.toNat t8) ([] : (List (List Int))))
        let x69 := (((List.length x68 : Nat) : Int) != (IntKind.wrap .i64 (t6 + (1 : Int))))
        bif x69 then
          some (.inr ((false, ()), ()))
        else
          (F34_3 k k t6 t8 (0 : Int) c1).bind fun r70 =>
          match r70 with
          | .inl r71 =>
            let y72 := r71.1.1
            let y73 := r71.1.2.1
            let y74 := r71.2.1
            (F34_4 k n y72 (IntKind.wrap .i64 (y73 + (1 : Int))) y74).bind some
          | .inr r71 =>
            let y75 := r71.1.1
            some (.inr ((y75, ()), ()))
      else none
    else
      some (.inl ((), ()))
def fr34_4 (k : Nat) : Frag := ⟨⟨[], [(1, .ptr 1 []), (6, .val (.int .i64)), (8, .val (.int .i64))], [(1, some 32, (.pair (.sl false 3 (.int .i64) none) (.pair (.sl false 3 (.int .i64) none) (.pair (.pair (.sl false 22 (.sl false 3 (.int .i64) none) none) (.pair (.sl false 3 (.int .i64) none) .unit)) (.pair (.pair (.sl false 22 (.sl false 3 (.int .i64) none) none) (.pair (.sl false 36 (.sl false 57 (.arr 3 (.int .i64)) none) none) .unit)) .unit)))))]⟩, [(.exit 4, ⟨[], [], []⟩), (.ret, ⟨[], [(2, .val .bool)], []⟩)], fun v => F34_4 k k v.1.1 v.1.2.1 v.2.1⟩
def F34 (k : Nat) (a0 : ((List Int) × ((List Int) × (((List (List Int)) × ((List Int) × Unit)) × (((List (List Int)) × ((List (List (List Int))) × Unit)) × Unit))))) : Option ((Bool × Unit) × Unit) :=
  (F58 k a0.2.1).bind fun r1 =>
  bif (!r1.1.2.1) then
    some ((false, ()), ())
  else
    let x2 := (((List.length a0.1 : Nat) : Int) != ((List.length a0.2.1 : Nat) : Int))
    bif x2 then
      some ((false, ()), ())
    else
      let x3 := (decide (((List.length a0.1 : Nat) : Int) > (100000 : Int)))
      bif x3 then
        some ((false, ()), ())
      else
        if 0 ≤ (0 : Int) ∧ (0 : Int) < ((List.length a0.1 : Nat) : Int) then
          let x4 := (List.getD a0.1 (Int.toNat (0 : Int)) (0 : Int))
          bif (x4 != (0 : Int)) then
            some ((false, ()), ())
          else
            (F59 k a0.2.2.1.1 r1.1.1).bind fun r5 =>
            bif (!r5.1.1) then
              some ((false, ()), ())
            else
              (F59 k a0.2.2.2.1.1 r1.1.1).bind fun r6 =>
              bif (!r6.1.1) then
                some ((false, ()), ())
              else
                let x7 := (((List.length a0.2.2.1.2.1 : Nat) : Int) != ((List.length a0.2.2.1.1 : Nat) : Int))
                bif x7 then
                  some ((false, ()), ())
                else
                  let x8 := (((List.length a0.2.2.2.1.2.1 : Nat) : Int) != ((List.length a0.2.2.2.1.1 : Nat) : Int))
                  bif x8 then
                    some ((false, ()), ())
                  else
                    (F34_0 k k (1 : Int) a0).bind fun r17 =>
                    match r17 with
                    | .inl r18 =>
                      let y19 := r18.2.1
                      (F34_1 k k (0 : Int) (0 : Int) y19).bind fun r28 =>
                      match r28 with
                      | .inl r29 =>
                        let y30 := r29.1.1
                        let y31 := r29.2.1
                        (F34_4 k k y30 (0 : Int) y31).bind fun r76 =>
                        match r76 with
                        | .inl r77 =>
                          some ((true, ()), ())
                        | .inr r77 =>
                          let y78 := r77.1.1
                          some ((y78, ()), ())
                      | .inr r29 =>
                        let y79 := r29.1.1
                        some ((y79, ()), ())
                    | .inr r18 =>
                      let y80 := r18.1.1
                      some ((y80, ()), ())
        else none
def sp34 (k : Nat) : Spec := ⟨[.val (.pair (.sl false 3 (.int .i64) none) (.pair (.sl false 3 (.int .i64) none) (.pair (.pair (.sl false 22 (.sl false 3 (.int .i64) none) none) (.pair (.sl false 3 (.int .i64) none) .unit)) (.pair (.pair (.sl false 22 (.sl false 3 (.int .i64) none) none) (.pair (.sl false 36 (.sl false 57 (.arr 3 (.int .i64)) none) none) .unit)) .unit))))], [.val .bool], fun x => F34 k x.1⟩
def lim34 : Lim := ⟨191, 1, false, false⟩
def cfg34 (k : Nat) : Nat → Option Spec := cfgL [(58, sp58 k), (59, sp59 k)]
theorem cfg34_ok (k : Nat) : CfgOK Try.prog (cfg34 k) := cfgL_cons (v58 k) (cfgL_cons (v59 k) (cfgL_nil))
def pl34_0 (k : Nat) : Plan := .go
theorem pq34_0 (k : Nat) : PlanOK Try.prog lim34 (pl34_0 k) (codeAt (bodyOf Try.f34) [.r, .r, .r, .l, .r, .s, .b]) = PlanOK Try.prog lim34 .go (codeAt (bodyOf Try.f34) [.r, .r, .r, .l, .r, .s, .b]) := by kernel_rfl
theorem ps34_0 (k m : Nat) (v : (fr34_0 k).sh.V) : F34_0 k (m + 1) v.1.1 v.2.1 = (body Try.prog (stepper Try.prog (cfg34 k) lim34) (pl34_0 k) (codeAt (bodyOf Try.f34) [.r, .r, .r, .l, .r, .s, .b]) ((fr34_0 k).sh.st v) (loopK (fr34_0 k) fun v => F34_0 k m v.1.1 v.2.1)).eval := by kernel_rfl
theorem pe34_0 (k m : Nat) (v : (fr34_0 k).sh.V) : (body Try.prog (stepper Try.prog (cfg34 k) lim34) (pl34_0 k) (codeAt (bodyOf Try.f34) [.r, .r, .r, .l, .r, .s, .b]) ((fr34_0 k).sh.st v) (loopK (fr34_0 k) fun v => F34_0 k m v.1.1 v.2.1)).left = (body Try.prog (stepper Try.prog (cfg34 k) lim34) (pl34_0 k) (codeAt (bodyOf Try.f34) [.r, .r, .r, .l, .r, .s, .b]) ((fr34_0 k).sh.st v) (loopK (fr34_0 k) fun v => F34_0 k m v.1.1 v.2.1)).right := by kernel_rfl
theorem fr34_0_ok (k : Nat) : FragOK Try.prog lim34 (fr34_0 k) (codeAt (bodyOf Try.f34) [.r, .r, .r, .l, .r, .s]) :=
  frag_cast (by kernel_rfl) (loop_ok (cfg34_ok k) (Eq.mpr (pq34_0 k) (planOK_go _)) (fun m v => F34_0 k m v.1.1 v.2.1) k (fun _ => rfl) (fun _ => rfl) fun m v => ⟨ps34_0 k m v, pe34_0 k m v⟩)
def pl34_1 (k : Nat) : Plan := .go
theorem pq34_1 (k : Nat) : PlanOK Try.prog lim34 (pl34_1 k) (codeAt (bodyOf Try.f34) [.r, .r, .r, .r, .r, .l, .r, .s, .b]) = PlanOK Try.prog lim34 .go (codeAt (bodyOf Try.f34) [.r, .r, .r, .r, .r, .l, .r, .s, .b]) := by kernel_rfl
theorem ps34_1 (k m : Nat) (v : (fr34_1 k).sh.V) : F34_1 k (m + 1) v.1.1 v.1.2.1 v.2.1 = (body Try.prog (stepper Try.prog (cfg34 k) lim34) (pl34_1 k) (codeAt (bodyOf Try.f34) [.r, .r, .r, .r, .r, .l, .r, .s, .b]) ((fr34_1 k).sh.st v) (loopK (fr34_1 k) fun v => F34_1 k m v.1.1 v.1.2.1 v.2.1)).eval := by kernel_rfl
theorem pe34_1 (k m : Nat) (v : (fr34_1 k).sh.V) : (body Try.prog (stepper Try.prog (cfg34 k) lim34) (pl34_1 k) (codeAt (bodyOf Try.f34) [.r, .r, .r, .r, .r, .l, .r, .s, .b]) ((fr34_1 k).sh.st v) (loopK (fr34_1 k) fun v => F34_1 k m v.1.1 v.1.2.1 v.2.1)).left = (body Try.prog (stepper Try.prog (cfg34 k) lim34) (pl34_1 k) (codeAt (bodyOf Try.f34) [.r, .r, .r, .r, .r, .l, .r, .s, .b]) ((fr34_1 k).sh.st v) (loopK (fr34_1 k) fun v => F34_1 k m v.1.1 v.1.2.1 v.2.1)).right := by kernel_rfl
theorem fr34_1_ok (k : Nat) : FragOK Try.prog lim34 (fr34_1 k) (codeAt (bodyOf Try.f34) [.r, .r, .r, .r, .r, .l, .r, .s]) :=
  frag_cast (by kernel_rfl) (loop_ok (cfg34_ok k) (Eq.mpr (pq34_1 k) (planOK_go _)) (fun m v => F34_1 k m v.1.1 v.1.2.1 v.2.1) k (fun _ => rfl) (fun _ => rfl) fun m v => ⟨ps34_1 k m v, pe34_1 k m v⟩)
def pl34_2 (k : Nat) : Plan := .go
theorem pq34_2 (k : Nat) : PlanOK Try.prog lim34 (pl34_2 k) (codeAt (bodyOf Try.f34) [.r, .r, .r, .r, .r, .r, .l, .r, .s, .b, .r, .l, .s, .r, .r, .s, .b, .r, .l, .s, .r, .s, .b]) = PlanOK Try.prog lim34 .go (codeAt (bodyOf Try.f34) [.r, .r, .r, .r, .r, .r, .l, .r, .s, .b, .r, .l, .s, .r, .r, .s, .b, .r, .l, .s, .r, .s, .b]) := by kernel_rfl
theorem ps34_2 (k m : Nat) (v : (fr34_2 k).sh.V) : F34_2 k (m + 1) v.1.1 v.1.2.1 v.1.2.2.1 v.1.2.2.2.1 v.2.1 = (body Try.prog (stepper Try.prog (cfg34 k) lim34) (pl34_2 k) (codeAt (bodyOf Try.f34) [.r, .r, .r, .r, .r, .r, .l, .r, .s, .b, .r, .l, .s, .r, .r, .s, .b, .r, .l, .s, .r, .s, .b]) ((fr34_2 k).sh.st v) (loopK (fr34_2 k) fun v => F34_2 k m v.1.1 v.1.2.1 v.1.2.2.1 v.1.2.2.2.1 v.2.1)).eval := by kernel_rfl
theorem pe34_2 (k m : Nat) (v : (fr34_2 k).sh.V) : (body Try.prog (stepper Try.prog (cfg34 k) lim34) (pl34_2 k) (codeAt (bodyOf Try.f34) [.r, .r, .r, .r, .r, .r, .l, .r, .s, .b, .r, .l, .s, .r, .r, .s, .b, .r, .l, .s, .r, .s, .b]) ((fr34_2 k).sh.st v) (loopK (fr34_2 k) fun v => F34_2 k m v.1.1 v.1.2.1 v.1.2.2.1 v.1.2.2.2.1 v.2.1)).left = (body Try.prog (stepper Try.prog (cfg34 k) lim34) (pl34_2 k) (codeAt (bodyOf Try.f34) [.r, .r, .r, .r, .r, .r, .l, .r, .s, .b, .r, .l, .s, .r, .r, .s, .b, .r, .l, .s, .r, .s, .b]) ((fr34_2 k).sh.st v) (loopK (fr34_2 k) fun v => F34_2 k m v.1.1 v.1.2.1 v.1.2.2.1 v.1.2.2.2.1 v.2.1)).right := by kernel_rfl
theorem fr34_2_ok (k : Nat) : FragOK Try.prog lim34 (fr34_2 k) (codeAt (bodyOf Try.f34) [.r, .r, .r, .r, .r, .r, .l, .r, .s, .b, .r, .l, .s, .r, .r, .s, .b, .r, .l, .s, .r, .s]) :=
  frag_cast (by kernel_rfl) (loop_ok (cfg34_ok k) (Eq.mpr (pq34_2 k) (planOK_go _)) (fun m v => F34_2 k m v.1.1 v.1.2.1 v.1.2.2.1 v.1.2.2.2.1 v.2.1) k (fun _ => rfl) (fun _ => rfl) fun m v => ⟨ps34_2 k m v, pe34_2 k m v⟩)
def pl34_3 (k : Nat) : Plan := (.seq .go (.seq (.sub (.seq .go (.sub (.frag (fr34_2 k))))) .go))
theorem pq34_3 (k : Nat) : PlanOK Try.prog lim34 (pl34_3 k) (codeAt (bodyOf Try.f34) [.r, .r, .r, .r, .r, .r, .l, .r, .s, .b, .r, .l, .s, .r, .r, .s, .b]) = (PlanOK Try.prog lim34 .go (codeAt (bodyOf Try.f34) [.r, .r, .r, .r, .r, .r, .l, .r, .s, .b, .r, .l, .s, .r, .r, .s, .b, .l]) ∧ ((PlanOK Try.prog lim34 .go (codeAt (bodyOf Try.f34) [.r, .r, .r, .r, .r, .r, .l, .r, .s, .b, .r, .l, .s, .r, .r, .s, .b, .r, .l, .s, .l]) ∧ FragOK Try.prog lim34 (fr34_2 k) (codeAt (bodyOf Try.f34) [.r, .r, .r, .r, .r, .r, .l, .r, .s, .b, .r, .l, .s, .r, .r, .s, .b, .r, .l, .s, .r, .s])) ∧ PlanOK Try.prog lim34 .go (codeAt (bodyOf Try.f34) [.r, .r, .r, .r, .r, .r, .l, .r, .s, .b, .r, .l, .s, .r, .r, .s, .b, .r, .r]))) := by kernel_rfl
theorem ps34_3 (k m : Nat) (v : (fr34_3 k).sh.V) : F34_3 k (m + 1) v.1.1 v.1.2.1 v.1.2.2.1 v.2.1 = (body Try.prog (stepper Try.prog (cfg34 k) lim34) (pl34_3 k) (codeAt (bodyOf Try.f34) [.r, .r, .r, .r, .r, .r, .l, .r, .s, .b, .r, .l, .s, .r, .r, .s, .b]) ((fr34_3 k).sh.st v) (loopK (fr34_3 k) fun v => F34_3 k m v.1.1 v.1.2.1 v.1.2.2.1 v.2.1)).eval := by kernel_rfl
theorem pe34_3 (k m : Nat) (v : (fr34_3 k).sh.V) : (body Try.prog (stepper Try.prog (cfg34 k) lim34) (pl34_3 k) (codeAt (bodyOf Try.f34) [.r, .r, .r, .r, .r, .r, .l, .r, .s, .b, .r, .l, .s, .r, .r, .s, .b]) ((fr34_3 k).sh.st v) (loopK (fr34_3 k) fun v => F34_3 k m v.1.1 v.1.2.1 v.1.2.2.1 v.2.1)).left = (body Try.prog (stepper Try.prog (cfg34 k) lim34) (pl34_3 k) (codeAt (bodyOf Try.f34) [.r, .r, .r, .r, .r, .r, .l, .r, .s, .b, .r, .l, .s, .r, .r, .s, .b]) ((fr34_3 k).sh.st v) (loopK (fr34_3 k) fun v => F34_3 k m v.1.1 v.1.2.1 v.1.2.2.1 v.2.1)).right := by kernel_rfl
theorem fr34_3_ok (k : Nat) : FragOK Try.prog lim34 (fr34_3 k) (codeAt (bodyOf Try.f34) [.r, .r, .r, .r, .r, .r, .l, .r, .s, .b, .r, .l, .s, .r, .r, .s]) :=
  frag_cast (by kernel_rfl) (loop_ok (cfg34_ok k) (Eq.mpr (pq34_3 k) ⟨(planOK_go _), ⟨⟨(planOK_go _), (fr34_2_ok k)⟩, (planOK_go _)⟩⟩) (fun m v => F34_3 k m v.1.1 v.1.2.1 v.1.2.2.1 v.2.1) k (fun _ => rfl) (fun _ => rfl) fun m v => ⟨ps34_3 k m v, pe34_3 k m v⟩)
def pl34_4 (k : Nat) : Plan := (.seq .go (.seq (.sub (.seq .go (.seq .go (.sub (.frag (fr34_3 k)))))) .go))
theorem pq34_4 (k : Nat) : PlanOK Try.prog lim34 (pl34_4 k) (codeAt (bodyOf Try.f34) [.r, .r, .r, .r, .r, .r, .l, .r, .s, .b]) = (PlanOK Try.prog lim34 .go (codeAt (bodyOf Try.f34) [.r, .r, .r, .r, .r, .r, .l, .r, .s, .b, .l]) ∧ ((PlanOK Try.prog lim34 .go (codeAt (bodyOf Try.f34) [.r, .r, .r, .r, .r, .r, .l, .r, .s, .b, .r, .l, .s, .l]) ∧ (PlanOK Try.prog lim34 .go (codeAt (bodyOf Try.f34) [.r, .r, .r, .r, .r, .r, .l, .r, .s, .b, .r, .l, .s, .r, .l]) ∧ FragOK Try.prog lim34 (fr34_3 k) (codeAt (bodyOf Try.f34) [.r, .r, .r, .r, .r, .r, .l, .r, .s, .b, .r, .l, .s, .r, .r, .s]))) ∧ PlanOK Try.prog lim34 .go (codeAt (bodyOf Try.f34) [.r, .r, .r, .r, .r, .r, .l, .r, .s, .b, .r, .r]))) := by kernel_rfl
theorem ps34_4 (k m : Nat) (v : (fr34_4 k).sh.V) : F34_4 k (m + 1) v.1.1 v.1.2.1 v.2.1 = (body Try.prog (stepper Try.prog (cfg34 k) lim34) (pl34_4 k) (codeAt (bodyOf Try.f34) [.r, .r, .r, .r, .r, .r, .l, .r, .s, .b]) ((fr34_4 k).sh.st v) (loopK (fr34_4 k) fun v => F34_4 k m v.1.1 v.1.2.1 v.2.1)).eval := by kernel_rfl
theorem pe34_4 (k m : Nat) (v : (fr34_4 k).sh.V) : (body Try.prog (stepper Try.prog (cfg34 k) lim34) (pl34_4 k) (codeAt (bodyOf Try.f34) [.r, .r, .r, .r, .r, .r, .l, .r, .s, .b]) ((fr34_4 k).sh.st v) (loopK (fr34_4 k) fun v => F34_4 k m v.1.1 v.1.2.1 v.2.1)).left = (body Try.prog (stepper Try.prog (cfg34 k) lim34) (pl34_4 k) (codeAt (bodyOf Try.f34) [.r, .r, .r, .r, .r, .r, .l, .r, .s, .b]) ((fr34_4 k).sh.st v) (loopK (fr34_4 k) fun v => F34_4 k m v.1.1 v.1.2.1 v.2.1)).right := by kernel_rfl
theorem fr34_4_ok (k : Nat) : FragOK Try.prog lim34 (fr34_4 k) (codeAt (bodyOf Try.f34) [.r, .r, .r, .r, .r, .r, .l, .r, .s]) :=
  frag_cast (by kernel_rfl) (loop_ok (cfg34_ok k) (Eq.mpr (pq34_4 k) ⟨(planOK_go _), ⟨⟨(planOK_go _), ⟨(planOK_go _), (fr34_3_ok k)⟩⟩, (planOK_go _)⟩⟩) (fun m v => F34_4 k m v.1.1 v.1.2.1 v.2.1) k (fun _ => rfl) (fun _ => rfl) fun m v => ⟨ps34_4 k m v, pe34_4 k m v⟩)
def pl34 (k : Nat) : Plan := (.seq .go (.seq .go (.seq .go (.seq (.seq .go (.sub (.frag (fr34_0 k)))) (.seq .go (.seq (.seq .go (.sub (.frag (fr34_1 k)))) (.seq (.seq .go (.sub (.frag (fr34_4 k)))) .go)))))))
theorem pq34 (k : Nat) : PlanOK Try.prog lim34 (pl34 k) (codeAt (bodyOf Try.f34) []) = (PlanOK Try.prog lim34 .go (codeAt (bodyOf Try.f34) [.l]) ∧ (PlanOK Try.prog lim34 .go (codeAt (bodyOf Try.f34) [.r, .l]) ∧ (PlanOK Try.prog lim34 .go (codeAt (bodyOf Try.f34) [.r, .r, .l]) ∧ ((PlanOK Try.prog lim34 .go (codeAt (bodyOf Try.f34) [.r, .r, .r, .l, .l]) ∧ FragOK Try.prog lim34 (fr34_0 k) (codeAt (bodyOf Try.f34) [.r, .r, .r, .l, .r, .s])) ∧ (PlanOK Try.prog lim34 .go (codeAt (bodyOf Try.f34) [.r, .r, .r, .r, .l]) ∧ ((PlanOK Try.prog lim34 .go (codeAt (bodyOf Try.f34) [.r, .r, .r, .r, .r, .l, .l]) ∧ FragOK Try.prog lim34 (fr34_1 k) (codeAt (bodyOf Try.f34) [.r, .r, .r, .r, .r, .l, .r, .s])) ∧ ((PlanOK Try.prog lim34 .go (codeAt (bodyOf Try.f34) [.r, .r, .r, .r, .r, .r, .l, .l]) ∧ FragOK Try.prog lim34 (fr34_4 k) (codeAt (bodyOf Try.f34) [.r, .r, .r, .r, .r, .r, .l, .r, .s])) ∧ PlanOK Try.prog lim34 .go (codeAt (bodyOf Try.f34) [.r, .r, .r, .r, .r, .r, .r])))))))) := by kernel_rfl
theorem ev34 (k : Nat) (x : AT (sp34 k).ps) : (sp34 k).impl x = (fnT Try.prog (cfg34 k) lim34 Try.f34 (bodyOf Try.f34) (pl34 k) (sp34 k) x).eval := by kernel_rfl
theorem eq34 (k : Nat) (x : AT (sp34 k).ps) : (fnT Try.prog (cfg34 k) lim34 Try.f34 (bodyOf Try.f34) (pl34 k) (sp34 k) x).left = (fnT Try.prog (cfg34 k) lim34 Try.f34 (bodyOf Try.f34) (pl34 k) (sp34 k) x).right := by kernel_rfl
theorem v34 (k : Nat) : Callable Try.prog 34 ∧ Valid Try.prog 34 (sp34 k) :=
  fn_ok (cfg34_ok k) (f := 34) (fn := Try.f34) (by kernel_rfl) (c := bodyOf Try.f34) (by kernel_rfl) (by kernel_rfl) rfl rfl (Nat.le_of_ble_eq_true rfl) (Nat.le_of_ble_eq_true rfl) (p := pl34 k) (Eq.mpr (pq34 k) ⟨(planOK_go _), ⟨(planOK_go _), ⟨(planOK_go _), ⟨⟨(planOK_go _), (fr34_0_ok k)⟩, ⟨(planOK_go _), ⟨⟨(planOK_go _), (fr34_1_ok k)⟩, ⟨⟨(planOK_go _), (fr34_4_ok k)⟩, (planOK_go _)⟩⟩⟩⟩⟩⟩⟩) fun x => ⟨ev34 k x, eq34 k x⟩
/-! f72 hyphen/hyphenref2.size -/
def F72 (k : Nat) (a0 : Int) : Option ((Int × Unit) × Unit) :=
  bif (decide (a0 < (128 : Int))) then
    some (((1 : Int), ()), ())
  else
    bif (decide (a0 ≥ (194 : Int))) then
      bif (decide (a0 ≤ (223 : Int))) then
        some (((2 : Int), ()), ())
      else
        bif (decide (a0 ≥ (224 : Int))) then
          bif (decide (a0 ≤ (239 : Int))) then
            some (((3 : Int), ()), ())
          else
            bif (decide (a0 ≥ (240 : Int))) then
              bif (decide (a0 ≤ (244 : Int))) then
                some (((4 : Int), ()), ())
              else
                some (((0 : Int), ()), ())
            else
              some (((0 : Int), ()), ())
        else
          bif (decide (a0 ≥ (240 : Int))) then
            bif (decide (a0 ≤ (244 : Int))) then
              some (((4 : Int), ()), ())
            else
              some (((0 : Int), ()), ())
          else
            some (((0 : Int), ()), ())
    else
      bif (decide (a0 ≥ (224 : Int))) then
        bif (decide (a0 ≤ (239 : Int))) then
          some (((3 : Int), ()), ())
        else
          bif (decide (a0 ≥ (240 : Int))) then
            bif (decide (a0 ≤ (244 : Int))) then
              some (((4 : Int), ()), ())
            else
              some (((0 : Int), ()), ())
          else
            some (((0 : Int), ()), ())
      else
        bif (decide (a0 ≥ (240 : Int))) then
          bif (decide (a0 ≤ (244 : Int))) then
            some (((4 : Int), ()), ())
          else
            some (((0 : Int), ()), ())
        else
          some (((0 : Int), ()), ())
def sp72 (k : Nat) : Spec := ⟨[.val (.int .u8)], [.val (.int .i64)], fun x => F72 k x.1⟩
def lim72 : Lim := ⟨27, 1, false, false⟩
def cfg72 (k : Nat) : Nat → Option Spec := cfgL []
theorem cfg72_ok (k : Nat) : CfgOK Try.prog (cfg72 k) := cfgL_nil
def pl72 (k : Nat) : Plan := .go
theorem pq72 (k : Nat) : PlanOK Try.prog lim72 (pl72 k) (codeAt (bodyOf Try.f72) []) = PlanOK Try.prog lim72 .go (codeAt (bodyOf Try.f72) []) := by kernel_rfl
theorem ev72 (k : Nat) (x : AT (sp72 k).ps) : (sp72 k).impl x = (fnT Try.prog (cfg72 k) lim72 Try.f72 (bodyOf Try.f72) (pl72 k) (sp72 k) x).eval := by kernel_rfl
theorem eq72 (k : Nat) (x : AT (sp72 k).ps) : (fnT Try.prog (cfg72 k) lim72 Try.f72 (bodyOf Try.f72) (pl72 k) (sp72 k) x).left = (fnT Try.prog (cfg72 k) lim72 Try.f72 (bodyOf Try.f72) (pl72 k) (sp72 k) x).right := by kernel_rfl
theorem v72 (k : Nat) : Callable Try.prog 72 ∧ Valid Try.prog 72 (sp72 k) :=
  fn_ok (cfg72_ok k) (f := 72) (fn := Try.f72) (by kernel_rfl) (c := bodyOf Try.f72) (by kernel_rfl) (by kernel_rfl) rfl rfl (Nat.le_of_ble_eq_true rfl) (Nat.le_of_ble_eq_true rfl) (p := pl72 k) (Eq.mpr (pq72 k) (planOK_go _)) fun x => ⟨ev72 k x, eq72 k x⟩
/-! f73 hyphen/hyphenref2.second -/
def F73 (k : Nat) (a0 : Int) (a1 : Int) : Option ((Bool × Unit) × Unit) :=
  bif (a0 == (224 : Int)) then
    bif (decide (a1 ≥ (160 : Int))) then
      some (((decide (a1 ≤ (191 : Int))), ()), ())
    else
      some ((false, ()), ())
  else
    bif (a0 == (237 : Int)) then
      bif (decide (a1 ≥ (128 : Int))) then
        some (((decide (a1 ≤ (159 : Int))), ()), ())
      else
        some ((false, ()), ())
    else
      bif (a0 == (240 : Int)) then
        bif (decide (a1 ≥ (144 : Int))) then
          some (((decide (a1 ≤ (191 : Int))), ()), ())
        else
          some ((false, ()), ())
      else
        bif (a0 == (244 : Int)) then
          bif (decide (a1 ≥ (128 : Int))) then
            some (((decide (a1 ≤ (143 : Int))), ()), ())
          else
            some ((false, ()), ())
        else
          bif (decide (a1 ≥ (128 : Int))) then
            some (((decide (a1 ≤ (191 : Int))), ()), ())
          else
            some ((false, ()), ())
def sp73 (k : Nat) : Spec := ⟨[.val (.int .u8), .val (.int .u8)], [.val .bool], fun x => F73 k x.1 x.2.1⟩
def lim73 : Lim := ⟨24, 2, false, false⟩
def cfg73 (k : Nat) : Nat → Option Spec := cfgL []
theorem cfg73_ok (k : Nat) : CfgOK Try.prog (cfg73 k) := cfgL_nil
def pl73 (k : Nat) : Plan := .go
theorem pq73 (k : Nat) : PlanOK Try.prog lim73 (pl73 k) (codeAt (bodyOf Try.f73) []) = PlanOK Try.prog lim73 .go (codeAt (bodyOf Try.f73) []) := by kernel_rfl
theorem ev73 (k : Nat) (x : AT (sp73 k).ps) : (sp73 k).impl x = (fnT Try.prog (cfg73 k) lim73 Try.f73 (bodyOf Try.f73) (pl73 k) (sp73 k) x).eval := by kernel_rfl
theorem eq73 (k : Nat) (x : AT (sp73 k).ps) : (fnT Try.prog (cfg73 k) lim73 Try.f73 (bodyOf Try.f73) (pl73 k) (sp73 k) x).left = (fnT Try.prog (cfg73 k) lim73 Try.f73 (bodyOf Try.f73) (pl73 k) (sp73 k) x).right := by kernel_rfl
theorem v73 (k : Nat) : Callable Try.prog 73 ∧ Valid Try.prog 73 (sp73 k) :=
  fn_ok (cfg73_ok k) (f := 73) (fn := Try.f73) (by kernel_rfl) (c := bodyOf Try.f73) (by kernel_rfl) (by kernel_rfl) rfl rfl (Nat.le_of_ble_eq_true rfl) (Nat.le_of_ble_eq_true rfl) (p := pl73 k) (Eq.mpr (pq73 k) (planOK_go _)) fun x => ⟨ev73 k x, eq73 k x⟩
/-! f53 hyphen/hyphenref2.next -/
def F53_0 (k : Nat) : Nat → ByteArray → Int → Int → Int → Option (((Int × Int × Unit) × Unit) ⊕ ((Int × Int × Unit) × Unit))
  | 0, _, _, _, _ => none
  | n + 1, t0, t4, t5, t6 =>
    bif (decide (t6 < t4)) then
      let x13 := (decide (t6 ≥ ((ByteArray.size t0 : Nat) : Int)))
      bif x13 then
        some (.inr (((65533 : Int), t6, ()), ()))
      else
        bif (t6 == (1 : Int)) then
          if 0 ≤ (0 : Int) ∧ (0 : Int) < ((ByteArray.size t0 : Nat) : Int) then
            if 0 ≤ (1 : Int) ∧ (1 : Int) < ((ByteArray.size t0 : Nat) : Int) then
              (F73 k (byteAt t0 (0 : Int)) (byteAt t0 (1 : Int))).bind fun r14 =>
              bif (!r14.1.1) then
                some (.inr (((65533 : Int), t6, ()), ()))
              else
                if 0 ≤ t6 ∧ t6 < ((ByteArray.size t0 : Nat) : Int) then
                  bif (decide ((byteAt t0 t6) < (128 : Int))) then
                    some (.inr (((65533 : Int), t6, ()), ()))
                  else
                    if 0 ≤ t6 ∧ t6 < ((ByteArray.size t0 : Nat) : Int) then
                      bif (decide ((byteAt t0 t6) > (191 : Int))) then
                        some (.inr (((65533 : Int), t6, ()), ()))
                      else
                        let x15 := (IntKind.wrap .i64 (t5 * 2 ^ (min (Int.toNat (6 : Int)) (IntKind.bits .i64))))
                        if 0 ≤ t6 ∧ t6 < ((ByteArray.size t0 : Nat) : Int) then
                          let x16 := (IntKind.wrap .i64 (((BitVec.ofInt (IntKind.bits .i64) (IntKind.wrap .i64 (byteAt t0 t6)) &&& BitVec.ofInt (IntKind.bits .i64) (63 : Int)).toNat : Nat) : Int))
                          let x17 := (IntKind.wrap .i64 (((BitVec.ofInt (IntKind.bits .i64) x15 ||| BitVec.ofInt (IntKind.bits .i64) x16).toNat : Nat) : Int))
                          (F53_0 k n t0 t4 x17 (IntKind.wrap .i64 (t6 + (1 : Int)))).bind some
                        else none
                    else none
                else none
            else none
          else none
        else
          if 0 ≤ t6 ∧ t6 < ((ByteArray.size t0 : Nat) : Int) then
            bif (decide ((byteAt t0 t6) < (128 : Int))) then
              some (.inr (((65533 : Int), t6, ()), ()))
            else
              if 0 ≤ t6 ∧ t6 < ((ByteArray.size t0 : Nat) : Int) then
                bif (decide ((byteAt t0 t6) > (191 : Int))) then
                  some (.inr (((65533 : Int), t6, ()), ()))
                else
                  let x18 := (IntKind.wrap .i64 (t5 * 2 ^ (min (Int.toNat (6 : Int)) (IntKind.bits .i64))))
                  if 0 ≤ t6 ∧ t6 < ((ByteArray.size t0 : Nat) : Int) then
                    let x19 := (IntKind.wrap .i64 (((BitVec.ofInt (IntKind.bits .i64) (IntKind.wrap .i64 (byteAt t0 t6)) &&& BitVec.ofInt (IntKind.bits .i64) (63 : Int)).toNat : Nat) : Int))
                    let x20 := (IntKind.wrap .i64 (((BitVec.ofInt (IntKind.bits .i64) x18 ||| BitVec.ofInt (IntKind.bits .i64) x19).toNat : Nat) : Int))
                    (F53_0 k n t0 t4 x20 (IntKind.wrap .i64 (t6 + (1 : Int)))).bind some
                  else none
              else none
          else none
    else
      some (.inl ((t4, t5, ()), ()))
def fr53_0 (k : Nat) : Frag := ⟨⟨[], [(0, .val .str), (4, .val (.int .i64)), (5, .val (.int .i64)), (6, .val (.int .i64))], []⟩, [(.exit 0, ⟨[], [(4, .val (.int .i64)), (5, .val (.int .i64))], []⟩), (.ret, ⟨[], [(2, .val (.int .i64)), (3, .val (.int .i64))], []⟩)], fun v => F53_0 k k v.1.1 v.1.2.1 v.1.2.2.1 v.1.2.2.2.1⟩
def F53 (k : Nat) (a0 : ByteArray) : Option ((Int × Int × Unit) × Unit) :=
  if 0 ≤ (0 : Int) ∧ (0 : Int) < ((ByteArray.size a0 : Nat) : Int) then
    (F72 k (byteAt a0 (0 : Int))).bind fun r1 =>
    bif (r1.1.1 == (0 : Int)) then
      some (((65533 : Int), (1 : Int), ()), ())
    else
      bif (r1.1.1 == (1 : Int)) then
        if 0 ≤ (0 : Int) ∧ (0 : Int) < ((ByteArray.size a0 : Nat) : Int) then
          some (((IntKind.wrap .i64 (byteAt a0 (0 : Int))), (1 : Int), ()), ())
        else none
      else
        if 0 ≤ (0 : Int) ∧ (0 : Int) < ((ByteArray.size a0 : Nat) : Int) then
          let x2 := (IntKind.wrap .u64 (IntKind.wrap .i64 (r1.1.1 + (1 : Int))))
          if 0 ≤ x2 then
            let x3 := (Int.fdiv (255 : Int) (2 ^ (min (Int.toNat x2) (IntKind.bits .i64))))
            let x4 := (IntKind.wrap .i64 (((BitVec.ofInt (IntKind.bits .i64) (IntKind.wrap .i64 (byteAt a0 (0 : Int))) &&& BitVec.ofInt (IntKind.bits .i64) x3).toNat : Nat) : Int))
            (F53_0 k k a0 r1.1.1 x4 (1 : Int)).bind fun r21 =>
            match r21 with
            | .inl r22 =>
              let y23 := r22.1.1
              let y24 := r22.1.2.1
              some ((y24, y23, ()), ())
            | .inr r22 =>
              let y25 := r22.1.1
              let y26 := r22.1.2.1
              some ((y25, y26, ()), ())
          else none
        else none
  else none
def sp53 (k : Nat) : Spec := ⟨[.val .str], [.val (.int .i64), .val (.int .i64)], fun x => F53 k x.1⟩
def lim53 : Lim := ⟨69, 1, false, false⟩
def cfg53 (k : Nat) : Nat → Option Spec := cfgL [(72, sp72 k), (73, sp73 k)]
theorem cfg53_ok (k : Nat) : CfgOK Try.prog (cfg53 k) := cfgL_cons (v72 k) (cfgL_cons (v73 k) (cfgL_nil))
def pl53_0 (k : Nat) : Plan := .go
theorem pq53_0 (k : Nat) : PlanOK Try.prog lim53 (pl53_0 k) (codeAt (bodyOf Try.f53) [.r, .r, .r, .r, .r, .l, .r, .s, .b]) = PlanOK Try.prog lim53 .go (codeAt (bodyOf Try.f53) [.r, .r, .r, .r, .r, .l, .r, .s, .b]) := by kernel_rfl
theorem ps53_0 (k m : Nat) (v : (fr53_0 k).sh.V) : F53_0 k (m + 1) v.1.1 v.1.2.1 v.1.2.2.1 v.1.2.2.2.1 = (body Try.prog (stepper Try.prog (cfg53 k) lim53) (pl53_0 k) (codeAt (bodyOf Try.f53) [.r, .r, .r, .r, .r, .l, .r, .s, .b]) ((fr53_0 k).sh.st v) (loopK (fr53_0 k) fun v => F53_0 k m v.1.1 v.1.2.1 v.1.2.2.1 v.1.2.2.2.1)).eval := by kernel_rfl
theorem pe53_0 (k m : Nat) (v : (fr53_0 k).sh.V) : (body Try.prog (stepper Try.prog (cfg53 k) lim53) (pl53_0 k) (codeAt (bodyOf Try.f53) [.r, .r, .r, .r, .r, .l, .r, .s, .b]) ((fr53_0 k).sh.st v) (loopK (fr53_0 k) fun v => F53_0 k m v.1.1 v.1.2.1 v.1.2.2.1 v.1.2.2.2.1)).left = (body Try.prog (stepper Try.prog (cfg53 k) lim53) (pl53_0 k) (codeAt (bodyOf Try.f53) [.r, .r, .r, .r, .r, .l, .r, .s, .b]) ((fr53_0 k).sh.st v) (loopK (fr53_0 k) fun v => F53_0 k m v.1.1 v.1.2.1 v.1.2.2.1 v.1.2.2.2.1)).right := by kernel_rfl
theorem fr53_0_ok (k : Nat) : FragOK Try.prog lim53 (fr53_0 k) (codeAt (bodyOf Try.f53) [.r, .r, .r, .r, .r, .l, .r, .s]) :=
  frag_cast (by kernel_rfl) (loop_ok (cfg53_ok k) (Eq.mpr (pq53_0 k) (planOK_go _)) (fun m v => F53_0 k m v.1.1 v.1.2.1 v.1.2.2.1 v.1.2.2.2.1) k (fun _ => rfl) (fun _ => rfl) fun m v => ⟨ps53_0 k m v, pe53_0 k m v⟩)
def pl53 (k : Nat) : Plan := (.seq .go (.seq .go (.seq .go (.seq .go (.seq .go (.seq (.seq .go (.sub (.frag (fr53_0 k)))) .go))))))
theorem pq53 (k : Nat) : PlanOK Try.prog lim53 (pl53 k) (codeAt (bodyOf Try.f53) []) = (PlanOK Try.prog lim53 .go (codeAt (bodyOf Try.f53) [.l]) ∧ (PlanOK Try.prog lim53 .go (codeAt (bodyOf Try.f53) [.r, .l]) ∧ (PlanOK Try.prog lim53 .go (codeAt (bodyOf Try.f53) [.r, .r, .l]) ∧ (PlanOK Try.prog lim53 .go (codeAt (bodyOf Try.f53) [.r, .r, .r, .l]) ∧ (PlanOK Try.prog lim53 .go (codeAt (bodyOf Try.f53) [.r, .r, .r, .r, .l]) ∧ ((PlanOK Try.prog lim53 .go (codeAt (bodyOf Try.f53) [.r, .r, .r, .r, .r, .l, .l]) ∧ FragOK Try.prog lim53 (fr53_0 k) (codeAt (bodyOf Try.f53) [.r, .r, .r, .r, .r, .l, .r, .s])) ∧ PlanOK Try.prog lim53 .go (codeAt (bodyOf Try.f53) [.r, .r, .r, .r, .r, .r]))))))) := by kernel_rfl
theorem ev53 (k : Nat) (x : AT (sp53 k).ps) : (sp53 k).impl x = (fnT Try.prog (cfg53 k) lim53 Try.f53 (bodyOf Try.f53) (pl53 k) (sp53 k) x).eval := by kernel_rfl
theorem eq53 (k : Nat) (x : AT (sp53 k).ps) : (fnT Try.prog (cfg53 k) lim53 Try.f53 (bodyOf Try.f53) (pl53 k) (sp53 k) x).left = (fnT Try.prog (cfg53 k) lim53 Try.f53 (bodyOf Try.f53) (pl53 k) (sp53 k) x).right := by kernel_rfl
theorem v53 (k : Nat) : Callable Try.prog 53 ∧ Valid Try.prog 53 (sp53 k) :=
  fn_ok (cfg53_ok k) (f := 53) (fn := Try.f53) (by kernel_rfl) (c := bodyOf Try.f53) (by kernel_rfl) (by kernel_rfl) rfl rfl (Nat.le_of_ble_eq_true rfl) (Nat.le_of_ble_eq_true rfl) (p := pl53 k) (Eq.mpr (pq53 k) ⟨(planOK_go _), ⟨(planOK_go _), ⟨(planOK_go _), ⟨(planOK_go _), ⟨(planOK_go _), ⟨⟨(planOK_go _), (fr53_0_ok k)⟩, (planOK_go _)⟩⟩⟩⟩⟩⟩) fun x => ⟨ev53 k x, eq53 k x⟩
/-! f20 hyphen/hyphenref2.Decode -/
def F20_0 (k : Nat) : Nat → ByteArray → Int → (List Int) → (List Int) → Option (((ByteArray × Unit) × ((List Int) × (List Int) × Unit)))
  | 0, _, _, _, _ => none
  | n + 1, t0, t6, c2000004, c2000005 =>
    let x1 := (decide (t6 < ((ByteArray.size t0 : Nat) : Int)))
    bif x1 then
      if 0 ≤ t6 ∧ t6 ≤ ((ByteArray.size t0 : Nat) : Int) ∧ ((ByteArray.size t0 : Nat) : Int) ≤ ((ByteArray.size t0 : Nat) : Int) then
        let x2 := (ByteArray.extract t0 (Int.toNat t6) (Int.toNat ((ByteArray.size t0 : Nat) : Int)))
        (F53 k x2).bind fun r3 =>
        let x4 := (List.set (List.replicate 1 (0 : Int)) 0 r3.1.1)
        if (List.length c2000004 + List.length x4) * (8 * 2) ≤ 281474976710656 ∧ List.length c2000004 + List.length x4 ≤ 9223372036854775807 then
          if (List.length c2000005 + List.length (List.set (List.replicate 1 (0 : Int)) 0 t6)) * (8 * 2) ≤ 281474976710656 ∧ List.length c2000005 + List.length (List.set (List.replicate 1 (0 : Int)) 0 t6) ≤ 9223372036854775807 then
            let x5 := (c2000005 ++ (List.set (List.replicate 1 (0 : Int)) 0 t6))
            (F20_0 k n t0 (IntKind.wrap .i64 (t6 + r3.1.2.1)) (c2000004 ++ x4) x5).bind some
          else none
        else none
      else none
    else
      some ((t0, ()), (c2000004, c2000005, ()))
def fr20_0 (k : Nat) : Frag := ⟨⟨[(4, (.sl true 3 (.int .i64) none)), (5, (.sl true 3 (.int .i64) none))], [(0, .val .str), (4, .at 2000004 []), (5, .at 2000005 []), (6, .val (.int .i64))], [(2000004, none, (.sl true 3 (.int .i64) none)), (2000005, none, (.sl true 3 (.int .i64) none))]⟩, [(.exit 0, ⟨[(4, (.sl true 3 (.int .i64) none)), (5, (.sl true 3 (.int .i64) none))], [(0, .val .str), (4, .at 2000004 []), (5, .at 2000005 [])], [(2000004, none, (.sl true 3 (.int .i64) none)), (2000005, none, (.sl true 3 (.int .i64) none))]⟩)], fun v => F20_0 k k v.1.1 v.1.2.1 v.2.1 v.2.2.1⟩
def F20 (k : Nat) (a0 : ByteArray) : Option (((List Int) × (List Int) × Unit) × Unit) :=
  (F20_0 k k a0 (0 : Int) [] []).bind fun r6 =>
  let y7 := r6.1.1
  let y8 := r6.2.1
  let y9 := r6.2.2.1
  let x10 := (List.set (List.replicate 1 (0 : Int)) 0 ((ByteArray.size y7 : Nat) : Int))
  if (List.length y9 + List.length x10) * (8 * 2) ≤ 281474976710656 ∧ List.length y9 + List.length x10 ≤ 9223372036854775807 then
    some ((y8, (y9 ++ x10), ()), ())
  else none
def sp20 (k : Nat) : Spec := ⟨[.val .str], [.own (.sl true 3 (.int .i64) none), .own (.sl true 3 (.int .i64) none)], fun x => F20 k x.1⟩
def lim20 : Lim := ⟨37, 1, false, false⟩
def cfg20 (k : Nat) : Nat → Option Spec := cfgL [(53, sp53 k)]
theorem cfg20_ok (k : Nat) : CfgOK Try.prog (cfg20 k) := cfgL_cons (v53 k) (cfgL_nil)
def pl20_0 (k : Nat) : Plan := .go
theorem pq20_0 (k : Nat) : PlanOK Try.prog lim20 (pl20_0 k) (codeAt (bodyOf Try.f20) [.r, .r, .r, .l, .s, .b]) = PlanOK Try.prog lim20 .go (codeAt (bodyOf Try.f20) [.r, .r, .r, .l, .s, .b]) := by kernel_rfl
theorem ps20_0 (k m : Nat) (v : (fr20_0 k).sh.V) : F20_0 k (m + 1) v.1.1 v.1.2.1 v.2.1 v.2.2.1 = (body Try.prog (stepper Try.prog (cfg20 k) lim20) (pl20_0 k) (codeAt (bodyOf Try.f20) [.r, .r, .r, .l, .s, .b]) ((fr20_0 k).sh.st v) (loopK (fr20_0 k) fun v => F20_0 k m v.1.1 v.1.2.1 v.2.1 v.2.2.1)).eval := by kernel_rfl
theorem pe20_0 (k m : Nat) (v : (fr20_0 k).sh.V) : (body Try.prog (stepper Try.prog (cfg20 k) lim20) (pl20_0 k) (codeAt (bodyOf Try.f20) [.r, .r, .r, .l, .s, .b]) ((fr20_0 k).sh.st v) (loopK (fr20_0 k) fun v => F20_0 k m v.1.1 v.1.2.1 v.2.1 v.2.2.1)).left = (body Try.prog (stepper Try.prog (cfg20 k) lim20) (pl20_0 k) (codeAt (bodyOf Try.f20) [.r, .r, .r, .l, .s, .b]) ((fr20_0 k).sh.st v) (loopK (fr20_0 k) fun v => F20_0 k m v.1.1 v.1.2.1 v.2.1 v.2.2.1)).right := by kernel_rfl
theorem fr20_0_ok (k : Nat) : FragOK Try.prog lim20 (fr20_0 k) (codeAt (bodyOf Try.f20) [.r, .r, .r, .l, .s]) :=
  frag_cast (by kernel_rfl) (loop_ok (cfg20_ok k) (Eq.mpr (pq20_0 k) (planOK_go _)) (fun m v => F20_0 k m v.1.1 v.1.2.1 v.2.1 v.2.2.1) k (fun _ => rfl) (fun _ => rfl) fun m v => ⟨ps20_0 k m v, pe20_0 k m v⟩)
def pl20 (k : Nat) : Plan := (.seq .go (.seq .go (.seq .go (.seq (.sub (.frag (fr20_0 k))) .go))))
theorem pq20 (k : Nat) : PlanOK Try.prog lim20 (pl20 k) (codeAt (bodyOf Try.f20) []) = (PlanOK Try.prog lim20 .go (codeAt (bodyOf Try.f20) [.l]) ∧ (PlanOK Try.prog lim20 .go (codeAt (bodyOf Try.f20) [.r, .l]) ∧ (PlanOK Try.prog lim20 .go (codeAt (bodyOf Try.f20) [.r, .r, .l]) ∧ (FragOK Try.prog lim20 (fr20_0 k) (codeAt (bodyOf Try.f20) [.r, .r, .r, .l, .s]) ∧ PlanOK Try.prog lim20 .go (codeAt (bodyOf Try.f20) [.r, .r, .r, .r]))))) := by kernel_rfl
theorem ev20 (k : Nat) (x : AT (sp20 k).ps) : (sp20 k).impl x = (fnT Try.prog (cfg20 k) lim20 Try.f20 (bodyOf Try.f20) (pl20 k) (sp20 k) x).eval := by kernel_rfl
theorem eq20 (k : Nat) (x : AT (sp20 k).ps) : (fnT Try.prog (cfg20 k) lim20 Try.f20 (bodyOf Try.f20) (pl20 k) (sp20 k) x).left = (fnT Try.prog (cfg20 k) lim20 Try.f20 (bodyOf Try.f20) (pl20 k) (sp20 k) x).right := by kernel_rfl
theorem v20 (k : Nat) : Callable Try.prog 20 ∧ Valid Try.prog 20 (sp20 k) :=
  fn_ok (cfg20_ok k) (f := 20) (fn := Try.f20) (by kernel_rfl) (c := bodyOf Try.f20) (by kernel_rfl) (by kernel_rfl) rfl rfl (Nat.le_of_ble_eq_true rfl) (Nat.le_of_ble_eq_true rfl) (p := pl20 k) (Eq.mpr (pq20 k) ⟨(planOK_go _), ⟨(planOK_go _), ⟨(planOK_go _), ⟨(fr20_0_ok k), (planOK_go _)⟩⟩⟩⟩) fun x => ⟨ev20 k x, eq20 k x⟩
/-! f28 hyphen/hyphenref4.Letter -/
def F28_0 (k : Nat) : Nat → (List Int) → (List Int) → Int → Int → Option ((((List Int) × Int × Unit) × Unit))
  | 0, _, _, _, _ => none
  | n + 1, t0, t1, t2, t7 =>
    let x3 := (decide ((IntKind.wrap .i64 (t7 + (1 : Int))) < ((List.length t0 : Nat) : Int)))
    bif x3 then
      if 0 ≤ (IntKind.wrap .i64 (t7 + (1 : Int))) ∧ (IntKind.wrap .i64 (t7 + (1 : Int))) < ((List.length t0 : Nat) : Int) then
        let x4 := (List.getD t0 (Int.toNat (IntKind.wrap .i64 (t7 + (1 : Int)))) (0 : Int))
        bif (decide (x4 ≤ t2)) then
          (F28_0 k n t0 t1 t2 (IntKind.wrap .i64 (t7 + (1 : Int)))).bind some
        else
          some ((t1, t7, ()), ())
      else none
    else
      some ((t1, t7, ()), ())
def fr28_0 (k : Nat) : Frag := ⟨⟨[], [(0, .val (.sl false 3 (.int .i64) none)), (1, .val (.sl false 3 (.int .i64) none)), (2, .val (.int .i64)), (7, .val (.int .i64))], []⟩, [(.exit 0, ⟨[], [(1, .val (.sl false 3 (.int .i64) none)), (7, .val (.int .i64))], []⟩)], fun v => F28_0 k k v.1.1 v.1.2.1 v.1.2.2.1 v.1.2.2.2.1⟩
def F28 (k : Nat) (a0 : (List Int)) (a1 : (List Int)) (a2 : Int) : Option ((Int × Unit) × Unit) :=
  (F28_0 k k a0 a1 a2 (0 : Int)).bind fun r5 =>
  let y6 := r5.1.1
  let y7 := r5.1.2.1
  if 0 ≤ y7 ∧ y7 < ((List.length y6 : Nat) : Int) then
    some (((List.getD y6 (Int.toNat y7) (0 : Int)), ()), ())
  else none
def sp28 (k : Nat) : Spec := ⟨[.val (.sl false 3 (.int .i64) none), .val (.sl false 3 (.int .i64) none), .val (.int .i64)], [.val (.int .i64)], fun x => F28 k x.1 x.2.1 x.2.2.1⟩
def lim28 : Lim := ⟨28, 3, false, false⟩
def cfg28 (k : Nat) : Nat → Option Spec := cfgL []
theorem cfg28_ok (k : Nat) : CfgOK Try.prog (cfg28 k) := cfgL_nil
def pl28_0 (k : Nat) : Plan := .go
theorem pq28_0 (k : Nat) : PlanOK Try.prog lim28 (pl28_0 k) (codeAt (bodyOf Try.f28) [.r, .r, .l, .s, .b]) = PlanOK Try.prog lim28 .go (codeAt (bodyOf Try.f28) [.r, .r, .l, .s, .b]) := by kernel_rfl
theorem ps28_0 (k m : Nat) (v : (fr28_0 k).sh.V) : F28_0 k (m + 1) v.1.1 v.1.2.1 v.1.2.2.1 v.1.2.2.2.1 = (body Try.prog (stepper Try.prog (cfg28 k) lim28) (pl28_0 k) (codeAt (bodyOf Try.f28) [.r, .r, .l, .s, .b]) ((fr28_0 k).sh.st v) (loopK (fr28_0 k) fun v => F28_0 k m v.1.1 v.1.2.1 v.1.2.2.1 v.1.2.2.2.1)).eval := by kernel_rfl
theorem pe28_0 (k m : Nat) (v : (fr28_0 k).sh.V) : (body Try.prog (stepper Try.prog (cfg28 k) lim28) (pl28_0 k) (codeAt (bodyOf Try.f28) [.r, .r, .l, .s, .b]) ((fr28_0 k).sh.st v) (loopK (fr28_0 k) fun v => F28_0 k m v.1.1 v.1.2.1 v.1.2.2.1 v.1.2.2.2.1)).left = (body Try.prog (stepper Try.prog (cfg28 k) lim28) (pl28_0 k) (codeAt (bodyOf Try.f28) [.r, .r, .l, .s, .b]) ((fr28_0 k).sh.st v) (loopK (fr28_0 k) fun v => F28_0 k m v.1.1 v.1.2.1 v.1.2.2.1 v.1.2.2.2.1)).right := by kernel_rfl
theorem fr28_0_ok (k : Nat) : FragOK Try.prog lim28 (fr28_0 k) (codeAt (bodyOf Try.f28) [.r, .r, .l, .s]) :=
  frag_cast (by kernel_rfl) (loop_ok (cfg28_ok k) (Eq.mpr (pq28_0 k) (planOK_go _)) (fun m v => F28_0 k m v.1.1 v.1.2.1 v.1.2.2.1 v.1.2.2.2.1) k (fun _ => rfl) (fun _ => rfl) fun m v => ⟨ps28_0 k m v, pe28_0 k m v⟩)
def pl28 (k : Nat) : Plan := (.seq .go (.seq .go (.seq (.sub (.frag (fr28_0 k))) .go)))
theorem pq28 (k : Nat) : PlanOK Try.prog lim28 (pl28 k) (codeAt (bodyOf Try.f28) []) = (PlanOK Try.prog lim28 .go (codeAt (bodyOf Try.f28) [.l]) ∧ (PlanOK Try.prog lim28 .go (codeAt (bodyOf Try.f28) [.r, .l]) ∧ (FragOK Try.prog lim28 (fr28_0 k) (codeAt (bodyOf Try.f28) [.r, .r, .l, .s]) ∧ PlanOK Try.prog lim28 .go (codeAt (bodyOf Try.f28) [.r, .r, .r])))) := by kernel_rfl
theorem ev28 (k : Nat) (x : AT (sp28 k).ps) : (sp28 k).impl x = (fnT Try.prog (cfg28 k) lim28 Try.f28 (bodyOf Try.f28) (pl28 k) (sp28 k) x).eval := by kernel_rfl
theorem eq28 (k : Nat) (x : AT (sp28 k).ps) : (fnT Try.prog (cfg28 k) lim28 Try.f28 (bodyOf Try.f28) (pl28 k) (sp28 k) x).left = (fnT Try.prog (cfg28 k) lim28 Try.f28 (bodyOf Try.f28) (pl28 k) (sp28 k) x).right := by kernel_rfl
theorem v28 (k : Nat) : Callable Try.prog 28 ∧ Valid Try.prog 28 (sp28 k) :=
  fn_ok (cfg28_ok k) (f := 28) (fn := Try.f28) (by kernel_rfl) (c := bodyOf Try.f28) (by kernel_rfl) (by kernel_rfl) rfl rfl (Nat.le_of_ble_eq_true rfl) (Nat.le_of_ble_eq_true rfl) (p := pl28 k) (Eq.mpr (pq28 k) ⟨(planOK_go _), ⟨(planOK_go _), ⟨(fr28_0_ok k), (planOK_go _)⟩⟩⟩) fun x => ⟨ev28 k x, eq28 k x⟩
/-! f52 hyphen/hyphenref9.Run -/
def F52_0 (k : Nat) : Nat → (List Int) → Int → Int → ((List (List Int)) × ((List Int) × Unit)) → (List Int) → Option ((Unit × ((List Int) × Unit)))
  | 0, _, _, _, _, _ => none
  | n + 1, t1, t6, t7, c2, c11 =>
    bif (decide (t7 ≥ (0 : Int))) then
      if 0 ≤ t6 ∧ t6 < ((List.length c2.1 : Nat) : Int) then
        let x9 := (List.getD c2.1 (Int.toNat t6) ([] : (List Int)))
        if 0 ≤ t7 ∧ t7 < ((List.length t1 : Nat) : Int) then
          if 0 ≤ (List.getD t1 (Int.toNat t7) (0 : Int)) ∧ (List.getD t1 (Int.toNat t7) (0 : Int)) < ((List.length x9 : Nat) : Int) then
            let x10 := (List.getD x9 (Int.toNat (List.getD t1 (Int.toNat t7) (0 : Int))) (0 : Int))
            if 0 ≤ x10 ∧ x10 < ((List.length c2.2.1 : Nat) : Int) then
              if 0 ≤ t7 ∧ t7 < ((List.length c11 : Nat) : Int) then
                let x11 := (List.set c11 (Int.toNat t7) (List.getD c2.2.1 (Int.toNat x10) (0 : Int)))
                (F52_0 k n t1 x10 (IntKind.wrap .i64 (t7 - (1 : Int))) c2 x11).bind some
              else none
            else none
          else none
        else none
      else none
    else
      some ((), (c11, ()))
def fr52_0 (k : Nat) : Frag := ⟨⟨[], [(1, .val (.sl false 3 (.int .i64) none)), (2, .ptr 2 []), (5, .at 11 []), (6, .val (.int .i64)), (7, .val (.int .i64))], [(2, some 27, (.pair (.sl false 22 (.sl false 3 (.int .i64) none) none) (.pair (.sl false 3 (.int .i64) none) .unit))), (11, none, (.sl true 3 (.int .i64) none))]⟩, [(.exit 0, ⟨[], [(5, .at 11 [])], [(11, none, (.sl true 3 (.int .i64) none))]⟩)], fun v => F52_0 k k v.1.1 v.1.2.1 v.1.2.2.1 v.2.1 v.2.2.1⟩
def F52 (k : Nat) (a0 : ((List (List Int)) × ((List Int) × Unit))) (a1 : (List Int)) : Option (((List Int) × Unit) × Unit) :=
  let x1 := (IntKind.wrap .i64 (((List.length a1 : Nat) : Int) + (1 : Int)))
  if (0 ≤ x1 ∧ x1 < x1 + 1) ∧ x1 ≤ 9223372036854775807 ∧ ((8 : Nat) : Int) * x1 ≤ 281474976710656 then
    if 0 ≤ (0 : Int) ∧ (0 : Int) < ((List.length a0.2.1 : Nat) : Int) then
      let x2 := (List.getD a0.2.1 (Int.toNat (0 : Int)) (0 : Int))
      if 0 ≤ ((List.length a1 : Nat) : Int) ∧ ((List.length a1 : Nat) : Int) < ((List.length (List.replicate (Int.toNat x1) (0 : Int)) : Nat) : Int) then
        let x3 := (Int.toNat ((List.length a1 : Nat) : Int))
        let x4 := (List.set (List.replicate (Int.toNat x1) (0 : Int)) x3 x2)
        let x5 := (IntKind.wrap .i64 (((List.length a1 : Nat) : Int) - (1 : Int)))
        (F52_0 k k a1 (0 : Int) x5 a0 x4).bind fun r12 =>
        let y13 := r12.2.1
        some ((y13, ()), ())
      else none
    else none
  else none
def sp52 (k : Nat) : Spec := ⟨[.val (.pair (.sl false 22 (.sl false 3 (.int .i64) none) none) (.pair (.sl false 3 (.int .i64) none) .unit)), .val (.sl false 3 (.int .i64) none)], [.own (.sl true 3 (.int .i64) none)], fun x => F52 k x.1 x.2.1⟩
def lim52 : Lim := ⟨48, 2, false, false⟩
def cfg52 (k : Nat) : Nat → Option Spec := cfgL []
theorem cfg52_ok (k : Nat) : CfgOK Try.prog (cfg52 k) := cfgL_nil
def pl52_0 (k : Nat) : Plan := .go
theorem pq52_0 (k : Nat) : PlanOK Try.prog lim52 (pl52_0 k) (codeAt (bodyOf Try.f52) [.r, .r, .r, .r, .l, .r, .s, .b]) = PlanOK Try.prog lim52 .go (codeAt (bodyOf Try.f52) [.r, .r, .r, .r, .l, .r, .s, .b]) := by kernel_rfl
theorem ps52_0 (k m : Nat) (v : (fr52_0 k).sh.V) : F52_0 k (m + 1) v.1.1 v.1.2.1 v.1.2.2.1 v.2.1 v.2.2.1 = (body Try.prog (stepper Try.prog (cfg52 k) lim52) (pl52_0 k) (codeAt (bodyOf Try.f52) [.r, .r, .r, .r, .l, .r, .s, .b]) ((fr52_0 k).sh.st v) (loopK (fr52_0 k) fun v => F52_0 k m v.1.1 v.1.2.1 v.1.2.2.1 v.2.1 v.2.2.1)).eval := by kernel_rfl
theorem pe52_0 (k m : Nat) (v : (fr52_0 k).sh.V) : (body Try.prog (stepper Try.prog (cfg52 k) lim52) (pl52_0 k) (codeAt (bodyOf Try.f52) [.r, .r, .r, .r, .l, .r, .s, .b]) ((fr52_0 k).sh.st v) (loopK (fr52_0 k) fun v => F52_0 k m v.1.1 v.1.2.1 v.1.2.2.1 v.2.1 v.2.2.1)).left = (body Try.prog (stepper Try.prog (cfg52 k) lim52) (pl52_0 k) (codeAt (bodyOf Try.f52) [.r, .r, .r, .r, .l, .r, .s, .b]) ((fr52_0 k).sh.st v) (loopK (fr52_0 k) fun v => F52_0 k m v.1.1 v.1.2.1 v.1.2.2.1 v.2.1 v.2.2.1)).right := by kernel_rfl
theorem fr52_0_ok (k : Nat) : FragOK Try.prog lim52 (fr52_0 k) (codeAt (bodyOf Try.f52) [.r, .r, .r, .r, .l, .r, .s]) :=
  frag_cast (by kernel_rfl) (loop_ok (cfg52_ok k) (Eq.mpr (pq52_0 k) (planOK_go _)) (fun m v => F52_0 k m v.1.1 v.1.2.1 v.1.2.2.1 v.2.1 v.2.2.1) k (fun _ => rfl) (fun _ => rfl) fun m v => ⟨ps52_0 k m v, pe52_0 k m v⟩)
def pl52 (k : Nat) : Plan := (.seq .go (.seq .go (.seq .go (.seq .go (.seq (.seq .go (.sub (.frag (fr52_0 k)))) .go)))))
theorem pq52 (k : Nat) : PlanOK Try.prog lim52 (pl52 k) (codeAt (bodyOf Try.f52) []) = (PlanOK Try.prog lim52 .go (codeAt (bodyOf Try.f52) [.l]) ∧ (PlanOK Try.prog lim52 .go (codeAt (bodyOf Try.f52) [.r, .l]) ∧ (PlanOK Try.prog lim52 .go (codeAt (bodyOf Try.f52) [.r, .r, .l]) ∧ (PlanOK Try.prog lim52 .go (codeAt (bodyOf Try.f52) [.r, .r, .r, .l]) ∧ ((PlanOK Try.prog lim52 .go (codeAt (bodyOf Try.f52) [.r, .r, .r, .r, .l, .l]) ∧ FragOK Try.prog lim52 (fr52_0 k) (codeAt (bodyOf Try.f52) [.r, .r, .r, .r, .l, .r, .s])) ∧ PlanOK Try.prog lim52 .go (codeAt (bodyOf Try.f52) [.r, .r, .r, .r, .r])))))) := by kernel_rfl
theorem ev52 (k : Nat) (x : AT (sp52 k).ps) : (sp52 k).impl x = (fnT Try.prog (cfg52 k) lim52 Try.f52 (bodyOf Try.f52) (pl52 k) (sp52 k) x).eval := by kernel_rfl
theorem eq52 (k : Nat) (x : AT (sp52 k).ps) : (fnT Try.prog (cfg52 k) lim52 Try.f52 (bodyOf Try.f52) (pl52 k) (sp52 k) x).left = (fnT Try.prog (cfg52 k) lim52 Try.f52 (bodyOf Try.f52) (pl52 k) (sp52 k) x).right := by kernel_rfl
theorem v52 (k : Nat) : Callable Try.prog 52 ∧ Valid Try.prog 52 (sp52 k) :=
  fn_ok (cfg52_ok k) (f := 52) (fn := Try.f52) (by kernel_rfl) (c := bodyOf Try.f52) (by kernel_rfl) (by kernel_rfl) rfl rfl (Nat.le_of_ble_eq_true rfl) (Nat.le_of_ble_eq_true rfl) (p := pl52 k) (Eq.mpr (pq52 k) ⟨(planOK_go _), ⟨(planOK_go _), ⟨(planOK_go _), ⟨(planOK_go _), ⟨⟨(planOK_go _), (fr52_0_ok k)⟩, (planOK_go _)⟩⟩⟩⟩⟩) fun x => ⟨ev52 k x, eq52 k x⟩
/-! f51 hyphen/hyphenref10.Run -/
def F51_0 (k : Nat) : Nat → (List Int) → (List Int) → Int → Int → ((List (List Int)) × ((List (List (List Int))) × Unit)) → (List (List Int)) → Option ((Unit × ((List (List Int)) × Unit)))
  | 0, _, _, _, _, _, _ => none
  | n + 1, t1, t2, t8, t9, c3, c2000007 =>
    let x1 := (decide (t9 ≤ ((List.length t1 : Nat) : Int)))
    bif x1 then
      if 0 ≤ t8 ∧ t8 < ((List.length c3.2.1 : Nat) : Int) then
        let x2 := (List.getD c3.2.1 (Int.toNat t8) ([] : (List (List Int))))
        if 0 ≤ t9 ∧ t9 < ((List.length t2 : Nat) : Int) then
          if 0 ≤ (List.getD t2 (Int.toNat t9) (0 : Int)) ∧ (List.getD t2 (Int.toNat t9) (0 : Int)) < ((List.length x2 : Nat) : Int) then
            let x3 := (List.getD x2 (Int.toNat (List.getD t2 (Int.toNat t9) (0 : Int))) ([] : (List Int)))
            let x4 := (List.set (List.replicate 1 (List.replicate 3 (0 : Int))) 0 x3)
            if (List.length c2000007 + List.length x4) * (24 * 2) ≤ 281474976710656 ∧ List.length c2000007 + List.length x4 ≤ 9223372036854775807 then
              let x5 := (decide (t9 < ((List.length t1 : Nat) : Int)))
              bif x5 then
                if 0 ≤ t8 ∧ t8 < ((List.length c3.1 : Nat) : Int) then
                  let x6 := (List.getD c3.1 (Int.toNat t8) ([] : (List Int)))
                  if 0 ≤ t9 ∧ t9 < ((List.length t1 : Nat) : Int) then
                    if 0 ≤ (List.getD t1 (Int.toNat t9) (0 : Int)) ∧ (List.getD t1 (Int.toNat t9) (0 : Int)) < ((List.length x6 : Nat) : Int) then
                      let x7 := (List.getD x6 (Int.toNat (List.getD t1 (Int.toNat t9) (0 : Int))) (0 : Int))
                      (F51_0 k n t1 t2 x7 (IntKind.wrap .i64 (t9 + (1 : Int))) c3 (c2000007 ++ x4)).bind some
                    else none
                  else none
                else none
              else
                (F51_0 k n t1 t2 t8 (IntKind.wrap .i64 (t9 + (1 : Int))) c3 (c2000007 ++ x4)).bind some
            else none
          else none
        else none
      else none
    else
      some ((), (c2000007, ()))
def fr51_0 (k : Nat) : Frag := ⟨⟨[(7, (.sl true 57 (.arr 3 (.int .i64)) none))], [(1, .val (.sl false 3 (.int .i64) none)), (2, .val (.sl false 3 (.int .i64) none)), (3, .ptr 3 []), (7, .at 2000007 []), (8, .val (.int .i64)), (9, .val (.int .i64))], [(3, some 30, (.pair (.sl false 22 (.sl false 3 (.int .i64) none) none) (.pair (.sl false 36 (.sl false 57 (.arr 3 (.int .i64)) none) none) .unit))), (2000007, none, (.sl true 57 (.arr 3 (.int .i64)) none))]⟩, [(.exit 0, ⟨[(7, (.sl true 57 (.arr 3 (.int .i64)) none))], [(7, .at 2000007 [])], [(2000007, none, (.sl true 57 (.arr 3 (.int .i64)) none))]⟩)], fun v => F51_0 k k v.1.1 v.1.2.1 v.1.2.2.1 v.1.2.2.2.1 v.2.1 v.2.2.1⟩
def F51 (k : Nat) (a0 : ((List (List Int)) × ((List (List (List Int))) × Unit))) (a1 : (List Int)) (a2 : (List Int)) : Option (((List (List Int)) × Unit) × Unit) :=
  (F51_0 k k a1 a2 (0 : Int) (0 : Int) a0 []).bind fun r8 =>
  let y9 := r8.2.1
  some ((y9, ()), ())
def sp51 (k : Nat) : Spec := ⟨[.val (.pair (.sl false 22 (.sl false 3 (.int .i64) none) none) (.pair (.sl false 36 (.sl false 57 (.arr 3 (.int .i64)) none) none) .unit)), .val (.sl false 3 (.int .i64) none), .val (.sl false 3 (.int .i64) none)], [.own (.sl true 57 (.arr 3 (.int .i64)) none)], fun x => F51 k x.1 x.2.1 x.2.2.1⟩
def lim51 : Lim := ⟨46, 3, false, false⟩
def cfg51 (k : Nat) : Nat → Option Spec := cfgL []
theorem cfg51_ok (k : Nat) : CfgOK Try.prog (cfg51 k) := cfgL_nil
def pl51_0 (k : Nat) : Plan := .go
theorem pq51_0 (k : Nat) : PlanOK Try.prog lim51 (pl51_0 k) (codeAt (bodyOf Try.f51) [.r, .r, .r, .l, .r, .s, .b]) = PlanOK Try.prog lim51 .go (codeAt (bodyOf Try.f51) [.r, .r, .r, .l, .r, .s, .b]) := by kernel_rfl
theorem ps51_0 (k m : Nat) (v : (fr51_0 k).sh.V) : F51_0 k (m + 1) v.1.1 v.1.2.1 v.1.2.2.1 v.1.2.2.2.1 v.2.1 v.2.2.1 = (body Try.prog (stepper Try.prog (cfg51 k) lim51) (pl51_0 k) (codeAt (bodyOf Try.f51) [.r, .r, .r, .l, .r, .s, .b]) ((fr51_0 k).sh.st v) (loopK (fr51_0 k) fun v => F51_0 k m v.1.1 v.1.2.1 v.1.2.2.1 v.1.2.2.2.1 v.2.1 v.2.2.1)).eval := by kernel_rfl
theorem pe51_0 (k m : Nat) (v : (fr51_0 k).sh.V) : (body Try.prog (stepper Try.prog (cfg51 k) lim51) (pl51_0 k) (codeAt (bodyOf Try.f51) [.r, .r, .r, .l, .r, .s, .b]) ((fr51_0 k).sh.st v) (loopK (fr51_0 k) fun v => F51_0 k m v.1.1 v.1.2.1 v.1.2.2.1 v.1.2.2.2.1 v.2.1 v.2.2.1)).left = (body Try.prog (stepper Try.prog (cfg51 k) lim51) (pl51_0 k) (codeAt (bodyOf Try.f51) [.r, .r, .r, .l, .r, .s, .b]) ((fr51_0 k).sh.st v) (loopK (fr51_0 k) fun v => F51_0 k m v.1.1 v.1.2.1 v.1.2.2.1 v.1.2.2.2.1 v.2.1 v.2.2.1)).right := by kernel_rfl
theorem fr51_0_ok (k : Nat) : FragOK Try.prog lim51 (fr51_0 k) (codeAt (bodyOf Try.f51) [.r, .r, .r, .l, .r, .s]) :=
  frag_cast (by kernel_rfl) (loop_ok (cfg51_ok k) (Eq.mpr (pq51_0 k) (planOK_go _)) (fun m v => F51_0 k m v.1.1 v.1.2.1 v.1.2.2.1 v.1.2.2.2.1 v.2.1 v.2.2.1) k (fun _ => rfl) (fun _ => rfl) fun m v => ⟨ps51_0 k m v, pe51_0 k m v⟩)
def pl51 (k : Nat) : Plan := (.seq .go (.seq .go (.seq .go (.seq (.seq .go (.sub (.frag (fr51_0 k)))) .go))))
theorem pq51 (k : Nat) : PlanOK Try.prog lim51 (pl51 k) (codeAt (bodyOf Try.f51) []) = (PlanOK Try.prog lim51 .go (codeAt (bodyOf Try.f51) [.l]) ∧ (PlanOK Try.prog lim51 .go (codeAt (bodyOf Try.f51) [.r, .l]) ∧ (PlanOK Try.prog lim51 .go (codeAt (bodyOf Try.f51) [.r, .r, .l]) ∧ ((PlanOK Try.prog lim51 .go (codeAt (bodyOf Try.f51) [.r, .r, .r, .l, .l]) ∧ FragOK Try.prog lim51 (fr51_0 k) (codeAt (bodyOf Try.f51) [.r, .r, .r, .l, .r, .s])) ∧ PlanOK Try.prog lim51 .go (codeAt (bodyOf Try.f51) [.r, .r, .r, .r]))))) := by kernel_rfl
theorem ev51 (k : Nat) (x : AT (sp51 k).ps) : (sp51 k).impl x = (fnT Try.prog (cfg51 k) lim51 Try.f51 (bodyOf Try.f51) (pl51 k) (sp51 k) x).eval := by kernel_rfl
theorem eq51 (k : Nat) (x : AT (sp51 k).ps) : (fnT Try.prog (cfg51 k) lim51 Try.f51 (bodyOf Try.f51) (pl51 k) (sp51 k) x).left = (fnT Try.prog (cfg51 k) lim51 Try.f51 (bodyOf Try.f51) (pl51 k) (sp51 k) x).right := by kernel_rfl
theorem v51 (k : Nat) : Callable Try.prog 51 ∧ Valid Try.prog 51 (sp51 k) :=
  fn_ok (cfg51_ok k) (f := 51) (fn := Try.f51) (by kernel_rfl) (c := bodyOf Try.f51) (by kernel_rfl) (by kernel_rfl) rfl rfl (Nat.le_of_ble_eq_true rfl) (Nat.le_of_ble_eq_true rfl) (p := pl51 k) (Eq.mpr (pq51 k) ⟨(planOK_go _), ⟨(planOK_go _), ⟨(planOK_go _), ⟨⟨(planOK_go _), (fr51_0_ok k)⟩, (planOK_go _)⟩⟩⟩⟩) fun x => ⟨ev51 k x, eq51 k x⟩
/-! f19 hyphen/hyphenref13.Segment -/
def F19_0 (k : Nat) : Nat → Int → ((List Int) × ((List Int) × (((List (List Int)) × ((List Int) × Unit)) × (((List (List Int)) × ((List (List (List Int))) × Unit)) × Unit)))) → (List Int) → (List Int) → Option ((Unit × (((List Int) × ((List Int) × (((List (List Int)) × ((List Int) × Unit)) × (((List (List Int)) × ((List (List (List Int))) × Unit)) × Unit)))) × (List Int) × Unit)))
  | 0, _, _, _, _ => none
  | n + 1, t9, c2, c1000288, c2000008 =>
    let x4 := (decide (t9 < ((List.length c1000288 : Nat) : Int)))
    bif x4 then
      if 0 ≤ t9 ∧ t9 < ((List.length c1000288 : Nat) : Int) then
        let x5 := (List.getD c1000288 (Int.toNat t9) (0 : Int))
        (F28 k c2.1 c2.2.1 x5).bind fun r6 =>
        let x7 := (List.set (List.replicate 1 (0 : Int)) 0 r6.1.1)
        if (List.length c2000008 + List.length x7) * (8 * 2) ≤ 281474976710656 ∧ List.length c2000008 + List.length x7 ≤ 9223372036854775807 then
          (F19_0 k n (IntKind.wrap .i64 (t9 + (1 : Int))) c2 c1000288 (c2000008 ++ x7)).bind some
        else none
      else none
    else
      some ((), (c2, c2000008, ()))
def fr19_0 (k : Nat) : Frag := ⟨⟨[(8, (.sl true 3 (.int .i64) none))], [(2, .ptr 2 []), (6, .at 1000288 []), (8, .at 2000008 []), (9, .val (.int .i64))], [(2, some 32, (.pair (.sl false 3 (.int .i64) none) (.pair (.sl false 3 (.int .i64) none) (.pair (.pair (.sl false 22 (.sl false 3 (.int .i64) none) none) (.pair (.sl false 3 (.int .i64) none) .unit)) (.pair (.pair (.sl false 22 (.sl false 3 (.int .i64) none) none) (.pair (.sl false 36 (.sl false 57 (.arr 3 (.int .i64)) none) none) .unit)) .unit))))), (1000288, none, (.sl true 3 (.int .i64) none)), (2000008, none, (.sl true 3 (.int .i64) none))]⟩, [(.exit 0, ⟨[(8, (.sl true 3 (.int .i64) none))], [(2, .ptr 2 []), (8, .at 2000008 [])], [(2, some 32, (.pair (.sl false 3 (.int .i64) none) (.pair (.sl false 3 (.int .i64) none) (.pair (.pair (.sl false 22 (.sl false 3 (.int .i64) none) none) (.pair (.sl false 3 (.int .i64) none) .unit)) (.pair (.pair (.sl false 22 (.sl false 3 (.int .i64) none) none) (.pair (.sl false 36 (.sl false 57 (.arr 3 (.int .i64)) none) none) .unit)) .unit))))), (2000008, none, (.sl true 3 (.int .i64) none))]⟩)], fun v => F19_0 k k v.1.1 v.2.1 v.2.2.1 v.2.2.2.1⟩
def F19 (k : Nat) (a0 : ((List Int) × ((List Int) × (((List (List Int)) × ((List Int) × Unit)) × (((List (List Int)) × ((List (List (List Int))) × Unit)) × Unit))))) (a1 : ByteArray) : Option (((List (List Int)) × Int × Unit) × Unit) :=
  (F34 k a0).bind fun r1 =>
  bif (!r1.1.1) then
    some (([], (5 : Int), ()), ())
  else
    let x2 := (decide (((ByteArray.size a1 : Nat) : Int) > (4000 : Int)))
    bif x2 then
      some (([], (6 : Int), ()), ())
    else
      (F20 k a1).bind fun r3 =>
      (F19_0 k k (0 : Int) a0 r3.1.1 []).bind fun r8 =>
      let y9 := r8.2.1
      let y10 := r8.2.2.1
      (F52 k y9.2.2.1 y10).bind fun r11 =>
      (F51 k y9.2.2.2.1 y10 r11.1.1).bind fun r12 =>
      some ((r12.1.1, (0 : Int), ()), ())
def sp19 (k : Nat) : Spec := ⟨[.val (.pair (.sl false 3 (.int .i64) none) (.pair (.sl false 3 (.int .i64) none) (.pair (.pair (.sl false 22 (.sl false 3 (.int .i64) none) none) (.pair (.sl false 3 (.int .i64) none) .unit)) (.pair (.pair (.sl false 22 (.sl false 3 (.int .i64) none) none) (.pair (.sl false 36 (.sl false 57 (.arr 3 (.int .i64)) none) none) .unit)) .unit)))), .val .str], [.own (.sl true 57 (.arr 3 (.int .i64)) none), .val (.int .i64)], fun x => F19 k x.1 x.2.1⟩
def lim19 : Lim := ⟨47, 2, false, false⟩
def cfg19 (k : Nat) : Nat → Option Spec := cfgL [(20, sp20 k), (28, sp28 k), (34, sp34 k), (51, sp51 k), (52, sp52 k)]
theorem cfg19_ok (k : Nat) : CfgOK Try.prog (cfg19 k) := cfgL_cons (v20 k) (cfgL_cons (v28 k) (cfgL_cons (v34 k) (cfgL_cons (v51 k) (cfgL_cons (v52 k) (cfgL_nil)))))
def pl19_0 (k : Nat) : Plan := .go
theorem pq19_0 (k : Nat) : PlanOK Try.prog lim19 (pl19_0 k) (codeAt (bodyOf Try.f19) [.r, .r, .r, .r, .r, .l, .r, .s, .b]) = PlanOK Try.prog lim19 .go (codeAt (bodyOf Try.f19) [.r, .r, .r, .r, .r, .l, .r, .s, .b]) := by kernel_rfl
theorem ps19_0 (k m : Nat) (v : (fr19_0 k).sh.V) : F19_0 k (m + 1) v.1.1 v.2.1 v.2.2.1 v.2.2.2.1 = (body Try.prog (stepper Try.prog (cfg19 k) lim19) (pl19_0 k) (codeAt (bodyOf Try.f19) [.r, .r, .r, .r, .r, .l, .r, .s, .b]) ((fr19_0 k).sh.st v) (loopK (fr19_0 k) fun v => F19_0 k m v.1.1 v.2.1 v.2.2.1 v.2.2.2.1)).eval := by kernel_rfl
theorem pe19_0 (k m : Nat) (v : (fr19_0 k).sh.V) : (body Try.prog (stepper Try.prog (cfg19 k) lim19) (pl19_0 k) (codeAt (bodyOf Try.f19) [.r, .r, .r, .r, .r, .l, .r, .s, .b]) ((fr19_0 k).sh.st v) (loopK (fr19_0 k) fun v => F19_0 k m v.1.1 v.2.1 v.2.2.1 v.2.2.2.1)).left = (body Try.prog (stepper Try.prog (cfg19 k) lim19) (pl19_0 k) (codeAt (bodyOf Try.f19) [.r, .r, .r, .r, .r, .l, .r, .s, .b]) ((fr19_0 k).sh.st v) (loopK (fr19_0 k) fun v => F19_0 k m v.1.1 v.2.1 v.2.2.1 v.2.2.2.1)).right := by kernel_rfl
theorem fr19_0_ok (k : Nat) : FragOK Try.prog lim19 (fr19_0 k) (codeAt (bodyOf Try.f19) [.r, .r, .r, .r, .r, .l, .r, .s]) :=
  frag_cast (by kernel_rfl) (loop_ok (cfg19_ok k) (Eq.mpr (pq19_0 k) (planOK_go _)) (fun m v => F19_0 k m v.1.1 v.2.1 v.2.2.1 v.2.2.2.1) k (fun _ => rfl) (fun _ => rfl) fun m v => ⟨ps19_0 k m v, pe19_0 k m v⟩)
def pl19 (k : Nat) : Plan := (.seq .go (.seq .go (.seq .go (.seq .go (.seq .go (.seq (.seq .go (.sub (.frag (fr19_0 k)))) .go))))))
theorem pq19 (k : Nat) : PlanOK Try.prog lim19 (pl19 k) (codeAt (bodyOf Try.f19) []) = (PlanOK Try.prog lim19 .go (codeAt (bodyOf Try.f19) [.l]) ∧ (PlanOK Try.prog lim19 .go (codeAt (bodyOf Try.f19) [.r, .l]) ∧ (PlanOK Try.prog lim19 .go (codeAt (bodyOf Try.f19) [.r, .r, .l]) ∧ (PlanOK Try.prog lim19 .go (codeAt (bodyOf Try.f19) [.r, .r, .r, .l]) ∧ (PlanOK Try.prog lim19 .go (codeAt (bodyOf Try.f19) [.r, .r, .r, .r, .l]) ∧ ((PlanOK Try.prog lim19 .go (codeAt (bodyOf Try.f19) [.r, .r, .r, .r, .r, .l, .l]) ∧ FragOK Try.prog lim19 (fr19_0 k) (codeAt (bodyOf Try.f19) [.r, .r, .r, .r, .r, .l, .r, .s])) ∧ PlanOK Try.prog lim19 .go (codeAt (bodyOf Try.f19) [.r, .r, .r, .r, .r, .r]))))))) := by kernel_rfl
theorem ev19 (k : Nat) (x : AT (sp19 k).ps) : (sp19 k).impl x = (fnT Try.prog (cfg19 k) lim19 Try.f19 (bodyOf Try.f19) (pl19 k) (sp19 k) x).eval := by kernel_rfl
theorem eq19 (k : Nat) (x : AT (sp19 k).ps) : (fnT Try.prog (cfg19 k) lim19 Try.f19 (bodyOf Try.f19) (pl19 k) (sp19 k) x).left = (fnT Try.prog (cfg19 k) lim19 Try.f19 (bodyOf Try.f19) (pl19 k) (sp19 k) x).right := by kernel_rfl
theorem v19 (k : Nat) : Callable Try.prog 19 ∧ Valid Try.prog 19 (sp19 k) :=
  fn_ok (cfg19_ok k) (f := 19) (fn := Try.f19) (by kernel_rfl) (c := bodyOf Try.f19) (by kernel_rfl) (by kernel_rfl) rfl rfl (Nat.le_of_ble_eq_true rfl) (Nat.le_of_ble_eq_true rfl) (p := pl19 k) (Eq.mpr (pq19 k) ⟨(planOK_go _), ⟨(planOK_go _), ⟨(planOK_go _), ⟨(planOK_go _), ⟨(planOK_go _), ⟨⟨(planOK_go _), (fr19_0_ok k)⟩, (planOK_go _)⟩⟩⟩⟩⟩⟩) fun x => ⟨ev19 k x, eq19 k x⟩
/-! f21 hyphen/hyphenref1.Vecs -/
def F21_0 (k : Nat) : Nat → (List (List Int)) → (List (List Int)) → Int → Option ((Unit × Unit) ⊕ ((Bool × Unit) × Unit))
  | 0, _, _, _ => none
  | n + 1, t0, t1, t5 =>
    let x5 := (decide (t5 < ((List.length t0 : Nat) : Int)))
    bif x5 then
      if 0 ≤ t5 ∧ t5 < ((List.length t0 : Nat) : Int) then
        let x6 := (List.getD t0 (Int.toNat t5) ([] : (List Int)))
        if 0 ≤ t5 ∧ t5 < ((List.length t1 : Nat) : Int) then
          let x7 := (List.getD t1 (Int.toNat t5) ([] : (List Int)))
          bif (!(x6 == x7)) then
            some (.inr ((false, ()), ()))
          else
            (F21_0 k n t0 t1 (IntKind.wrap .i64 (t5 + (1 : Int)))).bind some
        else none
      else none
    else
      some (.inl ((), ()))
def fr21_0 (k : Nat) : Frag := ⟨⟨[], [(0, .val (.sl false 57 (.arr 3 (.int .i64)) none)), (1, .val (.sl false 57 (.arr 3 (.int .i64)) none)), (5, .val (.int .i64))], []⟩, [(.exit 0, ⟨[], [], []⟩), (.ret, ⟨[], [(4, .val .bool)], []⟩)], fun v => F21_0 k k v.1.1 v.1.2.1 v.1.2.2.1⟩
def F21 (k : Nat) (a0 : (List (List Int))) (a1 : (List (List Int))) : Option ((Bool × Unit) × Unit) :=
  let x1 := (((List.length a0 : Nat) : Int) != ((List.length a1 : Nat) : Int))
  bif x1 then
    some ((false, ()), ())
  else
    (F21_0 k k a0 a1 (0 : Int)).bind fun r8 =>
    match r8 with
    | .inl r9 =>
      some ((true, ()), ())
    | .inr r9 =>
      let y10 := r9.1.1
      some ((y10, ()), ())
def sp21 (k : Nat) : Spec := ⟨[.val (.sl false 57 (.arr 3 (.int .i64)) none), .val (.sl false 57 (.arr 3 (.int .i64)) none)], [.val .bool], fun x => F21 k x.1 x.2.1⟩
def lim21 : Lim := ⟨26, 2, false, false⟩
def cfg21 (k : Nat) : Nat → Option Spec := cfgL []
theorem cfg21_ok (k : Nat) : CfgOK Try.prog (cfg21 k) := cfgL_nil
def pl21_0 (k : Nat) : Plan := .go
theorem pq21_0 (k : Nat) : PlanOK Try.prog lim21 (pl21_0 k) (codeAt (bodyOf Try.f21) [.r, .r, .l, .r, .s, .b]) = PlanOK Try.prog lim21 .go (codeAt (bodyOf Try.f21) [.r, .r, .l, .r, .s, .b]) := by kernel_rfl
theorem ps21_0 (k m : Nat) (v : (fr21_0 k).sh.V) : F21_0 k (m + 1) v.1.1 v.1.2.1 v.1.2.2.1 = (body Try.prog (stepper Try.prog (cfg21 k) lim21) (pl21_0 k) (codeAt (bodyOf Try.f21) [.r, .r, .l, .r, .s, .b]) ((fr21_0 k).sh.st v) (loopK (fr21_0 k) fun v => F21_0 k m v.1.1 v.1.2.1 v.1.2.2.1)).eval := by kernel_rfl
theorem pe21_0 (k m : Nat) (v : (fr21_0 k).sh.V) : (body Try.prog (stepper Try.prog (cfg21 k) lim21) (pl21_0 k) (codeAt (bodyOf Try.f21) [.r, .r, .l, .r, .s, .b]) ((fr21_0 k).sh.st v) (loopK (fr21_0 k) fun v => F21_0 k m v.1.1 v.1.2.1 v.1.2.2.1)).left = (body Try.prog (stepper Try.prog (cfg21 k) lim21) (pl21_0 k) (codeAt (bodyOf Try.f21) [.r, .r, .l, .r, .s, .b]) ((fr21_0 k).sh.st v) (loopK (fr21_0 k) fun v => F21_0 k m v.1.1 v.1.2.1 v.1.2.2.1)).right := by kernel_rfl
theorem fr21_0_ok (k : Nat) : FragOK Try.prog lim21 (fr21_0 k) (codeAt (bodyOf Try.f21) [.r, .r, .l, .r, .s]) :=
  frag_cast (by kernel_rfl) (loop_ok (cfg21_ok k) (Eq.mpr (pq21_0 k) (planOK_go _)) (fun m v => F21_0 k m v.1.1 v.1.2.1 v.1.2.2.1) k (fun _ => rfl) (fun _ => rfl) fun m v => ⟨ps21_0 k m v, pe21_0 k m v⟩)
def pl21 (k : Nat) : Plan := (.seq .go (.seq .go (.seq (.seq .go (.sub (.frag (fr21_0 k)))) .go)))
theorem pq21 (k : Nat) : PlanOK Try.prog lim21 (pl21 k) (codeAt (bodyOf Try.f21) []) = (PlanOK Try.prog lim21 .go (codeAt (bodyOf Try.f21) [.l]) ∧ (PlanOK Try.prog lim21 .go (codeAt (bodyOf Try.f21) [.r, .l]) ∧ ((PlanOK Try.prog lim21 .go (codeAt (bodyOf Try.f21) [.r, .r, .l, .l]) ∧ FragOK Try.prog lim21 (fr21_0 k) (codeAt (bodyOf Try.f21) [.r, .r, .l, .r, .s])) ∧ PlanOK Try.prog lim21 .go (codeAt (bodyOf Try.f21) [.r, .r, .r])))) := by kernel_rfl
theorem ev21 (k : Nat) (x : AT (sp21 k).ps) : (sp21 k).impl x = (fnT Try.prog (cfg21 k) lim21 Try.f21 (bodyOf Try.f21) (pl21 k) (sp21 k) x).eval := by kernel_rfl
theorem eq21 (k : Nat) (x : AT (sp21 k).ps) : (fnT Try.prog (cfg21 k) lim21 Try.f21 (bodyOf Try.f21) (pl21 k) (sp21 k) x).left = (fnT Try.prog (cfg21 k) lim21 Try.f21 (bodyOf Try.f21) (pl21 k) (sp21 k) x).right := by kernel_rfl
theorem v21 (k : Nat) : Callable Try.prog 21 ∧ Valid Try.prog 21 (sp21 k) :=
  fn_ok (cfg21_ok k) (f := 21) (fn := Try.f21) (by kernel_rfl) (c := bodyOf Try.f21) (by kernel_rfl) (by kernel_rfl) rfl rfl (Nat.le_of_ble_eq_true rfl) (Nat.le_of_ble_eq_true rfl) (p := pl21 k) (Eq.mpr (pq21 k) ⟨(planOK_go _), ⟨(planOK_go _), ⟨⟨(planOK_go _), (fr21_0_ok k)⟩, (planOK_go _)⟩⟩⟩) fun x => ⟨ev21 k x, eq21 k x⟩
/-! f3 hyphen/hyphenlaw13.SegAll -/
def F3_0 (k : Nat) : Nat → Int → ((List Int) × ((List Int) × (((List (List Int)) × ((List Int) × Unit)) × (((List (List Int)) × ((List (List (List Int))) × Unit)) × Unit)))) → (List ByteArray) → Option ((Unit × Unit) ⊕ ((Bool × Unit) × Unit))
  | 0, _, _, _ => none
  | n + 1, t17, c15, c40 =>
    bif (decide (t17 < (2 : Int))) then
      if 0 ≤ t17 ∧ t17 < ((List.length c40 : Nat) : Int) then
        let x14 := (List.getD c40 (Int.toNat t17) ByteArray.empty)
        (F18 k c15 x14).bind fun r15 =>
        if 0 ≤ t17 ∧ t17 < ((List.length c40 : Nat) : Int) then
          let x16 := (List.getD c40 (Int.toNat t17) ByteArray.empty)
          (F19 k c15 x16).bind fun r17 =>
          if 0 ≤ t17 ∧ t17 < ((List.length c40 : Nat) : Int) then
            let x18 := (List.getD c40 (Int.toNat t17) ByteArray.empty)
            (F20 k x18).bind fun r19 =>
            bif (r15.1.2.1 != r17.1.2.1) then
              some (.inr ((false, ()), ()))
            else
              (F21 k r15.1.1 r17.1.1).bind fun r20 =>
              bif (!r20.1.1) then
                some (.inr ((false, ()), ()))
              else
                let x21 := (IntKind.wrap .i64 (((List.length r19.1.1 : Nat) : Int) + (1 : Int)))
                bif (((List.length r15.1.1 : Nat) : Int) != x21) then
                  some (.inr ((false, ()), ()))
                else
                  (F3_0 k n (IntKind.wrap .i64 (t17 + (1 : Int))) c15 c40).bind some
          else none
        else none
      else none
    else
      some (.inl ((), ()))
def fr3_0 (k : Nat) : Frag := ⟨⟨[], [(15, .ptr 15 []), (16, .at 40 []), (17, .val (.int .i64))], [(15, some 32, (.pair (.sl true 3 (.int .i64) none) (.pair (.sl true 3 (.int .i64) none) (.pair (.pair (.sl true 22 (.sl true 3 (.int .i64) none) none) (.pair (.sl true 3 (.int .i64) none) .unit)) (.pair (.pair (.sl true 22 (.sl true 3 (.int .i64) none) none) (.pair (.sl true 36 (.sl true 57 (.arr 3 (.int .i64)) none) none) .unit)) .unit))))), (40, none, (.sl true 9 .str none))]⟩, [(.exit 0, ⟨[], [], []⟩), (.ret, ⟨[], [(14, .val .bool)], []⟩)], fun v => F3_0 k k v.1.1 v.2.1 v.2.2.1⟩
def F3 (k : Nat) (a0 : Int) (a1 : Int) (a2 : (List Int)) (a3 : (List Int)) (a4 : (List Int)) (a5 : (List Int)) (a6 : (List Int)) : Option ((Bool × Unit) × Unit) :=
  (F15 k).bind fun r1 =>
  bif (!r1.1.1) then
    some ((false, ()), ())
  else
    let x2 := (decide (((List.length a6 : Nat) : Int) > (250 : Int)))
    bif x2 then
      some ((true, ()), ())
    else
      (F16 k a0 a1 a2 a3 a4).bind fun r3 =>
      (F17 k a5 a6).bind fun r4 =>
      if List.length a6 ≤ 9223372036854775807 then
        let x5 := (List.set (List.set (List.replicate 2 ByteArray.empty) 0 r4.1.1) 1 (bstr a6))
        (F3_0 k k (0 : Int) r3.1.1 x5).bind fun r22 =>
        match r22 with
        | .inl r23 =>
          some ((true, ()), ())
        | .inr r23 =>
          let y24 := r23.1.1
          some ((y24, ()), ())
      else none
def sp3 (k : Nat) : Spec := ⟨[.val (.int .i64), .val (.int .i64), .val (.sl false 3 (.int .i64) none), .val (.sl false 3 (.int .i64) none), .val (.sl false 3 (.int .i64) none), .val (.sl false 3 (.int .i64) none), .val (.sl false 5 (.int .u8) none)], [.val .bool], fun x => F3 k x.1 x.2.1 x.2.2.1 x.2.2.2.1 x.2.2.2.2.1 x.2.2.2.2.2.1 x.2.2.2.2.2.2.1⟩
def lim3 : Lim := ⟨88, 7, false, false⟩
def cfg3 (k : Nat) : Nat → Option Spec := cfgL [(15, sp15 k), (16, sp16 k), (17, sp17 k), (18, sp18 k), (19, sp19 k), (20, sp20 k), (21, sp21 k)]
theorem cfg3_ok (k : Nat) : CfgOK Try.prog (cfg3 k) := cfgL_cons (v15 k) (cfgL_cons (v16 k) (cfgL_cons (v17 k) (cfgL_cons (v18 k) (cfgL_cons (v19 k) (cfgL_cons (v20 k) (cfgL_cons (v21 k) (cfgL_nil)))))))
def pl3_0 (k : Nat) : Plan := .go
theorem pq3_0 (k : Nat) : PlanOK Try.prog lim3 (pl3_0 k) (codeAt (bodyOf Try.f3) [.r, .r, .r, .r, .r, .l, .r, .s, .b]) = PlanOK Try.prog lim3 .go (codeAt (bodyOf Try.f3) [.r, .r, .r, .r, .r, .l, .r, .s, .b]) := by kernel_rfl
theorem ps3_0 (k m : Nat) (v : (fr3_0 k).sh.V) : F3_0 k (m + 1) v.1.1 v.2.1 v.2.2.1 = (body Try.prog (stepper Try.prog (cfg3 k) lim3) (pl3_0 k) (codeAt (bodyOf Try.f3) [.r, .r, .r, .r, .r, .l, .r, .s, .b]) ((fr3_0 k).sh.st v) (loopK (fr3_0 k) fun v => F3_0 k m v.1.1 v.2.1 v.2.2.1)).eval := by kernel_rfl
theorem pe3_0 (k m : Nat) (v : (fr3_0 k).sh.V) : (body Try.prog (stepper Try.prog (cfg3 k) lim3) (pl3_0 k) (codeAt (bodyOf Try.f3) [.r, .r, .r, .r, .r, .l, .r, .s, .b]) ((fr3_0 k).sh.st v) (loopK (fr3_0 k) fun v => F3_0 k m v.1.1 v.2.1 v.2.2.1)).left = (body Try.prog (stepper Try.prog (cfg3 k) lim3) (pl3_0 k) (codeAt (bodyOf Try.f3) [.r, .r, .r, .r, .r, .l, .r, .s, .b]) ((fr3_0 k).sh.st v) (loopK (fr3_0 k) fun v => F3_0 k m v.1.1 v.2.1 v.2.2.1)).right := by kernel_rfl
theorem fr3_0_ok (k : Nat) : FragOK Try.prog lim3 (fr3_0 k) (codeAt (bodyOf Try.f3) [.r, .r, .r, .r, .r, .l, .r, .s]) :=
  frag_cast (by kernel_rfl) (loop_ok (cfg3_ok k) (Eq.mpr (pq3_0 k) (planOK_go _)) (fun m v => F3_0 k m v.1.1 v.2.1 v.2.2.1) k (fun _ => rfl) (fun _ => rfl) fun m v => ⟨ps3_0 k m v, pe3_0 k m v⟩)
def pl3 (k : Nat) : Plan := (.seq .go (.seq .go (.seq .go (.seq .go (.seq .go (.seq (.seq .go (.sub (.frag (fr3_0 k)))) .go))))))
theorem pq3 (k : Nat) : PlanOK Try.prog lim3 (pl3 k) (codeAt (bodyOf Try.f3) []) = (PlanOK Try.prog lim3 .go (codeAt (bodyOf Try.f3) [.l]) ∧ (PlanOK Try.prog lim3 .go (codeAt (bodyOf Try.f3) [.r, .l]) ∧ (PlanOK Try.prog lim3 .go (codeAt (bodyOf Try.f3) [.r, .r, .l]) ∧ (PlanOK Try.prog lim3 .go (codeAt (bodyOf Try.f3) [.r, .r, .r, .l]) ∧ (PlanOK Try.prog lim3 .go (codeAt (bodyOf Try.f3) [.r, .r, .r, .r, .l]) ∧ ((PlanOK Try.prog lim3 .go (codeAt (bodyOf Try.f3) [.r, .r, .r, .r, .r, .l, .l]) ∧ FragOK Try.prog lim3 (fr3_0 k) (codeAt (bodyOf Try.f3) [.r, .r, .r, .r, .r, .l, .r, .s])) ∧ PlanOK Try.prog lim3 .go (codeAt (bodyOf Try.f3) [.r, .r, .r, .r, .r, .r]))))))) := by kernel_rfl
theorem ev3 (k : Nat) (x : AT (sp3 k).ps) : (sp3 k).impl x = (fnT Try.prog (cfg3 k) lim3 Try.f3 (bodyOf Try.f3) (pl3 k) (sp3 k) x).eval := by kernel_rfl
theorem eq3 (k : Nat) (x : AT (sp3 k).ps) : (fnT Try.prog (cfg3 k) lim3 Try.f3 (bodyOf Try.f3) (pl3 k) (sp3 k) x).left = (fnT Try.prog (cfg3 k) lim3 Try.f3 (bodyOf Try.f3) (pl3 k) (sp3 k) x).right := by kernel_rfl
theorem v3 (k : Nat) : Callable Try.prog 3 ∧ Valid Try.prog 3 (sp3 k) :=
  fn_ok (cfg3_ok k) (f := 3) (fn := Try.f3) (by kernel_rfl) (c := bodyOf Try.f3) (by kernel_rfl) (by kernel_rfl) rfl rfl (Nat.le_of_ble_eq_true rfl) (Nat.le_of_ble_eq_true rfl) (p := pl3 k) (Eq.mpr (pq3 k) ⟨(planOK_go _), ⟨(planOK_go _), ⟨(planOK_go _), ⟨(planOK_go _), ⟨(planOK_go _), ⟨⟨(planOK_go _), (fr3_0_ok k)⟩, (planOK_go _)⟩⟩⟩⟩⟩⟩) fun x => ⟨ev3 k x, eq3 k x⟩
/-! f24 hyphen/hyphenlaw13.within -/
def F24 (k : Nat) (a0 : Int) (a1 : Int) : Option ((Int × Unit) × Unit) :=
  if a1 ≠ 0 then
    bif (decide ((Int.tmod a0 a1) < (0 : Int))) then
      some (((IntKind.wrap .i64 ((Int.tmod a0 a1) + a1)), ()), ())
    else
      some (((Int.tmod a0 a1), ()), ())
  else none
def sp24 (k : Nat) : Spec := ⟨[.val (.int .i64), .val (.int .i64)], [.val (.int .i64)], fun x => F24 k x.1 x.2.1⟩
def lim24 : Lim := ⟨15, 2, false, false⟩
def cfg24 (k : Nat) : Nat → Option Spec := cfgL []
theorem cfg24_ok (k : Nat) : CfgOK Try.prog (cfg24 k) := cfgL_nil
def pl24 (k : Nat) : Plan := .go
theorem pq24 (k : Nat) : PlanOK Try.prog lim24 (pl24 k) (codeAt (bodyOf Try.f24) []) = PlanOK Try.prog lim24 .go (codeAt (bodyOf Try.f24) []) := by kernel_rfl
theorem ev24 (k : Nat) (x : AT (sp24 k).ps) : (sp24 k).impl x = (fnT Try.prog (cfg24 k) lim24 Try.f24 (bodyOf Try.f24) (pl24 k) (sp24 k) x).eval := by kernel_rfl
theorem eq24 (k : Nat) (x : AT (sp24 k).ps) : (fnT Try.prog (cfg24 k) lim24 Try.f24 (bodyOf Try.f24) (pl24 k) (sp24 k) x).left = (fnT Try.prog (cfg24 k) lim24 Try.f24 (bodyOf Try.f24) (pl24 k) (sp24 k) x).right := by kernel_rfl
theorem v24 (k : Nat) : Callable Try.prog 24 ∧ Valid Try.prog 24 (sp24 k) :=
  fn_ok (cfg24_ok k) (f := 24) (fn := Try.f24) (by kernel_rfl) (c := bodyOf Try.f24) (by kernel_rfl) (by kernel_rfl) rfl rfl (Nat.le_of_ble_eq_true rfl) (Nat.le_of_ble_eq_true rfl) (p := pl24 k) (Eq.mpr (pq24 k) (planOK_go _)) fun x => ⟨ev24 k x, eq24 k x⟩
/-! f4 hyphen/hyphenlaw13.SegBest -/
def F4_0 (k : Nat) : Nat → Int → Int → Int → Int → Bool → Int → Int → (((List (List Int)) × Unit) × (Int × Unit)) → (List (List Int)) → Option (((Int × Int × Int × Int × Bool × Int × Unit) × ((((List (List Int)) × Unit) × (Int × Unit)) × (List (List Int)) × Unit)))
  | 0, _, _, _, _, _, _, _, _, _ => none
  | n + 1, t24, t25, t26, t27, t28, t29, t30, c1000800, c1000864 =>
    bif (decide (t30 ≤ t25)) then
      if 0 ≤ t30 ∧ t30 < ((List.length c1000864 : Nat) : Int) then
        if 0 ≤ t26 ∧ t26 < ((3 : Nat) : Int) then
          let x15 := (List.getD (List.getD c1000864 (Int.toNat t30) ([] : (List Int))) (Int.toNat t26) (0 : Int))
          (F4_0 k n t24 t25 t26 t27 t28 (minI t29 x15) (IntKind.wrap .i64 (t30 + (1 : Int))) c1000800 c1000864).bind some
        else none
      else none
    else
      some ((t24, t25, t26, t27, t28, t29, ()), (c1000800, c1000864, ()))
def fr4_0 (k : Nat) : Frag := ⟨⟨[], [(21, .ptr 1000800 []), (22, .at 1000864 []), (24, .val (.int .i64)), (25, .val (.int .i64)), (26, .val (.int .i64)), (27, .val (.int .i64)), (28, .val .bool), (29, .val (.int .i64)), (30, .val (.int .i64))], [(1000800, some 52, (.pair (.pair (.sl true 57 (.arr 3 (.int .i64)) none) .unit) (.pair (.int .i64) .unit))), (1000864, none, (.sl true 57 (.arr 3 (.int .i64)) none))]⟩, [(.exit 0, ⟨[], [(21, .ptr 1000800 []), (22, .at 1000864 []), (24, .val (.int .i64)), (25, .val (.int .i64)), (26, .val (.int .i64)), (27, .val (.int .i64)), (28, .val .bool), (29, .val (.int .i64))], [(1000800, some 52, (.pair (.pair (.sl true 57 (.arr 3 (.int .i64)) none) .unit) (.pair (.int .i64) .unit))), (1000864, none, (.sl true 57 (.arr 3 (.int .i64)) none))]⟩)], fun v => F4_0 k k v.1.1 v.1.2.1 v.1.2.2.1 v.1.2.2.2.1 v.1.2.2.2.2.1 v.1.2.2.2.2.2.1 v.1.2.2.2.2.2.2.1 v.2.1 v.2.2.1⟩
def F4_1 (k : Nat) : Nat → Int → Int → Int → Int → Int → (((List (List Int)) × Unit) × (Int × Unit)) → (List (List Int)) → Option (((Int × Int × Int × Unit) × ((((List (List Int)) × Unit) × (Int × Unit)) × (List (List Int)) × Unit)) ⊕ ((Bool × Unit) × Unit))
  | 0, _, _, _, _, _, _, _ => none
  | n + 1, t24, t25, t26, t29, t31, c1000800, c1000864 =>
    bif (decide (t31 ≤ t25)) then
      if 0 ≤ t31 ∧ t31 < ((List.length c1000864 : Nat) : Int) then
        if 0 ≤ t26 ∧ t26 < ((3 : Nat) : Int) then
          let x27 := (List.getD (List.getD c1000864 (Int.toNat t31) ([] : (List Int))) (Int.toNat t26) (0 : Int))
          bif (x27 == t29) then
            some (.inr ((false, ()), ()))
          else
            (F4_1 k n t24 t25 t26 t29 (IntKind.wrap .i64 (t31 + (1 : Int))) c1000800 c1000864).bind some
        else none
      else none
    else
      some (.inl ((t24, t25, t26, ()), (c1000800, c1000864, ())))
def fr4_1 (k : Nat) : Frag := ⟨⟨[], [(21, .ptr 1000800 []), (22, .at 1000864 []), (24, .val (.int .i64)), (25, .val (.int .i64)), (26, .val (.int .i64)), (29, .val (.int .i64)), (31, .val (.int .i64))], [(1000800, some 52, (.pair (.pair (.sl true 57 (.arr 3 (.int .i64)) none) .unit) (.pair (.int .i64) .unit))), (1000864, none, (.sl true 57 (.arr 3 (.int .i64)) none))]⟩, [(.exit 2, ⟨[], [(21, .ptr 1000800 []), (22, .at 1000864 []), (24, .val (.int .i64)), (25, .val (.int .i64)), (26, .val (.int .i64))], [(1000800, some 52, (.pair (.pair (.sl true 57 (.arr 3 (.int .i64)) none) .unit) (.pair (.int .i64) .unit))), (1000864, none, (.sl true 57 (.arr 3 (.int .i64)) none))]⟩), (.ret, ⟨[], [(18, .val .bool)], []⟩)], fun v => F4_1 k k v.1.1 v.1.2.1 v.1.2.2.1 v.1.2.2.2.1 v.1.2.2.2.2.1 v.2.1 v.2.2.1⟩
def F4 (k : Nat) (a0 : Int) (a1 : Int) (a2 : (List Int)) (a3 : (List Int)) (a4 : (List Int)) (a5 : (List Int)) (a6 : Int) (a7 : Int) (a8 : Int) : Option ((Bool × Unit) × Unit) :=
  (F15 k).bind fun r1 =>
  bif (!r1.1.1) then
    some ((false, ()), ())
  else
    (F16 k a0 a1 a2 a3 a4).bind fun r2 =>
    (F17 k a5 []).bind fun r3 =>
    (F22 k r2.1.1 r3.1.1).bind fun r4 =>
    (F18 k r2.1.1 r3.1.1).bind fun r5 =>
    bif (r5.1.2.1 != (0 : Int)) then
      some ((false, ()), ())
    else
      (F23 k r4.1.1).bind fun r6 =>
      let x7 := (r6.1.1 != ((List.length r5.1.1 : Nat) : Int))
      bif x7 then
        some ((false, ()), ())
      else
        let x8 := (((List.length r5.1.1 : Nat) : Int) == (0 : Int))
        bif x8 then
          some ((false, ()), ())
        else
          (F24 k a6 ((List.length r5.1.1 : Nat) : Int)).bind fun r9 =>
          let x10 := (IntKind.wrap .i64 (((List.length r5.1.1 : Nat) : Int) - r9.1.1))
          (F24 k a7 x10).bind fun r11 =>
          (F24 k a8 (3 : Int)).bind fun r12 =>
          (F25 k r6.2.1 r9.1.1 (IntKind.wrap .i64 (r9.1.1 + r11.1.1)) r12.1.1).bind fun r13 =>
          (F4_0 k k r9.1.1 (IntKind.wrap .i64 (r9.1.1 + r11.1.1)) r12.1.1 r13.1.1 r13.1.2.1 (1152921504606846976 : Int) r9.1.1 r13.2.1 r5.1.1).bind fun r16 =>
          let y17 := r16.1.1
          let y18 := r16.1.2.1
          let y19 := r16.1.2.2.1
          let y20 := r16.1.2.2.2.1
          let y21 := r16.1.2.2.2.2.1
          let y22 := r16.1.2.2.2.2.2.1
          let y23 := r16.2.1
          let y24 := r16.2.2.1
          bif (y22 == (1152921504606846976 : Int)) then
            bif (!y21) then
              some (((y20 == (0 : Int)), ()), ())
            else
              some ((false, ()), ())
          else
            bif (!y21) then
              some ((false, ()), ())
            else
              bif (decide (y20 < y17)) then
                some ((false, ()), ())
              else
                bif (decide (y20 > y18)) then
                  some ((false, ()), ())
                else
                  if 0 ≤ y20 ∧ y20 < ((List.length y24 : Nat) : Int) then
                    if 0 ≤ y19 ∧ y19 < ((3 : Nat) : Int) then
                      let x25 := (List.getD (List.getD y24 (Int.toNat y20) ([] : (List Int))) (Int.toNat y19) (0 : Int))
                      bif (x25 != y22) then
                        some ((false, ()), ())
                      else
                        (F4_1 k k y17 y18 y19 y22 (IntKind.wrap .i64 (y20 + (1 : Int))) y23 y24).bind fun r28 =>
                        match r28 with
                        | .inl r29 =>
                          let y30 := r29.1.1
                          let y31 := r29.1.2.1
                          let y32 := r29.1.2.2.1
                          let y33 := r29.2.1
                          let y34 := r29.2.2.1
                          (F25 k y33 (IntKind.wrap .i64 (y31 + (1 : Int))) y31 y32).bind fun r35 =>
                          (F25 k r35.2.1 y30 ((List.length y34 : Nat) : Int) y32).bind fun r36 =>
                          (F25 k r36.2.1 y30 y31 (3 : Int)).bind fun r37 =>
                          bif (!r35.1.2.1) then
                            bif (!r36.1.2.1) then
                              some (((!r37.1.2.1), ()), ())
                            else
                              some ((false, ()), ())
                          else
                            some ((false, ()), ())
                        | .inr r29 =>
                          let y38 := r29.1.1
                          some ((y38, ()), ())
                    else none
                  else none
def sp4 (k : Nat) : Spec := ⟨[.val (.int .i64), .val (.int .i64), .val (.sl false 3 (.int .i64) none), .val (.sl false 3 (.int .i64) none), .val (.sl false 3 (.int .i64) none), .val (.sl false 3 (.int .i64) none), .val (.int .i64), .val (.int .i64), .val (.int .i64)], [.val .bool], fun x => F4 k x.1 x.2.1 x.2.2.1 x.2.2.2.1 x.2.2.2.2.1 x.2.2.2.2.2.1 x.2.2.2.2.2.2.1 x.2.2.2.2.2.2.2.1 x.2.2.2.2.2.2.2.2.1⟩
def lim4 : Lim := ⟨193, 9, false, false⟩
def cfg4 (k : Nat) : Nat → Option Spec := cfgL [(15, sp15 k), (16, sp16 k), (17, sp17 k), (18, sp18 k), (22, sp22 k), (23, sp23 k), (24, sp24 k), (25, sp25 k)]
theorem cfg4_ok (k : Nat) : CfgOK Try.prog (cfg4 k) := cfgL_cons (v15 k) (cfgL_cons (v16 k) (cfgL_cons (v17 k) (cfgL_cons (v18 k) (cfgL_cons (v22 k) (cfgL_cons (v23 k) (cfgL_cons (v24 k) (cfgL_cons (v25 k) (cfgL_nil))))))))
def pl4_0 (k : Nat) : Plan := .go
theorem pq4_0 (k : Nat) : PlanOK Try.prog lim4 (pl4_0 k) (codeAt (bodyOf Try.f4) [.r, .r, .r, .r, .r, .r, .r, .r, .r, .r, .r, .r, .l, .r, .s, .b]) = PlanOK Try.prog lim4 .go (codeAt (bodyOf Try.f4) [.r, .r, .r, .r, .r, .r, .r, .r, .r, .r, .r, .r, .l, .r, .s, .b]) := by kernel_rfl
theorem ps4_0 (k m : Nat) (v : (fr4_0 k).sh.V) : F4_0 k (m + 1) v.1.1 v.1.2.1 v.1.2.2.1 v.1.2.2.2.1 v.1.2.2.2.2.1 v.1.2.2.2.2.2.1 v.1.2.2.2.2.2.2.1 v.2.1 v.2.2.1 = (body Try.prog (stepper Try.prog (cfg4 k) lim4) (pl4_0 k) (codeAt (bodyOf Try.f4) [.r, .r, .r, .r, .r, .r, .r, .r, .r, .r, .r, .r, .l, .r, .s, .b]) ((fr4_0 k).sh.st v) (loopK (fr4_0 k) fun v => F4_0 k m v.1.1 v.1.2.1 v.1.2.2.1 v.1.2.2.2.1 v.1.2.2.2.2.1 v.1.2.2.2.2.2.1 v.1.2.2.2.2.2.2.1 v.2.1 v.2.2.1)).eval := by kernel_rfl
theorem pe4_0 (k m : Nat) (v : (fr4_0 k).sh.V) : (body Try.prog (stepper Try.prog (cfg4 k) lim4) (pl4_0 k) (codeAt (bodyOf Try.f4) [.r, .r, .r, .r, .r, .r, .r, .r, .r, .r, .r, .r, .l, .r, .s, .b]) ((fr4_0 k).sh.st v) (loopK (fr4_0 k) fun v => F4_0 k m v.1.1 v.1.2.1 v.1.2.2.1 v.1.2.2.2.1 v.1.2.2.2.2.1 v.1.2.2.2.2.2.1 v.1.2.2.2.2.2.2.1 v.2.1 v.2.2.1)).left = (body Try.prog (stepper Try.prog (cfg4 k) lim4) (pl4_0 k) (codeAt (bodyOf Try.f4) [.r, .r, .r, .r, .r, .r, .r, .r, .r, .r, .r, .r, .l, .r, .s, .b]) ((fr4_0 k).sh.st v) (loopK (fr4_0 k) fun v => F4_0 k m v.1.1 v.1.2.1 v.1.2.2.1 v.1.2.2.2.1 v.1.2.2.2.2.1 v.1.2.2.2.2.2.1 v.1.2.2.2.2.2.2.1 v.2.1 v.2.2.1)).right := by kernel_rfl
theorem fr4_0_ok (k : Nat) : FragOK Try.prog lim4 (fr4_0 k) (codeAt (bodyOf Try.f4) [.r, .r, .r, .r, .r, .r, .r, .r, .r, .r, .r, .r, .l, .r, .s]) :=
  frag_cast (by kernel_rfl) (loop_ok (cfg4_ok k) (Eq.mpr (pq4_0 k) (planOK_go _)) (fun m v => F4_0 k m v.1.1 v.1.2.1 v.1.2.2.1 v.1.2.2.2.1 v.1.2.2.2.2.1 v.1.2.2.2.2.2.1 v.1.2.2.2.2.2.2.1 v.2.1 v.2.2.1) k (fun _ => rfl) (fun _ => rfl) fun m v => ⟨ps4_0 k m v, pe4_0 k m v⟩)
def pl4_1 (k : Nat) : Plan := .go
theorem pq4_1 (k : Nat) : PlanOK Try.prog lim4 (pl4_1 k) (codeAt (bodyOf Try.f4) [.r, .r, .r, .r, .r, .r, .r, .r, .r, .r, .r, .r, .r, .r, .r, .l, .r, .s, .b]) = PlanOK Try.prog lim4 .go (codeAt (bodyOf Try.f4) [.r, .r, .r, .r, .r, .r, .r, .r, .r, .r, .r, .r, .r, .r, .r, .l, .r, .s, .b]) := by kernel_rfl
theorem ps4_1 (k m : Nat) (v : (fr4_1 k).sh.V) : F4_1 k (m + 1) v.1.1 v.1.2.1 v.1.2.2.1 v.1.2.2.2.1 v.1.2.2.2.2.1 v.2.1 v.2.2.1 = (body Try.prog (stepper Try.prog (cfg4 k) lim4) (pl4_1 k) (codeAt (bodyOf Try.f4) [.r, .r, .r, .r, .r, .r, .r, .r, .r, .r, .r, .r, .r, .r, .r, .l, .r, .s, .b]) ((fr4_1 k).sh.st v) (loopK (fr4_1 k) fun v => F4_1 k m v.1.1 v.1.2.1 v.1.2.2.1 v.1.2.2.2.1 v.1.2.2.2.2.1 v.2.1 v.2.2.1)).eval := by kernel_rfl
theorem pe4_1 (k m : Nat) (v : (fr4_1 k).sh.V) : (body Try.prog (stepper Try.prog (cfg4 k) lim4) (pl4_1 k) (codeAt (bodyOf Try.f4) [.r, .r, .r, .r, .r, .r, .r, .r, .r, .r, .r, .r, .r, .r, .r, .l, .r, .s, .b]) ((fr4_1 k).sh.st v) (loopK (fr4_1 k) fun v => F4_1 k m v.1.1 v.1.2.1 v.1.2.2.1 v.1.2.2.2.1 v.1.2.2.2.2.1 v.2.1 v.2.2.1)).left = (body Try.prog (stepper Try.prog (cfg4 k) lim4) (pl4_1 k) (codeAt (bodyOf Try.f4) [.r, .r, .r, .r, .r, .r, .r, .r, .r, .r, .r, .r, .r, .r, .r, .l, .r, .s, .b]) ((fr4_1 k).sh.st v) (loopK (fr4_1 k) fun v => F4_1 k m v.1.1 v.1.2.1 v.1.2.2.1 v.1.2.2.2.1 v.1.2.2.2.2.1 v.2.1 v.2.2.1)).right := by kernel_rfl
theorem fr4_1_ok (k : Nat) : FragOK Try.prog lim4 (fr4_1 k) (codeAt (bodyOf Try.f4) [.r, .r, .r, .r, .r, .r, .r, .r, .r, .r, .r, .r, .r, .r, .r, .l, .r, .s]) :=
  frag_cast (by kernel_rfl) (loop_ok (cfg4_ok k) (Eq.mpr (pq4_1 k) (planOK_go _)) (fun m v => F4_1 k m v.1.1 v.1.2.1 v.1.2.2.1 v.1.2.2.2.1 v.1.2.2.2.2.1 v.2.1 v.2.2.1) k (fun _ => rfl) (fun _ => rfl) fun m v => ⟨ps4_1 k m v, pe4_1 k m v⟩)
def pl4 (k : Nat) : Plan := (.seq .go (.seq .go (.seq .go (.seq .go (.seq .go (.seq .go (.seq .go (.seq .go (.seq .go (.seq .go (.seq .go (.seq .go (.seq (.seq .go (.sub (.frag (fr4_0 k)))) (.seq .go (.seq .go (.seq (.seq .go (.sub (.frag (fr4_1 k)))) .go))))))))))))))))
theorem pq4 (k : Nat) : PlanOK Try.prog lim4 (pl4 k) (codeAt (bodyOf Try.f4) []) = (PlanOK Try.prog lim4 .go (codeAt (bodyOf Try.f4) [.l]) ∧ (PlanOK Try.prog lim4 .go (codeAt (bodyOf Try.f4) [.r, .l]) ∧ (PlanOK Try.prog lim4 .go (codeAt (bodyOf Try.f4) [.r, .r, .l]) ∧ (PlanOK Try.prog lim4 .go (codeAt (bodyOf Try.f4) [.r, .r, .r, .l]) ∧ (PlanOK Try.prog lim4 .go (codeAt (bodyOf Try.f4) [.r, .r, .r, .r, .l]) ∧ (PlanOK Try.prog lim4 .go (codeAt (bodyOf Try.f4) [.r, .r, .r, .r, .r, .l]) ∧ (PlanOK Try.prog lim4 .go (codeAt (bodyOf Try.f4) [.r, .r, .r, .r, .r, .r, .l]) ∧ (PlanOK Try.prog lim4 .go (codeAt (bodyOf Try.f4) [.r, .r, .r, .r, .r, .r, .r, .l]) ∧ (PlanOK Try.prog lim4 .go (codeAt (bodyOf Try.f4) [.r, .r, .r, .r, .r, .r, .r, .r, .l]) ∧ (PlanOK Try.prog lim4 .go (codeAt (bodyOf Try.f4) [.r, .r, .r, .r, .r, .r, .r, .r, .r, .l]) ∧ (PlanOK Try.prog lim4 .go (codeAt (bodyOf Try.f4) [.r, .r, .r, .r, .r, .r, .r, .r, .r, .r, .l]) ∧ (PlanOK Try.prog lim4 .go (codeAt (bodyOf Try.f4) [.r, .r, .r, .r, .r, .r, .r, .r, .r, .r, .r, .l]) ∧ ((PlanOK Try.prog lim4 .go (codeAt (bodyOf Try.f4) [.r, .r, .r, .r, .r, .r, .r, .r, .r, .r, .r, .r, .l, .l]) ∧ FragOK Try.prog lim4 (fr4_0 k) (codeAt (bodyOf Try.f4) [.r, .r, .r, .r, .r, .r, .r, .r, .r, .r, .r, .r, .l, .r, .s])) ∧ (PlanOK Try.prog lim4 .go (codeAt (bodyOf Try.f4) [.r, .r, .r, .r, .r, .r, .r, .r, .r, .r, .r, .r, .r, .l]) ∧ (PlanOK Try.prog lim4 .go (codeAt (bodyOf Try.f4) [.r, .r, .r, .r, .r, .r, .r, .r, .r, .r, .r, .r, .r, .r, .l]) ∧ ((PlanOK Try.prog lim4 .go (codeAt (bodyOf Try.f4) [.r, .r, .r, .r, .r, .r, .r, .r, .r, .r, .r, .r, .r, .r, .r, .l, .l]) ∧ FragOK Try.prog lim4 (fr4_1 k) (codeAt (bodyOf Try.f4) [.r, .r, .r, .r, .r, .r, .r, .r, .r, .r, .r, .r, .r, .r, .r, .l, .r, .s])) ∧ PlanOK Try.prog lim4 .go (codeAt (bodyOf Try.f4) [.r, .r, .r, .r, .r, .r, .r, .r, .r, .r, .r, .r, .r, .r, .r, .r]))))))))))))))))) := by kernel_rfl
theorem ev4 (k : Nat) (x : AT (sp4 k).ps) : (sp4 k).impl x = (fnT Try.prog (cfg4 k) lim4 Try.f4 (bodyOf Try.f4) (pl4 k) (sp4 k) x).eval := by kernel_rfl
theorem eq4 (k : Nat) (x : AT (sp4 k).ps) : (fnT Try.prog (cfg4 k) lim4 Try.f4 (bodyOf Try.f4) (pl4 k) (sp4 k) x).left = (fnT Try.prog (cfg4 k) lim4 Try.f4 (bodyOf Try.f4) (pl4 k) (sp4 k) x).right := by kernel_rfl
theorem v4 (k : Nat) : Callable Try.prog 4 ∧ Valid Try.prog 4 (sp4 k) :=
  fn_ok (cfg4_ok k) (f := 4) (fn := Try.f4) (by kernel_rfl) (c := bodyOf Try.f4) (by kernel_rfl) (by kernel_rfl) rfl rfl (Nat.le_of_ble_eq_true rfl) (Nat.le_of_ble_eq_true rfl) (p := pl4 k) (Eq.mpr (pq4 k) ⟨(planOK_go _), ⟨(planOK_go _), ⟨(planOK_go _), ⟨(planOK_go _), ⟨(planOK_go _), ⟨(planOK_go _), ⟨(planOK_go _), ⟨(planOK_go _), ⟨(planOK_go _), ⟨(planOK_go _), ⟨(planOK_go _), ⟨(planOK_go _), ⟨⟨(planOK_go _), (fr4_0_ok k)⟩, ⟨(planOK_go _), ⟨(planOK_go _), ⟨⟨(planOK_go _), (fr4_1_ok k)⟩, (planOK_go _)⟩⟩⟩⟩⟩⟩⟩⟩⟩⟩⟩⟩⟩⟩⟩⟩) fun x => ⟨ev4 k x, eq4 k x⟩
/-! f27 hyphen/hyphenref2.Scalar -/
def F27 (k : Nat) (a0 : Int) : Option ((Bool × Unit) × Unit) :=
  bif (decide (a0 ≥ (0 : Int))) then
    bif (decide (a0 ≤ (1114111 : Int))) then
      bif (decide (a0 < (55296 : Int))) then
        some ((true, ()), ())
      else
        some (((decide (a0 > (57343 : Int))), ()), ())
    else
      some ((false, ()), ())
  else
    some ((false, ()), ())
def sp27 (k : Nat) : Spec := ⟨[.val (.int .i64)], [.val .bool], fun x => F27 k x.1⟩
def lim27 : Lim := ⟨17, 1, false, false⟩
def cfg27 (k : Nat) : Nat → Option Spec := cfgL []
theorem cfg27_ok (k : Nat) : CfgOK Try.prog (cfg27 k) := cfgL_nil
def pl27 (k : Nat) : Plan := .go
theorem pq27 (k : Nat) : PlanOK Try.prog lim27 (pl27 k) (codeAt (bodyOf Try.f27) []) = PlanOK Try.prog lim27 .go (codeAt (bodyOf Try.f27) []) := by kernel_rfl
theorem ev27 (k : Nat) (x : AT (sp27 k).ps) : (sp27 k).impl x = (fnT Try.prog (cfg27 k) lim27 Try.f27 (bodyOf Try.f27) (pl27 k) (sp27 k) x).eval := by kernel_rfl
theorem eq27 (k : Nat) (x : AT (sp27 k).ps) : (fnT Try.prog (cfg27 k) lim27 Try.f27 (bodyOf Try.f27) (pl27 k) (sp27 k) x).left = (fnT Try.prog (cfg27 k) lim27 Try.f27 (bodyOf Try.f27) (pl27 k) (sp27 k) x).right := by kernel_rfl
theorem v27 (k : Nat) : Callable Try.prog 27 ∧ Valid Try.prog 27 (sp27 k) :=
  fn_ok (cfg27_ok k) (f := 27) (fn := Try.f27) (by kernel_rfl) (c := bodyOf Try.f27) (by kernel_rfl) (by kernel_rfl) rfl rfl (Nat.le_of_ble_eq_true rfl) (Nat.le_of_ble_eq_true rfl) (p := pl27 k) (Eq.mpr (pq27 k) (planOK_go _)) fun x => ⟨ev27 k x, eq27 k x⟩
/-! f1056 hyphen/hyphenref2.one -/
def F1056 (k : Nat) (a0 : Int) : Option ((ByteArray × Unit) × Unit) :=
  (F27 k a0).bind fun r1 =>
  bif (!r1.1.1) then
    none
  else
    bif (decide (a0 < (128 : Int))) then
      let x2 := (List.set (List.replicate 1 (0 : Int)) 0 (IntKind.wrap .u8 a0))
      if List.length x2 ≤ 9223372036854775807 then
        some (((bstr x2), ()), ())
      else none
    else
      bif (decide (a0 < (2048 : Int))) then
        let x3 := (Int.fdiv a0 (2 ^ (min (Int.toNat (6 : Int)) (IntKind.bits .i64))))
        let x4 := (IntKind.wrap .i64 (((BitVec.ofInt (IntKind.bits .i64) (192 : Int) ||| BitVec.ofInt (IntKind.bits .i64) x3).toNat : Nat) : Int))
        let x5 := (IntKind.wrap .i64 (((BitVec.ofInt (IntKind.bits .i64) a0 &&& BitVec.ofInt (IntKind.bits .i64) (63 : Int)).toNat : Nat) : Int))
        let x6 := (IntKind.wrap .i64 (((BitVec.ofInt (IntKind.bits .i64) (128 : Int) ||| BitVec.ofInt (IntKind.bits .i64) x5).toNat : Nat) : Int))
        let x7 := (List.set (List.set (List.replicate 2 (0 : Int)) 0 (IntKind.wrap .u8 x4)) 1 (IntKind.wrap .u8 x6))
        if List.length x7 ≤ 9223372036854775807 then
          some (((bstr x7), ()), ())
        else none
      else
        bif (decide (a0 < (65536 : Int))) then
          let x8 := (Int.fdiv a0 (2 ^ (min (Int.toNat (12 : Int)) (IntKind.bits .i64))))
          let x9 := (IntKind.wrap .i64 (((BitVec.ofInt (IntKind.bits .i64) (224 : Int) ||| BitVec.ofInt (IntKind.bits .i64) x8).toNat : Nat) : Int))
          let x10 := (Int.fdiv a0 (2 ^ (min (Int.toNat (6 : Int)) (IntKind.bits .i64))))
          let x11 := (IntKind.wrap .i64 (((BitVec.ofInt (IntKind.bits .i64) x10 &&& BitVec.ofInt (IntKind.bits .i64) (63 : Int)).toNat : Nat) : Int))
          let x12 := (IntKind.wrap .i64 (((BitVec.ofInt (IntKind.bits .i64) (128 : Int) ||| BitVec.ofInt (IntKind.bits .i64) x11).toNat : Nat) : Int))
          let x13 := (IntKind.wrap .i64 (((BitVec.ofInt (IntKind.bits .i64) a0 &&& BitVec.ofInt (IntKind.bits .i64) (63 : Int)).toNat : Nat) : Int))
          let x14 := (IntKind.wrap .i64 (((BitVec.ofInt (IntKind.bits .i64) (128 : Int) ||| BitVec.ofInt (IntKind.bits .i64) x13).toNat : Nat) : Int))
          let x15 := (List.set (List.set (List.set (List.replicate 3 (0 : Int)) 0 (IntKind.wrap .u8 x9)) 1 (IntKind.wrap .u8 x12)) 2 (IntKind.wrap .u8 x14))
          if List.length x15 ≤ 9223372036854775807 then
            some (((bstr x15), ()), ())
          else none
        else
          let x16 := (Int.fdiv a0 (2 ^ (min (Int.toNat (18 : Int)) (IntKind.bits .i64))))
          let x17 := (IntKind.wrap .i64 (((BitVec.ofInt (IntKind.bits .i64) (240 : Int) ||| BitVec.ofInt (IntKind.bits .i64) x16).toNat : Nat) : Int))
          let x18 := (Int.fdiv a0 (2 ^ (min (Int.toNat (12 : Int)) (IntKind.bits .i64))))
          let x19 := (IntKind.wrap .i64 (((BitVec.ofInt (IntKind.bits .i64) x18 &&& BitVec.ofInt (IntKind.bits .i64) (63 : Int)).toNat : Nat) : Int))
          let x20 := (IntKind.wrap .i64 (((BitVec.ofInt (IntKind.bits .i64) (128 : Int) ||| BitVec.ofInt (IntKind.bits .i64) x19).toNat : Nat) : Int))
          let x21 := (Int.fdiv a0 (2 ^ (min (Int.toNat (6 : Int)) (IntKind.bits .i64))))
          let x22 := (IntKind.wrap .i64 (((BitVec.ofInt (IntKind.bits .i64) x21 &&& BitVec.ofInt (IntKind.bits .i64) (63 : Int)).toNat : Nat) : Int))
          let x23 := (IntKind.wrap .i64 (((BitVec.ofInt (IntKind.bits .i64) (128 : Int) ||| BitVec.ofInt (IntKind.bits .i64) x22).toNat : Nat) : Int))
          let x24 := (IntKind.wrap .i64 (((BitVec.ofInt (IntKind.bits .i64) a0 &&& BitVec.ofInt (IntKind.bits .i64) (63 : Int)).toNat : Nat) : Int))
          let x25 := (IntKind.wrap .i64 (((BitVec.ofInt (IntKind.bits .i64) (128 : Int) ||| BitVec.ofInt (IntKind.bits .i64) x24).toNat : Nat) : Int))
          let x26 := (List.set (List.set (List.set (List.set (List.replicate 4 (0 : Int)) 0 (IntKind.wrap .u8 x17)) 1 (IntKind.wrap .u8 x20)) 2 (IntKind.wrap .u8 x23)) 3 (IntKind.wrap .u8 x25))
          if List.length x26 ≤ 9223372036854775807 then
            some (((bstr x26), ()), ())
          else none
def sp1056 (k : Nat) : Spec := ⟨[.val (.int .i64)], [.val .str], fun x => F1056 k x.1⟩
def lim1056 : Lim := ⟨66, 1, false, false⟩
def cfg1056 (k : Nat) : Nat → Option Spec := cfgL [(27, sp27 k)]
theorem cfg1056_ok (k : Nat) : CfgOK Try.prog (cfg1056 k) := cfgL_cons (v27 k) (cfgL_nil)
def pl1056 (k : Nat) : Plan := .go
theorem pq1056 (k : Nat) : PlanOK Try.prog lim1056 (pl1056 k) (codeAt (bodyOf Try.f56) []) = PlanOK Try.prog lim1056 .go (codeAt (bodyOf Try.f56) []) := by kernel_rfl
theorem ev1056 (k : Nat) (x : AT (sp1056 k).ps) : (sp1056 k).impl x = (fnT Try.prog (cfg1056 k) lim1056 Try.f56 (bodyOf Try.f56) (pl1056 k) (sp1056 k) x).eval := by kernel_rfl
theorem eq1056 (k : Nat) (x : AT (sp1056 k).ps) : (fnT Try.prog (cfg1056 k) lim1056 Try.f56 (bodyOf Try.f56) (pl1056 k) (sp1056 k) x).left = (fnT Try.prog (cfg1056 k) lim1056 Try.f56 (bodyOf Try.f56) (pl1056 k) (sp1056 k) x).right := by kernel_rfl
theorem v1056 (k : Nat) : Callable Try.prog 56 ∧ Valid Try.prog 56 (sp1056 k) :=
  fn_ok (cfg1056_ok k) (f := 56) (fn := Try.f56) (by kernel_rfl) (c := bodyOf Try.f56) (by kernel_rfl) (by kernel_rfl) rfl rfl (Nat.le_of_ble_eq_true rfl) (Nat.le_of_ble_eq_true rfl) (p := pl1056 k) (Eq.mpr (pq1056 k) (planOK_go _)) fun x => ⟨ev1056 k x, eq1056 k x⟩
/-! f56 hyphen/hyphenref2.one -/
def F56 (k : Nat) (a0 : Int) : Option ((ByteArray × Unit) × Unit) :=
  (F27 k a0).bind fun r1 =>
  bif (!r1.1.1) then
    (F1056 k (65533 : Int)).bind fun r2 =>
    some ((r2.1.1, ()), ())
  else
    bif (decide (a0 < (128 : Int))) then
      let x3 := (List.set (List.replicate 1 (0 : Int)) 0 (IntKind.wrap .u8 a0))
      if List.length x3 ≤ 9223372036854775807 then
        some (((bstr x3), ()), ())
      else none
    else
      bif (decide (a0 < (2048 : Int))) then
        let x4 := (Int.fdiv a0 (2 ^ (min (Int.toNat (6 : Int)) (IntKind.bits .i64))))
        let x5 := (IntKind.wrap .i64 (((BitVec.ofInt (IntKind.bits .i64) (192 : Int) ||| BitVec.ofInt (IntKind.bits .i64) x4).toNat : Nat) : Int))
        let x6 := (IntKind.wrap .i64 (((BitVec.ofInt (IntKind.bits .i64) a0 &&& BitVec.ofInt (IntKind.bits .i64) (63 : Int)).toNat : Nat) : Int))
        let x7 := (IntKind.wrap .i64 (((BitVec.ofInt (IntKind.bits .i64) (128 : Int) ||| BitVec.ofInt (IntKind.bits .i64) x6).toNat : Nat) : Int))
        let x8 := (List.set (List.set (List.replicate 2 (0 : Int)) 0 (IntKind.wrap .u8 x5)) 1 (IntKind.wrap .u8 x7))
        if List.length x8 ≤ 9223372036854775807 then
          some (((bstr x8), ()), ())
        else none
      else
        bif (decide (a0 < (65536 : Int))) then
          let x9 := (Int.fdiv a0 (2 ^ (min (Int.toNat (12 : Int)) (IntKind.bits .i64))))
          let x10 := (IntKind.wrap .i64 (((BitVec.ofInt (IntKind.bits .i64) (224 : Int) ||| BitVec.ofInt (IntKind.bits .i64) x9).toNat : Nat) : Int))
          let x11 := (Int.fdiv a0 (2 ^ (min (Int.toNat (6 : Int)) (IntKind.bits .i64))))
          let x12 := (IntKind.wrap .i64 (((BitVec.ofInt (IntKind.bits .i64) x11 &&& BitVec.ofInt (IntKind.bits .i64) (63 : Int)).toNat : Nat) : Int))
          let x13 := (IntKind.wrap .i64 (((BitVec.ofInt (IntKind.bits .i64) (128 : Int) ||| BitVec.ofInt (IntKind.bits .i64) x12).toNat : Nat) : Int))
          let x14 := (IntKind.wrap .i64 (((BitVec.ofInt (IntKind.bits .i64) a0 &&& BitVec.ofInt (IntKind.bits .i64) (63 : Int)).toNat : Nat) : Int))
          let x15 := (IntKind.wrap .i64 (((BitVec.ofInt (IntKind.bits .i64) (128 : Int) ||| BitVec.ofInt (IntKind.bits .i64) x14).toNat : Nat) : Int))
          let x16 := (List.set (List.set (List.set (List.replicate 3 (0 : Int)) 0 (IntKind.wrap .u8 x10)) 1 (IntKind.wrap .u8 x13)) 2 (IntKind.wrap .u8 x15))
          if List.length x16 ≤ 9223372036854775807 then
            some (((bstr x16), ()), ())
          else none
        else
          let x17 := (Int.fdiv a0 (2 ^ (min (Int.toNat (18 : Int)) (IntKind.bits .i64))))
          let x18 := (IntKind.wrap .i64 (((BitVec.ofInt (IntKind.bits .i64) (240 : Int) ||| BitVec.ofInt (IntKind.bits .i64) x17).toNat : Nat) : Int))
          let x19 := (Int.fdiv a0 (2 ^ (min (Int.toNat (12 : Int)) (IntKind.bits .i64))))
          let x20 := (IntKind.wrap .i64 (((BitVec.ofInt (IntKind.bits .i64) x19 &&& BitVec.ofInt (IntKind.bits .i64) (63 : Int)).toNat : Nat) : Int))
          let x21 := (IntKind.wrap .i64 (((BitVec.ofInt (IntKind.bits .i64) (128 : Int) ||| BitVec.ofInt (IntKind.bits .i64) x20).toNat : Nat) : Int))
          let x22 := (Int.fdiv a0 (2 ^ (min (Int.toNat (6 : Int)) (IntKind.bits .i64))))
          let x23 := (IntKind.wrap .i64 (((BitVec.ofInt (IntKind.bits .i64) x22 &&& BitVec.ofInt (IntKind.bits .i64) (63 : Int)).toNat : Nat) : Int))
          let x24 := (IntKind.wrap .i64 (((BitVec.ofInt (IntKind.bits .i64) (128 : Int) ||| BitVec.ofInt (IntKind.bits .i64) x23).toNat : Nat) : Int))
          let x25 := (IntKind.wrap .i64 (((BitVec.ofInt (IntKind.bits .i64) a0 &&& BitVec.ofInt (IntKind.bits .i64) (63 : Int)).toNat : Nat) : Int))
          let x26 := (IntKind.wrap .i64 (((BitVec.ofInt (IntKind.bits .i64) (128 : Int) ||| BitVec.ofInt (IntKind.bits .i64) x25).toNat : Nat) : Int))
          let x27 := (List.set (List.set (List.set (List.set (List.replicate 4 (0 : Int)) 0 (IntKind.wrap .u8 x18)) 1 (IntKind.wrap .u8 x21)) 2 (IntKind.wrap .u8 x24)) 3 (IntKind.wrap .u8 x26))
          if List.length x27 ≤ 9223372036854775807 then
            some (((bstr x27), ()), ())
          else none
def sp56 (k : Nat) : Spec := ⟨[.val (.int .i64)], [.val .str], fun x => F56 k x.1⟩
def lim56 : Lim := ⟨66, 1, false, false⟩
def cfg56 (k : Nat) : Nat → Option Spec := cfgL [(27, sp27 k), (56, sp1056 k)]
theorem cfg56_ok (k : Nat) : CfgOK Try.prog (cfg56 k) := cfgL_cons (v27 k) (cfgL_cons (v1056 k) (cfgL_nil))
def pl56 (k : Nat) : Plan := .go
theorem pq56 (k : Nat) : PlanOK Try.prog lim56 (pl56 k) (codeAt (bodyOf Try.f56) []) = PlanOK Try.prog lim56 .go (codeAt (bodyOf Try.f56) []) := by kernel_rfl
theorem ev56 (k : Nat) (x : AT (sp56 k).ps) : (sp56 k).impl x = (fnT Try.prog (cfg56 k) lim56 Try.f56 (bodyOf Try.f56) (pl56 k) (sp56 k) x).eval := by kernel_rfl
theorem eq56 (k : Nat) (x : AT (sp56 k).ps) : (fnT Try.prog (cfg56 k) lim56 Try.f56 (bodyOf Try.f56) (pl56 k) (sp56 k) x).left = (fnT Try.prog (cfg56 k) lim56 Try.f56 (bodyOf Try.f56) (pl56 k) (sp56 k) x).right := by kernel_rfl
theorem v56 (k : Nat) : Callable Try.prog 56 ∧ Valid Try.prog 56 (sp56 k) :=
  fn_ok (cfg56_ok k) (f := 56) (fn := Try.f56) (by kernel_rfl) (c := bodyOf Try.f56) (by kernel_rfl) (by kernel_rfl) rfl rfl (Nat.le_of_ble_eq_true rfl) (Nat.le_of_ble_eq_true rfl) (p := pl56 k) (Eq.mpr (pq56 k) (planOK_go _)) fun x => ⟨ev56 k x, eq56 k x⟩
/-! f26 hyphen/hyphenref2.Encode -/
def F26_0 (k : Nat) : Nat → (List Int) → ByteArray → Int → Option (((ByteArray × Unit) × Unit))
  | 0, _, _, _ => none
  | n + 1, t0, t3, t4 =>
    let x3 := (decide (t4 < ((List.length t0 : Nat) : Int)))
    bif x3 then
      if 0 ≤ t4 ∧ t4 < ((List.length t0 : Nat) : Int) then
        (F56 k (List.getD t0 (Int.toNat t4) (0 : Int))).bind fun r4 =>
        if ByteArray.size t3 + ByteArray.size r4.1.1 ≤ 9223372036854775807 then
          (F26_0 k n t0 (t3 ++ r4.1.1) (IntKind.wrap .i64 (t4 + (1 : Int)))).bind some
        else none
      else none
    else
      some ((t3, ()), ())
def fr26_0 (k : Nat) : Frag := ⟨⟨[], [(0, .val (.sl false 3 (.int .i64) none)), (3, .val .str), (4, .val (.int .i64))], []⟩, [(.exit 0, ⟨[], [(3, .val .str)], []⟩)], fun v => F26_0 k k v.1.1 v.1.2.1 v.1.2.2.1⟩
def F26 (k : Nat) (a0 : (List Int)) : Option ((ByteArray × Unit) × Unit) :=
  (F26_0 k k a0 (⟨#[]⟩ : ByteArray) (0 : Int)).bind fun r5 =>
  let y6 := r5.1.1
  some ((y6, ()), ())
def sp26 (k : Nat) : Spec := ⟨[.val (.sl false 3 (.int .i64) none)], [.val .str], fun x => F26 k x.1⟩
def lim26 : Lim := ⟨19, 1, false, false⟩
def cfg26 (k : Nat) : Nat → Option Spec := cfgL [(56, sp56 k)]
theorem cfg26_ok (k : Nat) : CfgOK Try.prog (cfg26 k) := cfgL_cons (v56 k) (cfgL_nil)
def pl26_0 (k : Nat) : Plan := .go
theorem pq26_0 (k : Nat) : PlanOK Try.prog lim26 (pl26_0 k) (codeAt (bodyOf Try.f26) [.r, .r, .l, .r, .s, .b]) = PlanOK Try.prog lim26 .go (codeAt (bodyOf Try.f26) [.r, .r, .l, .r, .s, .b]) := by kernel_rfl
theorem ps26_0 (k m : Nat) (v : (fr26_0 k).sh.V) : F26_0 k (m + 1) v.1.1 v.1.2.1 v.1.2.2.1 = (body Try.prog (stepper Try.prog (cfg26 k) lim26) (pl26_0 k) (codeAt (bodyOf Try.f26) [.r, .r, .l, .r, .s, .b]) ((fr26_0 k).sh.st v) (loopK (fr26_0 k) fun v => F26_0 k m v.1.1 v.1.2.1 v.1.2.2.1)).eval := by kernel_rfl
theorem pe26_0 (k m : Nat) (v : (fr26_0 k).sh.V) : (body Try.prog (stepper Try.prog (cfg26 k) lim26) (pl26_0 k) (codeAt (bodyOf Try.f26) [.r, .r, .l, .r, .s, .b]) ((fr26_0 k).sh.st v) (loopK (fr26_0 k) fun v => F26_0 k m v.1.1 v.1.2.1 v.1.2.2.1)).left = (body Try.prog (stepper Try.prog (cfg26 k) lim26) (pl26_0 k) (codeAt (bodyOf Try.f26) [.r, .r, .l, .r, .s, .b]) ((fr26_0 k).sh.st v) (loopK (fr26_0 k) fun v => F26_0 k m v.1.1 v.1.2.1 v.1.2.2.1)).right := by kernel_rfl
theorem fr26_0_ok (k : Nat) : FragOK Try.prog lim26 (fr26_0 k) (codeAt (bodyOf Try.f26) [.r, .r, .l, .r, .s]) :=
  frag_cast (by kernel_rfl) (loop_ok (cfg26_ok k) (Eq.mpr (pq26_0 k) (planOK_go _)) (fun m v => F26_0 k m v.1.1 v.1.2.1 v.1.2.2.1) k (fun _ => rfl) (fun _ => rfl) fun m v => ⟨ps26_0 k m v, pe26_0 k m v⟩)
def pl26 (k : Nat) : Plan := (.seq .go (.seq .go (.seq (.seq .go (.sub (.frag (fr26_0 k)))) .go)))
theorem pq26 (k : Nat) : PlanOK Try.prog lim26 (pl26 k) (codeAt (bodyOf Try.f26) []) = (PlanOK Try.prog lim26 .go (codeAt (bodyOf Try.f26) [.l]) ∧ (PlanOK Try.prog lim26 .go (codeAt (bodyOf Try.f26) [.r, .l]) ∧ ((PlanOK Try.prog lim26 .go (codeAt (bodyOf Try.f26) [.r, .r, .l, .l]) ∧ FragOK Try.prog lim26 (fr26_0 k) (codeAt (bodyOf Try.f26) [.r, .r, .l, .r, .s])) ∧ PlanOK Try.prog lim26 .go (codeAt (bodyOf Try.f26) [.r, .r, .r])))) := by kernel_rfl
theorem ev26 (k : Nat) (x : AT (sp26 k).ps) : (sp26 k).impl x = (fnT Try.prog (cfg26 k) lim26 Try.f26 (bodyOf Try.f26) (pl26 k) (sp26 k) x).eval := by kernel_rfl
theorem eq26 (k : Nat) (x : AT (sp26 k).ps) : (fnT Try.prog (cfg26 k) lim26 Try.f26 (bodyOf Try.f26) (pl26 k) (sp26 k) x).left = (fnT Try.prog (cfg26 k) lim26 Try.f26 (bodyOf Try.f26) (pl26 k) (sp26 k) x).right := by kernel_rfl
theorem v26 (k : Nat) : Callable Try.prog 26 ∧ Valid Try.prog 26 (sp26 k) :=
  fn_ok (cfg26_ok k) (f := 26) (fn := Try.f26) (by kernel_rfl) (c := bodyOf Try.f26) (by kernel_rfl) (by kernel_rfl) rfl rfl (Nat.le_of_ble_eq_true rfl) (Nat.le_of_ble_eq_true rfl) (p := pl26 k) (Eq.mpr (pq26 k) ⟨(planOK_go _), ⟨(planOK_go _), ⟨⟨(planOK_go _), (fr26_0_ok k)⟩, (planOK_go _)⟩⟩⟩) fun x => ⟨ev26 k x, eq26 k x⟩
/-! f5 hyphen/hyphenlaw13.SegBad -/
def F5 (k : Nat) (a0 : Int) (a1 : Int) (a2 : (List Int)) (a3 : (List Int)) (a4 : (List Int)) (a5 : (List Int)) (a6 : (List Int)) : Option ((Bool × Unit) × Unit) :=
  (F15 k).bind fun r1 =>
  bif (!r1.1.1) then
    some ((false, ()), ())
  else
    let x2 := (decide (((List.length a6 : Nat) : Int) > (100 : Int)))
    bif x2 then
      some ((true, ()), ())
    else
      (F16 k a0 a1 a2 a3 a4).bind fun r3 =>
      (F17 k a5 a6).bind fun r4 =>
      (F20 k r4.1.1).bind fun r5 =>
      (F18 k r3.1.1 r4.1.1).bind fun r6 =>
      (F26 k r5.1.1).bind fun r7 =>
      (F18 k r3.1.1 r7.1.1).bind fun r8 =>
      bif (r6.1.2.1 == (0 : Int)) then
        bif (r8.1.2.1 == (0 : Int)) then
          (F21 k r6.1.1 r8.1.1).bind fun r9 =>
          some ((r9.1.1, ()), ())
        else
          some ((false, ()), ())
      else
        some ((false, ()), ())
def sp5 (k : Nat) : Spec := ⟨[.val (.int .i64), .val (.int .i64), .val (.sl false 3 (.int .i64) none), .val (.sl false 3 (.int .i64) none), .val (.sl false 3 (.int .i64) none), .val (.sl false 3 (.int .i64) none), .val (.sl false 5 (.int .u8) none)], [.val .bool], fun x => F5 k x.1 x.2.1 x.2.2.1 x.2.2.2.1 x.2.2.2.2.1 x.2.2.2.2.2.1 x.2.2.2.2.2.2.1⟩
def lim5 : Lim := ⟨66, 7, false, false⟩
def cfg5 (k : Nat) : Nat → Option Spec := cfgL [(15, sp15 k), (16, sp16 k), (17, sp17 k), (18, sp18 k), (20, sp20 k), (21, sp21 k), (26, sp26 k)]
theorem cfg5_ok (k : Nat) : CfgOK Try.prog (cfg5 k) := cfgL_cons (v15 k) (cfgL_cons (v16 k) (cfgL_cons (v17 k) (cfgL_cons (v18 k) (cfgL_cons (v20 k) (cfgL_cons (v21 k) (cfgL_cons (v26 k) (cfgL_nil)))))))
def pl5 (k : Nat) : Plan := .go
theorem pq5 (k : Nat) : PlanOK Try.prog lim5 (pl5 k) (codeAt (bodyOf Try.f5) []) = PlanOK Try.prog lim5 .go (codeAt (bodyOf Try.f5) []) := by kernel_rfl
theorem ev5 (k : Nat) (x : AT (sp5 k).ps) : (sp5 k).impl x = (fnT Try.prog (cfg5 k) lim5 Try.f5 (bodyOf Try.f5) (pl5 k) (sp5 k) x).eval := by kernel_rfl
theorem eq5 (k : Nat) (x : AT (sp5 k).ps) : (fnT Try.prog (cfg5 k) lim5 Try.f5 (bodyOf Try.f5) (pl5 k) (sp5 k) x).left = (fnT Try.prog (cfg5 k) lim5 Try.f5 (bodyOf Try.f5) (pl5 k) (sp5 k) x).right := by kernel_rfl
theorem v5 (k : Nat) : Callable Try.prog 5 ∧ Valid Try.prog 5 (sp5 k) :=
  fn_ok (cfg5_ok k) (f := 5) (fn := Try.f5) (by kernel_rfl) (c := bodyOf Try.f5) (by kernel_rfl) (by kernel_rfl) rfl rfl (Nat.le_of_ble_eq_true rfl) (Nat.le_of_ble_eq_true rfl) (p := pl5 k) (Eq.mpr (pq5 k) (planOK_go _)) fun x => ⟨ev5 k x, eq5 k x⟩
/-! f6 hyphen/hyphenlaw13.SegLetters -/
def F6_0 (k : Nat) : Nat → Int → Int → ((List Int) × ((List Int) × (((List (List Int)) × ((List Int) × Unit)) × (((List (List Int)) × ((List (List (List Int))) × Unit)) × Unit)))) → (List Int) → (List Int) → Option ((Unit × (((List Int) × ((List Int) × (((List (List Int)) × ((List Int) × Unit)) × (((List (List Int)) × ((List (List (List Int))) × Unit)) × Unit)))) × (List Int) × (List Int) × Unit)))
  | 0, _, _, _, _, _ => none
  | n + 1, t6, t19, c15, c41, c1000576 =>
    let x11 := (decide (t19 < ((List.length c41 : Nat) : Int)))
    bif x11 then
      let x12 := (IntKind.wrap .i64 (t6 + (IntKind.wrap .i64 (t19 * t19))))
      (F24 k x12 (1114112 : Int)).bind fun r13 =>
      (F27 k r13.1.1).bind fun r14 =>
      bif r14.1.1 then
        if 0 ≤ t19 ∧ t19 < ((List.length c41 : Nat) : Int) then
          (F28 k c15.1 c15.2.1 r13.1.1).bind fun r15 =>
          (F28 k c15.1 c15.2.1 (List.getD c41 (Int.toNat t19) (0 : Int))).bind fun r16 =>
          bif (r15.1.1 == r16.1.1) then
            if 0 ≤ t19 ∧ t19 < ((List.length c41 : Nat) : Int) then
              (F6_0 k n t6 (IntKind.wrap .i64 (t19 + (1 : Int))) c15 (List.set c41 (Int.toNat t19) r13.1.1) c1000576).bind some
            else none
          else
            (F6_0 k n t6 (IntKind.wrap .i64 (t19 + (1 : Int))) c15 c41 c1000576).bind some
        else none
      else
        (F6_0 k n t6 (IntKind.wrap .i64 (t19 + (1 : Int))) c15 c41 c1000576).bind some
    else
      some ((), (c15, c41, c1000576, ()))
def fr6_0 (k : Nat) : Frag := ⟨⟨[], [(6, .val (.int .i64)), (15, .ptr 15 []), (16, .at 1000576 []), (18, .at 41 []), (19, .val (.int .i64))], [(15, some 32, (.pair (.sl true 3 (.int .i64) none) (.pair (.sl true 3 (.int .i64) none) (.pair (.pair (.sl true 22 (.sl true 3 (.int .i64) none) none) (.pair (.sl true 3 (.int .i64) none) .unit)) (.pair (.pair (.sl true 22 (.sl true 3 (.int .i64) none) none) (.pair (.sl true 36 (.sl true 57 (.arr 3 (.int .i64)) none) none) .unit)) .unit))))), (41, none, (.sl true 3 (.int .i64) none)), (1000576, none, (.sl true 3 (.int .i64) none))]⟩, [(.exit 0, ⟨[], [(15, .ptr 15 []), (16, .at 1000576 []), (18, .at 41 [])], [(15, some 32, (.pair (.sl true 3 (.int .i64) none) (.pair (.sl true 3 (.int .i64) none) (.pair (.pair (.sl true 22 (.sl true 3 (.int .i64) none) none) (.pair (.sl true 3 (.int .i64) none) .unit)) (.pair (.pair (.sl true 22 (.sl true 3 (.int .i64) none) none) (.pair (.sl true 36 (.sl true 57 (.arr 3 (.int .i64)) none) none) .unit)) .unit))))), (41, none, (.sl true 3 (.int .i64) none)), (1000576, none, (.sl true 3 (.int .i64) none))]⟩)], fun v => F6_0 k k v.1.1 v.1.2.1 v.2.1 v.2.2.1 v.2.2.2.1⟩
def F6 (k : Nat) (a0 : Int) (a1 : Int) (a2 : (List Int)) (a3 : (List Int)) (a4 : (List Int)) (a5 : (List Int)) (a6 : Int) : Option ((Bool × Unit) × Unit) :=
  (F15 k).bind fun r1 =>
  bif (!r1.1.1) then
    some ((false, ()), ())
  else
    (F16 k a0 a1 a2 a3 a4).bind fun r2 =>
    (F17 k a5 []).bind fun r3 =>
    (F20 k r3.1.1).bind fun r4 =>
    if (List.length (List.replicate 0 (0 : Int)) + List.length r4.1.1) * (8 * 2) ≤ 281474976710656 ∧ List.length (List.replicate 0 (0 : Int)) + List.length r4.1.1 ≤ 9223372036854775807 then
      (F6_0 k k a6 (0 : Int) r2.1.1 ((List.replicate 0 (0 : Int)) ++ r4.1.1) r4.1.1).bind fun r17 =>
      let y18 := r17.2.1
      let y19 := r17.2.2.1
      let y20 := r17.2.2.2.1
      (F26 k y20).bind fun r21 =>
      (F18 k y18 r21.1.1).bind fun r22 =>
      (F26 k y19).bind fun r23 =>
      (F18 k y18 r23.1.1).bind fun r24 =>
      bif (r22.1.2.1 == (0 : Int)) then
        bif (r24.1.2.1 == (0 : Int)) then
          (F21 k r22.1.1 r24.1.1).bind fun r25 =>
          some ((r25.1.1, ()), ())
        else
          some ((false, ()), ())
      else
        some ((false, ()), ())
    else none
def sp6 (k : Nat) : Spec := ⟨[.val (.int .i64), .val (.int .i64), .val (.sl false 3 (.int .i64) none), .val (.sl false 3 (.int .i64) none), .val (.sl false 3 (.int .i64) none), .val (.sl false 3 (.int .i64) none), .val (.int .i64)], [.val .bool], fun x => F6 k x.1 x.2.1 x.2.2.1 x.2.2.2.1 x.2.2.2.2.1 x.2.2.2.2.2.1 x.2.2.2.2.2.2.1⟩
def lim6 : Lim := ⟨103, 7, false, false⟩
def cfg6 (k : Nat) : Nat → Option Spec := cfgL [(15, sp15 k), (16, sp16 k), (17, sp17 k), (18, sp18 k), (20, sp20 k), (21, sp21 k), (24, sp24 k), (26, sp26 k), (27, sp27 k), (28, sp28 k)]
theorem cfg6_ok (k : Nat) : CfgOK Try.prog (cfg6 k) := cfgL_cons (v15 k) (cfgL_cons (v16 k) (cfgL_cons (v17 k) (cfgL_cons (v18 k) (cfgL_cons (v20 k) (cfgL_cons (v21 k) (cfgL_cons (v24 k) (cfgL_cons (v26 k) (cfgL_cons (v27 k) (cfgL_cons (v28 k) (cfgL_nil))))))))))
def pl6_0 (k : Nat) : Plan := .go
theorem pq6_0 (k : Nat) : PlanOK Try.prog lim6 (pl6_0 k) (codeAt (bodyOf Try.f6) [.r, .r, .r, .r, .r, .l, .r, .s, .b]) = PlanOK Try.prog lim6 .go (codeAt (bodyOf Try.f6) [.r, .r, .r, .r, .r, .l, .r, .s, .b]) := by kernel_rfl
theorem ps6_0 (k m : Nat) (v : (fr6_0 k).sh.V) : F6_0 k (m + 1) v.1.1 v.1.2.1 v.2.1 v.2.2.1 v.2.2.2.1 = (body Try.prog (stepper Try.prog (cfg6 k) lim6) (pl6_0 k) (codeAt (bodyOf Try.f6) [.r, .r, .r, .r, .r, .l, .r, .s, .b]) ((fr6_0 k).sh.st v) (loopK (fr6_0 k) fun v => F6_0 k m v.1.1 v.1.2.1 v.2.1 v.2.2.1 v.2.2.2.1)).eval := by kernel_rfl
theorem pe6_0 (k m : Nat) (v : (fr6_0 k).sh.V) : (body Try.prog (stepper Try.prog (cfg6 k) lim6) (pl6_0 k) (codeAt (bodyOf Try.f6) [.r, .r, .r, .r, .r, .l, .r, .s, .b]) ((fr6_0 k).sh.st v) (loopK (fr6_0 k) fun v => F6_0 k m v.1.1 v.1.2.1 v.2.1 v.2.2.1 v.2.2.2.1)).left = (body Try.prog (stepper Try.prog (cfg6 k) lim6) (pl6_0 k) (codeAt (bodyOf Try.f6) [.r, .r, .r, .r, .r, .l, .r, .s, .b]) ((fr6_0 k).sh.st v) (loopK (fr6_0 k) fun v => F6_0 k m v.1.1 v.1.2.1 v.2.1 v.2.2.1 v.2.2.2.1)).right := by kernel_rfl
theorem fr6_0_ok (k : Nat) : FragOK Try.prog lim6 (fr6_0 k) (codeAt (bodyOf Try.f6) [.r, .r, .r, .r, .r, .l, .r, .s]) :=
  frag_cast (by kernel_rfl) (loop_ok (cfg6_ok k) (Eq.mpr (pq6_0 k) (planOK_go _)) (fun m v => F6_0 k m v.1.1 v.1.2.1 v.2.1 v.2.2.1 v.2.2.2.1) k (fun _ => rfl) (fun _ => rfl) fun m v => ⟨ps6_0 k m v, pe6_0 k m v⟩)
def pl6 (k : Nat) : Plan := (.seq .go (.seq .go (.seq .go (.seq .go (.seq .go (.seq (.seq .go (.sub (.frag (fr6_0 k)))) .go))))))
theorem pq6 (k : Nat) : PlanOK Try.prog lim6 (pl6 k) (codeAt (bodyOf Try.f6) []) = (PlanOK Try.prog lim6 .go (codeAt (bodyOf Try.f6) [.l]) ∧ (PlanOK Try.prog lim6 .go (codeAt (bodyOf Try.f6) [.r, .l]) ∧ (PlanOK Try.prog lim6 .go (codeAt (bodyOf Try.f6) [.r, .r, .l]) ∧ (PlanOK Try.prog lim6 .go (codeAt (bodyOf Try.f6) [.r, .r, .r, .l]) ∧ (PlanOK Try.prog lim6 .go (codeAt (bodyOf Try.f6) [.r, .r, .r, .r, .l]) ∧ ((PlanOK Try.prog lim6 .go (codeAt (bodyOf Try.f6) [.r, .r, .r, .r, .r, .l, .l]) ∧ FragOK Try.prog lim6 (fr6_0 k) (codeAt (bodyOf Try.f6) [.r, .r, .r, .r, .r, .l, .r, .s])) ∧ PlanOK Try.prog lim6 .go (codeAt (bodyOf Try.f6) [.r, .r, .r, .r, .r, .r]))))))) := by kernel_rfl
theorem ev6 (k : Nat) (x : AT (sp6 k).ps) : (sp6 k).impl x = (fnT Try.prog (cfg6 k) lim6 Try.f6 (bodyOf Try.f6) (pl6 k) (sp6 k) x).eval := by kernel_rfl
theorem eq6 (k : Nat) (x : AT (sp6 k).ps) : (fnT Try.prog (cfg6 k) lim6 Try.f6 (bodyOf Try.f6) (pl6 k) (sp6 k) x).left = (fnT Try.prog (cfg6 k) lim6 Try.f6 (bodyOf Try.f6) (pl6 k) (sp6 k) x).right := by kernel_rfl
theorem v6 (k : Nat) : Callable Try.prog 6 ∧ Valid Try.prog 6 (sp6 k) :=
  fn_ok (cfg6_ok k) (f := 6) (fn := Try.f6) (by kernel_rfl) (c := bodyOf Try.f6) (by kernel_rfl) (by kernel_rfl) rfl rfl (Nat.le_of_ble_eq_true rfl) (Nat.le_of_ble_eq_true rfl) (p := pl6 k) (Eq.mpr (pq6 k) ⟨(planOK_go _), ⟨(planOK_go _), ⟨(planOK_go _), ⟨(planOK_go _), ⟨(planOK_go _), ⟨⟨(planOK_go _), (fr6_0_ok k)⟩, (planOK_go _)⟩⟩⟩⟩⟩⟩) fun x => ⟨ev6 k x, eq6 k x⟩
/-! f7 hyphen/hyphenlaw13.SegWindows -/
def F7 (k : Nat) (a0 : Int) (a1 : Int) (a2 : (List Int)) (a3 : (List Int)) (a4 : (List Int)) (a5 : (List Int)) (a6 : Int) (a7 : Int) (a8 : Int) (a9 : Int) : Option ((Bool × Unit) × Unit) :=
  (F15 k).bind fun r1 =>
  bif (!r1.1.1) then
    some ((false, ()), ())
  else
    (F16 k a0 a1 a2 a3 a4).bind fun r2 =>
    (F17 k a5 []).bind fun r3 =>
    (F22 k r2.1.1 r3.1.1).bind fun r4 =>
    (F19 k r2.1.1 r3.1.1).bind fun r5 =>
    (F23 k r4.1.1).bind fun r6 =>
    let x7 := (r6.1.1 != ((List.length r5.1.1 : Nat) : Int))
    bif x7 then
      some ((false, ()), ())
    else
      (F24 k a6 ((List.length r5.1.1 : Nat) : Int)).bind fun r8 =>
      let x9 := (IntKind.wrap .i64 (((List.length r5.1.1 : Nat) : Int) - r8.1.1))
      (F24 k a8 x9).bind fun r10 =>
      let x11 := (IntKind.wrap .i64 ((IntKind.wrap .i64 (r8.1.1 + r10.1.1)) - r8.1.1))
      (F24 k a7 (IntKind.wrap .i64 (x11 + (1 : Int)))).bind fun r12 =>
      (F24 k a9 (3 : Int)).bind fun r13 =>
      (F25 k r6.2.1 r8.1.1 (IntKind.wrap .i64 (r8.1.1 + r10.1.1)) r13.1.1).bind fun r14 =>
      (F25 k r14.2.1 r8.1.1 (IntKind.wrap .i64 (r8.1.1 + r12.1.1)) r13.1.1).bind fun r15 =>
      let x16 := (IntKind.wrap .i64 ((IntKind.wrap .i64 (r8.1.1 + r12.1.1)) + (1 : Int)))
      (F25 k r15.2.1 x16 (IntKind.wrap .i64 (r8.1.1 + r10.1.1)) r13.1.1).bind fun r17 =>
      bif (!r15.1.2.1) then
        bif (!r17.1.2.1) then
          some (((!r14.1.2.1), ()), ())
        else
          bif (!r15.1.2.1) then
            bif r14.1.2.1 then
              some (((r14.1.1 == r17.1.1), ()), ())
            else
              some ((false, ()), ())
          else
            bif (!r17.1.2.1) then
              bif r14.1.2.1 then
                some (((r14.1.1 == r15.1.1), ()), ())
              else
                some ((false, ()), ())
            else
              bif (decide (r17.1.1 < (0 : Int))) then
                some ((false, ()), ())
              else
                let x18 := (decide (r17.1.1 ≥ ((List.length r5.1.1 : Nat) : Int)))
                bif x18 then
                  some ((false, ()), ())
                else
                  bif (decide (r15.1.1 < (0 : Int))) then
                    some ((false, ()), ())
                  else
                    let x19 := (decide (r15.1.1 ≥ ((List.length r5.1.1 : Nat) : Int)))
                    bif x19 then
                      some ((false, ()), ())
                    else
                      if 0 ≤ r17.1.1 ∧ r17.1.1 < ((List.length r5.1.1 : Nat) : Int) then
                        if 0 ≤ r13.1.1 ∧ r13.1.1 < ((3 : Nat) : Int) then
                          let x20 := (List.getD (List.getD r5.1.1 (Int.toNat r17.1.1) ([] : (List Int))) (Int.toNat r13.1.1) (0 : Int))
                          if 0 ≤ r15.1.1 ∧ r15.1.1 < ((List.length r5.1.1 : Nat) : Int) then
                            if 0 ≤ r13.1.1 ∧ r13.1.1 < ((3 : Nat) : Int) then
                              let x21 := (List.getD (List.getD r5.1.1 (Int.toNat r15.1.1) ([] : (List Int))) (Int.toNat r13.1.1) (0 : Int))
                              bif (decide (x20 ≤ x21)) then
                                bif r14.1.2.1 then
                                  some (((r14.1.1 == r17.1.1), ()), ())
                                else
                                  some ((false, ()), ())
                              else
                                bif r14.1.2.1 then
                                  some (((r14.1.1 == r15.1.1), ()), ())
                                else
                                  some ((false, ()), ())
                            else none
                          else none
                        else none
                      else none
      else
        bif (!r15.1.2.1) then
          bif r14.1.2.1 then
            some (((r14.1.1 == r17.1.1), ()), ())
          else
            some ((false, ()), ())
        else
          bif (!r17.1.2.1) then
            bif r14.1.2.1 then
              some (((r14.1.1 == r15.1.1), ()), ())
            else
              some ((false, ()), ())
          else
            bif (decide (r17.1.1 < (0 : Int))) then
              some ((false, ()), ())
            else
              let x22 := (decide (r17.1.1 ≥ ((List.length r5.1.1 : Nat) : Int)))
              bif x22 then
                some ((false, ()), ())
              else
                bif (decide (r15.1.1 < (0 : Int))) then
                  some ((false, ()), ())
                else
                  let x23 := (decide (r15.1.1 ≥ ((List.length r5.1.1 : Nat) : Int)))
                  bif x23 then
                    some ((false, ()), ())
                  else
                    if 0 ≤ r17.1.1 ∧ r17.1.1 < ((List.length r5.1.1 : Nat) : Int) then
                      if 0 ≤ r13.1.1 ∧ r13.1.1 < ((3 : Nat) : Int) then
                        let x24 := (List.getD (List.getD r5.1.1 (Int.toNat r17.1.1) ([] : (List Int))) (Int.toNat r13.1.1) (0 : Int))
                        if 0 ≤ r15.1.1 ∧ r15.1.1 < ((List.length r5.1.1 : Nat) : Int) then
                          if 0 ≤ r13.1.1 ∧ r13.1.1 < ((3 : Nat) : Int) then
                            let x25 := (List.getD (List.getD r5.1.1 (Int.toNat r15.1.1) ([] : (List Int))) (Int.toNat r13.1.1) (0 : Int))
                            bif (decide (x24 ≤ x25)) then
                              bif r14.1.2.1 then
                                some (((r14.1.1 == r17.1.1), ()), ())
                              else
                                some ((false, ()), ())
                            else
                              bif r14.1.2.1 then
                                some (((r14.1.1 == r15.1.1), ()), ())
                              else
                                some ((false, ()), ())
                          else none
                        else none
                      else none
                    else none
def sp7 (k : Nat) : Spec := ⟨[.val (.int .i64), .val (.int .i64), .val (.sl false 3 (.int .i64) none), .val (.sl false 3 (.int .i64) none), .val (.sl false 3 (.int .i64) none), .val (.sl false 3 (.int .i64) none), .val (.int .i64), .val (.int .i64), .val (.int .i64), .val (.int .i64)], [.val .bool], fun x => F7 k x.1 x.2.1 x.2.2.1 x.2.2.2.1 x.2.2.2.2.1 x.2.2.2.2.2.1 x.2.2.2.2.2.2.1 x.2.2.2.2.2.2.2.1 x.2.2.2.2.2.2.2.2.1 x.2.2.2.2.2.2.2.2.2.1⟩
def lim7 : Lim := ⟨185, 10, false, false⟩
def cfg7 (k : Nat) : Nat → Option Spec := cfgL [(15, sp15 k), (16, sp16 k), (17, sp17 k), (19, sp19 k), (22, sp22 k), (23, sp23 k), (24, sp24 k), (25, sp25 k)]
theorem cfg7_ok (k : Nat) : CfgOK Try.prog (cfg7 k) := cfgL_cons (v15 k) (cfgL_cons (v16 k) (cfgL_cons (v17 k) (cfgL_cons (v19 k) (cfgL_cons (v22 k) (cfgL_cons (v23 k) (cfgL_cons (v24 k) (cfgL_cons (v25 k) (cfgL_nil))))))))
def pl7 (k : Nat) : Plan := .go
theorem pq7 (k : Nat) : PlanOK Try.prog lim7 (pl7 k) (codeAt (bodyOf Try.f7) []) = PlanOK Try.prog lim7 .go (codeAt (bodyOf Try.f7) []) := by kernel_rfl
theorem ev7 (k : Nat) (x : AT (sp7 k).ps) : (sp7 k).impl x = (fnT Try.prog (cfg7 k) lim7 Try.f7 (bodyOf Try.f7) (pl7 k) (sp7 k) x).eval := by kernel_rfl
theorem eq7 (k : Nat) (x : AT (sp7 k).ps) : (fnT Try.prog (cfg7 k) lim7 Try.f7 (bodyOf Try.f7) (pl7 k) (sp7 k) x).left = (fnT Try.prog (cfg7 k) lim7 Try.f7 (bodyOf Try.f7) (pl7 k) (sp7 k) x).right := by kernel_rfl
theorem v7 (k : Nat) : Callable Try.prog 7 ∧ Valid Try.prog 7 (sp7 k) :=
  fn_ok (cfg7_ok k) (f := 7) (fn := Try.f7) (by kernel_rfl) (c := bodyOf Try.f7) (by kernel_rfl) (by kernel_rfl) rfl rfl (Nat.le_of_ble_eq_true rfl) (Nat.le_of_ble_eq_true rfl) (p := pl7 k) (Eq.mpr (pq7 k) (planOK_go _)) fun x => ⟨ev7 k x, eq7 k x⟩
/-! f8 hyphen/hyphenlaw13.SegTwo -/
def F8 (k : Nat) (a0 : Int) (a1 : Int) (a2 : (List Int)) (a3 : (List Int)) (a4 : (List Int)) (a5 : Int) (a6 : Int) : Option ((Bool × Unit) × Unit) :=
  (F15 k).bind fun r1 =>
  bif (!r1.1.1) then
    some ((false, ()), ())
  else
    (F16 k a0 a1 a2 a3 a4).bind fun r2 =>
    (F24 k a5 (55296 : Int)).bind fun r3 =>
    (F24 k a6 (55296 : Int)).bind fun r4 =>
    (F28 k r2.1.1.1 r2.1.1.2.1 r3.1.1).bind fun r5 =>
    (F28 k r2.1.1.1 r2.1.1.2.1 r4.1.1).bind fun r6 =>
    let x7 := (List.set (List.set (List.replicate 2 (0 : Int)) 0 r3.1.1) 1 r4.1.1)
    (F26 k x7).bind fun r8 =>
    (F18 k r2.1.1 r8.1.1).bind fun r9 =>
    if 0 ≤ (0 : Int) ∧ (0 : Int) < ((List.length r2.1.1.2.2.1.1 : Nat) : Int) then
      if 0 ≤ r6.1.1 ∧ r6.1.1 < ((List.length (List.getD r2.1.1.2.2.1.1 (Int.toNat (0 : Int)) ([] : (List Int))) : Nat) : Int) then
        let x10 := (List.getD (List.getD r2.1.1.2.2.1.1 (Int.toNat (0 : Int)) ([] : (List Int))) (Int.toNat r6.1.1) (0 : Int))
        if 0 ≤ x10 ∧ x10 < ((List.length r2.1.1.2.2.1.1 : Nat) : Int) then
          if 0 ≤ r5.1.1 ∧ r5.1.1 < ((List.length (List.getD r2.1.1.2.2.1.1 (Int.toNat x10) ([] : (List Int))) : Nat) : Int) then
            let x11 := (List.getD (List.getD r2.1.1.2.2.1.1 (Int.toNat x10) ([] : (List Int))) (Int.toNat r5.1.1) (0 : Int))
            if 0 ≤ (0 : Int) ∧ (0 : Int) < ((List.length r2.1.1.2.2.2.1.1 : Nat) : Int) then
              if 0 ≤ r5.1.1 ∧ r5.1.1 < ((List.length (List.getD r2.1.1.2.2.2.1.1 (Int.toNat (0 : Int)) ([] : (List Int))) : Nat) : Int) then
                let x12 := (List.getD (List.getD r2.1.1.2.2.2.1.1 (Int.toNat (0 : Int)) ([] : (List Int))) (Int.toNat r5.1.1) (0 : Int))
                if 0 ≤ x12 ∧ x12 < ((List.length r2.1.1.2.2.2.1.1 : Nat) : Int) then
                  if 0 ≤ r6.1.1 ∧ r6.1.1 < ((List.length (List.getD r2.1.1.2.2.2.1.1 (Int.toNat x12) ([] : (List Int))) : Nat) : Int) then
                    let x13 := (List.getD (List.getD r2.1.1.2.2.2.1.1 (Int.toNat x12) ([] : (List Int))) (Int.toNat r6.1.1) (0 : Int))
                    bif (r9.1.2.1 == (0 : Int)) then
                      let x14 := (((List.length r9.1.1 : Nat) : Int) == (3 : Int))
                      bif x14 then
                        if 0 ≤ (0 : Int) ∧ (0 : Int) < ((List.length r9.1.1 : Nat) : Int) then
                          let x15 := (List.getD r9.1.1 (Int.toNat (0 : Int)) ([] : (List Int)))
                          if 0 ≤ (0 : Int) ∧ (0 : Int) < ((List.length r2.1.1.2.2.2.1.2.1 : Nat) : Int) then
                            if 0 ≤ x11 ∧ x11 < ((List.length r2.1.1.2.2.1.2.1 : Nat) : Int) then
                              let x16 := (List.getD r2.1.1.2.2.1.2.1 (Int.toNat x11) (0 : Int))
                              if 0 ≤ x16 ∧ x16 < ((List.length (List.getD r2.1.1.2.2.2.1.2.1 (Int.toNat (0 : Int)) ([] : (List (List Int)))) : Nat) : Int) then
                                let x17 := (List.getD (List.getD r2.1.1.2.2.2.1.2.1 (Int.toNat (0 : Int)) ([] : (List (List Int)))) (Int.toNat x16) ([] : (List Int)))
                                bif (x15 == x17) then
                                  if 0 ≤ (1 : Int) ∧ (1 : Int) < ((List.length r9.1.1 : Nat) : Int) then
                                    let x18 := (List.getD r9.1.1 (Int.toNat (1 : Int)) ([] : (List Int)))
                                    if 0 ≤ x12 ∧ x12 < ((List.length r2.1.1.2.2.2.1.2.1 : Nat) : Int) then
                                      if 0 ≤ x10 ∧ x10 < ((List.length r2.1.1.2.2.1.2.1 : Nat) : Int) then
                                        let x19 := (List.getD r2.1.1.2.2.1.2.1 (Int.toNat x10) (0 : Int))
                                        if 0 ≤ x19 ∧ x19 < ((List.length (List.getD r2.1.1.2.2.2.1.2.1 (Int.toNat x12) ([] : (List (List Int)))) : Nat) : Int) then
                                          let x20 := (List.getD (List.getD r2.1.1.2.2.2.1.2.1 (Int.toNat x12) ([] : (List (List Int)))) (Int.toNat x19) ([] : (List Int)))
                                          bif (x18 == x20) then
                                            if 0 ≤ (2 : Int) ∧ (2 : Int) < ((List.length r9.1.1 : Nat) : Int) then
                                              let x21 := (List.getD r9.1.1 (Int.toNat (2 : Int)) ([] : (List Int)))
                                              if 0 ≤ x13 ∧ x13 < ((List.length r2.1.1.2.2.2.1.2.1 : Nat) : Int) then
                                                if 0 ≤ (0 : Int) ∧ (0 : Int) < ((List.length r2.1.1.2.2.1.2.1 : Nat) : Int) then
                                                  let x22 := (List.getD r2.1.1.2.2.1.2.1 (Int.toNat (0 : Int)) (0 : Int))
                                                  if 0 ≤ x22 ∧ x22 < ((List.length (List.getD r2.1.1.2.2.2.1.2.1 (Int.toNat x13) ([] : (List (List Int)))) : Nat) : Int) then
                                                    let x23 := (List.getD (List.getD r2.1.1.2.2.2.1.2.1 (Int.toNat x13) ([] : (List (List Int)))) (Int.toNat x22) ([] : (List Int)))
                                                    some (((x21 == x23), ()), ())
                                                  else none
                                                else none
                                              else none
                                            else none
                                          else
                                            some ((false, ()), ())
                                        else none
                                      else none
                                    else none
                                  else none
                                else
                                  some ((false, ()), ())
                              else none
                            else none
                          else none
                        else none
                      else
                        some ((false, ()), ())
                    else
                      some ((false, ()), ())
                  else none
                else none
              else none
            else none
          else none
        else none
      else none
    else none
def sp8 (k : Nat) : Spec := ⟨[.val (.int .i64), .val (.int .i64), .val (.sl false 3 (.int .i64) none), .val (.sl false 3 (.int .i64) none), .val (.sl false 3 (.int .i64) none), .val (.int .i64), .val (.int .i64)], [.val .bool], fun x => F8 k x.1 x.2.1 x.2.2.1 x.2.2.2.1 x.2.2.2.2.1 x.2.2.2.2.2.1 x.2.2.2.2.2.2.1⟩
def lim8 : Lim := ⟨158, 7, false, false⟩
def cfg8 (k : Nat) : Nat → Option Spec := cfgL [(15, sp15 k), (16, sp16 k), (18, sp18 k), (24, sp24 k), (26, sp26 k), (28, sp28 k)]
theorem cfg8_ok (k : Nat) : CfgOK Try.prog (cfg8 k) := cfgL_cons (v15 k) (cfgL_cons (v16 k) (cfgL_cons (v18 k) (cfgL_cons (v24 k) (cfgL_cons (v26 k) (cfgL_cons (v28 k) (cfgL_nil))))))
def pl8 (k : Nat) : Plan := .go
theorem pq8 (k : Nat) : PlanOK Try.prog lim8 (pl8 k) (codeAt (bodyOf Try.f8) []) = PlanOK Try.prog lim8 .go (codeAt (bodyOf Try.f8) []) := by kernel_rfl
theorem ev8 (k : Nat) (x : AT (sp8 k).ps) : (sp8 k).impl x = (fnT Try.prog (cfg8 k) lim8 Try.f8 (bodyOf Try.f8) (pl8 k) (sp8 k) x).eval := by kernel_rfl
theorem eq8 (k : Nat) (x : AT (sp8 k).ps) : (fnT Try.prog (cfg8 k) lim8 Try.f8 (bodyOf Try.f8) (pl8 k) (sp8 k) x).left = (fnT Try.prog (cfg8 k) lim8 Try.f8 (bodyOf Try.f8) (pl8 k) (sp8 k) x).right := by kernel_rfl
theorem v8 (k : Nat) : Callable Try.prog 8 ∧ Valid Try.prog 8 (sp8 k) :=
  fn_ok (cfg8_ok k) (f := 8) (fn := Try.f8) (by kernel_rfl) (c := bodyOf Try.f8) (by kernel_rfl) (by kernel_rfl) rfl rfl (Nat.le_of_ble_eq_true rfl) (Nat.le_of_ble_eq_true rfl) (p := pl8 k) (Eq.mpr (pq8 k) (planOK_go _)) fun x => ⟨ev8 k x, eq8 k x⟩
/-! f29 hyphen/hyphenref13.New -/
def F29 (k : Nat) (a0 : ((List Int) × ((List Int) × (((List (List Int)) × ((List Int) × Unit)) × (((List (List Int)) × ((List (List (List Int))) × Unit)) × Unit))))) (a1 : ByteArray) : Option ((((List (List Int)) × (Int × Unit)) × Unit) × Unit) :=
  (F19 k a0 a1).bind fun r1 =>
  some (((r1.1.1, ((0 : Int), ())), ()), ())
def sp29 (k : Nat) : Spec := ⟨[.val (.pair (.sl false 3 (.int .i64) none) (.pair (.sl false 3 (.int .i64) none) (.pair (.pair (.sl false 22 (.sl false 3 (.int .i64) none) none) (.pair (.sl false 3 (.int .i64) none) .unit)) (.pair (.pair (.sl false 22 (.sl false 3 (.int .i64) none) none) (.pair (.sl false 36 (.sl false 57 (.arr 3 (.int .i64)) none) none) .unit)) .unit)))), .val .str], [.box 86 (.pair (.sl true 57 (.arr 3 (.int .i64)) none) (.pair (.int .i64) .unit))], fun x => F29 k x.1 x.2.1⟩
def lim29 : Lim := ⟨16, 2, false, false⟩
def cfg29 (k : Nat) : Nat → Option Spec := cfgL [(19, sp19 k)]
theorem cfg29_ok (k : Nat) : CfgOK Try.prog (cfg29 k) := cfgL_cons (v19 k) (cfgL_nil)
def pl29 (k : Nat) : Plan := .go
theorem pq29 (k : Nat) : PlanOK Try.prog lim29 (pl29 k) (codeAt (bodyOf Try.f29) []) = PlanOK Try.prog lim29 .go (codeAt (bodyOf Try.f29) []) := by kernel_rfl
theorem ev29 (k : Nat) (x : AT (sp29 k).ps) : (sp29 k).impl x = (fnT Try.prog (cfg29 k) lim29 Try.f29 (bodyOf Try.f29) (pl29 k) (sp29 k) x).eval := by kernel_rfl
theorem eq29 (k : Nat) (x : AT (sp29 k).ps) : (fnT Try.prog (cfg29 k) lim29 Try.f29 (bodyOf Try.f29) (pl29 k) (sp29 k) x).left = (fnT Try.prog (cfg29 k) lim29 Try.f29 (bodyOf Try.f29) (pl29 k) (sp29 k) x).right := by kernel_rfl
theorem v29 (k : Nat) : Callable Try.prog 29 ∧ Valid Try.prog 29 (sp29 k) :=
  fn_ok (cfg29_ok k) (f := 29) (fn := Try.f29) (by kernel_rfl) (c := bodyOf Try.f29) (by kernel_rfl) (by kernel_rfl) rfl rfl (Nat.le_of_ble_eq_true rfl) (Nat.le_of_ble_eq_true rfl) (p := pl29 k) (Eq.mpr (pq29 k) (planOK_go _)) fun x => ⟨ev29 k x, eq29 k x⟩
/-! f30 (*hyphen/seg.Cursor).Seek -/
def F30 (k : Nat) (a0 : (((List (List Int)) × Unit) × (Int × Unit))) (a1 : Int) : Option ((Bool × Unit) × ((((List (List Int)) × Unit) × (Int × Unit)) × Unit)) :=
  bif (decide (a1 < (0 : Int))) then
    some ((false, ()), (a0, ()))
  else
    (F23 k a0).bind fun r1 =>
    bif (decide (a1 ≥ r1.1.1)) then
      some ((false, ()), (r1.2.1, ()))
    else
      some ((true, ()), ((r1.2.1.1, (a1, r1.2.1.2.2)), ()))
def sp30 (k : Nat) : Spec := ⟨[.ptr 52 (.pair (.pair (.sl true 57 (.arr 3 (.int .i64)) none) .unit) (.pair (.int .i64) .unit)) [], .val (.int .i64)], [.val .bool], fun x => F30 k x.1 x.2.1⟩
def lim30 : Lim := ⟨19, 2, false, false⟩
def cfg30 (k : Nat) : Nat → Option Spec := cfgL [(23, sp23 k)]
theorem cfg30_ok (k : Nat) : CfgOK Try.prog (cfg30 k) := cfgL_cons (v23 k) (cfgL_nil)
def pl30 (k : Nat) : Plan := .go
theorem pq30 (k : Nat) : PlanOK Try.prog lim30 (pl30 k) (codeAt (bodyOf Try.f30) []) = PlanOK Try.prog lim30 .go (codeAt (bodyOf Try.f30) []) := by kernel_rfl
theorem ev30 (k : Nat) (x : AT (sp30 k).ps) : (sp30 k).impl x = (fnT Try.prog (cfg30 k) lim30 Try.f30 (bodyOf Try.f30) (pl30 k) (sp30 k) x).eval := by kernel_rfl
theorem eq30 (k : Nat) (x : AT (sp30 k).ps) : (fnT Try.prog (cfg30 k) lim30 Try.f30 (bodyOf Try.f30) (pl30 k) (sp30 k) x).left = (fnT Try.prog (cfg30 k) lim30 Try.f30 (bodyOf Try.f30) (pl30 k) (sp30 k) x).right := by kernel_rfl
theorem v30 (k : Nat) : Callable Try.prog 30 ∧ Valid Try.prog 30 (sp30 k) :=
  fn_ok (cfg30_ok k) (f := 30) (fn := Try.f30) (by kernel_rfl) (c := bodyOf Try.f30) (by kernel_rfl) (by kernel_rfl) rfl rfl (Nat.le_of_ble_eq_true rfl) (Nat.le_of_ble_eq_true rfl) (p := pl30 k) (Eq.mpr (pq30 k) (planOK_go _)) fun x => ⟨ev30 k x, eq30 k x⟩
/-! f31 (*hyphen/hyphenref13.Cursor).Seek -/
def F31 (k : Nat) (a0 : ((List (List Int)) × (Int × Unit))) (a1 : Int) : Option ((Bool × Unit) × (((List (List Int)) × (Int × Unit)) × Unit)) :=
  bif (decide (a1 < (0 : Int))) then
    some ((false, ()), (a0, ()))
  else
    let x1 := (decide (a1 ≥ ((List.length a0.1 : Nat) : Int)))
    bif x1 then
      some ((false, ()), (a0, ()))
    else
      some ((true, ()), ((a0.1, (a1, a0.2.2)), ()))
def sp31 (k : Nat) : Spec := ⟨[.ptr 86 (.pair (.sl true 57 (.arr 3 (.int .i64)) none) (.pair (.int .i64) .unit)) [], .val (.int .i64)], [.val .bool], fun x => F31 k x.1 x.2.1⟩
def lim31 : Lim := ⟨20, 2, false, false⟩
def cfg31 (k : Nat) : Nat → Option Spec := cfgL []
theorem cfg31_ok (k : Nat) : CfgOK Try.prog (cfg31 k) := cfgL_nil
def pl31 (k : Nat) : Plan := .go
theorem pq31 (k : Nat) : PlanOK Try.prog lim31 (pl31 k) (codeAt (bodyOf Try.f31) []) = PlanOK Try.prog lim31 .go (codeAt (bodyOf Try.f31) []) := by kernel_rfl
theorem ev31 (k : Nat) (x : AT (sp31 k).ps) : (sp31 k).impl x = (fnT Try.prog (cfg31 k) lim31 Try.f31 (bodyOf Try.f31) (pl31 k) (sp31 k) x).eval := by kernel_rfl
theorem eq31 (k : Nat) (x : AT (sp31 k).ps) : (fnT Try.prog (cfg31 k) lim31 Try.f31 (bodyOf Try.f31) (pl31 k) (sp31 k) x).left = (fnT Try.prog (cfg31 k) lim31 Try.f31 (bodyOf Try.f31) (pl31 k) (sp31 k) x).right := by kernel_rfl
theorem v31 (k : Nat) : Callable Try.prog 31 ∧ Valid Try.prog 31 (sp31 k) :=
  fn_ok (cfg31_ok k) (f := 31) (fn := Try.f31) (by kernel_rfl) (c := bodyOf Try.f31) (by kernel_rfl) (by kernel_rfl) rfl rfl (Nat.le_of_ble_eq_true rfl) (Nat.le_of_ble_eq_true rfl) (p := pl31 k) (Eq.mpr (pq31 k) (planOK_go _)) fun x => ⟨ev31 k x, eq31 k x⟩
/-! f35 hyphen/hyphenref1.None -/
def F35 (k : Nat) : Option (((List Int) × Unit) × Unit) :=
  let x1 := (List.set (List.set (List.set (List.replicate 3 (0 : Int)) 0 (1152921504606846976 : Int)) 1 (1152921504606846976 : Int)) 2 (1152921504606846976 : Int))
  some ((x1, ()), ())
def sp35 (k : Nat) : Spec := ⟨[], [.val (.arr 3 (.int .i64))], fun x => F35 k⟩
def lim35 : Lim := ⟨2, 0, false, false⟩
def cfg35 (k : Nat) : Nat → Option Spec := cfgL []
theorem cfg35_ok (k : Nat) : CfgOK Try.prog (cfg35 k) := cfgL_nil
def pl35 (k : Nat) : Plan := .go
theorem pq35 (k : Nat) : PlanOK Try.prog lim35 (pl35 k) (codeAt (bodyOf Try.f35) []) = PlanOK Try.prog lim35 .go (codeAt (bodyOf Try.f35) []) := by kernel_rfl
theorem ev35 (k : Nat) (x : AT (sp35 k).ps) : (sp35 k).impl x = (fnT Try.prog (cfg35 k) lim35 Try.f35 (bodyOf Try.f35) (pl35 k) (sp35 k) x).eval := by kernel_rfl
theorem eq35 (k : Nat) (x : AT (sp35 k).ps) : (fnT Try.prog (cfg35 k) lim35 Try.f35 (bodyOf Try.f35) (pl35 k) (sp35 k) x).left = (fnT Try.prog (cfg35 k) lim35 Try.f35 (bodyOf Try.f35) (pl35 k) (sp35 k) x).right := by kernel_rfl
theorem v35 (k : Nat) : Callable Try.prog 35 ∧ Valid Try.prog 35 (sp35 k) :=
  fn_ok (cfg35_ok k) (f := 35) (fn := Try.f35) (by kernel_rfl) (c := bodyOf Try.f35) (by kernel_rfl) (by kernel_rfl) rfl rfl (Nat.le_of_ble_eq_true rfl) (Nat.le_of_ble_eq_true rfl) (p := pl35 k) (Eq.mpr (pq35 k) (planOK_go _)) fun x => ⟨ev35 k x, eq35 k x⟩
/-! f33 (*hyphen/hyphenref13.Cursor).At -/
def F33 (k : Nat) (a0 : ((List (List Int)) × (Int × Unit))) : Option ((Int × (List Int) × Unit) × (((List (List Int)) × (Int × Unit)) × Unit)) :=
  let x1 := (((List.length a0.1 : Nat) : Int) == (0 : Int))
  bif x1 then
    (F35 k).bind fun r2 =>
    some (((0 : Int), r2.1.1, ()), (a0, ()))
  else
    if 0 ≤ a0.2.1 ∧ a0.2.1 < ((List.length a0.1 : Nat) : Int) then
      let x3 := (List.getD a0.1 (Int.toNat a0.2.1) ([] : (List Int)))
      some ((a0.2.1, x3, ()), (a0, ()))
    else none
def sp33 (k : Nat) : Spec := ⟨[.ptr 86 (.pair (.sl true 57 (.arr 3 (.int .i64)) none) (.pair (.int .i64) .unit)) []], [.val (.int .i64), .val (.arr 3 (.int .i64))], fun x => F33 k x.1⟩
def lim33 : Lim := ⟨25, 1, false, false⟩
def cfg33 (k : Nat) : Nat → Option Spec := cfgL [(35, sp35 k)]
theorem cfg33_ok (k : Nat) : CfgOK Try.prog (cfg33 k) := cfgL_cons (v35 k) (cfgL_nil)
def pl33 (k : Nat) : Plan := .go
theorem pq33 (k : Nat) : PlanOK Try.prog lim33 (pl33 k) (codeAt (bodyOf Try.f33) []) = PlanOK Try.prog lim33 .go (codeAt (bodyOf Try.f33) []) := by kernel_rfl
theorem ev33 (k : Nat) (x : AT (sp33 k).ps) : (sp33 k).impl x = (fnT Try.prog (cfg33 k) lim33 Try.f33 (bodyOf Try.f33) (pl33 k) (sp33 k) x).eval := by kernel_rfl
theorem eq33 (k : Nat) (x : AT (sp33 k).ps) : (fnT Try.prog (cfg33 k) lim33 Try.f33 (bodyOf Try.f33) (pl33 k) (sp33 k) x).left = (fnT Try.prog (cfg33 k) lim33 Try.f33 (bodyOf Try.f33) (pl33 k) (sp33 k) x).right := by kernel_rfl
theorem v33 (k : Nat) : Callable Try.prog 33 ∧ Valid Try.prog 33 (sp33 k) :=
  fn_ok (cfg33_ok k) (f := 33) (fn := Try.f33) (by kernel_rfl) (c := bodyOf Try.f33) (by kernel_rfl) (by kernel_rfl) rfl rfl (Nat.le_of_ble_eq_true rfl) (Nat.le_of_ble_eq_true rfl) (p := pl33 k) (Eq.mpr (pq33 k) (planOK_go _)) fun x => ⟨ev33 k x, eq33 k x⟩
/-! f9 hyphen/hyphenlaw13.SegApart -/
def F9_0 (k : Nat) : Nat → (List Int) → Int → ((List Int) × ((List Int) × (((List (List Int)) × ((List Int) × Unit)) × (((List (List Int)) × ((List (List (List Int))) × Unit)) × Unit)))) → (((List (List Int)) × Unit) × (Int × Unit)) → (((List (List Int)) × Unit) × (Int × Unit)) → ((List (List Int)) × (Int × Unit)) → Option ((Unit × (((List Int) × ((List Int) × (((List (List Int)) × ((List Int) × Unit)) × (((List (List Int)) × ((List (List (List Int))) × Unit)) × Unit)))) × (((List (List Int)) × Unit) × (Int × Unit)) × (((List (List Int)) × Unit) × (Int × Unit)) × ((List (List Int)) × (Int × Unit)) × Unit)) ⊕ ((Bool × Unit) × Unit))
  | 0, _, _, _, _, _, _ => none
  | n + 1, t6, t21, c15, c1000720, c1000752, c1000800 =>
    let x17 := (decide (t21 < ((List.length t6 : Nat) : Int)))
    bif x17 then
      bif (decide (t21 < (30 : Int))) then
        if 0 ≤ t21 ∧ t21 < ((List.length t6 : Nat) : Int) then
          (F24 k (List.getD t6 (Int.toNat t21) (0 : Int)) (4 : Int)).bind fun r18 =>
          (F30 k c1000752 r18.1.1).bind fun r19 =>
          if 0 ≤ t21 ∧ t21 < ((List.length t6 : Nat) : Int) then
            let x20 := (IntKind.wrap .i64 (Int.tdiv (List.getD t6 (Int.toNat t21) (0 : Int)) (4 : Int)))
            if 0 ≤ t21 ∧ t21 < ((List.length t6 : Nat) : Int) then
              (F24 k x20 (50 : Int)).bind fun r21 =>
              (F30 k c1000720 r21.1.1).bind fun r22 =>
              let x23 := (IntKind.wrap .i64 (Int.tdiv (List.getD t6 (Int.toNat t21) (0 : Int)) (4 : Int)))
              (F24 k x23 (50 : Int)).bind fun r24 =>
              (F31 k c1000800 r24.1.1).bind fun r25 =>
              bif (!(r22.1.1 == r25.1.1)) then
                some (.inr ((false, ()), ()))
              else
                (F9_0 k n t6 (IntKind.wrap .i64 (t21 + (1 : Int))) c15 r22.2.1 r19.2.1 r25.2.1).bind some
            else none
          else none
        else none
      else
        some (.inl ((), (c15, c1000720, c1000752, c1000800, ())))
    else
      some (.inl ((), (c15, c1000720, c1000752, c1000800, ())))
def fr9_0 (k : Nat) : Frag := ⟨⟨[], [(6, .val (.sl false 3 (.int .i64) none)), (15, .ptr 15 []), (18, .ptr 1000720 []), (19, .ptr 1000752 []), (20, .ptr 1000800 []), (21, .val (.int .i64))], [(15, some 32, (.pair (.sl true 3 (.int .i64) none) (.pair (.sl true 3 (.int .i64) none) (.pair (.pair (.sl true 22 (.sl true 3 (.int .i64) none) none) (.pair (.sl true 3 (.int .i64) none) .unit)) (.pair (.pair (.sl true 22 (.sl true 3 (.int .i64) none) none) (.pair (.sl true 36 (.sl true 57 (.arr 3 (.int .i64)) none) none) .unit)) .unit))))), (1000720, some 52, (.pair (.pair (.sl true 57 (.arr 3 (.int .i64)) none) .unit) (.pair (.int .i64) .unit))), (1000752, some 52, (.pair (.pair (.sl true 57 (.arr 3 (.int .i64)) none) .unit) (.pair (.int .i64) .unit))), (1000800, some 86, (.pair (.sl true 57 (.arr 3 (.int .i64)) none) (.pair (.int .i64) .unit)))]⟩, [(.exit 0, ⟨[], [(15, .ptr 15 []), (18, .ptr 1000720 []), (19, .ptr 1000752 []), (20, .ptr 1000800 [])], [(15, some 32, (.pair (.sl true 3 (.int .i64) none) (.pair (.sl true 3 (.int .i64) none) (.pair (.pair (.sl true 22 (.sl true 3 (.int .i64) none) none) (.pair (.sl true 3 (.int .i64) none) .unit)) (.pair (.pair (.sl true 22 (.sl true 3 (.int .i64) none) none) (.pair (.sl true 36 (.sl true 57 (.arr 3 (.int .i64)) none) none) .unit)) .unit))))), (1000720, some 52, (.pair (.pair (.sl true 57 (.arr 3 (.int .i64)) none) .unit) (.pair (.int .i64) .unit))), (1000752, some 52, (.pair (.pair (.sl true 57 (.arr 3 (.int .i64)) none) .unit) (.pair (.int .i64) .unit))), (1000800, some 86, (.pair (.sl true 57 (.arr 3 (.int .i64)) none) (.pair (.int .i64) .unit)))]⟩), (.ret, ⟨[], [(14, .val .bool)], []⟩)], fun v => F9_0 k k v.1.1 v.1.2.1 v.2.1 v.2.2.1 v.2.2.2.1 v.2.2.2.2.1⟩
def F9_1 (k : Nat) : Nat → Int → ((List Int) × ((List Int) × (((List (List Int)) × ((List Int) × Unit)) × (((List (List Int)) × ((List (List (List Int))) × Unit)) × Unit)))) → (((List (List Int)) × Unit) × (Int × Unit)) → (((List (List Int)) × Unit) × (Int × Unit)) → ((List (List Int)) × (Int × Unit)) → Option ((Unit × ((((List (List Int)) × Unit) × (Int × Unit)) × (((List (List Int)) × Unit) × (Int × Unit)) × ((List (List Int)) × (Int × Unit)) × Unit)))
  | 0, _, _, _, _, _ => none
  | n + 1, t22, c15, c1000720, c1000752, c1000800 =>
    let x35 := (decide (t22 < ((List.length c15.2.2.2.1.2.1 : Nat) : Int)))
    bif x35 then
      if 0 ≤ t22 ∧ t22 < ((List.length c15.2.2.2.1.2.1 : Nat) : Int) then
        let x36 := (List.set (List.set (List.set (List.replicate 3 (0 : Int)) 0 (9 : Int)) 1 (9 : Int)) 2 (9 : Int))
        if 0 ≤ (0 : Int) ∧ (0 : Int) < ((List.length (List.getD c15.2.2.2.1.2.1 (Int.toNat t22) ([] : (List (List Int)))) : Nat) : Int) then
          let x37 := (List.set c15.2.2.2.1.2.1 (Int.toNat t22) (List.set (List.getD c15.2.2.2.1.2.1 (Int.toNat t22) ([] : (List (List Int)))) (Int.toNat (0 : Int)) x36))
          (F9_1 k n (IntKind.wrap .i64 (t22 + (1 : Int))) (c15.1, (c15.2.1, (c15.2.2.1, ((c15.2.2.2.1.1, (x37, c15.2.2.2.1.2.2)), c15.2.2.2.2)))) c1000720 c1000752 c1000800).bind some
        else none
      else none
    else
      some ((), (c1000720, c1000752, c1000800, ()))
def fr9_1 (k : Nat) : Frag := ⟨⟨[], [(15, .ptr 15 []), (18, .ptr 1000720 []), (19, .ptr 1000752 []), (20, .ptr 1000800 []), (22, .val (.int .i64))], [(15, some 32, (.pair (.sl true 3 (.int .i64) none) (.pair (.sl true 3 (.int .i64) none) (.pair (.pair (.sl true 22 (.sl true 3 (.int .i64) none) none) (.pair (.sl true 3 (.int .i64) none) .unit)) (.pair (.pair (.sl true 22 (.sl true 3 (.int .i64) none) none) (.pair (.sl true 36 (.sl true 57 (.arr 3 (.int .i64)) none) none) .unit)) .unit))))), (1000720, some 52, (.pair (.pair (.sl true 57 (.arr 3 (.int .i64)) none) .unit) (.pair (.int .i64) .unit))), (1000752, some 52, (.pair (.pair (.sl true 57 (.arr 3 (.int .i64)) none) .unit) (.pair (.int .i64) .unit))), (1000800, some 86, (.pair (.sl true 57 (.arr 3 (.int .i64)) none) (.pair (.int .i64) .unit)))]⟩, [(.exit 2, ⟨[], [(18, .ptr 1000720 []), (19, .ptr 1000752 []), (20, .ptr 1000800 [])], [(1000720, some 52, (.pair (.pair (.sl true 57 (.arr 3 (.int .i64)) none) .unit) (.pair (.int .i64) .unit))), (1000752, some 52, (.pair (.pair (.sl true 57 (.arr 3 (.int .i64)) none) .unit) (.pair (.int .i64) .unit))), (1000800, some 86, (.pair (.sl true 57 (.arr 3 (.int .i64)) none) (.pair (.int .i64) .unit)))]⟩)], fun v => F9_1 k k v.1.1 v.2.1 v.2.2.1 v.2.2.2.1 v.2.2.2.2.1⟩
def F9 (k : Nat) (a0 : Int) (a1 : Int) (a2 : (List Int)) (a3 : (List Int)) (a4 : (List Int)) (a5 : (List Int)) (a6 : (List Int)) : Option ((Bool × Unit) × Unit) :=
  (F15 k).bind fun r1 =>
  bif (!r1.1.1) then
    some ((false, ()), ())
  else
    (F16 k a0 a1 a2 a3 a4).bind fun r2 =>
    (F16 k a0 a1 a2 a3 a4).bind fun r3 =>
    (F17 k a5 []).bind fun r4 =>
    (F22 k r2.1.1 r4.1.1).bind fun r5 =>
    (F22 k r2.1.1 (⟨#[97, 98, 99]⟩ : ByteArray)).bind fun r6 =>
    (F29 k r3.1.1 r4.1.1).bind fun r7 =>
    (F9_0 k k a6 (0 : Int) r2.1.1 r5.1.1 r6.1.1 r7.1.1).bind fun r26 =>
    match r26 with
    | .inl r27 =>
      let y28 := r27.2.1
      let y29 := r27.2.2.1
      let y30 := r27.2.2.2.1
      let y31 := r27.2.2.2.2.1
      (F9_1 k k (0 : Int) y28 y29 y30 y31).bind fun r38 =>
      let y39 := r38.2.1
      let y40 := r38.2.2.1
      let y41 := r38.2.2.2.1
      (F32 k y39).bind fun r42 =>
      (F33 k y41).bind fun r43 =>
      bif (r42.1.1 == r43.1.1) then
        bif (r42.1.2.1 == r43.1.2.1) then
          (F23 k y40).bind fun r44 =>
          some (((r44.1.1 == (4 : Int)), ()), ())
        else
          some ((false, ()), ())
      else
        some ((false, ()), ())
    | .inr r27 =>
      let y45 := r27.1.1
      some ((y45, ()), ())
def sp9 (k : Nat) : Spec := ⟨[.val (.int .i64), .val (.int .i64), .val (.sl false 3 (.int .i64) none), .val (.sl false 3 (.int .i64) none), .val (.sl false 3 (.int .i64) none), .val (.sl false 3 (.int .i64) none), .val (.sl false 3 (.int .i64) none)], [.val .bool], fun x => F9 k x.1 x.2.1 x.2.2.1 x.2.2.2.1 x.2.2.2.2.1 x.2.2.2.2.2.1 x.2.2.2.2.2.2.1⟩
def lim9 : Lim := ⟨132, 7, false, true⟩
def cfg9 (k : Nat) : Nat → Option Spec := cfgL [(15, sp15 k), (16, sp16 k), (17, sp17 k), (22, sp22 k), (23, sp23 k), (24, sp24 k), (29, sp29 k), (30, sp30 k), (31, sp31 k), (32, sp32 k), (33, sp33 k)]
theorem cfg9_ok (k : Nat) : CfgOK Try.prog (cfg9 k) := cfgL_cons (v15 k) (cfgL_cons (v16 k) (cfgL_cons (v17 k) (cfgL_cons (v22 k) (cfgL_cons (v23 k) (cfgL_cons (v24 k) (cfgL_cons (v29 k) (cfgL_cons (v30 k) (cfgL_cons (v31 k) (cfgL_cons (v32 k) (cfgL_cons (v33 k) (cfgL_nil)))))))))))
def pl9_0 (k : Nat) : Plan := .go
theorem pq9_0 (k : Nat) : PlanOK Try.prog lim9 (pl9_0 k) (codeAt (bodyOf Try.f9) [.r, .r, .r, .r, .r, .r, .l, .r, .s, .b]) = PlanOK Try.prog lim9 .go (codeAt (bodyOf Try.f9) [.r, .r, .r, .r, .r, .r, .l, .r, .s, .b]) := by kernel_rfl
theorem ps9_0 (k m : Nat) (v : (fr9_0 k).sh.V) : F9_0 k (m + 1) v.1.1 v.1.2.1 v.2.1 v.2.2.1 v.2.2.2.1 v.2.2.2.2.1 = (body Try.prog (stepper Try.prog (cfg9 k) lim9) (pl9_0 k) (codeAt (bodyOf Try.f9) [.r, .r, .r, .r, .r, .r, .l, .r, .s, .b]) ((fr9_0 k).sh.st v) (loopK (fr9_0 k) fun v => F9_0 k m v.1.1 v.1.2.1 v.2.1 v.2.2.1 v.2.2.2.1 v.2.2.2.2.1)).eval := by kernel_rfl
theorem pe9_0 (k m : Nat) (v : (fr9_0 k).sh.V) : (body Try.prog (stepper Try.prog (cfg9 k) lim9) (pl9_0 k) (codeAt (bodyOf Try.f9) [.r, .r, .r, .r, .r, .r, .l, .r, .s, .b]) ((fr9_0 k).sh.st v) (loopK (fr9_0 k) fun v => F9_0 k m v.1.1 v.1.2.1 v.2.1 v.2.2.1 v.2.2.2.1 v.2.2.2.2.1)).left = (body Try.prog (stepper Try.prog (cfg9 k) lim9) (pl9_0 k) (codeAt (bodyOf Try.f9) [.r, .r, .r, .r, .r, .r, .l, .r, .s, .b]) ((fr9_0 k).sh.st v) (loopK (fr9_0 k) fun v => F9_0 k m v.1.1 v.1.2.1 v.2.1 v.2.2.1 v.2.2.2.1 v.2.2.2.2.1)).right := by kernel_rfl
theorem fr9_0_ok (k : Nat) : FragOK Try.prog lim9 (fr9_0 k) (codeAt (bodyOf Try.f9) [.r, .r, .r, .r, .r, .r, .l, .r, .s]) :=
  frag_cast (by kernel_rfl) (loop_ok (cfg9_ok k) (Eq.mpr (pq9_0 k) (planOK_go _)) (fun m v => F9_0 k m v.1.1 v.1.2.1 v.2.1 v.2.2.1 v.2.2.2.1 v.2.2.2.2.1) k (fun _ => rfl) (fun _ => rfl) fun m v => ⟨ps9_0 k m v, pe9_0 k m v⟩)
def pl9_1 (k : Nat) : Plan := .go
theorem pq9_1 (k : Nat) : PlanOK Try.prog lim9 (pl9_1 k) (codeAt (bodyOf Try.f9) [.r, .r, .r, .r, .r, .r, .r, .l, .r, .s, .b]) = PlanOK Try.prog lim9 .go (codeAt (bodyOf Try.f9) [.r, .r, .r, .r, .r, .r, .r, .l, .r, .s, .b]) := by kernel_rfl
theorem ps9_1 (k m : Nat) (v : (fr9_1 k).sh.V) : F9_1 k (m + 1) v.1.1 v.2.1 v.2.2.1 v.2.2.2.1 v.2.2.2.2.1 = (body Try.prog (stepper Try.prog (cfg9 k) lim9) (pl9_1 k) (codeAt (bodyOf Try.f9) [.r, .r, .r, .r, .r, .r, .r, .l, .r, .s, .b]) ((fr9_1 k).sh.st v) (loopK (fr9_1 k) fun v => F9_1 k m v.1.1 v.2.1 v.2.2.1 v.2.2.2.1 v.2.2.2.2.1)).eval := by kernel_rfl
theorem pe9_1 (k m : Nat) (v : (fr9_1 k).sh.V) : (body Try.prog (stepper Try.prog (cfg9 k) lim9) (pl9_1 k) (codeAt (bodyOf Try.f9) [.r, .r, .r, .r, .r, .r, .r, .l, .r, .s, .b]) ((fr9_1 k).sh.st v) (loopK (fr9_1 k) fun v => F9_1 k m v.1.1 v.2.1 v.2.2.1 v.2.2.2.1 v.2.2.2.2.1)).left = (body Try.prog (stepper Try.prog (cfg9 k) lim9) (pl9_1 k) (codeAt (bodyOf Try.f9) [.r, .r, .r, .r, .r, .r, .r, .l, .r, .s, .b]) ((fr9_1 k).sh.st v) (loopK (fr9_1 k) fun v => F9_1 k m v.1.1 v.2.1 v.2.2.1 v.2.2.2.1 v.2.2.2.2.1)).right := by kernel_rfl
theorem fr9_1_ok (k : Nat) : FragOK Try.prog lim9 (fr9_1 k) (codeAt (bodyOf Try.f9) [.r, .r, .r, .r, .r, .r, .r, .l, .r, .s]) :=
  frag_cast (by kernel_rfl) (loop_ok (cfg9_ok k) (Eq.mpr (pq9_1 k) (planOK_go _)) (fun m v => F9_1 k m v.1.1 v.2.1 v.2.2.1 v.2.2.2.1 v.2.2.2.2.1) k (fun _ => rfl) (fun _ => rfl) fun m v => ⟨ps9_1 k m v, pe9_1 k m v⟩)
def pl9 (k : Nat) : Plan := (.seq .go (.seq .go (.seq .go (.seq .go (.seq .go (.seq .go (.seq (.seq .go (.sub (.frag (fr9_0 k)))) (.seq (.seq .go (.sub (.frag (fr9_1 k)))) .go))))))))
theorem pq9 (k : Nat) : PlanOK Try.prog lim9 (pl9 k) (codeAt (bodyOf Try.f9) []) = (PlanOK Try.prog lim9 .go (codeAt (bodyOf Try.f9) [.l]) ∧ (PlanOK Try.prog lim9 .go (codeAt (bodyOf Try.f9) [.r, .l]) ∧ (PlanOK Try.prog lim9 .go (codeAt (bodyOf Try.f9) [.r, .r, .l]) ∧ (PlanOK Try.prog lim9 .go (codeAt (bodyOf Try.f9) [.r, .r, .r, .l]) ∧ (PlanOK Try.prog lim9 .go (codeAt (bodyOf Try.f9) [.r, .r, .r, .r, .l]) ∧ (PlanOK Try.prog lim9 .go (codeAt (bodyOf Try.f9) [.r, .r, .r, .r, .r, .l]) ∧ ((PlanOK Try.prog lim9 .go (codeAt (bodyOf Try.f9) [.r, .r, .r, .r, .r, .r, .l, .l]) ∧ FragOK Try.prog lim9 (fr9_0 k) (codeAt (bodyOf Try.f9) [.r, .r, .r, .r, .r, .r, .l, .r, .s])) ∧ ((PlanOK Try.prog lim9 .go (codeAt (bodyOf Try.f9) [.r, .r, .r, .r, .r, .r, .r, .l, .l]) ∧ FragOK Try.prog lim9 (fr9_1 k) (codeAt (bodyOf Try.f9) [.r, .r, .r, .r, .r, .r, .r, .l, .r, .s])) ∧ PlanOK Try.prog lim9 .go (codeAt (bodyOf Try.f9) [.r, .r, .r, .r, .r, .r, .r, .r]))))))))) := by kernel_rfl
theorem ev9 (k : Nat) (x : AT (sp9 k).ps) : (sp9 k).impl x = (fnT Try.prog (cfg9 k) lim9 Try.f9 (bodyOf Try.f9) (pl9 k) (sp9 k) x).eval := by kernel_rfl
theorem eq9 (k : Nat) (x : AT (sp9 k).ps) : (fnT Try.prog (cfg9 k) lim9 Try.f9 (bodyOf Try.f9) (pl9 k) (sp9 k) x).left = (fnT Try.prog (cfg9 k) lim9 Try.f9 (bodyOf Try.f9) (pl9 k) (sp9 k) x).right := by kernel_rfl
theorem v9 (k : Nat) : Callable Try.prog 9 ∧ Valid Try.prog 9 (sp9 k) :=
  fn_ok (cfg9_ok k) (f := 9) (fn := Try.f9) (by kernel_rfl) (c := bodyOf Try.f9) (by kernel_rfl) (by kernel_rfl) rfl rfl (Nat.le_of_ble_eq_true rfl) (Nat.le_of_ble_eq_true rfl) (p := pl9 k) (Eq.mpr (pq9 k) ⟨(planOK_go _), ⟨(planOK_go _), ⟨(planOK_go _), ⟨(planOK_go _), ⟨(planOK_go _), ⟨(planOK_go _), ⟨⟨(planOK_go _), (fr9_0_ok k)⟩, ⟨⟨(planOK_go _), (fr9_1_ok k)⟩, (planOK_go _)⟩⟩⟩⟩⟩⟩⟩⟩) fun x => ⟨ev9 k x, eq9 k x⟩
/-! f10 hyphen/hyphenlaw13.SegSeeks -/
def F10 (k : Nat) (a0 : Int) (a1 : Int) (a2 : (List Int)) (a3 : (List Int)) (a4 : (List Int)) (a5 : (List Int)) (a6 : Int) (a7 : Int) : Option ((Bool × Unit) × Unit) :=
  (F15 k).bind fun r1 =>
  bif (!r1.1.1) then
    some ((false, ()), ())
  else
    (F16 k a0 a1 a2 a3 a4).bind fun r2 =>
    (F17 k a5 []).bind fun r3 =>
    (F22 k r2.1.1 r3.1.1).bind fun r4 =>
    (F23 k r4.1.1).bind fun r5 =>
    bif (decide (r5.1.1 < (1 : Int))) then
      some ((false, ()), ())
    else
      (F23 k r5.2.1).bind fun r6 =>
      (F24 k a6 r6.1.1).bind fun r7 =>
      (F30 k r6.2.1 r7.1.1).bind fun r8 =>
      bif (!r8.1.1) then
        some ((false, ()), ())
      else
        (F30 k r8.2.1 r6.1.1).bind fun r9 =>
        bif r9.1.1 then
          some ((false, ()), ())
        else
          (F30 k r9.2.1 (-1 : Int)).bind fun r10 =>
          bif r10.1.1 then
            some ((false, ()), ())
          else
            (F32 k r10.2.1).bind fun r11 =>
            (F30 k r11.2.1 a7).bind fun r12 =>
            (F32 k r12.2.1).bind fun r13 =>
            bif (decide (a7 ≥ (0 : Int))) then
              bif (!(r12.1.1 == (decide (a7 < r6.1.1)))) then
                some ((false, ()), ())
              else
                bif r12.1.1 then
                  bif (r13.1.1 != a7) then
                    some ((false, ()), ())
                  else
                    bif (!r12.1.1) then
                      bif (r13.1.1 != r11.1.1) then
                        some ((false, ()), ())
                      else
                        bif (!(r13.1.2.1 == r11.1.2.1)) then
                          some ((false, ()), ())
                        else
                          some (((r11.1.1 == r7.1.1), ()), ())
                    else
                      some (((r11.1.1 == r7.1.1), ()), ())
                else
                  bif (!r12.1.1) then
                    bif (r13.1.1 != r11.1.1) then
                      some ((false, ()), ())
                    else
                      bif (!(r13.1.2.1 == r11.1.2.1)) then
                        some ((false, ()), ())
                      else
                        some (((r11.1.1 == r7.1.1), ()), ())
                  else
                    some (((r11.1.1 == r7.1.1), ()), ())
            else
              bif (!(r12.1.1 == false)) then
                some ((false, ()), ())
              else
                bif r12.1.1 then
                  bif (r13.1.1 != a7) then
                    some ((false, ()), ())
                  else
                    bif (!r12.1.1) then
                      bif (r13.1.1 != r11.1.1) then
                        some ((false, ()), ())
                      else
                        bif (!(r13.1.2.1 == r11.1.2.1)) then
                          some ((false, ()), ())
                        else
                          some (((r11.1.1 == r7.1.1), ()), ())
                    else
                      some (((r11.1.1 == r7.1.1), ()), ())
                else
                  bif (!r12.1.1) then
                    bif (r13.1.1 != r11.1.1) then
                      some ((false, ()), ())
                    else
                      bif (!(r13.1.2.1 == r11.1.2.1)) then
                        some ((false, ()), ())
                      else
                        some (((r11.1.1 == r7.1.1), ()), ())
                  else
                    some (((r11.1.1 == r7.1.1), ()), ())
def sp10 (k : Nat) : Spec := ⟨[.val (.int .i64), .val (.int .i64), .val (.sl false 3 (.int .i64) none), .val (.sl false 3 (.int .i64) none), .val (.sl false 3 (.int .i64) none), .val (.sl false 3 (.int .i64) none), .val (.int .i64), .val (.int .i64)], [.val .bool], fun x => F10 k x.1 x.2.1 x.2.2.1 x.2.2.2.1 x.2.2.2.2.1 x.2.2.2.2.2.1 x.2.2.2.2.2.2.1 x.2.2.2.2.2.2.2.1⟩
def lim10 : Lim := ⟨112, 8, false, false⟩
def cfg10 (k : Nat) : Nat → Option Spec := cfgL [(15, sp15 k), (16, sp16 k), (17, sp17 k), (22, sp22 k), (23, sp23 k), (24, sp24 k), (30, sp30 k), (32, sp32 k)]
theorem cfg10_ok (k : Nat) : CfgOK Try.prog (cfg10 k) := cfgL_cons (v15 k) (cfgL_cons (v16 k) (cfgL_cons (v17 k) (cfgL_cons (v22 k) (cfgL_cons (v23 k) (cfgL_cons (v24 k) (cfgL_cons (v30 k) (cfgL_cons (v32 k) (cfgL_nil))))))))
def pl10 (k : Nat) : Plan := .go
theorem pq10 (k : Nat) : PlanOK Try.prog lim10 (pl10 k) (codeAt (bodyOf Try.f10) []) = PlanOK Try.prog lim10 .go (codeAt (bodyOf Try.f10) []) := by kernel_rfl
theorem ev10 (k : Nat) (x : AT (sp10 k).ps) : (sp10 k).impl x = (fnT Try.prog (cfg10 k) lim10 Try.f10 (bodyOf Try.f10) (pl10 k) (sp10 k) x).eval := by kernel_rfl
theorem eq10 (k : Nat) (x : AT (sp10 k).ps) : (fnT Try.prog (cfg10 k) lim10 Try.f10 (bodyOf Try.f10) (pl10 k) (sp10 k) x).left = (fnT Try.prog (cfg10 k) lim10 Try.f10 (bodyOf Try.f10) (pl10 k) (sp10 k) x).right := by kernel_rfl
theorem v10 (k : Nat) : Callable Try.prog 10 ∧ Valid Try.prog 10 (sp10 k) :=
  fn_ok (cfg10_ok k) (f := 10) (fn := Try.f10) (by kernel_rfl) (c := bodyOf Try.f10) (by kernel_rfl) (by kernel_rfl) rfl rfl (Nat.le_of_ble_eq_true rfl) (Nat.le_of_ble_eq_true rfl) (p := pl10 k) (Eq.mpr (pq10 k) (planOK_go _)) fun x => ⟨ev10 k x, eq10 k x⟩
/-! f36 (*hyphen/seg.Cursor).Next -/
def F36 (k : Nat) (a0 : (((List (List Int)) × Unit) × (Int × Unit))) : Option ((Bool × Unit) × ((((List (List Int)) × Unit) × (Int × Unit)) × Unit)) :=
  (F30 k a0 (IntKind.wrap .i64 (a0.2.1 + (1 : Int)))).bind fun r1 =>
  some ((r1.1.1, ()), (r1.2.1, ()))
def sp36 (k : Nat) : Spec := ⟨[.ptr 52 (.pair (.pair (.sl true 57 (.arr 3 (.int .i64)) none) .unit) (.pair (.int .i64) .unit)) []], [.val .bool], fun x => F36 k x.1⟩
def lim36 : Lim := ⟨10, 1, false, false⟩
def cfg36 (k : Nat) : Nat → Option Spec := cfgL [(30, sp30 k)]
theorem cfg36_ok (k : Nat) : CfgOK Try.prog (cfg36 k) := cfgL_cons (v30 k) (cfgL_nil)
def pl36 (k : Nat) : Plan := .go
theorem pq36 (k : Nat) : PlanOK Try.prog lim36 (pl36 k) (codeAt (bodyOf Try.f36) []) = PlanOK Try.prog lim36 .go (codeAt (bodyOf Try.f36) []) := by kernel_rfl
theorem ev36 (k : Nat) (x : AT (sp36 k).ps) : (sp36 k).impl x = (fnT Try.prog (cfg36 k) lim36 Try.f36 (bodyOf Try.f36) (pl36 k) (sp36 k) x).eval := by kernel_rfl
theorem eq36 (k : Nat) (x : AT (sp36 k).ps) : (fnT Try.prog (cfg36 k) lim36 Try.f36 (bodyOf Try.f36) (pl36 k) (sp36 k) x).left = (fnT Try.prog (cfg36 k) lim36 Try.f36 (bodyOf Try.f36) (pl36 k) (sp36 k) x).right := by kernel_rfl
theorem v36 (k : Nat) : Callable Try.prog 36 ∧ Valid Try.prog 36 (sp36 k) :=
  fn_ok (cfg36_ok k) (f := 36) (fn := Try.f36) (by kernel_rfl) (c := bodyOf Try.f36) (by kernel_rfl) (by kernel_rfl) rfl rfl (Nat.le_of_ble_eq_true rfl) (Nat.le_of_ble_eq_true rfl) (p := pl36 k) (Eq.mpr (pq36 k) (planOK_go _)) fun x => ⟨ev36 k x, eq36 k x⟩
/-! f37 (*hyphen/seg.Cursor).Prev -/
def F37 (k : Nat) (a0 : (((List (List Int)) × Unit) × (Int × Unit))) : Option ((Bool × Unit) × ((((List (List Int)) × Unit) × (Int × Unit)) × Unit)) :=
  (F30 k a0 (IntKind.wrap .i64 (a0.2.1 - (1 : Int)))).bind fun r1 =>
  some ((r1.1.1, ()), (r1.2.1, ()))
def sp37 (k : Nat) : Spec := ⟨[.ptr 52 (.pair (.pair (.sl true 57 (.arr 3 (.int .i64)) none) .unit) (.pair (.int .i64) .unit)) []], [.val .bool], fun x => F37 k x.1⟩
def lim37 : Lim := ⟨10, 1, false, false⟩
def cfg37 (k : Nat) : Nat → Option Spec := cfgL [(30, sp30 k)]
theorem cfg37_ok (k : Nat) : CfgOK Try.prog (cfg37 k) := cfgL_cons (v30 k) (cfgL_nil)
def pl37 (k : Nat) : Plan := .go
theorem pq37 (k : Nat) : PlanOK Try.prog lim37 (pl37 k) (codeAt (bodyOf Try.f37) []) = PlanOK Try.prog lim37 .go (codeAt (bodyOf Try.f37) []) := by kernel_rfl
theorem ev37 (k : Nat) (x : AT (sp37 k).ps) : (sp37 k).impl x = (fnT Try.prog (cfg37 k) lim37 Try.f37 (bodyOf Try.f37) (pl37 k) (sp37 k) x).eval := by kernel_rfl
theorem eq37 (k : Nat) (x : AT (sp37 k).ps) : (fnT Try.prog (cfg37 k) lim37 Try.f37 (bodyOf Try.f37) (pl37 k) (sp37 k) x).left = (fnT Try.prog (cfg37 k) lim37 Try.f37 (bodyOf Try.f37) (pl37 k) (sp37 k) x).right := by kernel_rfl
theorem v37 (k : Nat) : Callable Try.prog 37 ∧ Valid Try.prog 37 (sp37 k) :=
  fn_ok (cfg37_ok k) (f := 37) (fn := Try.f37) (by kernel_rfl) (c := bodyOf Try.f37) (by kernel_rfl) (by kernel_rfl) rfl rfl (Nat.le_of_ble_eq_true rfl) (Nat.le_of_ble_eq_true rfl) (p := pl37 k) (Eq.mpr (pq37 k) (planOK_go _)) fun x => ⟨ev37 k x, eq37 k x⟩
/-! f38 (*hyphen/hyphenref13.Cursor).Next -/
def F38 (k : Nat) (a0 : ((List (List Int)) × (Int × Unit))) : Option ((Bool × Unit) × (((List (List Int)) × (Int × Unit)) × Unit)) :=
  (F31 k a0 (IntKind.wrap .i64 (a0.2.1 + (1 : Int)))).bind fun r1 =>
  some ((r1.1.1, ()), (r1.2.1, ()))
def sp38 (k : Nat) : Spec := ⟨[.ptr 86 (.pair (.sl true 57 (.arr 3 (.int .i64)) none) (.pair (.int .i64) .unit)) []], [.val .bool], fun x => F38 k x.1⟩
def lim38 : Lim := ⟨10, 1, false, false⟩
def cfg38 (k : Nat) : Nat → Option Spec := cfgL [(31, sp31 k)]
theorem cfg38_ok (k : Nat) : CfgOK Try.prog (cfg38 k) := cfgL_cons (v31 k) (cfgL_nil)
def pl38 (k : Nat) : Plan := .go
theorem pq38 (k : Nat) : PlanOK Try.prog lim38 (pl38 k) (codeAt (bodyOf Try.f38) []) = PlanOK Try.prog lim38 .go (codeAt (bodyOf Try.f38) []) := by kernel_rfl
theorem ev38 (k : Nat) (x : AT (sp38 k).ps) : (sp38 k).impl x = (fnT Try.prog (cfg38 k) lim38 Try.f38 (bodyOf Try.f38) (pl38 k) (sp38 k) x).eval := by kernel_rfl
theorem eq38 (k : Nat) (x : AT (sp38 k).ps) : (fnT Try.prog (cfg38 k) lim38 Try.f38 (bodyOf Try.f38) (pl38 k) (sp38 k) x).left = (fnT Try.prog (cfg38 k) lim38 Try.f38 (bodyOf Try.f38) (pl38 k) (sp38 k) x).right := by kernel_rfl
theorem v38 (k : Nat) : Callable Try.prog 38 ∧ Valid Try.prog 38 (sp38 k) :=
  fn_ok (cfg38_ok k) (f := 38) (fn := Try.f38) (by kernel_rfl) (c := bodyOf Try.f38) (by kernel_rfl) (by kernel_rfl) rfl rfl (Nat.le_of_ble_eq_true rfl) (Nat.le_of_ble_eq_true rfl) (p := pl38 k) (Eq.mpr (pq38 k) (planOK_go _)) fun x => ⟨ev38 k x, eq38 k x⟩
/-! f39 (*hyphen/hyphenref13.Cursor).Prev -/
def F39 (k : Nat) (a0 : ((List (List Int)) × (Int × Unit))) : Option ((Bool × Unit) × (((List (List Int)) × (Int × Unit)) × Unit)) :=
  (F31 k a0 (IntKind.wrap .i64 (a0.2.1 - (1 : Int)))).bind fun r1 =>
  some ((r1.1.1, ()), (r1.2.1, ()))
def sp39 (k : Nat) : Spec := ⟨[.ptr 86 (.pair (.sl true 57 (.arr 3 (.int .i64)) none) (.pair (.int .i64) .unit)) []], [.val .bool], fun x => F39 k x.1⟩
def lim39 : Lim := ⟨10, 1, false, false⟩
def cfg39 (k : Nat) : Nat → Option Spec := cfgL [(31, sp31 k)]
theorem cfg39_ok (k : Nat) : CfgOK Try.prog (cfg39 k) := cfgL_cons (v31 k) (cfgL_nil)
def pl39 (k : Nat) : Plan := .go
theorem pq39 (k : Nat) : PlanOK Try.prog lim39 (pl39 k) (codeAt (bodyOf Try.f39) []) = PlanOK Try.prog lim39 .go (codeAt (bodyOf Try.f39) []) := by kernel_rfl
theorem ev39 (k : Nat) (x : AT (sp39 k).ps) : (sp39 k).impl x = (fnT Try.prog (cfg39 k) lim39 Try.f39 (bodyOf Try.f39) (pl39 k) (sp39 k) x).eval := by kernel_rfl
theorem eq39 (k : Nat) (x : AT (sp39 k).ps) : (fnT Try.prog (cfg39 k) lim39 Try.f39 (bodyOf Try.f39) (pl39 k) (sp39 k) x).left = (fnT Try.prog (cfg39 k) lim39 Try.f39 (bodyOf Try.f39) (pl39 k) (sp39 k) x).right := by kernel_rfl
theorem v39 (k : Nat) : Callable Try.prog 39 ∧ Valid Try.prog 39 (sp39 k) :=
  fn_ok (cfg39_ok k) (f := 39) (fn := Try.f39) (by kernel_rfl) (c := bodyOf Try.f39) (by kernel_rfl) (by kernel_rfl) rfl rfl (Nat.le_of_ble_eq_true rfl) (Nat.le_of_ble_eq_true rfl) (p := pl39 k) (Eq.mpr (pq39 k) (planOK_go _)) fun x => ⟨ev39 k x, eq39 k x⟩
/-! f40 (*hyphen/hyphenref13.Cursor).Best -/
def F40_0 (k : Nat) : Nat → Int → Int → Int → Int → ((List (List Int)) × (Int × Unit)) → Option (((Int × Int × Unit) × (((List (List Int)) × (Int × Unit)) × Unit)))
  | 0, _, _, _, _, _ => none
  | n + 1, t2, t3, t10, t11, c0 =>
    bif (decide (t11 ≤ t2)) then
      if 0 ≤ t11 ∧ t11 < ((List.length c0.1 : Nat) : Int) then
        if 0 ≤ t3 ∧ t3 < ((3 : Nat) : Int) then
          let x4 := (List.getD (List.getD c0.1 (Int.toNat t11) ([] : (List Int))) (Int.toNat t3) (0 : Int))
          if 0 ≤ t10 ∧ t10 < ((List.length c0.1 : Nat) : Int) then
            if 0 ≤ t3 ∧ t3 < ((3 : Nat) : Int) then
              let x5 := (List.getD (List.getD c0.1 (Int.toNat t10) ([] : (List Int))) (Int.toNat t3) (0 : Int))
              bif (decide (x4 ≤ x5)) then
                (F40_0 k n t2 t3 t11 (IntKind.wrap .i64 (t11 + (1 : Int))) c0).bind some
              else
                (F40_0 k n t2 t3 t10 (IntKind.wrap .i64 (t11 + (1 : Int))) c0).bind some
            else none
          else none
        else none
      else none
    else
      some ((t3, t10, ()), (c0, ()))
def fr40_0 (k : Nat) : Frag := ⟨⟨[], [(0, .ptr 0 []), (2, .val (.int .i64)), (3, .val (.int .i64)), (10, .val (.int .i64)), (11, .val (.int .i64))], [(0, some 86, (.pair (.sl true 57 (.arr 3 (.int .i64)) none) (.pair (.int .i64) .unit)))]⟩, [(.exit 0, ⟨[], [(0, .ptr 0 []), (3, .val (.int .i64)), (10, .val (.int .i64))], [(0, some 86, (.pair (.sl true 57 (.arr 3 (.int .i64)) none) (.pair (.int .i64) .unit)))]⟩)], fun v => F40_0 k k v.1.1 v.1.2.1 v.1.2.2.1 v.1.2.2.2.1 v.2.1⟩
def F40 (k : Nat) (a0 : ((List (List Int)) × (Int × Unit))) (a1 : Int) (a2 : Int) (a3 : Int) : Option ((Int × Bool × Unit) × (((List (List Int)) × (Int × Unit)) × Unit)) :=
  bif (decide (a1 < (0 : Int))) then
    some (((0 : Int), false, ()), (a0, ()))
  else
    let x1 := (decide (a2 ≥ ((List.length a0.1 : Nat) : Int)))
    bif x1 then
      some (((0 : Int), false, ()), (a0, ()))
    else
      bif (decide (a1 > a2)) then
        some (((0 : Int), false, ()), (a0, ()))
      else
        bif (decide (a3 < (0 : Int))) then
          some (((0 : Int), false, ()), (a0, ()))
        else
          bif (decide (a3 > (2 : Int))) then
            some (((0 : Int), false, ()), (a0, ()))
          else
            (F40_0 k k a2 a3 a1 a1 a0).bind fun r6 =>
            let y7 := r6.1.1
            let y8 := r6.1.2.1
            let y9 := r6.2.1
            if 0 ≤ y8 ∧ y8 < ((List.length y9.1 : Nat) : Int) then
              if 0 ≤ y7 ∧ y7 < ((3 : Nat) : Int) then
                let x10 := (List.getD (List.getD y9.1 (Int.toNat y8) ([] : (List Int))) (Int.toNat y7) (0 : Int))
                bif (decide (x10 ≥ (1152921504606846976 : Int))) then
                  some (((0 : Int), false, ()), (y9, ()))
                else
                  some ((y8, true, ()), (y9, ()))
              else none
            else none
def sp40 (k : Nat) : Spec := ⟨[.ptr 86 (.pair (.sl true 57 (.arr 3 (.int .i64)) none) (.pair (.int .i64) .unit)) [], .val (.int .i64), .val (.int .i64), .val (.int .i64)], [.val (.int .i64), .val .bool], fun x => F40 k x.1 x.2.1 x.2.2.1 x.2.2.2.1⟩
def lim40 : Lim := ⟨74, 4, false, false⟩
def cfg40 (k : Nat) : Nat → Option Spec := cfgL []
theorem cfg40_ok (k : Nat) : CfgOK Try.prog (cfg40 k) := cfgL_nil
def pl40_0 (k : Nat) : Plan := .go
theorem pq40_0 (k : Nat) : PlanOK Try.prog lim40 (pl40_0 k) (codeAt (bodyOf Try.f40) [.r, .r, .r, .l, .r, .s, .b]) = PlanOK Try.prog lim40 .go (codeAt (bodyOf Try.f40) [.r, .r, .r, .l, .r, .s, .b]) := by kernel_rfl
theorem ps40_0 (k m : Nat) (v : (fr40_0 k).sh.V) : F40_0 k (m + 1) v.1.1 v.1.2.1 v.1.2.2.1 v.1.2.2.2.1 v.2.1 = (body Try.prog (stepper Try.prog (cfg40 k) lim40) (pl40_0 k) (codeAt (bodyOf Try.f40) [.r, .r, .r, .l, .r, .s, .b]) ((fr40_0 k).sh.st v) (loopK (fr40_0 k) fun v => F40_0 k m v.1.1 v.1.2.1 v.1.2.2.1 v.1.2.2.2.1 v.2.1)).eval := by kernel_rfl
theorem pe40_0 (k m : Nat) (v : (fr40_0 k).sh.V) : (body Try.prog (stepper Try.prog (cfg40 k) lim40) (pl40_0 k) (codeAt (bodyOf Try.f40) [.r, .r, .r, .l, .r, .s, .b]) ((fr40_0 k).sh.st v) (loopK (fr40_0 k) fun v => F40_0 k m v.1.1 v.1.2.1 v.1.2.2.1 v.1.2.2.2.1 v.2.1)).left = (body Try.prog (stepper Try.prog (cfg40 k) lim40) (pl40_0 k) (codeAt (bodyOf Try.f40) [.r, .r, .r, .l, .r, .s, .b]) ((fr40_0 k).sh.st v) (loopK (fr40_0 k) fun v => F40_0 k m v.1.1 v.1.2.1 v.1.2.2.1 v.1.2.2.2.1 v.2.1)).right := by kernel_rfl
theorem fr40_0_ok (k : Nat) : FragOK Try.prog lim40 (fr40_0 k) (codeAt (bodyOf Try.f40) [.r, .r, .r, .l, .r, .s]) :=
  frag_cast (by kernel_rfl) (loop_ok (cfg40_ok k) (Eq.mpr (pq40_0 k) (planOK_go _)) (fun m v => F40_0 k m v.1.1 v.1.2.1 v.1.2.2.1 v.1.2.2.2.1 v.2.1) k (fun _ => rfl) (fun _ => rfl) fun m v => ⟨ps40_0 k m v, pe40_0 k m v⟩)
def pl40 (k : Nat) : Plan := (.seq .go (.seq .go (.seq .go (.seq (.seq .go (.sub (.frag (fr40_0 k)))) .go))))
theorem pq40 (k : Nat) : PlanOK Try.prog lim40 (pl40 k) (codeAt (bodyOf Try.f40) []) = (PlanOK Try.prog lim40 .go (codeAt (bodyOf Try.f40) [.l]) ∧ (PlanOK Try.prog lim40 .go (codeAt (bodyOf Try.f40) [.r, .l]) ∧ (PlanOK Try.prog lim40 .go (codeAt (bodyOf Try.f40) [.r, .r, .l]) ∧ ((PlanOK Try.prog lim40 .go (codeAt (bodyOf Try.f40) [.r, .r, .r, .l, .l]) ∧ FragOK Try.prog lim40 (fr40_0 k) (codeAt (bodyOf Try.f40) [.r, .r, .r, .l, .r, .s])) ∧ PlanOK Try.prog lim40 .go (codeAt (bodyOf Try.f40) [.r, .r, .r, .r]))))) := by kernel_rfl
theorem ev40 (k : Nat) (x : AT (sp40 k).ps) : (sp40 k).impl x = (fnT Try.prog (cfg40 k) lim40 Try.f40 (bodyOf Try.f40) (pl40 k) (sp40 k) x).eval := by kernel_rfl
theorem eq40 (k : Nat) (x : AT (sp40 k).ps) : (fnT Try.prog (cfg40 k) lim40 Try.f40 (bodyOf Try.f40) (pl40 k) (sp40 k) x).left = (fnT Try.prog (cfg40 k) lim40 Try.f40 (bodyOf Try.f40) (pl40 k) (sp40 k) x).right := by kernel_rfl
theorem v40 (k : Nat) : Callable Try.prog 40 ∧ Valid Try.prog 40 (sp40 k) :=
  fn_ok (cfg40_ok k) (f := 40) (fn := Try.f40) (by kernel_rfl) (c := bodyOf Try.f40) (by kernel_rfl) (by kernel_rfl) rfl rfl (Nat.le_of_ble_eq_true rfl) (Nat.le_of_ble_eq_true rfl) (p := pl40 k) (Eq.mpr (pq40 k) ⟨(planOK_go _), ⟨(planOK_go _), ⟨(planOK_go _), ⟨⟨(planOK_go _), (fr40_0_ok k)⟩, (planOK_go _)⟩⟩⟩⟩) fun x => ⟨ev40 k x, eq40 k x⟩
/-! f41 (*hyphen/hyphenref13.Cursor).Len -/
def F41 (k : Nat) (a0 : ((List (List Int)) × (Int × Unit))) : Option ((Int × Unit) × (((List (List Int)) × (Int × Unit)) × Unit)) :=
  some ((((List.length a0.1 : Nat) : Int), ()), (a0, ()))
def sp41 (k : Nat) : Spec := ⟨[.ptr 86 (.pair (.sl true 57 (.arr 3 (.int .i64)) none) (.pair (.int .i64) .unit)) []], [.val (.int .i64)], fun x => F41 k x.1⟩
def lim41 : Lim := ⟨8, 1, false, false⟩
def cfg41 (k : Nat) : Nat → Option Spec := cfgL []
theorem cfg41_ok (k : Nat) : CfgOK Try.prog (cfg41 k) := cfgL_nil
def pl41 (k : Nat) : Plan := .go
theorem pq41 (k : Nat) : PlanOK Try.prog lim41 (pl41 k) (codeAt (bodyOf Try.f41) []) = PlanOK Try.prog lim41 .go (codeAt (bodyOf Try.f41) []) := by kernel_rfl
theorem ev41 (k : Nat) (x : AT (sp41 k).ps) : (sp41 k).impl x = (fnT Try.prog (cfg41 k) lim41 Try.f41 (bodyOf Try.f41) (pl41 k) (sp41 k) x).eval := by kernel_rfl
theorem eq41 (k : Nat) (x : AT (sp41 k).ps) : (fnT Try.prog (cfg41 k) lim41 Try.f41 (bodyOf Try.f41) (pl41 k) (sp41 k) x).left = (fnT Try.prog (cfg41 k) lim41 Try.f41 (bodyOf Try.f41) (pl41 k) (sp41 k) x).right := by kernel_rfl
theorem v41 (k : Nat) : Callable Try.prog 41 ∧ Valid Try.prog 41 (sp41 k) :=
  fn_ok (cfg41_ok k) (f := 41) (fn := Try.f41) (by kernel_rfl) (c := bodyOf Try.f41) (by kernel_rfl) (by kernel_rfl) rfl rfl (Nat.le_of_ble_eq_true rfl) (Nat.le_of_ble_eq_true rfl) (p := pl41 k) (Eq.mpr (pq41 k) (planOK_go _)) fun x => ⟨ev41 k x, eq41 k x⟩
/-! f11 hyphen/hyphenlaw13.SegErrs -/
def F11_0 (k : Nat) (t18 : Int) (t20 : Int) (c44 : (List Int)) (c1000784 : (List (List Int))) (c1000880 : (((List (List Int)) × Unit) × (Int × Unit))) : Option (((Bool × Unit) × Unit)) :=
  (F32 k c1000880).bind fun r23 =>
  bif (t20 == (0 : Int)) then
    bif (t18 == (0 : Int)) then
      let x24 := (IntKind.wrap .i64 (((List.length c44 : Nat) : Int) + (1 : Int)))
      let x25 := (((List.length c1000784 : Nat) : Int) == x24)
      bif x25 then
        (F23 k r23.2.1).bind fun r26 =>
        let x27 := (r26.1.1 == ((List.length c1000784 : Nat) : Int))
        bif x27 then
          bif (r23.1.1 == (0 : Int)) then
            if 0 ≤ (0 : Int) ∧ (0 : Int) < ((List.length c1000784 : Nat) : Int) then
              let x28 := (List.getD c1000784 (Int.toNat (0 : Int)) ([] : (List Int)))
              some (((r23.1.2.1 == x28), ()), ())
            else none
          else
            some ((false, ()), ())
        else
          some ((false, ()), ())
      else
        some ((false, ()), ())
    else
      some ((false, ()), ())
  else
    (F25 k r23.2.1 (0 : Int) (0 : Int) (0 : Int)).bind fun r29 =>
    bif (t18 == t20) then
      let x30 := (((List.length c1000784 : Nat) : Int) == (0 : Int))
      bif x30 then
        (F23 k r29.2.1).bind fun r31 =>
        bif (r31.1.1 == (0 : Int)) then
          bif (r23.1.1 == (0 : Int)) then
            (F35 k).bind fun r32 =>
            bif (r23.1.2.1 == r32.1.1) then
              (F36 k r31.2.1).bind fun r33 =>
              bif (!r33.1.1) then
                (F37 k r33.2.1).bind fun r34 =>
                bif (!r34.1.1) then
                  (F30 k r34.2.1 (0 : Int)).bind fun r35 =>
                  bif (!r35.1.1) then
                    some (((!r29.1.2.1), ()), ())
                  else
                    some ((false, ()), ())
                else
                  some ((false, ()), ())
              else
                some ((false, ()), ())
            else
              some ((false, ()), ())
          else
            some ((false, ()), ())
        else
          some ((false, ()), ())
      else
        some ((false, ()), ())
    else
      some ((false, ()), ())
def fr11_0 (k : Nat) : Frag := ⟨⟨[], [(16, .at 44 []), (17, .at 1000784 []), (18, .val (.int .i64)), (19, .ptr 1000880 []), (20, .val (.int .i64))], [(44, none, (.sl true 5 (.int .u8) none)), (1000784, none, (.sl true 57 (.arr 3 (.int .i64)) none)), (1000880, some 52, (.pair (.pair (.sl true 57 (.arr 3 (.int .i64)) none) .unit) (.pair (.int .i64) .unit)))]⟩, [(.ret, ⟨[], [(14, .val .bool)], []⟩)], fun v => F11_0 k v.1.1 v.1.2.1 v.2.1 v.2.2.1 v.2.2.2.1⟩
def F11_1 (k : Nat) (t5 : Int) (c15 : ((List Int) × ((List Int) × (((List (List Int)) × ((List Int) × Unit)) × (((List (List Int)) × ((List (List (List Int))) × Unit)) × Unit))))) : Option (((Bool × Unit) × Unit)) :=
  (F24 k t5 (10 : Int)).bind fun r43 =>
  if (0 ≤ (IntKind.wrap .i64 ((3995 : Int) + r43.1.1)) ∧ (IntKind.wrap .i64 ((3995 : Int) + r43.1.1)) < (IntKind.wrap .i64 ((3995 : Int) + r43.1.1)) + 1) ∧ (IntKind.wrap .i64 ((3995 : Int) + r43.1.1)) ≤ 9223372036854775807 ∧ ((1 : Nat) : Int) * (IntKind.wrap .i64 ((3995 : Int) + r43.1.1)) ≤ 281474976710656 then
    let x44 := (List.replicate (Int.toNat (IntKind.wrap .i64 ((3995 : Int) + r43.1.1))) (0 : Int))
    if List.length x44 ≤ 9223372036854775807 then
      (F18 k c15 (bstr x44)).bind fun r45 =>
      if List.length x44 ≤ 9223372036854775807 then
        (F22 k c15 (bstr x44)).bind fun r46 =>
        (F34 k c15).bind fun r47 =>
        bif (!r47.1.1) then
          (F11_0 k r45.1.2.1 (5 : Int) x44 r45.1.1 r46.1.1).bind fun r48 =>
          let y49 := r48.1.1
          some ((y49, ()), ())
        else
          let x50 := (decide (((List.length x44 : Nat) : Int) > (4000 : Int)))
          bif x50 then
            (F11_0 k r45.1.2.1 (6 : Int) x44 r45.1.1 r46.1.1).bind fun r51 =>
            let y52 := r51.1.1
            some ((y52, ()), ())
          else
            (F11_0 k r45.1.2.1 (0 : Int) x44 r45.1.1 r46.1.1).bind fun r53 =>
            let y54 := r53.1.1
            some ((y54, ()), ())
      else none
    else none
  else none
def fr11_1 (k : Nat) : Frag := ⟨⟨[], [(5, .val (.int .i64)), (15, .ptr 15 [])], [(15, some 32, (.pair (.sl true 3 (.int .i64) none) (.pair (.sl true 3 (.int .i64) none) (.pair (.pair (.sl true 22 (.sl true 3 (.int .i64) none) none) (.pair (.sl true 3 (.int .i64) none) .unit)) (.pair (.pair (.sl true 22 (.sl true 3 (.int .i64) none) none) (.pair (.sl true 36 (.sl true 57 (.arr 3 (.int .i64)) none) none) .unit)) .unit)))))]⟩, [(.ret, ⟨[], [(14, .val .bool)], []⟩)], fun v => F11_1 k v.1.1 v.2.1⟩
def F11 (k : Nat) (a0 : Int) (a1 : Int) (a2 : (List Int)) (a3 : (List Int)) (a4 : (List Int)) (a5 : Int) (a6 : Int) : Option ((Bool × Unit) × Unit) :=
  (F15 k).bind fun r1 =>
  bif (!r1.1.1) then
    some ((false, ()), ())
  else
    (F16 k a0 a1 a2 a3 a4).bind fun r2 =>
    (F24 k a6 (3 : Int)).bind fun r3 =>
    bif (r3.1.1 == (0 : Int)) then
      let x4 := (List.set (List.replicate 1 (0 : Int)) 0 (9 : Int))
      if (List.length r2.1.1.2.1 + List.length x4) * (8 * 2) ≤ 281474976710656 ∧ List.length r2.1.1.2.1 + List.length x4 ≤ 9223372036854775807 then
        (F11_1 k a5 (r2.1.1.1, ((r2.1.1.2.1 ++ x4), r2.1.1.2.2))).bind fun r55 =>
        let y56 := r55.1.1
        some ((y56, ()), ())
      else none
    else
      (F11_1 k a5 r2.1.1).bind fun r57 =>
      let y58 := r57.1.1
      some ((y58, ()), ())
def sp11 (k : Nat) : Spec := ⟨[.val (.int .i64), .val (.int .i64), .val (.sl false 3 (.int .i64) none), .val (.sl false 3 (.int .i64) none), .val (.sl false 3 (.int .i64) none), .val (.int .i64), .val (.int .i64)], [.val .bool], fun x => F11 k x.1 x.2.1 x.2.2.1 x.2.2.2.1 x.2.2.2.2.1 x.2.2.2.2.2.1 x.2.2.2.2.2.2.1⟩
def lim11 : Lim := ⟨149, 7, false, false⟩
def cfg11 (k : Nat) : Nat → Option Spec := cfgL [(15, sp15 k), (16, sp16 k), (18, sp18 k), (22, sp22 k), (23, sp23 k), (24, sp24 k), (25, sp25 k), (30, sp30 k), (32, sp32 k), (34, sp34 k), (35, sp35 k), (36, sp36 k), (37, sp37 k)]
theorem cfg11_ok (k : Nat) : CfgOK Try.prog (cfg11 k) := cfgL_cons (v15 k) (cfgL_cons (v16 k) (cfgL_cons (v18 k) (cfgL_cons (v22 k) (cfgL_cons (v23 k) (cfgL_cons (v24 k) (cfgL_cons (v25 k) (cfgL_cons (v30 k) (cfgL_cons (v32 k) (cfgL_cons (v34 k) (cfgL_cons (v35 k) (cfgL_cons (v36 k) (cfgL_cons (v37 k) (cfgL_nil)))))))))))))
def pl11_0 (k : Nat) : Plan := .go
theorem pq11_0 (k : Nat) : PlanOK Try.prog lim11 (pl11_0 k) (codeAt (bodyOf Try.f11) [.r, .r, .r, .r, .r, .r, .r, .r, .r, .r]) = PlanOK Try.prog lim11 .go (codeAt (bodyOf Try.f11) [.r, .r, .r, .r, .r, .r, .r, .r, .r, .r]) := by kernel_rfl
theorem ps11_0 (k : Nat) (v : (fr11_0 k).sh.V) : (fr11_0 k).impl v = (body Try.prog (stepper Try.prog (cfg11 k) lim11) (pl11_0 k) (codeAt (bodyOf Try.f11) [.r, .r, .r, .r, .r, .r, .r, .r, .r, .r]) ((fr11_0 k).sh.st v) (injO (fr11_0 k).outs)).eval := by kernel_rfl
theorem pe11_0 (k : Nat) (v : (fr11_0 k).sh.V) : (body Try.prog (stepper Try.prog (cfg11 k) lim11) (pl11_0 k) (codeAt (bodyOf Try.f11) [.r, .r, .r, .r, .r, .r, .r, .r, .r, .r]) ((fr11_0 k).sh.st v) (injO (fr11_0 k).outs)).left = (body Try.prog (stepper Try.prog (cfg11 k) lim11) (pl11_0 k) (codeAt (bodyOf Try.f11) [.r, .r, .r, .r, .r, .r, .r, .r, .r, .r]) ((fr11_0 k).sh.st v) (injO (fr11_0 k).outs)).right := by kernel_rfl
theorem fr11_0_ok (k : Nat) : FragOK Try.prog lim11 (fr11_0 k) (codeAt (bodyOf Try.f11) [.r, .r, .r, .r, .r, .r, .r, .r, .r, .r]) :=
  frag_ok (cfg11_ok k) (Eq.mpr (pq11_0 k) (planOK_go _)) fun v => ⟨ps11_0 k v, pe11_0 k v⟩
def pl11_1 (k : Nat) : Plan := (.seq .go (.seq .go (.seq .go (.seq .go (.seq .go (.seq .go (.frag (fr11_0 k))))))))
theorem pq11_1 (k : Nat) : PlanOK Try.prog lim11 (pl11_1 k) (codeAt (bodyOf Try.f11) [.r, .r, .r, .r]) = (PlanOK Try.prog lim11 .go (codeAt (bodyOf Try.f11) [.r, .r, .r, .r, .l]) ∧ (PlanOK Try.prog lim11 .go (codeAt (bodyOf Try.f11) [.r, .r, .r, .r, .r, .l]) ∧ (PlanOK Try.prog lim11 .go (codeAt (bodyOf Try.f11) [.r, .r, .r, .r, .r, .r, .l]) ∧ (PlanOK Try.prog lim11 .go (codeAt (bodyOf Try.f11) [.r, .r, .r, .r, .r, .r, .r, .l]) ∧ (PlanOK Try.prog lim11 .go (codeAt (bodyOf Try.f11) [.r, .r, .r, .r, .r, .r, .r, .r, .l]) ∧ (PlanOK Try.prog lim11 .go (codeAt (bodyOf Try.f11) [.r, .r, .r, .r, .r, .r, .r, .r, .r, .l]) ∧ FragOK Try.prog lim11 (fr11_0 k) (codeAt (bodyOf Try.f11) [.r, .r, .r, .r, .r, .r, .r, .r, .r, .r]))))))) := by kernel_rfl
theorem ps11_1 (k : Nat) (v : (fr11_1 k).sh.V) : (fr11_1 k).impl v = (body Try.prog (stepper Try.prog (cfg11 k) lim11) (pl11_1 k) (codeAt (bodyOf Try.f11) [.r, .r, .r, .r]) ((fr11_1 k).sh.st v) (injO (fr11_1 k).outs)).eval := by kernel_rfl
theorem pe11_1 (k : Nat) (v : (fr11_1 k).sh.V) : (body Try.prog (stepper Try.prog (cfg11 k) lim11) (pl11_1 k) (codeAt (bodyOf Try.f11) [.r, .r, .r, .r]) ((fr11_1 k).sh.st v) (injO (fr11_1 k).outs)).left = (body Try.prog (stepper Try.prog (cfg11 k) lim11) (pl11_1 k) (codeAt (bodyOf Try.f11) [.r, .r, .r, .r]) ((fr11_1 k).sh.st v) (injO (fr11_1 k).outs)).right := by kernel_rfl
theorem fr11_1_ok (k : Nat) : FragOK Try.prog lim11 (fr11_1 k) (codeAt (bodyOf Try.f11) [.r, .r, .r, .r]) :=
  frag_ok (cfg11_ok k) (Eq.mpr (pq11_1 k) ⟨(planOK_go _), ⟨(planOK_go _), ⟨(planOK_go _), ⟨(planOK_go _), ⟨(planOK_go _), ⟨(planOK_go _), (fr11_0_ok k)⟩⟩⟩⟩⟩⟩) fun v => ⟨ps11_1 k v, pe11_1 k v⟩
def pl11 (k : Nat) : Plan := (.seq .go (.seq .go (.seq .go (.seq .go (.frag (fr11_1 k))))))
theorem pq11 (k : Nat) : PlanOK Try.prog lim11 (pl11 k) (codeAt (bodyOf Try.f11) []) = (PlanOK Try.prog lim11 .go (codeAt (bodyOf Try.f11) [.l]) ∧ (PlanOK Try.prog lim11 .go (codeAt (bodyOf Try.f11) [.r, .l]) ∧ (PlanOK Try.prog lim11 .go (codeAt (bodyOf Try.f11) [.r, .r, .l]) ∧ (PlanOK Try.prog lim11 .go (codeAt (bodyOf Try.f11) [.r, .r, .r, .l]) ∧ FragOK Try.prog lim11 (fr11_1 k) (codeAt (bodyOf Try.f11) [.r, .r, .r, .r]))))) := by kernel_rfl
theorem ev11 (k : Nat) (x : AT (sp11 k).ps) : (sp11 k).impl x = (fnT Try.prog (cfg11 k) lim11 Try.f11 (bodyOf Try.f11) (pl11 k) (sp11 k) x).eval := by kernel_rfl
theorem eq11 (k : Nat) (x : AT (sp11 k).ps) : (fnT Try.prog (cfg11 k) lim11 Try.f11 (bodyOf Try.f11) (pl11 k) (sp11 k) x).left = (fnT Try.prog (cfg11 k) lim11 Try.f11 (bodyOf Try.f11) (pl11 k) (sp11 k) x).right := by kernel_rfl
theorem v11 (k : Nat) : Callable Try.prog 11 ∧ Valid Try.prog 11 (sp11 k) :=
  fn_ok (cfg11_ok k) (f := 11) (fn := Try.f11) (by kernel_rfl) (c := bodyOf Try.f11) (by kernel_rfl) (by kernel_rfl) rfl rfl (Nat.le_of_ble_eq_true rfl) (Nat.le_of_ble_eq_true rfl) (p := pl11 k) (Eq.mpr (pq11 k) ⟨(planOK_go _), ⟨(planOK_go _), ⟨(planOK_go _), ⟨(planOK_go _), (fr11_1_ok k)⟩⟩⟩⟩) fun x => ⟨ev11 k x, eq11 k x⟩
/-! f12 hyphen/hyphenlaw13.SegCursors -/
def F12_0 (k : Nat) : Nat → (List Int) → Int → Int → (((List (List Int)) × Unit) × (Int × Unit)) → ((List (List Int)) × (Int × Unit)) → Option ((Unit × Unit) ⊕ ((Bool × Unit) × Unit))
  | 0, _, _, _, _, _ => none
  | n + 1, t6, t7, t21, c1000752, c1000800 =>
    let x54 := (decide (t21 < ((List.length t6 : Nat) : Int)))
    bif x54 then
      bif (decide (t21 < (60 : Int))) then
        if 0 ≤ t21 ∧ t21 < ((List.length t6 : Nat) : Int) then
          (F24 k (List.getD t6 (Int.toNat t21) (0 : Int)) (1073741824 : Int)).bind fun r55 =>
          let x56 := (IntKind.wrap .i64 (Int.tdiv r55.1.1 (8 : Int)))
          let x57 := (IntKind.wrap .i64 ((Int.tmod x56 (45 : Int)) - (2 : Int)))
          let x58 := (IntKind.wrap .i64 (Int.tdiv r55.1.1 (360 : Int)))
          let x59 := (IntKind.wrap .i64 ((Int.tmod x58 (45 : Int)) - (2 : Int)))
          let x60 := (IntKind.wrap .i64 (Int.tdiv r55.1.1 (16200 : Int)))
          let x61 := (IntKind.wrap .i64 ((Int.tmod x60 (5 : Int)) - (1 : Int)))
          bif ((Int.tmod r55.1.1 (8 : Int)) == (0 : Int)) then
            (F36 k c1000752).bind fun r62 =>
            (F38 k c1000800).bind fun r63 =>
            (F32 k r62.2.1).bind fun r64 =>
            (F33 k r63.2.1).bind fun r65 =>
            bif (!(r62.1.1 == r63.1.1)) then
              some (.inr ((false, ()), ()))
            else
              bif (r64.1.1 != r65.1.1) then
                some (.inr ((false, ()), ()))
              else
                bif (!(r64.1.2.1 == r65.1.2.1)) then
                  some (.inr ((false, ()), ()))
                else
                  (F23 k r64.2.1).bind fun r66 =>
                  (F41 k r65.2.1).bind fun r67 =>
                  bif (r66.1.1 != r67.1.1) then
                    some (.inr ((false, ()), ()))
                  else
                    (F12_0 k n t6 t7 (IntKind.wrap .i64 (t21 + (1 : Int))) r66.2.1 r67.2.1).bind some
          else
            bif ((Int.tmod r55.1.1 (8 : Int)) == (1 : Int)) then
              (F36 k c1000752).bind fun r68 =>
              (F38 k c1000800).bind fun r69 =>
              (F32 k r68.2.1).bind fun r70 =>
              (F33 k r69.2.1).bind fun r71 =>
              bif (!(r68.1.1 == r69.1.1)) then
                some (.inr ((false, ()), ()))
              else
                bif (r70.1.1 != r71.1.1) then
                  some (.inr ((false, ()), ()))
                else
                  bif (!(r70.1.2.1 == r71.1.2.1)) then
                    some (.inr ((false, ()), ()))
                  else
                    (F23 k r70.2.1).bind fun r72 =>
                    (F41 k r71.2.1).bind fun r73 =>
                    bif (r72.1.1 != r73.1.1) then
                      some (.inr ((false, ()), ()))
                    else
                      (F12_0 k n t6 t7 (IntKind.wrap .i64 (t21 + (1 : Int))) r72.2.1 r73.2.1).bind some
            else
              bif ((Int.tmod r55.1.1 (8 : Int)) == (2 : Int)) then
                (F37 k c1000752).bind fun r74 =>
                (F39 k c1000800).bind fun r75 =>
                (F32 k r74.2.1).bind fun r76 =>
                (F33 k r75.2.1).bind fun r77 =>
                bif (!(r74.1.1 == r75.1.1)) then
                  some (.inr ((false, ()), ()))
                else
                  bif (r76.1.1 != r77.1.1) then
                    some (.inr ((false, ()), ()))
                  else
                    bif (!(r76.1.2.1 == r77.1.2.1)) then
                      some (.inr ((false, ()), ()))
                    else
                      (F23 k r76.2.1).bind fun r78 =>
                      (F41 k r77.2.1).bind fun r79 =>
                      bif (r78.1.1 != r79.1.1) then
                        some (.inr ((false, ()), ()))
                      else
                        (F12_0 k n t6 t7 (IntKind.wrap .i64 (t21 + (1 : Int))) r78.2.1 r79.2.1).bind some
              else
                bif ((Int.tmod r55.1.1 (8 : Int)) == (3 : Int)) then
                  (F30 k c1000752 x57).bind fun r80 =>
                  (F31 k c1000800 x57).bind fun r81 =>
                  (F32 k r80.2.1).bind fun r82 =>
                  (F33 k r81.2.1).bind fun r83 =>
                  bif (!(r80.1.1 == r81.1.1)) then
                    some (.inr ((false, ()), ()))
                  else
                    bif (r82.1.1 != r83.1.1) then
                      some (.inr ((false, ()), ()))
                    else
                      bif (!(r82.1.2.1 == r83.1.2.1)) then
                        some (.inr ((false, ()), ()))
                      else
                        (F23 k r82.2.1).bind fun r84 =>
                        (F41 k r83.2.1).bind fun r85 =>
                        bif (r84.1.1 != r85.1.1) then
                          some (.inr ((false, ()), ()))
                        else
                          (F12_0 k n t6 t7 (IntKind.wrap .i64 (t21 + (1 : Int))) r84.2.1 r85.2.1).bind some
                else
                  bif ((Int.tmod r55.1.1 (8 : Int)) == (4 : Int)) then
                    (F30 k c1000752 t7).bind fun r86 =>
                    (F31 k c1000800 t7).bind fun r87 =>
                    (F32 k r86.2.1).bind fun r88 =>
                    (F33 k r87.2.1).bind fun r89 =>
                    bif (!(r86.1.1 == r87.1.1)) then
                      some (.inr ((false, ()), ()))
                    else
                      bif (r88.1.1 != r89.1.1) then
                        some (.inr ((false, ()), ()))
                      else
                        bif (!(r88.1.2.1 == r89.1.2.1)) then
                          some (.inr ((false, ()), ()))
                        else
                          (F23 k r88.2.1).bind fun r90 =>
                          (F41 k r89.2.1).bind fun r91 =>
                          bif (r90.1.1 != r91.1.1) then
                            some (.inr ((false, ()), ()))
                          else
                            (F12_0 k n t6 t7 (IntKind.wrap .i64 (t21 + (1 : Int))) r90.2.1 r91.2.1).bind some
                  else
                    (F25 k c1000752 x57 x59 x61).bind fun r92 =>
                    (F40 k c1000800 x57 x59 x61).bind fun r93 =>
                    bif (r92.1.1 == r93.1.1) then
                      (F32 k r92.2.1).bind fun r94 =>
                      (F33 k r93.2.1).bind fun r95 =>
                      bif (!(r92.1.2.1 == r93.1.2.1)) then
                        some (.inr ((false, ()), ()))
                      else
                        bif (r94.1.1 != r95.1.1) then
                          some (.inr ((false, ()), ()))
                        else
                          bif (!(r94.1.2.1 == r95.1.2.1)) then
                            some (.inr ((false, ()), ()))
                          else
                            (F23 k r94.2.1).bind fun r96 =>
                            (F41 k r95.2.1).bind fun r97 =>
                            bif (r96.1.1 != r97.1.1) then
                              some (.inr ((false, ()), ()))
                            else
                              (F12_0 k n t6 t7 (IntKind.wrap .i64 (t21 + (1 : Int))) r96.2.1 r97.2.1).bind some
                    else
                      (F32 k r92.2.1).bind fun r98 =>
                      (F33 k r93.2.1).bind fun r99 =>
                      bif (!false) then
                        some (.inr ((false, ()), ()))
                      else
                        bif (r98.1.1 != r99.1.1) then
                          some (.inr ((false, ()), ()))
                        else
                          bif (!(r98.1.2.1 == r99.1.2.1)) then
                            some (.inr ((false, ()), ()))
                          else
                            (F23 k r98.2.1).bind fun r100 =>
                            (F41 k r99.2.1).bind fun r101 =>
                            bif (r100.1.1 != r101.1.1) then
                              some (.inr ((false, ()), ()))
                            else
                              (F12_0 k n t6 t7 (IntKind.wrap .i64 (t21 + (1 : Int))) r100.2.1 r101.2.1).bind some
        else none
      else
        some (.inl ((), ()))
    else
      some (.inl ((), ()))
def fr12_0 (k : Nat) : Frag := ⟨⟨[], [(6, .val (.sl false 3 (.int .i64) none)), (7, .val (.int .i64)), (19, .ptr 1000752 []), (20, .ptr 1000800 []), (21, .val (.int .i64))], [(1000752, some 52, (.pair (.pair (.sl true 57 (.arr 3 (.int .i64)) none) .unit) (.pair (.int .i64) .unit))), (1000800, some 86, (.pair (.sl true 57 (.arr 3 (.int .i64)) none) (.pair (.int .i64) .unit)))]⟩, [(.exit 0, ⟨[], [], []⟩), (.ret, ⟨[], [(16, .val .bool)], []⟩)], fun v => F12_0 k k v.1.1 v.1.2.1 v.1.2.2.1 v.2.1 v.2.2.1⟩
def F12 (k : Nat) (a0 : Int) (a1 : Int) (a2 : (List Int)) (a3 : (List Int)) (a4 : (List Int)) (a5 : (List Int)) (a6 : (List Int)) (a7 : Int) : Option ((Bool × Unit) × Unit) :=
  (F15 k).bind fun r1 =>
  bif (!r1.1.1) then
    some ((false, ()), ())
  else
    (F16 k a0 a1 a2 a3 a4).bind fun r2 =>
    (F17 k a5 []).bind fun r3 =>
    (F22 k r2.1.1 r3.1.1).bind fun r4 =>
    (F29 k r2.1.1 r3.1.1).bind fun r5 =>
    (F12_0 k k a6 a7 (0 : Int) r4.1.1 r5.1.1).bind fun r102 =>
    match r102 with
    | .inl r103 =>
      some ((true, ()), ())
    | .inr r103 =>
      let y104 := r103.1.1
      some ((y104, ()), ())
def sp12 (k : Nat) : Spec := ⟨[.val (.int .i64), .val (.int .i64), .val (.sl false 3 (.int .i64) none), .val (.sl false 3 (.int .i64) none), .val (.sl false 3 (.int .i64) none), .val (.sl false 3 (.int .i64) none), .val (.sl false 3 (.int .i64) none), .val (.int .i64)], [.val .bool], fun x => F12 k x.1 x.2.1 x.2.2.1 x.2.2.2.1 x.2.2.2.2.1 x.2.2.2.2.2.1 x.2.2.2.2.2.2.1 x.2.2.2.2.2.2.2.1⟩
def lim12 : Lim := ⟨170, 8, false, false⟩
def cfg12 (k : Nat) : Nat → Option Spec := cfgL [(15, sp15 k), (16, sp16 k), (17, sp17 k), (22, sp22 k), (23, sp23 k), (24, sp24 k), (25, sp25 k), (29, sp29 k), (30, sp30 k), (31, sp31 k), (32, sp32 k), (33, sp33 k), (36, sp36 k), (37, sp37 k), (38, sp38 k), (39, sp39 k), (40, sp40 k), (41, sp41 k)]
theorem cfg12_ok (k : Nat) : CfgOK Try.prog (cfg12 k) := cfgL_cons (v15 k) (cfgL_cons (v16 k) (cfgL_cons (v17 k) (cfgL_cons (v22 k) (cfgL_cons (v23 k) (cfgL_cons (v24 k) (cfgL_cons (v25 k) (cfgL_cons (v29 k) (cfgL_cons (v30 k) (cfgL_cons (v31 k) (cfgL_cons (v32 k) (cfgL_cons (v33 k) (cfgL_cons (v36 k) (cfgL_cons (v37 k) (cfgL_cons (v38 k) (cfgL_cons (v39 k) (cfgL_cons (v40 k) (cfgL_cons (v41 k) (cfgL_nil))))))))))))))))))
def pl12_0 (k : Nat) : Plan := .go
theorem pq12_0 (k : Nat) : PlanOK Try.prog lim12 (pl12_0 k) (codeAt (bodyOf Try.f12) [.r, .r, .r, .r, .r, .r, .l, .r, .s, .b]) = PlanOK Try.prog lim12 .go (codeAt (bodyOf Try.f12) [.r, .r, .r, .r, .r, .r, .l, .r, .s, .b]) := by kernel_rfl
theorem ps12_0 (k m : Nat) (v : (fr12_0 k).sh.V) : F12_0 k (m + 1) v.1.1 v.1.2.1 v.1.2.2.1 v.2.1 v.2.2.1 = (body Try.prog (stepper Try.prog (cfg12 k) lim12) (pl12_0 k) (codeAt (bodyOf Try.f12) [.r, .r, .r, .r, .r, .r, .l, .r, .s, .b]) ((fr12_0 k).sh.st v) (loopK (fr12_0 k) fun v => F12_0 k m v.1.1 v.1.2.1 v.1.2.2.1 v.2.1 v.2.2.1)).eval := by kernel_rfl
theorem pe12_0 (k m : Nat) (v : (fr12_0 k).sh.V) : (body Try.prog (stepper Try.prog (cfg12 k) lim12) (pl12_0 k) (codeAt (bodyOf Try.f12) [.r, .r, .r, .r, .r, .r, .l, .r, .s, .b]) ((fr12_0 k).sh.st v) (loopK (fr12_0 k) fun v => F12_0 k m v.1.1 v.1.2.1 v.1.2.2.1 v.2.1 v.2.2.1)).left = (body Try.prog (stepper Try.prog (cfg12 k) lim12) (pl12_0 k) (codeAt (bodyOf Try.f12) [.r, .r, .r, .r, .r, .r, .l, .r, .s, .b]) ((fr12_0 k).sh.st v) (loopK (fr12_0 k) fun v => F12_0 k m v.1.1 v.1.2.1 v.1.2.2.1 v.2.1 v.2.2.1)).right := by kernel_rfl
theorem fr12_0_ok (k : Nat) : FragOK Try.prog lim12 (fr12_0 k) (codeAt (bodyOf Try.f12) [.r, .r, .r, .r, .r, .r, .l, .r, .s]) :=
  frag_cast (by kernel_rfl) (loop_ok (cfg12_ok k) (Eq.mpr (pq12_0 k) (planOK_go _)) (fun m v => F12_0 k m v.1.1 v.1.2.1 v.1.2.2.1 v.2.1 v.2.2.1) k (fun _ => rfl) (fun _ => rfl) fun m v => ⟨ps12_0 k m v, pe12_0 k m v⟩)
def pl12 (k : Nat) : Plan := (.seq .go (.seq .go (.seq .go (.seq .go (.seq .go (.seq .go (.seq (.seq .go (.sub (.frag (fr12_0 k)))) .go)))))))
theorem pq12 (k : Nat) : PlanOK Try.prog lim12 (pl12 k) (codeAt (bodyOf Try.f12) []) = (PlanOK Try.prog lim12 .go (codeAt (bodyOf Try.f12) [.l]) ∧ (PlanOK Try.prog lim12 .go (codeAt (bodyOf Try.f12) [.r, .l]) ∧ (PlanOK Try.prog lim12 .go (codeAt (bodyOf Try.f12) [.r, .r, .l]) ∧ (PlanOK Try.prog lim12 .go (codeAt (bodyOf Try.f12) [.r, .r, .r, .l]) ∧ (PlanOK Try.prog lim12 .go (codeAt (bodyOf Try.f12) [.r, .r, .r, .r, .l]) ∧ (PlanOK Try.prog lim12 .go (codeAt (bodyOf Try.f12) [.r, .r, .r, .r, .r, .l]) ∧ ((PlanOK Try.prog lim12 .go (codeAt (bodyOf Try.f12) [.r, .r, .r, .r, .r, .r, .l, .l]) ∧ FragOK Try.prog lim12 (fr12_0 k) (codeAt (bodyOf Try.f12) [.r, .r, .r, .r, .r, .r, .l, .r, .s])) ∧ PlanOK Try.prog lim12 .go (codeAt (bodyOf Try.f12) [.r, .r, .r, .r, .r, .r, .r])))))))) := by kernel_rfl
theorem ev12 (k : Nat) (x : AT (sp12 k).ps) : (sp12 k).impl x = (fnT Try.prog (cfg12 k) lim12 Try.f12 (bodyOf Try.f12) (pl12 k) (sp12 k) x).eval := by kernel_rfl
theorem eq12 (k : Nat) (x : AT (sp12 k).ps) : (fnT Try.prog (cfg12 k) lim12 Try.f12 (bodyOf Try.f12) (pl12 k) (sp12 k) x).left = (fnT Try.prog (cfg12 k) lim12 Try.f12 (bodyOf Try.f12) (pl12 k) (sp12 k) x).right := by kernel_rfl
theorem v12 (k : Nat) : Callable Try.prog 12 ∧ Valid Try.prog 12 (sp12 k) :=
  fn_ok (cfg12_ok k) (f := 12) (fn := Try.f12) (by kernel_rfl) (c := bodyOf Try.f12) (by kernel_rfl) (by kernel_rfl) rfl rfl (Nat.le_of_ble_eq_true rfl) (Nat.le_of_ble_eq_true rfl) (p := pl12 k) (Eq.mpr (pq12 k) ⟨(planOK_go _), ⟨(planOK_go _), ⟨(planOK_go _), ⟨(planOK_go _), ⟨(planOK_go _), ⟨(planOK_go _), ⟨⟨(planOK_go _), (fr12_0_ok k)⟩, (planOK_go _)⟩⟩⟩⟩⟩⟩⟩) fun x => ⟨ev12 k x, eq12 k x⟩
/-! f13 hyphen/hyphenlaw13.SegWalks -/
def F13_0 (k : Nat) : Nat → Int → (((List (List Int)) × Unit) × (Int × Unit)) → (List (List Int)) → Option ((Unit × ((((List (List Int)) × Unit) × (Int × Unit)) × (List (List Int)) × Unit)) ⊕ ((Bool × Unit) × Unit))
  | 0, _, _, _ => none
  | n + 1, t18, c1000576, c1000640 =>
    let x12 := (decide (t18 < ((List.length c1000640 : Nat) : Int)))
    bif x12 then
      (F32 k c1000576).bind fun r13 =>
      bif (r13.1.1 != t18) then
        some (.inr ((false, ()), ()))
      else
        if 0 ≤ t18 ∧ t18 < ((List.length c1000640 : Nat) : Int) then
          let x14 := (List.getD c1000640 (Int.toNat t18) ([] : (List Int)))
          bif (!(r13.1.2.1 == x14)) then
            some (.inr ((false, ()), ()))
          else
            let x15 := (decide ((IntKind.wrap .i64 (t18 + (1 : Int))) < ((List.length c1000640 : Nat) : Int)))
            (F36 k r13.2.1).bind fun r16 =>
            bif (!(r16.1.1 == x15)) then
              some (.inr ((false, ()), ()))
            else
              (F13_0 k n (IntKind.wrap .i64 (t18 + (1 : Int))) r16.2.1 c1000640).bind some
        else none
    else
      some (.inl ((), (c1000576, c1000640, ())))
def fr13_0 (k : Nat) : Frag := ⟨⟨[], [(15, .ptr 1000576 []), (16, .at 1000640 []), (18, .val (.int .i64))], [(1000576, some 52, (.pair (.pair (.sl true 57 (.arr 3 (.int .i64)) none) .unit) (.pair (.int .i64) .unit))), (1000640, none, (.sl true 57 (.arr 3 (.int .i64)) none))]⟩, [(.exit 0, ⟨[], [(15, .ptr 1000576 []), (16, .at 1000640 [])], [(1000576, some 52, (.pair (.pair (.sl true 57 (.arr 3 (.int .i64)) none) .unit) (.pair (.int .i64) .unit))), (1000640, none, (.sl true 57 (.arr 3 (.int .i64)) none))]⟩), (.ret, ⟨[], [(12, .val .bool)], []⟩)], fun v => F13_0 k k v.1.1 v.2.1 v.2.2.1⟩
def F13_1 (k : Nat) : Nat → Int → (((List (List Int)) × Unit) × (Int × Unit)) → (List (List Int)) → Option ((Unit × Unit) ⊕ ((Bool × Unit) × Unit))
  | 0, _, _, _ => none
  | n + 1, t21, c1000576, c1000640 =>
    bif (decide (t21 ≥ (0 : Int))) then
      (F32 k c1000576).bind fun r25 =>
      bif (r25.1.1 != t21) then
        some (.inr ((false, ()), ()))
      else
        if 0 ≤ t21 ∧ t21 < ((List.length c1000640 : Nat) : Int) then
          let x26 := (List.getD c1000640 (Int.toNat t21) ([] : (List Int)))
          bif (!(r25.1.2.1 == x26)) then
            some (.inr ((false, ()), ()))
          else
            (F37 k r25.2.1).bind fun r27 =>
            bif (!(r27.1.1 == (decide (t21 > (0 : Int))))) then
              some (.inr ((false, ()), ()))
            else
              (F13_1 k n (IntKind.wrap .i64 (t21 - (1 : Int))) r27.2.1 c1000640).bind some
        else none
    else
      some (.inl ((), ()))
def fr13_1 (k : Nat) : Frag := ⟨⟨[], [(15, .ptr 1000576 []), (16, .at 1000640 []), (21, .val (.int .i64))], [(1000576, some 52, (.pair (.pair (.sl true 57 (.arr 3 (.int .i64)) none) .unit) (.pair (.int .i64) .unit))), (1000640, none, (.sl true 57 (.arr 3 (.int .i64)) none))]⟩, [(.exit 2, ⟨[], [], []⟩), (.ret, ⟨[], [(12, .val .bool)], []⟩)], fun v => F13_1 k k v.1.1 v.2.1 v.2.2.1⟩
def F13 (k : Nat) (a0 : Int) (a1 : Int) (a2 : (List Int)) (a3 : (List Int)) (a4 : (List Int)) (a5 : (List Int)) : Option ((Bool × Unit) × Unit) :=
  (F15 k).bind fun r1 =>
  bif (!r1.1.1) then
    some ((false, ()), ())
  else
    (F16 k a0 a1 a2 a3 a4).bind fun r2 =>
    (F17 k a5 []).bind fun r3 =>
    (F22 k r2.1.1 r3.1.1).bind fun r4 =>
    (F18 k r2.1.1 r3.1.1).bind fun r5 =>
    bif (r5.1.2.1 != (0 : Int)) then
      some ((false, ()), ())
    else
      let x6 := (((List.length r5.1.1 : Nat) : Int) == (0 : Int))
      bif x6 then
        some ((false, ()), ())
      else
        (F13_0 k k (0 : Int) r4.1.1 r5.1.1).bind fun r17 =>
        match r17 with
        | .inl r18 =>
          let y19 := r18.2.1
          let y20 := r18.2.2.1
          let x21 := (IntKind.wrap .i64 (((List.length y20 : Nat) : Int) - (1 : Int)))
          (F13_1 k k x21 y19 y20).bind fun r28 =>
          match r28 with
          | .inl r29 =>
            some ((true, ()), ())
          | .inr r29 =>
            let y30 := r29.1.1
            some ((y30, ()), ())
        | .inr r18 =>
          let y31 := r18.1.1
          some ((y31, ()), ())
def sp13 (k : Nat) : Spec := ⟨[.val (.int .i64), .val (.int .i64), .val (.sl false 3 (.int .i64) none), .val (.sl false 3 (.int .i64) none), .val (.sl false 3 (.int .i64) none), .val (.sl false 3 (.int .i64) none)], [.val .bool], fun x => F13 k x.1 x.2.1 x.2.2.1 x.2.2.2.1 x.2.2.2.2.1 x.2.2.2.2.2.1⟩
def lim13 : Lim := ⟨116, 6, false, false⟩
def cfg13 (k : Nat) : Nat → Option Spec := cfgL [(15, sp15 k), (16, sp16 k), (17, sp17 k), (18, sp18 k), (22, sp22 k), (32, sp32 k), (36, sp36 k), (37, sp37 k)]
theorem cfg13_ok (k : Nat) : CfgOK Try.prog (cfg13 k) := cfgL_cons (v15 k) (cfgL_cons (v16 k) (cfgL_cons (v17 k) (cfgL_cons (v18 k) (cfgL_cons (v22 k) (cfgL_cons (v32 k) (cfgL_cons (v36 k) (cfgL_cons (v37 k) (cfgL_nil))))))))
def pl13_0 (k : Nat) : Plan := .go
theorem pq13_0 (k : Nat) : PlanOK Try.prog lim13 (pl13_0 k) (codeAt (bodyOf Try.f13) [.r, .r, .r, .r, .r, .r, .r, .l, .r, .s, .b]) = PlanOK Try.prog lim13 .go (codeAt (bodyOf Try.f13) [.r, .r, .r, .r, .r, .r, .r, .l, .r, .s, .b]) := by kernel_rfl
theorem ps13_0 (k m : Nat) (v : (fr13_0 k).sh.V) : F13_0 k (m + 1) v.1.1 v.2.1 v.2.2.1 = (body Try.prog (stepper Try.prog (cfg13 k) lim13) (pl13_0 k) (codeAt (bodyOf Try.f13) [.r, .r, .r, .r, .r, .r, .r, .l, .r, .s, .b]) ((fr13_0 k).sh.st v) (loopK (fr13_0 k) fun v => F13_0 k m v.1.1 v.2.1 v.2.2.1)).eval := by kernel_rfl
theorem pe13_0 (k m : Nat) (v : (fr13_0 k).sh.V) : (body Try.prog (stepper Try.prog (cfg13 k) lim13) (pl13_0 k) (codeAt (bodyOf Try.f13) [.r, .r, .r, .r, .r, .r, .r, .l, .r, .s, .b]) ((fr13_0 k).sh.st v) (loopK (fr13_0 k) fun v => F13_0 k m v.1.1 v.2.1 v.2.2.1)).left = (body Try.prog (stepper Try.prog (cfg13 k) lim13) (pl13_0 k) (codeAt (bodyOf Try.f13) [.r, .r, .r, .r, .r, .r, .r, .l, .r, .s, .b]) ((fr13_0 k).sh.st v) (loopK (fr13_0 k) fun v => F13_0 k m v.1.1 v.2.1 v.2.2.1)).right := by kernel_rfl
theorem fr13_0_ok (k : Nat) : FragOK Try.prog lim13 (fr13_0 k) (codeAt (bodyOf Try.f13) [.r, .r, .r, .r, .r, .r, .r, .l, .r, .s]) :=
  frag_cast (by kernel_rfl) (loop_ok (cfg13_ok k) (Eq.mpr (pq13_0 k) (planOK_go _)) (fun m v => F13_0 k m v.1.1 v.2.1 v.2.2.1) k (fun _ => rfl) (fun _ => rfl) fun m v => ⟨ps13_0 k m v, pe13_0 k m v⟩)
def pl13_1 (k : Nat) : Plan := .go
theorem pq13_1 (k : Nat) : PlanOK Try.prog lim13 (pl13_1 k) (codeAt (bodyOf Try.f13) [.r, .r, .r, .r, .r, .r, .r, .r, .l, .r, .s, .b]) = PlanOK Try.prog lim13 .go (codeAt (bodyOf Try.f13) [.r, .r, .r, .r, .r, .r, .r, .r, .l, .r, .s, .b]) := by kernel_rfl
theorem ps13_1 (k m : Nat) (v : (fr13_1 k).sh.V) : F13_1 k (m + 1) v.1.1 v.2.1 v.2.2.1 = (body Try.prog (stepper Try.prog (cfg13 k) lim13) (pl13_1 k) (codeAt (bodyOf Try.f13) [.r, .r, .r, .r, .r, .r, .r, .r, .l, .r, .s, .b]) ((fr13_1 k).sh.st v) (loopK (fr13_1 k) fun v => F13_1 k m v.1.1 v.2.1 v.2.2.1)).eval := by kernel_rfl
theorem pe13_1 (k m : Nat) (v : (fr13_1 k).sh.V) : (body Try.prog (stepper Try.prog (cfg13 k) lim13) (pl13_1 k) (codeAt (bodyOf Try.f13) [.r, .r, .r, .r, .r, .r, .r, .r, .l, .r, .s, .b]) ((fr13_1 k).sh.st v) (loopK (fr13_1 k) fun v => F13_1 k m v.1.1 v.2.1 v.2.2.1)).left = (body Try.prog (stepper Try.prog (cfg13 k) lim13) (pl13_1 k) (codeAt (bodyOf Try.f13) [.r, .r, .r, .r, .r, .r, .r, .r, .l, .r, .s, .b]) ((fr13_1 k).sh.st v) (loopK (fr13_1 k) fun v => F13_1 k m v.1.1 v.2.1 v.2.2.1)).right := by kernel_rfl
theorem fr13_1_ok (k : Nat) : FragOK Try.prog lim13 (fr13_1 k) (codeAt (bodyOf Try.f13) [.r, .r, .r, .r, .r, .r, .r, .r, .l, .r, .s]) :=
  frag_cast (by kernel_rfl) (loop_ok (cfg13_ok k) (Eq.mpr (pq13_1 k) (planOK_go _)) (fun m v => F13_1 k m v.1.1 v.2.1 v.2.2.1) k (fun _ => rfl) (fun _ => rfl) fun m v => ⟨ps13_1 k m v, pe13_1 k m v⟩)
def pl13 (k : Nat) : Plan := (.seq .go (.seq .go (.seq .go (.seq .go (.seq .go (.seq .go (.seq .go (.seq (.seq .go (.sub (.frag (fr13_0 k)))) (.seq (.seq .go (.sub (.frag (fr13_1 k)))) .go)))))))))
theorem pq13 (k : Nat) : PlanOK Try.prog lim13 (pl13 k) (codeAt (bodyOf Try.f13) []) = (PlanOK Try.prog lim13 .go (codeAt (bodyOf Try.f13) [.l]) ∧ (PlanOK Try.prog lim13 .go (codeAt (bodyOf Try.f13) [.r, .l]) ∧ (PlanOK Try.prog lim13 .go (codeAt (bodyOf Try.f13) [.r, .r, .l]) ∧ (PlanOK Try.prog lim13 .go (codeAt (bodyOf Try.f13) [.r, .r, .r, .l]) ∧ (PlanOK Try.prog lim13 .go (codeAt (bodyOf Try.f13) [.r, .r, .r, .r, .l]) ∧ (PlanOK Try.prog lim13 .go (codeAt (bodyOf Try.f13) [.r, .r, .r, .r, .r, .l]) ∧ (PlanOK Try.prog lim13 .go (codeAt (bodyOf Try.f13) [.r, .r, .r, .r, .r, .r, .l]) ∧ ((PlanOK Try.prog lim13 .go (codeAt (bodyOf Try.f13) [.r, .r, .r, .r, .r, .r, .r, .l, .l]) ∧ FragOK Try.prog lim13 (fr13_0 k) (codeAt (bodyOf Try.f13) [.r, .r, .r, .r, .r, .r, .r, .l, .r, .s])) ∧ ((PlanOK Try.prog lim13 .go (codeAt (bodyOf Try.f13) [.r, .r, .r, .r, .r, .r, .r, .r, .l, .l]) ∧ FragOK Try.prog lim13 (fr13_1 k) (codeAt (bodyOf Try.f13) [.r, .r, .r, .r, .r, .r, .r, .r, .l, .r, .s])) ∧ PlanOK Try.prog lim13 .go (codeAt (bodyOf Try.f13) [.r, .r, .r, .r, .r, .r, .r, .r, .r])))))))))) := by kernel_rfl
theorem ev13 (k : Nat) (x : AT (sp13 k).ps) : (sp13 k).impl x = (fnT Try.prog (cfg13 k) lim13 Try.f13 (bodyOf Try.f13) (pl13 k) (sp13 k) x).eval := by kernel_rfl
theorem eq13 (k : Nat) (x : AT (sp13 k).ps) : (fnT Try.prog (cfg13 k) lim13 Try.f13 (bodyOf Try.f13) (pl13 k) (sp13 k) x).left = (fnT Try.prog (cfg13 k) lim13 Try.f13 (bodyOf Try.f13) (pl13 k) (sp13 k) x).right := by kernel_rfl
theorem v13 (k : Nat) : Callable Try.prog 13 ∧ Valid Try.prog 13 (sp13 k) :=
  fn_ok (cfg13_ok k) (f := 13) (fn := Try.f13) (by kernel_rfl) (c := bodyOf Try.f13) (by kernel_rfl) (by kernel_rfl) rfl rfl (Nat.le_of_ble_eq_true rfl) (Nat.le_of_ble_eq_true rfl) (p := pl13 k) (Eq.mpr (pq13 k) ⟨(planOK_go _), ⟨(planOK_go _), ⟨(planOK_go _), ⟨(planOK_go _), ⟨(planOK_go _), ⟨(planOK_go _), ⟨(planOK_go _), ⟨⟨(planOK_go _), (fr13_0_ok k)⟩, ⟨⟨(planOK_go _), (fr13_1_ok k)⟩, (planOK_go _)⟩⟩⟩⟩⟩⟩⟩⟩⟩) fun x => ⟨ev13 k x, eq13 k x⟩
/-! f14 hyphen/hyphenlaw13.SegEmpty -/
def F14 (k : Nat) (a0 : Int) (a1 : Int) (a2 : (List Int)) (a3 : (List Int)) (a4 : (List Int)) (a5 : Int) : Option ((Bool × Unit) × Unit) :=
  (F15 k).bind fun r1 =>
  bif (!r1.1.1) then
    some ((false, ()), ())
  else
    (F16 k a0 a1 a2 a3 a4).bind fun r2 =>
    (F18 k r2.1.1 (⟨#[]⟩ : ByteArray)).bind fun r3 =>
    (F22 k r2.1.1 (⟨#[]⟩ : ByteArray)).bind fun r4 =>
    bif (r3.1.2.1 != (0 : Int)) then
      some ((false, ()), ())
    else
      let x5 := (((List.length r3.1.1 : Nat) : Int) != (1 : Int))
      bif x5 then
        some ((false, ()), ())
      else
        (F23 k r4.1.1).bind fun r6 =>
        bif (r6.1.1 != (1 : Int)) then
          some ((false, ()), ())
        else
          (F36 k r6.2.1).bind fun r7 =>
          bif r7.1.1 then
            some ((false, ()), ())
          else
            (F37 k r7.2.1).bind fun r8 =>
            bif r8.1.1 then
              some ((false, ()), ())
            else
              (F30 k r8.2.1 (0 : Int)).bind fun r9 =>
              bif (!r9.1.1) then
                some ((false, ()), ())
              else
                (F24 k a5 (3 : Int)).bind fun r10 =>
                (F25 k r9.2.1 (0 : Int) (0 : Int) r10.1.1).bind fun r11 =>
                if 0 ≤ (0 : Int) ∧ (0 : Int) < ((List.length r3.1.1 : Nat) : Int) then
                  let x12 := (List.getD r3.1.1 (Int.toNat (0 : Int)) ([] : (List Int)))
                  if 0 ≤ (0 : Int) ∧ (0 : Int) < ((List.length r2.1.1.2.2.2.1.2.1 : Nat) : Int) then
                    if 0 ≤ (0 : Int) ∧ (0 : Int) < ((List.length r2.1.1.2.2.1.2.1 : Nat) : Int) then
                      let x13 := (List.getD r2.1.1.2.2.1.2.1 (Int.toNat (0 : Int)) (0 : Int))
                      if 0 ≤ x13 ∧ x13 < ((List.length (List.getD r2.1.1.2.2.2.1.2.1 (Int.toNat (0 : Int)) ([] : (List (List Int)))) : Nat) : Int) then
                        let x14 := (List.getD (List.getD r2.1.1.2.2.2.1.2.1 (Int.toNat (0 : Int)) ([] : (List (List Int)))) (Int.toNat x13) ([] : (List Int)))
                        bif (x12 == x14) then
                          if 0 ≤ (0 : Int) ∧ (0 : Int) < ((List.length r3.1.1 : Nat) : Int) then
                            if 0 ≤ r10.1.1 ∧ r10.1.1 < ((3 : Nat) : Int) then
                              let x15 := (List.getD (List.getD r3.1.1 (Int.toNat (0 : Int)) ([] : (List Int))) (Int.toNat r10.1.1) (0 : Int))
                              let x16 := (r11.1.2.1 == (decide (x15 < (1152921504606846976 : Int))))
                              bif x16 then
                                some (((r11.1.1 == (0 : Int)), ()), ())
                              else
                                some ((false, ()), ())
                            else none
                          else none
                        else
                          some ((false, ()), ())
                      else none
                    else none
                  else none
                else none
def sp14 (k : Nat) : Spec := ⟨[.val (.int .i64), .val (.int .i64), .val (.sl false 3 (.int .i64) none), .val (.sl false 3 (.int .i64) none), .val (.sl false 3 (.int .i64) none), .val (.int .i64)], [.val .bool], fun x => F14 k x.1 x.2.1 x.2.2.1 x.2.2.2.1 x.2.2.2.2.1 x.2.2.2.2.2.1⟩
def lim14 : Lim := ⟨104, 6, false, false⟩
def cfg14 (k : Nat) : Nat → Option Spec := cfgL [(15, sp15 k), (16, sp16 k), (18, sp18 k), (22, sp22 k), (23, sp23 k), (24, sp24 k), (25, sp25 k), (30, sp30 k), (36, sp36 k), (37, sp37 k)]
theorem cfg14_ok (k : Nat) : CfgOK Try.prog (cfg14 k) := cfgL_cons (v15 k) (cfgL_cons (v16 k) (cfgL_cons (v18 k) (cfgL_cons (v22 k) (cfgL_cons (v23 k) (cfgL_cons (v24 k) (cfgL_cons (v25 k) (cfgL_cons (v30 k) (cfgL_cons (v36 k) (cfgL_cons (v37 k) (cfgL_nil))))))))))
def pl14 (k : Nat) : Plan := .go
theorem pq14 (k : Nat) : PlanOK Try.prog lim14 (pl14 k) (codeAt (bodyOf Try.f14) []) = PlanOK Try.prog lim14 .go (codeAt (bodyOf Try.f14) []) := by kernel_rfl
theorem ev14 (k : Nat) (x : AT (sp14 k).ps) : (sp14 k).impl x = (fnT Try.prog (cfg14 k) lim14 Try.f14 (bodyOf Try.f14) (pl14 k) (sp14 k) x).eval := by kernel_rfl
theorem eq14 (k : Nat) (x : AT (sp14 k).ps) : (fnT Try.prog (cfg14 k) lim14 Try.f14 (bodyOf Try.f14) (pl14 k) (sp14 k) x).left = (fnT Try.prog (cfg14 k) lim14 Try.f14 (bodyOf Try.f14) (pl14 k) (sp14 k) x).right := by kernel_rfl
theorem v14 (k : Nat) : Callable Try.prog 14 ∧ Valid Try.prog 14 (sp14 k) :=
  fn_ok (cfg14_ok k) (f := 14) (fn := Try.f14) (by kernel_rfl) (c := bodyOf Try.f14) (by kernel_rfl) (by kernel_rfl) rfl rfl (Nat.le_of_ble_eq_true rfl) (Nat.le_of_ble_eq_true rfl) (p := pl14 k) (Eq.mpr (pq14 k) (planOK_go _)) fun x => ⟨ev14 k x, eq14 k x⟩
end Go.Proofs.YtdgdeckaoajceaaE
