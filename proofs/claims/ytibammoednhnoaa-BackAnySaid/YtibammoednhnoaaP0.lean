/- Plain laws. Conditions: none. -/
import Derived.Test.YtibammoednhnoaaG0
set_option linter.unusedSimpArgs false
set_option linter.unusedVariables false
namespace Go.Proofs.YtibammoednhnoaaE
theorem w64 (x : Int) (h : -9223372036854775808 ≤ x) (h2 : x ≤ 9223372036854775807) : IntKind.wrap .i64 x = x := by
  simp only [IntKind.wrap, IntKind.signed, IntKind.bits, Bool.true_and]
  split
  · rename_i hc
    have hc' := of_decide_eq_true hc
    omega
  · rename_i hc
    have hc' : ¬ _ := fun h => hc (decide_eq_true h)
    omega
end Go.Proofs.YtibammoednhnoaaE
set_option linter.unusedSimpArgs false
set_option linter.unusedVariables false
namespace Go.Proofs.YtibammoednhnoaaE
theorem F15_eq (k : Nat) (a n : Int) (h0 : 0 < n) (h1 : n ≤ 4611686018427387904) : F15 k a n = some ((a % n, ()), ()) := by
  have hm : Int.tmod a n = a - n * Int.tdiv a n := by have := Int.tmod_add_mul_tdiv a n; omega
  have hlt : Int.tmod a n < n := Int.tmod_lt_of_pos a h0
  have hgt : -n < Int.tmod a n := Int.lt_tmod_of_pos a h0
  unfold F15
  rw [if_pos (by omega)]
  by_cases h : Int.tmod a n < 0
  · rw [decide_eq_true h, cond_true, w64 _ (by omega) (by omega)]
    have : a % n = Int.tmod a n + n := by
      have e : Int.tmod a n + n = (Int.tmod a n + n) % n := (Int.emod_eq_of_lt (by omega) (by omega)).symm
      rw [e, Int.add_emod_right, hm, Int.sub_mul_emod_self_left]
    rw [this]
  · rw [decide_eq_false h, cond_false]
    have : a % n = Int.tmod a n := by
      have e : Int.tmod a n = (Int.tmod a n) % n := (Int.emod_eq_of_lt (by omega) (by omega)).symm
      rw [e, hm, Int.sub_mul_emod_self_left]
    rw [this]

theorem F12_eq (k : Nat) : F12 (k + 200) = some ((true, ()), ()) := by kernel_rfl
end Go.Proofs.YtibammoednhnoaaE
set_option linter.unusedSimpArgs false
set_option linter.unusedVariables false
namespace Go.Proofs.YtibammoednhnoaaE
abbrev AnyS := ((List Int) × ((List Int) × ((List Int) × ((List (Int × (Int × (Int × Unit)))) × (Int × Unit)))))
def any0 : AnyS := (([] : (List Int)), (([] : (List Int)), (([] : (List Int)), (([] : (List (Int × (Int × (Int × Unit))))), ((1152921504606846976 : Int), ())))))
def anyR (n : Int) : AnyS := match F10_0 200 200 0 n 0 any0 with
  | some r => r.2.1
  | none => any0
def anyS (n : Int) : AnyS := ((anyR n).1, ((List.set (anyR n).2.1 0 0), ((List.set (anyR n).2.2.1 (Int.toNat (n - 1)) 0), (anyR n).2.2.2)))
def anyM (n : Int) := F16 200 [anyS n] [] 1 50
def anyT (n : Int) (m : Nat) (r : (((List (List Int)) × ((List Int) × Unit)) × (List (List Bool)) × Int × Unit)) : Option ((Bool × Unit) × Unit) :=
  let x20 := (List.replicate m (0 : Int))
  (F22 200 r.1 x20).bind fun r21 =>
  bif (r.2.2.1 != (0 : Int)) then
    some ((false, ()), ())
  else
    let x22 := (((List.length r.1.1 : Nat) : Int) != (IntKind.wrap .i64 (n + (1 : Int))))
    bif x22 then
      some ((false, ()), ())
    else
      let x23 := (((List.length r.2.1 : Nat) : Int) != (2 : Int))
      bif x23 then
        some ((false, ()), ())
      else
        let x24 := (IntKind.wrap .i64 (((List.length x20 : Nat) : Int) + (1 : Int)))
        bif (((List.length r21.1.1 : Nat) : Int) != x24) then
          some ((false, ()), ())
        else
          (F10_1 200 200 n (0 : Int) x20 r.2.1 r21.1.1).bind fun r41 =>
          match r41 with
          | .inl r42 =>
            some ((true, ()), ())
          | .inr r42 =>
            let y43 := r42.1.1
            some ((y43, ()), ())
def anyOK (n : Int) : Bool := match anyM n with
  | some r => (List.range 20).all fun m => anyT n m r.1 == some ((true, ()), ())
  | none => false
theorem any1 : anyOK 1 = true := by kernel_rfl
theorem anyf1 (a : Int) : F10_0 200 200 a 1 0 any0 = some ((a, 1, ()), (anyR 1, ())) := by kernel_rfl
theorem any2 : anyOK 2 = true := by kernel_rfl
theorem anyf2 (a : Int) : F10_0 200 200 a 2 0 any0 = some ((a, 2, ()), (anyR 2, ())) := by kernel_rfl
theorem any3 : anyOK 3 = true := by kernel_rfl
theorem anyf3 (a : Int) : F10_0 200 200 a 3 0 any0 = some ((a, 3, ()), (anyR 3, ())) := by kernel_rfl
theorem any4 : anyOK 4 = true := by kernel_rfl
theorem anyf4 (a : Int) : F10_0 200 200 a 4 0 any0 = some ((a, 4, ()), (anyR 4, ())) := by kernel_rfl
theorem any5 : anyOK 5 = true := by kernel_rfl
theorem anyf5 (a : Int) : F10_0 200 200 a 5 0 any0 = some ((a, 5, ()), (anyR 5, ())) := by kernel_rfl
theorem any6 : anyOK 6 = true := by kernel_rfl
theorem anyf6 (a : Int) : F10_0 200 200 a 6 0 any0 = some ((a, 6, ()), (anyR 6, ())) := by kernel_rfl
theorem any7 : anyOK 7 = true := by kernel_rfl
theorem anyf7 (a : Int) : F10_0 200 200 a 7 0 any0 = some ((a, 7, ()), (anyR 7, ())) := by kernel_rfl
theorem any8 : anyOK 8 = true := by kernel_rfl
theorem anyf8 (a : Int) : F10_0 200 200 a 8 0 any0 = some ((a, 8, ()), (anyR 8, ())) := by kernel_rfl
theorem any_gen {n : Int} (hn : 1 ≤ n ∧ n ≤ 8) (h1 : ∀ a, F10_0 200 200 a n 0 any0 = some ((a, n, ()), (anyR n, ()))) (h2 : 0 < (anyR n).2.1.length) (h3 : n ≤ ((anyR n).2.2.1.length : Int)) (h4 : anyOK n = true) {a b : Int} (h0 : 1 + a % 8 = n) : F10 200 a b = some ((true, ()), ()) := by
  unfold F10
  rw [show F12 200 = some ((true, ()), ()) from F12_eq 0, Option.bind_some, Bool.not_true, cond_false, F15_eq 200 a 8 (by decide) (by decide), Option.bind_some]
  rw [show IntKind.wrap .i64 ((1 : Int) + (a % 8)) = n from by rw [h0]; exact w64 _ (by omega) (by omega)]
  rw [show F10_0 200 200 b n 0 (([] : (List Int)), (([] : (List Int)), (([] : (List Int)), (([] : (List (Int × (Int × (Int × Unit))))), ((1152921504606846976 : Int), ()))))) = _ from h1 b, Option.bind_some]
  show (if 0 ≤ (0 : Int) ∧ (0 : Int) < (((anyR n).2.1.length : Nat) : Int) then _ else none) = _
  rw [if_pos (by omega), w64 (n - 1) (by omega) (by omega)]
  show (if 0 ≤ n - 1 ∧ n - 1 < (((anyR n).2.2.1.length : Nat) : Int) then _ else none) = _
  rw [if_pos (by omega)]
  show (anyM n).bind _ = _
  unfold anyOK at h4
  cases hr : anyM n with
  | none => rw [hr] at h4; cases h4
  | some r =>
    rw [hr] at h4
    rw [Option.bind_some]
    have hm0 : 0 ≤ b % 20 := Int.emod_nonneg _ (by decide)
    have hm1 : b % 20 < 20 := Int.emod_lt_of_pos _ (by decide)
    show (F15 200 b 20).bind _ = _
    rw [F15_eq 200 b 20 (by decide) (by decide), Option.bind_some]
    show (if (0 ≤ b % 20 ∧ b % 20 < b % 20 + 1) ∧ b % 20 ≤ 9223372036854775807 ∧ ((8 : Nat) : Int) * (b % 20) ≤ 281474976710656 then anyT n (b % 20).toNat r.1 else none) = _
    rw [if_pos (by omega)]
    have := List.all_eq_true.1 h4 (b % 20).toNat (List.mem_range.2 (by omega))
    simpa using this
theorem any_ok (a b : Int) : F10 200 a b = some ((true, ()), ()) := by
  have hm0 : 0 ≤ a % 8 := Int.emod_nonneg _ (by decide)
  have hm1 : a % 8 < 8 := Int.emod_lt_of_pos _ (by decide)
  have : 1 + a % 8 = 1 ∨ 1 + a % 8 = 2 ∨ 1 + a % 8 = 3 ∨ 1 + a % 8 = 4 ∨ 1 + a % 8 = 5 ∨ 1 + a % 8 = 6 ∨ 1 + a % 8 = 7 ∨ 1 + a % 8 = 8 := by omega
  rcases this with h | h | h | h | h | h | h | h
  · exact any_gen (by decide) anyf1 (by decide +kernel) (by decide +kernel) any1 h
  · exact any_gen (by decide) anyf2 (by decide +kernel) (by decide +kernel) any2 h
  · exact any_gen (by decide) anyf3 (by decide +kernel) (by decide +kernel) any3 h
  · exact any_gen (by decide) anyf4 (by decide +kernel) (by decide +kernel) any4 h
  · exact any_gen (by decide) anyf5 (by decide +kernel) (by decide +kernel) any5 h
  · exact any_gen (by decide) anyf6 (by decide +kernel) (by decide +kernel) any6 h
  · exact any_gen (by decide) anyf7 (by decide +kernel) (by decide +kernel) any7 h
  · exact any_gen (by decide) anyf8 (by decide +kernel) (by decide +kernel) any8 h
theorem any_pure (a b : Int) : ∃ k, F10 k a b = some ((true, ()), ()) := ⟨200, any_ok a b⟩
end Go.Proofs.YtibammoednhnoaaE
