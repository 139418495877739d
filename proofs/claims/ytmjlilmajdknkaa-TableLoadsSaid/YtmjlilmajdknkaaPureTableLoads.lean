/- The plain law of TableLoads. Conditions: none. -/
import Derived.Test.YtmjlilmajdknkaaP0
set_option linter.unusedSimpArgs false
set_option linter.unusedVariables false
namespace Go.Proofs.YtmjlilmajdknkaaE
theorem isB_win {l : List Int} (h : IsB l) (a b : Nat) : IsB (List.take a (List.drop b l)) := fun x hx => h x (List.mem_of_mem_drop (List.mem_of_mem_take hx))
theorem win_len (l : List Int) (a b : Nat) : (List.take a (List.drop b l)).length ≤ l.length := by
  rw [List.length_take, List.length_drop]
  omega
theorem F4_0_ok (k : Nat) (at_ by_ : List Int) (x7 : Int) (x8 x9 b : List Int) : ∀ (d n i : Nat) (z : List Int), i + d = 3 → d < n → IsB z → 0 < z.length → z.length ≤ 5000 →
    ∃ z', F4_0 k n at_ by_ x7 x8 x9 (i : Int) z b = some ((x7, x8, x9, ()), (z', b, ())) ∧ IsB z' ∧ z'.length = z.length
  | 0, n, i, z, hi, hn, hz, h0, h1 => by
    obtain ⟨n, rfl⟩ : ∃ m, n = m + 1 := ⟨n - 1, by omega⟩
    refine ⟨z, ?_, hz, rfl⟩
    simp only [F4_0]
    by_cases c1 : (i : Int) < ((at_.length : Nat) : Int)
    · rw [decide_eq_true c1, cond_true]
      by_cases c2 : (i : Int) < ((by_.length : Nat) : Int)
      · rw [decide_eq_true c2, cond_true, decide_eq_false (by omega), cond_false]
      · rw [decide_eq_false c2, cond_false]
    · rw [decide_eq_false c1, cond_false]
  | d + 1, n, i, z, hi, hn, hz, h0, h1 => by
    obtain ⟨n, rfl⟩ : ∃ m, n = m + 1 := ⟨n - 1, by omega⟩
    by_cases c1 : i < at_.length
    · by_cases c2 : i < by_.length
      · have m0 := Int.emod_nonneg at_[i] (show ((z.length : Nat) : Int) ≠ 0 by omega)
        have m1 := Int.emod_lt_of_pos at_[i] (show 0 < ((z.length : Nat) : Int) by omega)
        have e19 := F19_eq k at_[i] ((z.length : Nat) : Int) (by omega) (by omega)
        obtain ⟨p, hp⟩ : ∃ p : Nat, at_[i] % ((z.length : Nat) : Int) = p := ⟨(at_[i] % ((z.length : Nat) : Int)).toNat, by omega⟩
        rw [hp] at e19 m1
        obtain ⟨z', e, hz', hl⟩ := F4_0_ok k at_ by_ x7 x8 x9 b d n (i + 1) (List.set z p ((List.getD z p 0 + by_[i]) % 256)) (by omega) (by omega) (fun x hx => by
          rcases List.mem_or_eq_of_mem_set hx with hx | rfl
          · exact hz x hx
          · omega) (by rw [List.length_set]; exact h0) (by rw [List.length_set]; exact h1)
        refine ⟨z', ?_, hz', by rw [hl, List.length_set]⟩
        simp only [F4_0]
        rw [dlt c1, cond_true, dlt c2, cond_true, decide_eq_true (by omega), cond_true, if_pos (inR c1), if_pos (inR c2), Int.toNat_natCast, getD_lt _ _ _ c1, getD_lt _ _ _ c2, e19, Option.bind_some]
        simp only
        rw [if_pos (by omega), if_pos (by omega), wu8, Int.toNat_natCast, w64 _ (by omega) (by omega), show ((i : Int) + 1) = ((i + 1 : Nat) : Int) from by omega, e, Option.bind_some]
      · refine ⟨z, ?_, hz, rfl⟩
        simp only [F4_0]
        rw [dlt c1, cond_true, decide_eq_false (by omega), cond_false]
    · refine ⟨z, ?_, hz, rfl⟩
      simp only [F4_0]
      rw [decide_eq_false (by omega), cond_false]
theorem F4_1_ok (k : Nat) (hk : 100010 ≤ k) (l : List (List Int)) (hl : l.length ≤ 1000) (hb : ∀ b ∈ l, IsB b ∧ b.length ≤ 20000) : ∀ (d n i : Nat), i + d = l.length → d < n → F4_1 k n (i : Int) l = some (.inl ((), ()))
  | 0, n, i, hi, hn => by
    obtain ⟨n, rfl⟩ : ∃ m, n = m + 1 := ⟨n - 1, by omega⟩
    simp only [F4_1]
    rw [decide_eq_false (by omega), cond_false]
  | d + 1, n, i, hi, hn => by
    obtain ⟨n, rfl⟩ : ∃ m, n = m + 1 := ⟨n - 1, by omega⟩
    have hB : Bd = 1099511627776 := rfl
    have hlt : i < l.length := by omega
    obtain ⟨h1, h2⟩ := hb _ (List.getElem_mem hlt)
    obtain ⟨t, r, e1, e2, e3⟩ := load_same k l[i] hk h1 (by omega) (by omega)
    have hf := loadR_fits e3 k hk (by omega) (by omega)
    simp only [F4_1]
    rw [dlt hlt, cond_true, if_pos (inR hlt), Int.toNat_natCast, getD_lt _ _ _ hlt, e1, Option.bind_some, if_pos (inR hlt), e2, Option.bind_some]
    simp only
    rw [beq_self_eq_true, Bool.not_true, cond_false, F18_eq k t t hf hf, Option.bind_some, beq_self_eq_true]
    simp only
    rw [Bool.not_true, cond_false, wsucc i _ hlt (by omega), F4_1_ok k hk l hl hb d n (i + 1) (by omega) (by omega), Option.bind_some]
theorem set7 (a b c d e f g : List Int) : List.set (List.set (List.set (List.set (List.set (List.set (List.set (List.replicate 7 ([] : List Int)) 0 a) 1 b) 2 c) 3 d) 4 e) 5 f) 6 g = [a, b, c, d, e, f, g] := (rfl : List.set (List.set (List.set (List.set (List.set (List.set (List.set [([] : List Int), [], [], [], [], [], []] 0 a) 1 b) 2 c) 3 d) 4 e) 5 f) 6 g = [a, b, c, d, e, f, g]).trans rfl
theorem table_loads (a0 a1 : Int) (a2 a3 a4 a5 a6 : List Int) (a7 : Int) (a8 a9 : List Int) (h8 : IsB a8) (h9 : IsB a9) : ∃ k, F4 k a0 a1 a2 a3 a4 a5 a6 a7 a8 a9 = some ((true, ()), ()) := by
  obtain ⟨k, hk⟩ : ∃ k : Nat, 100010 ≤ k := ⟨100010, Nat.le_refl _⟩
  refine ⟨k, ?_⟩
  have h12 := known_ok k (by omega)
  obtain ⟨t, e, ht⟩ := make_ok k hk a0 a1 a2 a3 a4
  have hB : Bd = 1099511627776 := rfl
  have hsl := save_len t
  have hel := ht.len
  have hpos : 8 ≤ (enc t).length := by
    unfold enc
    rw [List.length_append, encNs_len]
    omega
  have hsb := save_isB t
  unfold F4
  rw [h12, Option.bind_some]
  simp only
  rw [Bool.not_true, cond_false]
  by_cases c8 : ((a8.length : Nat) : Int) > 60
  · rw [decide_eq_true c8, cond_true]
  rw [decide_eq_false c8, cond_false]
  by_cases c9 : ((a9.length : Nat) : Int) > 300
  · rw [decide_eq_true c9, cond_true]
  rw [decide_eq_false c9, cond_false, e, Option.bind_some]
  simp only
  rw [F17_eq k t ht.fits, Option.bind_some]
  simp only [List.replicate_zero, List.nil_append, List.length_nil, Nat.zero_add]
  generalize save t = s at *
  rw [w64 (((s.length : Nat) : Int) - 8) (by omega) (by omega), if_pos (by omega)]
  have hw1 := isB_win hsb (Int.toNat (((s.length : Nat) : Int) - 8) - Int.toNat 0) (Int.toNat 0)
  have hl1 : (List.take (Int.toNat (((s.length : Nat) : Int) - 8) - Int.toNat 0) (List.drop (Int.toNat 0) s)).length = s.length - 8 := by
    rw [List.length_take, List.length_drop]
    omega
  generalize List.take (Int.toNat (((s.length : Nat) : Int) - 8) - Int.toNat 0) (List.drop (Int.toNat 0) s) = z at *
  rw [if_pos (by omega)]
  obtain ⟨z', e0, hz', hl'⟩ := F4_0_ok k a5 a6 a7 a8 a9 s 3 k 0 z (by omega) (by omega) hw1 (by omega) (by omega)
  rw [show ((0 : Nat) : Int) = 0 from rfl] at e0
  rw [e0, Option.bind_some]
  simp only
  rw [w64 (((s.length : Nat) : Int) - 8) (by omega) (by omega), if_pos (by omega)]
  have hw2 := isB_win hsb (Int.toNat ((s.length : Nat) : Int) - Int.toNat (((s.length : Nat) : Int) - 8)) (Int.toNat (((s.length : Nat) : Int) - 8))
  have hl2 := win_len s (Int.toNat ((s.length : Nat) : Int) - Int.toNat (((s.length : Nat) : Int) - 8)) (Int.toNat (((s.length : Nat) : Int) - 8))
  generalize List.take (Int.toNat ((s.length : Nat) : Int) - Int.toNat (((s.length : Nat) : Int) - 8)) (List.drop (Int.toNat (((s.length : Nat) : Int) - 8)) s) = w2 at *
  rw [if_pos (by omega), if_pos (by omega), w64 (((s.length : Nat) : Int) + 1) (by omega) (by omega), F19_eq k a7 (((s.length : Nat) : Int) + 1) (by omega) (by omega), Option.bind_some]
  simp only
  have m0 := Int.emod_nonneg a7 (show ((s.length : Nat) : Int) + 1 ≠ 0 by omega)
  have m1 := Int.emod_lt_of_pos a7 (show 0 < ((s.length : Nat) : Int) + 1 by omega)
  generalize a7 % (((s.length : Nat) : Int) + 1) = c at *
  rw [if_pos (by omega), if_pos (by omega), if_pos (by omega), if_pos (by omega), F20_eq k z' (by omega) (by omega) hz' (by omega), Option.bind_some]
  have hw3 := isB_win hsb (Int.toNat c - Int.toNat 0) (Int.toNat 0)
  have hl3 := win_len s (Int.toNat c - Int.toNat 0) (Int.toNat 0)
  generalize List.take (Int.toNat c - Int.toNat 0) (List.drop (Int.toNat 0) s) = w3 at *
  have hw4 := isB_win hsb (Int.toNat ((s.length : Nat) : Int) - Int.toNat c) (Int.toNat c)
  have hl4 := win_len s (Int.toNat ((s.length : Nat) : Int) - Int.toNat c) (Int.toNat c)
  generalize List.take (Int.toNat ((s.length : Nat) : Int) - Int.toNat c) (List.drop (Int.toNat c) s) = w4 at *
  rw [if_pos (by omega), if_pos (by omega), if_pos (by rw [List.length_append]; omega), F20_eq k a9 (by omega) (by omega) h9 (by omega), Option.bind_some, F20_eq k w3 (by omega) (by omega) hw3 (by omega), Option.bind_some]
  simp only
  rw [set7]
  have key : ∀ b ∈ [z' ++ be8 (sumL 1 z'), z' ++ w2, w3, (w3 ++ a8) ++ w4, a9, a9 ++ be8 (sumL 1 a9), w3 ++ be8 (sumL 1 w3)], IsB b ∧ b.length ≤ 20000 := by
    intro b hb
    simp only [List.mem_cons, List.not_mem_nil, or_false] at hb
    rcases hb with rfl | rfl | rfl | rfl | rfl | rfl | rfl
    · exact ⟨isB_append hz' (be8_isB _), by rw [List.length_append, be8_len]; omega⟩
    · exact ⟨isB_append hz' hw2, by rw [List.length_append]; omega⟩
    · exact ⟨hw3, by omega⟩
    · exact ⟨isB_append (isB_append hw3 h8) hw4, by rw [List.length_append, List.length_append]; omega⟩
    · exact ⟨h9, by omega⟩
    · exact ⟨isB_append h9 (be8_isB _), by rw [List.length_append, be8_len]; omega⟩
    · exact ⟨isB_append hw3 (be8_isB _), by rw [List.length_append, be8_len]; omega⟩
  have e4 := F4_1_ok k hk _ (by simp) key 7 k 0 rfl (by omega)
  rw [show ((0 : Nat) : Int) = 0 from rfl] at e4
  rw [e4, Option.bind_some]
end Go.Proofs.YtmjlilmajdknkaaE
namespace Go.Proofs.Ytmjlilmajdknkaa.Pure
open Go.Proofs.YtmjlilmajdknkaaE
theorem TableLoads (a0 : Int) (a1 : Int) (a2 : List Int) (a3 : List Int) (a4 : List Int) (a5 : List Int) (a6 : List Int) (a7 : Int) (a8 : List Int) (a9 : List Int) : (IntKind.min .i64 ≤ a0 ∧ a0 ≤ IntKind.max .i64) → (IntKind.min .i64 ≤ a1 ∧ a1 ≤ IntKind.max .i64) → (a2.length * 8 ≤ 140737488351232) → (∀ x ∈ a2, IntKind.min .i64 ≤ x ∧ x ≤ IntKind.max .i64) → (a3.length * 8 ≤ 140737488351232) → (∀ x ∈ a3, IntKind.min .i64 ≤ x ∧ x ≤ IntKind.max .i64) → (a4.length * 8 ≤ 140737488351232) → (∀ x ∈ a4, IntKind.min .i64 ≤ x ∧ x ≤ IntKind.max .i64) → (a5.length * 8 ≤ 140737488351232) → (∀ x ∈ a5, IntKind.min .i64 ≤ x ∧ x ≤ IntKind.max .i64) → (a6.length * 1 ≤ 140737488351232) → (∀ x ∈ a6, IntKind.min .u8 ≤ x ∧ x ≤ IntKind.max .u8) → (IntKind.min .i64 ≤ a7 ∧ a7 ≤ IntKind.max .i64) → (a8.length * 1 ≤ 140737488351232) → (∀ x ∈ a8, IntKind.min .u8 ≤ x ∧ x ≤ IntKind.max .u8) → (a9.length * 1 ≤ 140737488351232) → (∀ x ∈ a9, IntKind.min .u8 ≤ x ∧ x ≤ IntKind.max .u8) → ∃ k, F4 k a0 a1 a2 a3 a4 a5 a6 a7 a8 a9 = some ((true, ()), ()) := by
  intro h0 h1 h2 h3 h4 h5 h6 h7 h8 h9 h10 h11 h12 h13 h14 h15 h16
  exact table_loads a0 a1 a2 a3 a4 a5 a6 a7 a8 a9 h14 h16
end Go.Proofs.Ytmjlilmajdknkaa.Pure
