import Derived.Test.YtcmacpdpphdkcaaU4
import Derived.Laws.BitsAllLaws
import Derived.Laws.BitsLemmas
namespace Go.Proofs.Ytcmacpdpphdkcaa.U
set_option linter.unusedVariables false
set_option linter.unusedSimpArgs false
open Go.RowKit Go.Proofs.Ytcmacpdpphdkcaa.F Go.Proofs.YtcmacpdpphdkcaaW.PrintWords Go.Proofs.YtcmacpdpphdkcaaW.PrintLast Go.Proofs.YtcmacpdpphdkcaaW.PrintMore

/-! ### the reference's next -/
theorem ofInt_i64 (a : Nat) (ha : a < 9223372036854775808) : (BitVec.ofInt 64 (a : Int)).toNat = a := by
  rw [BitVec.ofInt_natCast, BitVec.toNat_ofNat]; exact Nat.mod_eq_of_lt (by omega)
theorem or_nat (a b : Nat) (ha : a < 9223372036854775808) (hb : b < 9223372036854775808) : Go.bits .or .i64 (a : Int) (b : Int) = ((a ||| b : Nat) : Int) := by
  have hx : a ||| b < 2 ^ 63 := Nat.or_lt_two_pow (by omega) (by omega)
  show IntKind.i64.wrap ((BitVec.ofInt 64 (a : Int) ||| BitVec.ofInt 64 (b : Int)).toNat : Int) = _
  rw [BitVec.toNat_or, ofInt_i64 a ha, ofInt_i64 b hb, IntKind.wrap_i64]
  omega
theorem or_low (r b : Int) (h0 : 0 ≤ r) (h1 : r ≤ 1099511627776) (h2 : 0 ≤ b) (h3 : b < 64) : Go.bits .or .i64 (wrap64 (r * 64)) b = r * 64 + b := by
  rw [wrap_id _ (by omega) (by omega)]
  obtain ⟨n, rfl⟩ := Int.eq_ofNat_of_zero_le h0
  obtain ⟨m, rfl⟩ := Int.eq_ofNat_of_zero_le h2
  rw [show ((n : Int) * 64) = ((2 ^ 6 * n : Nat) : Int) from by omega, or_nat _ _ (by omega) (by omega), ← Nat.two_pow_add_eq_or_of_lt (by omega)]
  omega
theorem and_all (m : Int) (f : Int → Int) (h : ∀ c : Fin 256, Go.bits .and .i64 (c.val : Int) m = f (c.val : Int)) (b : Int) (h0 : 0 ≤ b) (h1 : b ≤ 255) : Go.bits .and .i64 b m = f b := by
  have := h ⟨b.toNat, by omega⟩
  simpa [Int.toNat_of_nonneg h0] using this
theorem and63 (b : Int) (h0 : 0 ≤ b) (h1 : b ≤ 255) : Go.bits .and .i64 b 63 = b % 64 := and_all 63 (· % 64) (by decide +kernel) b h0 h1
theorem and31 (b : Int) (h0 : 0 ≤ b) (h1 : b ≤ 255) : Go.bits .and .i64 b 31 = b % 32 := and_all 31 (· % 32) (by decide +kernel) b h0 h1
theorem and15 (b : Int) (h0 : 0 ≤ b) (h1 : b ≤ 255) : Go.bits .and .i64 b 15 = b % 16 := and_all 15 (· % 16) (by decide +kernel) b h0 h1
theorem and7 (b : Int) (h0 : 0 ≤ b) (h1 : b ≤ 255) : Go.bits .and .i64 b 7 = b % 8 := and_all 7 (· % 8) (by decide +kernel) b h0 h1
theorem second_eq (b0 b1 : Int) : hyphenref2_second.f b0 b1 = some (decide (loB b0 ≤ b1 ∧ b1 ≤ hiB b0)) := by
  have key : ∀ (lo hi : Int), loB b0 = lo → hiB b0 = hi → (if b1 ≥ lo then (some (decide (b1 ≤ hi))) else (some false)) = some (decide (loB b0 ≤ b1 ∧ b1 ≤ hiB b0)) := by
    intro lo hi h1 h2
    rw [h1, h2]
    by_cases h : b1 ≥ lo
    · rw [if_pos h]
      congr 1
      apply decide_eq_decide.2
      omega
    · rw [if_neg h]
      congr 1
      symm
      apply decide_eq_false
      omega
  unfold hyphenref2_second.f
  by_cases h1 : b0 = 224
  · rw [if_pos h1]; exact key _ _ (by unfold loB; rw [if_pos h1]) (by unfold hiB; rw [if_neg (by omega), if_neg (by omega)])
  rw [if_neg h1]
  by_cases h2 : b0 = 237
  · rw [if_pos h2]; exact key _ _ (by unfold loB; rw [if_neg (by omega), if_neg (by omega)]) (by unfold hiB; rw [if_pos h2])
  rw [if_neg h2]
  by_cases h3 : b0 = 240
  · rw [if_pos h3]; exact key _ _ (by unfold loB; rw [if_neg (by omega), if_pos h3]) (by unfold hiB; rw [if_neg (by omega), if_neg (by omega)])
  rw [if_neg h3]
  by_cases h4 : b0 = 244
  · rw [if_pos h4]; exact key _ _ (by unfold loB; rw [if_neg (by omega), if_neg (by omega)]) (by unfold hiB; rw [if_neg (by omega), if_pos h4])
  rw [if_neg h4]
  exact key _ _ (by unfold loB; rw [if_neg h1, if_neg h3]) (by unfold hiB; rw [if_neg h2, if_neg h4])
theorem lohi (b : Int) : 128 ≤ loB b ∧ hiB b ≤ 191 := by
  unfold loB hiB
  repeat' split
  all_goals omega
theorem next_step1 (k : Nat) (x : ByteArray) (n r : Int) (hn : 1 < n) (h0 : 0 ≤ r) (h1 : r ≤ 1099511627776) (hx : 0 < x.size) :
    hyphenref2_next.l0 (k + 1) x n r 1 = if 1 < (x.size : Int) ∧ loB (bt x 0) ≤ bt x 1 ∧ bt x 1 ≤ hiB (bt x 0) then hyphenref2_next.l0 k x n (r * 64 + bt x 1 % 64) 2 else some (65533, 1) := by
  have hb := bt_range x 1
  have hl := lohi (bt x 0)
  simp only [hyphenref2_next.l0]
  rw [if_pos hn]
  by_cases hs : 1 < (x.size : Int)
  · rw [if_neg (by omega), if_pos trivial, if_pos (by omega), if_pos hs, second_eq]
    simp only [Option.bind_some, decide_eq_true_eq]
    by_cases hc : loB (bt x 0) ≤ bt x 1 ∧ bt x 1 ≤ hiB (bt x 0)
    · rw [if_pos hc, if_pos (by omega), if_pos hs, if_neg (by omega), if_neg (by omega), if_pos ⟨hs, hc⟩]
      rw [wrap_id (bt x 1) (by omega) (by omega), and63 _ hb.1 hb.2, or_low r _ h0 h1 (by omega) (by omega), wrap_id _ (by omega) (by omega)]
      rfl
    · rw [if_neg hc, if_neg (fun h => hc h.2)]
  · rw [if_pos (by omega), if_neg (fun h => hs h.1)]
theorem next_step (k : Nat) (x : ByteArray) (n r i : Int) (hi : 2 ≤ i) (hi2 : i ≤ 10) (hn : i < n) (h0 : 0 ≤ r) (h1 : r ≤ 1099511627776) :
    hyphenref2_next.l0 (k + 1) x n r i = if i < (x.size : Int) ∧ cont (bt x i) then hyphenref2_next.l0 k x n (r * 64 + bt x i % 64) (i + 1) else some (65533, i) := by
  have hb := bt_range x i
  unfold cont
  simp only [hyphenref2_next.l0]
  rw [if_pos hn]
  by_cases hs : i < (x.size : Int)
  · rw [if_neg (by omega), if_neg (by omega), if_pos (by omega), if_pos hs]
    by_cases c1 : bt x i < 128
    · rw [if_pos c1, if_neg (by omega)]
    rw [if_neg c1]
    by_cases c2 : bt x i > 191
    · rw [if_pos c2, if_neg (by omega)]
    rw [if_neg c2, if_pos (by omega), wrap_id (bt x i) (by omega) (by omega), and63 _ hb.1 hb.2, or_low r _ h0 h1 (by omega) (by omega), wrap_id _ (by omega) (by omega)]
  · rw [if_pos (by omega), if_neg (fun h => hs h.1)]
theorem next_done (k : Nat) (x : ByteArray) (n r : Int) : hyphenref2_next.l0 (k + 1) x n r n = some (r, n) := by
  simp only [hyphenref2_next.l0]
  rw [if_neg (by omega)]
theorem size_eq (k : Nat) (b : Int) : hyphenref2_size.f (k + 2) b = some (if b < 128 then 1 else if 194 ≤ b ∧ b ≤ 223 then 2 else if 224 ≤ b ∧ b ≤ 239 then 3 else if 240 ≤ b ∧ b ≤ 244 then 4 else 0) := by
  unfold hyphenref2_size.f
  simp only [hyphenref2_size.j0, hyphenref2_size.j1]
  by_cases h1 : b < 128
  · rw [if_pos h1, if_pos h1]
  rw [if_neg h1, if_neg h1]
  by_cases h2 : b ≥ 194 <;> by_cases h3 : b ≤ 223 <;> by_cases h4 : b ≥ 224 <;> by_cases h5 : b ≤ 239 <;> by_cases h6 : b ≥ 240 <;> by_cases h7 : b ≤ 244 <;> first | (exfalso; omega) | (simp [h2, h3, h4, h5, h6, h7]; done) | (simp [h2, h3, h4, h5, h6, h7]; omega)
theorem next_eq (k : Nat) (x : ByteArray) (hx : 0 < x.size) : hyphenref2_next.f (k + 6) x = some (nx x 0) := by
  have hb0 := bt_range x 0
  have hb1 := bt_range x 1
  have hb2 := bt_range x 2
  have hb3 := bt_range x 3
  unfold hyphenref2_next.f
  rw [if_pos (by omega), show k + 6 = (k + 4) + 2 from rfl, size_eq]
  simp only [Option.bind_some]
  unfold nx
  rw [show ((0 : Nat) : Int) = 0 from rfl, Int.zero_add, Int.zero_add, Int.zero_add, Int.sub_zero]
  unfold nxL
  by_cases h1 : bt x 0 < 128
  · rw [if_pos h1, if_pos h1, if_neg (by omega), if_pos rfl, wrap_id _ (by omega) (by omega)]
  rw [if_neg h1, if_neg h1]
  by_cases h2 : 194 ≤ bt x 0 ∧ bt x 0 ≤ 223
  · rw [if_pos h2, if_pos h2, if_neg (by omega), if_neg (by omega), if_pos (by decide +kernel), show (shr .i64 255 (IntKind.u64.wrap (wrap64 (2 + 1)))) = 31 from by decide +kernel, wrap_id _ (by omega) (by omega), and31 _ hb0.1 hb0.2, next_step1 _ _ _ _ (by omega) (by omega) (by omega) hx, next_done]
    have hl : loB (bt x 0) = 128 := by unfold loB; rw [if_neg (by omega), if_neg (by omega)]
    have hh : hiB (bt x 0) = 191 := by unfold hiB; rw [if_neg (by omega), if_neg (by omega)]
    rw [hl, hh]
    unfold cont
    split <;> rfl
  rw [if_neg h2, if_neg h2]
  by_cases h3 : 224 ≤ bt x 0 ∧ bt x 0 ≤ 239
  · rw [if_pos h3, if_pos h3, if_neg (by omega), if_neg (by omega), if_pos (by decide +kernel), show (shr .i64 255 (IntKind.u64.wrap (wrap64 (3 + 1)))) = 15 from by decide +kernel, wrap_id _ (by omega) (by omega), and15 _ hb0.1 hb0.2, next_step1 _ _ _ _ (by omega) (by omega) (by omega) hx, next_step _ _ _ _ _ (by omega) (by omega) (by omega) (by omega) (by omega), show (2 : Int) + 1 = 3 from rfl, next_done]
    split
    · split
      · congr 2
        omega
      · rfl
    · rfl
  rw [if_neg h3, if_neg h3]
  by_cases h4 : 240 ≤ bt x 0 ∧ bt x 0 ≤ 244
  · rw [if_pos h4, if_pos h4, if_neg (by omega), if_neg (by omega), if_pos (by decide +kernel), show (shr .i64 255 (IntKind.u64.wrap (wrap64 (4 + 1)))) = 7 from by decide +kernel, wrap_id _ (by omega) (by omega), and7 _ hb0.1 hb0.2, next_step1 _ _ _ _ (by omega) (by omega) (by omega) hx, next_step _ _ _ _ _ (by omega) (by omega) (by omega) (by omega) (by omega), show (2 : Int) + 1 = 3 from rfl, next_step _ _ _ _ _ (by omega) (by omega) (by omega) (by omega) (by omega), show (3 : Int) + 1 = 4 from rfl, next_done]
    split
    · split
      · split
        · congr 2
          omega
        · rfl
      · rfl
    · rfl
  rw [if_neg h4, if_neg h4, if_pos rfl]

theorem refDecode_go (s : ByteArray) (hb : s.size ≤ 17592186044414) : ∀ (k p : Nat) (xs ys : List Int), s.size + 7 < p + k → p ≤ s.size → xs.length ≤ p → ys.length ≤ p → ∀ m, s.size ≤ p + m →
    hyphenref2_Decode.l0 k s xs ys (p : Int) = some (xs ++ (dec s m p).map (·.1), ys ++ (dec s m p).map (·.2) ++ [(s.size : Int)])
  | 0, p, xs, ys, h, hp, hx, hy, m, hm => by omega
  | k + 1, p, xs, ys, h, hp, hx, hy, m, hm => by
    simp only [hyphenref2_Decode.l0]
    by_cases hlt : p < s.size
    · obtain ⟨k', rfl⟩ : ∃ k', k = k' + 6 := ⟨k - 6, by omega⟩
      have hn := nx_len s p hlt
      obtain ⟨n, hn2⟩ : ∃ n : Nat, (nx s p).2 = (n : Int) := ⟨(nx s p).2.toNat, by omega⟩
      rw [if_pos (by omega), if_pos (by omega), if_pos (by omega), Int.toNat_natCast, next_eq k' _ (by rw [extract_size]; omega), nx_extract s p (by omega)]
      simp only [Option.bind_some]
      rw [if_pos (by omega), if_pos (by omega), hn2, wrap_id _ (by omega) (by omega), show ((p : Int) + (n : Int)) = ((p + n : Nat) : Int) from by omega]
      cases m with
      | zero => omega
      | succ m =>
        rw [refDecode_go s hb (k' + 6) (p + n) _ _ (by omega) (by omega) (by simp; omega) (by simp; omega) m (by omega), dec, if_pos hlt, hn2, Int.toNat_natCast]
        simp
    · rw [if_neg (by omega), if_pos (by omega)]
      have : dec s m p = [] := by cases m with
        | zero => rfl
        | succ m => rw [dec, if_neg hlt]
      simp [this]
theorem refDecode_eq (k : Nat) (s : ByteArray) (hb : s.size ≤ 17592186044414) (hk : s.size + 7 < k) : hyphenref2_Decode.f k s = some (scal s, offs s) := by
  unfold hyphenref2_Decode.f
  have := refDecode_go s hb k 0 [] [] (by omega) (by omega) (by simp) (by simp) s.size (by omega)
  simpa [scal, offs] using this
end Go.Proofs.Ytcmacpdpphdkcaa.U
