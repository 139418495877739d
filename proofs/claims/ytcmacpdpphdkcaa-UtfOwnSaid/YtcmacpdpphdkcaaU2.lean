import Derived.Test.YtcmacpdpphdkcaaU1
namespace Go.Proofs.Ytcmacpdpphdkcaa.U
set_option linter.unusedVariables false
set_option linter.unusedSimpArgs false
open Go.RowKit Go.Proofs.Ytcmacpdpphdkcaa.F Go.Proofs.YtcmacpdpphdkcaaW.PrintWords Go.Proofs.YtcmacpdpphdkcaaW.PrintLast Go.Proofs.YtcmacpdpphdkcaaW.PrintMore

/-! ### what Decode tells -/
theorem nx_len (s : ByteArray) (p : Nat) (h : p < s.size) : 1 ≤ (nx s p).2 ∧ (nx s p).2 ≤ 4 ∧ (p : Int) + (nx s p).2 ≤ s.size := by
  have := nxL_len ((s.size : Int) - p) (bt s p) (bt s (p + 1)) (bt s (p + 2)) (bt s (p + 3)) (by omega)
  unfold nx
  omega
/-- The scalars from a place on, and where they begin. -/
def dec (s : ByteArray) : Nat → Nat → List (Int × Int)
  | 0, _ => []
  | k + 1, p => if p < s.size then ((nx s p).1, (p : Int)) :: dec s k (p + (nx s p).2.toNat) else []
theorem dec_more (s : ByteArray) : ∀ (k p j : Nat), s.size ≤ p + k → dec s (k + j) p = dec s k p
  | 0, p, j, h => by
    cases j with
    | zero => rfl
    | succ j => simp only [Nat.zero_add, dec]; rw [if_neg (by omega)]
  | k + 1, p, j, h => by
    rw [show k + 1 + j = (k + j) + 1 from by omega]
    simp only [dec]
    by_cases hp : p < s.size
    · have h1 := nx_len s p hp
      rw [if_pos hp, if_pos hp, dec_more s k _ j (by omega)]
    · rw [if_neg hp, if_neg hp]
theorem dec_same (s : ByteArray) (k j p : Nat) (hk : s.size ≤ p + k) (hj : s.size ≤ p + j) : dec s k p = dec s j p := by
  rcases Nat.le_total k j with h | h
  · obtain ⟨d, rfl⟩ := Nat.exists_eq_add_of_le h
    exact (dec_more s k p d hk).symm
  · obtain ⟨d, rfl⟩ := Nat.exists_eq_add_of_le h
    exact dec_more s j p d hj
/-- All of them. -/
def scal (s : ByteArray) : List Int := (dec s s.size 0).map (·.1)
def offs (s : ByteArray) : List Int := (dec s s.size 0).map (·.2) ++ [(s.size : Int)]

theorem cont_width (s : ByteArray) (p : Nat) (h : p < s.size) (hc : cont (bt s p)) : (Utf8.decode s p).2 = 1 := by
  have hg := decode_nx s p (by omega)
  have hn : nx s p = (65533, 1) := by
    unfold nx nxL
    unfold cont at hc
    rw [if_neg (by omega), if_neg (by omega), if_neg (by omega), if_neg (by omega)]
  rw [hn] at hg
  unfold Good at hg
  simp only at hg
  omega
theorem decGo_eq (s : ByteArray) : ∀ (k pos q : Nat) (xs ys : List Int), s.size < pos + k → (pos ≤ q → q ≤ s.size) → (∀ j : Nat, pos ≤ j → j < q → cont (bt s j)) → ∀ m, s.size ≤ max pos q + m →
    decGo s k pos (q : Int) xs ys = (xs ++ (dec s m (max pos q)).map (·.1), ys ++ (dec s m (max pos q)).map (·.2))
  | 0, pos, q, xs, ys, hk, hq, hc, m, hm => by
    have hp : ¬ max pos q < s.size := by omega
    cases m with
    | zero => simp [decGo, dec]
    | succ m => simp [decGo, dec, hp]
  | k + 1, pos, q, xs, ys, hk, hq, hc, m, hm => by
    rw [decGo]
    by_cases hp : pos < s.size
    · rw [if_pos hp]
      have hw := width_pos s pos hp
      by_cases hlt : (pos : Int) < q
      · rw [if_pos hlt]
        have hlt' : pos < q := by omega
        have h1 := cont_width s pos hp (hc pos (Nat.le_refl _) hlt')
        rw [h1]
        have e1 : max (pos + 1) q = max pos q := by omega
        have := decGo_eq s k (pos + 1) q xs ys (by omega) (fun _ => hq (by omega)) (fun j hj => hc j (by omega)) m (by omega)
        rw [this, e1]
      · rw [if_neg hlt]
        have hge : q ≤ pos := by omega
        have e0 : max pos q = pos := by omega
        rw [e0] at hm ⊢
        have hg := decode_nx s pos (by omega)
        have hn := nx_len s pos hp
        have hl : longN (s.extract pos s.size) = (nx s pos).2 := by
          rw [long_nx _ (by rw [extract_size]; omega), nx_extract s pos (by omega)]
        rw [hl]
        obtain ⟨n, hn2⟩ : ∃ n : Nat, (nx s pos).2 = (n : Int) := ⟨(nx s pos).2.toNat, by omega⟩
        have hg2 := hg.2
        rw [hn2] at hg2 hn ⊢
        rw [hg.1, show ((pos : Int) + (n : Int)) = ((pos + n : Nat) : Int) from by omega]
        cases m with
        | zero => omega
        | succ m =>
          have hd : dec s (m + 1) pos = ((nx s pos).1, (pos : Int)) :: dec s m (pos + n) := by
            rw [dec, if_pos hp, hn2, Int.toNat_natCast]
          have e2 : max (pos + (Utf8.decode s pos).2) (pos + n) = pos + n := by omega
          have hcc : ∀ j : Nat, pos + (Utf8.decode s pos).2 ≤ j → j < pos + n → cont (bt s j) := by
            intro j h1 h2
            rcases hg2 with h3 | ⟨h3, h4 | ⟨h4, h5⟩ | ⟨h4, h5, h6⟩⟩
            · omega
            · omega
            · have : (j : Int) = pos + 1 := by omega
              rw [this]; exact h5
            · rcases (by omega : j = pos + 1 ∨ j = pos + 2) with rfl | rfl
              · exact h5
              · exact h6
          have := decGo_eq s k (pos + (Utf8.decode s pos).2) (pos + n) (xs ++ [(nx s pos).1]) (ys ++ [(pos : Int)]) (by omega) (fun _ => by omega) hcc m (by omega)
          rw [this, e2, hd]
          simp
    · rw [if_neg hp]
      have hp2 : ¬ max pos q < s.size := by omega
      cases m with
      | zero => simp [dec]
      | succ m => simp [dec, hp2]
theorem Decode_eq (s : ByteArray) (h : s.size ≤ 17592186044414) : utf_Decode.f s = some (scal s, offs s) := by
  unfold utf_Decode.f
  rw [if_pos h]
  have := decGo_eq s (s.size + 1) 0 0 [] [] (by omega) (by omega) (fun j h1 h2 => by omega) s.size (by omega)
  rw [show ((0 : Int)) = ((0 : Nat) : Int) from rfl, this]
  simp [scal, offs]
end Go.Proofs.Ytcmacpdpphdkcaa.U
