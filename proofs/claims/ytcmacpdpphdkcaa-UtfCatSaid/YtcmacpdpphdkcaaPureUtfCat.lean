/- For every ns, ms and raw the law UtfCat answers true: bytes one behind the other, the first ones whole scalars, have their scalars one behind the other. Conditions: none but the row's own. -/
import Derived.Test.YtcmacpdpphdkcaaU8
import Derived.Test.YtcmacpdpphdkcaaF9
namespace Go.Proofs.Ytcmacpdpphdkcaa.Pure
set_option linter.unusedVariables false
set_option linter.unusedSimpArgs false
open Go.RowKit Go.Proofs.Ytcmacpdpphdkcaa.F Go.Proofs.Ytcmacpdpphdkcaa.U Go.Proofs.YtcmacpdpphdkcaaW.PrintWords Go.Proofs.YtcmacpdpphdkcaaW.PrintLast Go.Proofs.YtcmacpdpphdkcaaW.PrintMore

theorem last (k : Nat) (l0 l1 l2 l : List Int) (h1 : l1.length ≤ 140737488351232) (h2 : l2.length ≤ 60) (hs : Scalars l) (hl : l.length ≤ 20) (i : Int) (hk : 20000 < k) :
    hyphenlaw2_UtfCat.j1 (k + 1) l0 l1 l2 l i false = some true := by
  have he := encL_length l
  obtain ⟨r, hr, hB⟩ := Bytes_eq l1 l2 h1 (by omega)
  have hsz := str_size (encL l)
  have hsl := scal_length r
  have hc : str (encL l) ++ r = str (encL l ++ r.data.toList) := by rw [← str_append, str_of]
  have hcs : (str (encL l ++ r.data.toList)).size = (encL l).length + r.size := by rw [str_size, List.length_append, data_length]
  rw [hyphenlaw2_UtfCat.j1, if_neg (by simp), refEncode_eq k l (by omega) (by omega), Option.bind_some, hB k (by omega), Option.bind_some, if_pos (by omega), hc, Decode_eq _ (by omega), Option.bind_some, Decode_eq _ (by omega), Option.bind_some, Option.bind_some, scal_cat l _ hs, str_of]
  dsimp only
  rw [if_pos (show ([] : List Int).length + l.length < 17592186044416 by simp; omega), Option.bind_some, if_pos (show ([] ++ l : List Int).length + (scal r).length < 17592186044416 by simp; omega), List.nil_append, Ints_eq k _ _ (by rw [List.length_append]; omega) (by rw [List.length_append]; omega), Option.bind_some, decide_eq_true rfl]
theorem loop (l0 l1 l2 : List Int) (h0 : l0.length ≤ 140737488351232) (h1 : l1.length ≤ 140737488351232) (h2 : l2.length ≤ 60) : ∀ (d i : Nat) (l : List Int), i + d = 20 → l.length ≤ i → Scalars l → ∀ k, 30000 + 2 * d < k → hyphenlaw2_UtfCat.l0 k l0 l1 l2 l (i : Int) = some true := by
  intro d
  induction d with
  | zero =>
    intro i l hi hl hs k hk
    obtain ⟨k, rfl⟩ : ∃ m, k = m + 2 := ⟨k - 2, by omega⟩
    rw [hyphenlaw2_UtfCat.l0]
    split
    · rw [decide_eq_false (by omega), last k l0 l1 l2 l h1 h2 hs (by omega) _ (by omega)]
    · exact last k l0 l1 l2 l h1 h2 hs (by omega) _ (by omega)
  | succ d ih =>
    intro i l hi hl hs k hk
    obtain ⟨k, rfl⟩ : ∃ m, k = m + 2 := ⟨k - 2, by omega⟩
    rw [hyphenlaw2_UtfCat.l0]
    by_cases hlt : (i : Int) < (l0.length : Int)
    · have w1 := win_range (rd l0 (i : Int)) 1114112 (by omega)
      have add : ∀ n, Utf8.valid n = true → hyphenlaw2_UtfCat.l0 k l0 l1 l2 (l ++ [n]) ((i + 1 : Nat) : Int) = some true := fun n hn =>
        ih (i + 1) _ (by omega) (by simp; omega) (fun x hx => by
          rcases List.mem_append.1 hx with h | h
          · exact hs x h
          · rw [List.mem_singleton] at h
            rw [h]; exact hn) k (by omega)
      rw [if_pos hlt, decide_eq_true (by omega), hyphenlaw2_UtfCat.j1, if_pos rfl, if_pos (by omega), if_pos hlt, within_eq _ _ (by omega) (by omega), Option.bind_some, refScalar_eq, Option.bind_some, wrap_id _ (by omega) (by omega), show ((i : Int) + 1) = ((i + 1 : Nat) : Int) from by omega]
      cases hv : Utf8.valid (win (rd l0 (i : Int)) 1114112) with
      | true => rw [if_pos rfl, if_pos (by omega)]; exact add _ hv
      | false => rw [if_neg (by simp), if_pos (by omega)]; exact add _ (by decide)
    · rw [if_neg hlt]
      exact last k l0 l1 l2 l h1 h2 hs (by omega) _ (by omega)
theorem UtfCat : hyphenlaw2_UtfCat.Pure := by
  intro l0 l1 l2 h1 h2 h3 h4 h5 h6 h7 h8 h9
  refine ⟨100000, ?_⟩
  unfold hyphenlaw2_UtfCat.f
  rw [known_eq _ (by omega), Option.bind_some, if_pos rfl]
  by_cases hl : (l2.length : Int) > 60
  · rw [if_pos hl]
  rw [if_neg hl]
  exact loop l0 l1 l2 (by omega) (by omega) (by omega) 20 0 [] (by omega) (by simp) (fun x hx => by cases hx) 100000 (by omega)
end Go.Proofs.Ytcmacpdpphdkcaa.Pure
