/- For every ns and raw the law UtfBack answers true: scalars, encoded by utf.Encode, are decoded by utf.Decode as they were, and utf.Encode of any numbers is the document's. Conditions: none but the row's own. -/
import Derived.Test.YtcmacpdpphdkcaaU7
import Derived.Test.YtcmacpdpphdkcaaF5
namespace Go.Proofs.Ytcmacpdpphdkcaa.Pure
set_option linter.unusedVariables false
set_option linter.unusedSimpArgs false
open Go.RowKit Go.Proofs.Ytcmacpdpphdkcaa.F Go.Proofs.Ytcmacpdpphdkcaa.U Go.Proofs.YtcmacpdpphdkcaaW.PrintWords Go.Proofs.YtcmacpdpphdkcaaW.PrintLast Go.Proofs.YtcmacpdpphdkcaaW.PrintMore

theorem last (k : Nat) (l1 l : List Int) (h1 : l1.length ≤ 140737488351232) (hw : ∀ x ∈ l1, wf x) (hs : Scalars l) (hl : l.length ≤ 40) (i : Int) (l0 : List Int) (hk : 1000 < k) :
    hyphenlaw2_UtfBack.j1 (k + 1) l0 l1 l i false = some true := by
  have hwl : ∀ x ∈ l, wf x := fun x hx => by
    have := (valid_int x).1 (hs x hx)
    unfold wf
    omega
  have he := encL_length l
  have hol := offs_length (str (encL l))
  rw [hyphenlaw2_UtfBack.j1, if_neg (by simp), Encode_eq k l hwl (by omega) (by omega)]
  simp only [Option.bind_some]
  rw [Decode_eq _ (by rw [str_size]; omega), scal_encL l hs]
  rw [scal_encL l hs] at hol
  simp only [Option.bind_some]
  by_cases hc : (l1.length : Int) > 100
  · have hlt : (l1.take 100).length = 100 := by rw [List.length_take]; omega
    rw [if_pos hc, if_pos (by omega), Ints_eq k l l (by omega) (by omega)]
    rw [Option.bind_some, decide_eq_true rfl, if_pos rfl, if_pos (by rw [wrap_id _ (by omega) (by omega)]; omega), Encode_eq k _ (fun x hx => hw x (List.mem_of_mem_take hx)) (by omega) (by omega), refEncode_eq k _ (by omega) (by omega), Option.bind_some, Option.bind_some, beq_self_eq_true]
  · rw [if_neg hc, Ints_eq k l l (by omega) (by omega)]
    rw [Option.bind_some, decide_eq_true rfl, if_pos rfl, if_pos (by rw [wrap_id _ (by omega) (by omega)]; omega), Encode_eq k _ hw (by omega) (by omega), refEncode_eq k _ (by omega) (by omega), Option.bind_some, Option.bind_some, beq_self_eq_true]
theorem loop (l0 l1 : List Int) (h0 : l0.length ≤ 140737488351232) (h1 : l1.length ≤ 140737488351232) (hw : ∀ x ∈ l1, wf x) : ∀ (d i : Nat) (l : List Int), i + d = 40 → l.length ≤ i → Scalars l → ∀ k, 2000 + 2 * d < k → hyphenlaw2_UtfBack.l0 k l0 l1 l (i : Int) = some true := by
  intro d
  induction d with
  | zero =>
    intro i l hi hl hs k hk
    obtain ⟨k, rfl⟩ : ∃ m, k = m + 2 := ⟨k - 2, by omega⟩
    rw [hyphenlaw2_UtfBack.l0]
    split
    · rw [decide_eq_false (by omega), last k l1 l h1 hw hs (by omega) _ l0 (by omega)]
    · exact last k l1 l h1 hw hs (by omega) _ l0 (by omega)
  | succ d ih =>
    intro i l hi hl hs k hk
    obtain ⟨k, rfl⟩ : ∃ m, k = m + 2 := ⟨k - 2, by omega⟩
    rw [hyphenlaw2_UtfBack.l0]
    by_cases hlt : (i : Int) < (l0.length : Int)
    · have w1 := win_range (rd l0 (i : Int)) 1114112 (by omega)
      have w2 := win_range (rd l0 (i : Int)) 200 (by omega)
      rw [if_pos hlt, decide_eq_true (by omega), hyphenlaw2_UtfBack.j1, if_pos rfl, if_pos (by omega), if_pos hlt, within_eq _ _ (by omega) (by omega)]
      simp only [Option.bind_some]
      rw [wrap_id _ (by omega) (by omega), show ((i : Int) + 1) = ((i + 1 : Nat) : Int) from by omega]
      have add : ∀ n, Utf8.valid n = true → hyphenlaw2_UtfBack.l0 k l0 l1 (l ++ [n]) ((i + 1 : Nat) : Int) = some true := fun n hn =>
        ih (i + 1) _ (by omega) (by simp; omega) (fun x hx => by
          rcases List.mem_append.1 hx with h | h
          · exact hs x h
          · simp only [List.mem_singleton] at h
            rw [h]; exact hn) k (by omega)
      by_cases c1 : win (rd l0 (i : Int)) 1114112 ≥ 55296
      · rw [if_pos c1]
        by_cases c2 : win (rd l0 (i : Int)) 1114112 ≤ 57343
        · rw [if_pos c2, within_eq _ _ (by omega) (by omega)]
          simp only [Option.bind_some]
          rw [if_pos (by omega)]
          exact add _ ((valid_int _).2 (by omega))
        · rw [if_neg c2, if_pos (by omega)]
          exact add _ ((valid_int _).2 (by omega))
      · rw [if_neg c1, if_pos (by omega)]
        exact add _ ((valid_int _).2 (by omega))
    · rw [if_neg hlt]
      exact last k l1 l h1 hw hs (by omega) _ l0 (by omega)
theorem UtfBack : hyphenlaw2_UtfBack.Pure := by
  intro l0 l1 h1 h2 h3 h4 h5 h6
  refine ⟨10000, ?_⟩
  unfold hyphenlaw2_UtfBack.f
  rw [known_eq _ (by omega)]
  simp only [Option.bind_some, if_true]
  exact loop l0 l1 (by omega) (by omega) (fun x hx => (wf_iff x).1 (h6 x hx)) 40 0 [] (by omega) (by simp) (fun x hx => by cases hx) 10000 (by omega)
end Go.Proofs.Ytcmacpdpphdkcaa.Pure
