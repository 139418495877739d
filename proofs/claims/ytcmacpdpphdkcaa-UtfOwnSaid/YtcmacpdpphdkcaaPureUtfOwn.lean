/- For every ns and by the law UtfOwn answers true: scalars that were handed to utf.Encode are not changed, and what utf.Decode told may be changed. Conditions: none but the row's own. -/
import Derived.Test.YtcmacpdpphdkcaaU8
import Derived.Test.YtcmacpdpphdkcaaF11
namespace Go.Proofs.Ytcmacpdpphdkcaa.Pure
set_option linter.unusedVariables false
set_option linter.unusedSimpArgs false
open Go.RowKit Go.Proofs.Ytcmacpdpphdkcaa.F Go.Proofs.Ytcmacpdpphdkcaa.U Go.Proofs.YtcmacpdpphdkcaaW.PrintWords Go.Proofs.YtcmacpdpphdkcaaW.PrintLast Go.Proofs.YtcmacpdpphdkcaaW.PrintMore

theorem end_ (by_ : Int) (l : List Int) (hl : l.length ≤ 20) : ∀ (d i : Nat) (o : List Int), i + d = o.length → o.length ≤ 1000 → ∀ k, 2000 + d < k → hyphenlaw2_UtfOwn.l2 k by_ l l (str (encL l)) o (i : Int) = some true := by
  have he := encL_length l
  have hsz := str_size (encL l)
  have hsl := scal_length (str (encL l))
  intro d
  induction d with
  | zero =>
    intro i o hi ho k hk
    obtain ⟨k, rfl⟩ : ∃ m, k = m + 1 := ⟨k - 1, by omega⟩
    rw [hyphenlaw2_UtfOwn.l2, if_neg (by omega), Decode_eq _ (by omega), Option.bind_some, refDecode_eq k _ (by omega) (by omega), Option.bind_some, Ints_eq k l l (by omega) (by omega), Option.bind_some, decide_eq_true rfl, if_pos rfl, Ints_eq k _ _ (by dsimp only; omega) (by dsimp only; omega), Option.bind_some, decide_eq_true rfl]
  | succ d ih =>
    intro i o hi ho k hk
    obtain ⟨k, rfl⟩ : ∃ m, k = m + 1 := ⟨k - 1, by omega⟩
    rw [hyphenlaw2_UtfOwn.l2, if_pos (by omega), if_pos (by omega), wrap_id _ (by omega) (by omega), show ((i : Int) + 1) = ((i + 1 : Nat) : Int) from by omega]
    exact ih (i + 1) _ (by rw [List.length_set]; omega) (by rw [List.length_set]; omega) k (by omega)
theorem mid (by_ : Int) (l o : List Int) (hl : l.length ≤ 20) (ho : o.length ≤ 1000) : ∀ (d i : Nat) (a : List Int), i + d = a.length → a.length ≤ 1000 → ∀ k, 4000 + d < k → hyphenlaw2_UtfOwn.l1 k by_ l l (str (encL l)) a o (i : Int) = some true := by
  intro d
  induction d with
  | zero =>
    intro i a hi ha k hk
    obtain ⟨k, rfl⟩ : ∃ m, k = m + 1 := ⟨k - 1, by omega⟩
    rw [hyphenlaw2_UtfOwn.l1, if_neg (by omega)]
    exact end_ by_ l hl o.length 0 o (by omega) ho k (by omega)
  | succ d ih =>
    intro i a hi ha k hk
    obtain ⟨k, rfl⟩ : ∃ m, k = m + 1 := ⟨k - 1, by omega⟩
    rw [hyphenlaw2_UtfOwn.l1, if_pos (by omega), if_pos (by omega), wrap_id _ (by omega) (by omega), show ((i : Int) + 1) = ((i + 1 : Nat) : Int) from by omega]
    exact ih (i + 1) _ (by rw [List.length_set]; omega) (by rw [List.length_set]; omega) k (by omega)
theorem join (by_ : Int) (l : List Int) (hl : l.length ≤ 20) (hw : ∀ x ∈ l, wf x) (k : Nat) (hk : 6000 < k) : hyphenlaw2_UtfOwn.j1 k by_ l l = some true := by
  have he := encL_length l
  have hsz := str_size (encL l)
  have hsl := scal_length (str (encL l))
  have hol := offs_length (str (encL l))
  obtain ⟨k, rfl⟩ : ∃ m, k = m + 1 := ⟨k - 1, by omega⟩
  rw [hyphenlaw2_UtfOwn.j1, Encode_eq k l hw (by omega) (by omega), Option.bind_some, Decode_eq _ (by omega), Option.bind_some]
  exact mid by_ l _ hl (by dsimp only; omega) (scal (str (encL l))).length 0 _ (by dsimp only; omega) (by dsimp only; omega) k (by omega)
theorem rd_mem (l : List Int) (i : Nat) (h : i < l.length) : rd l (i : Int) ∈ l := by
  unfold rd
  rw [Int.toNat_natCast, List.getD_eq_getElem?_getD, List.getElem?_eq_getElem h, Option.getD_some]
  exact List.getElem_mem h
theorem loop (l0 : List Int) (by_ : Int) (h0 : l0.length ≤ 140737488351232) (hw0 : ∀ x ∈ l0, wf x) : ∀ (d i : Nat) (l : List Int), i + d = 20 → l.length ≤ i → (∀ x ∈ l, wf x) → ∀ k, 7000 + d < k → hyphenlaw2_UtfOwn.l0 k l0 by_ l l (i : Int) = some true := by
  intro d
  induction d with
  | zero =>
    intro i l hi hl hw k hk
    obtain ⟨k, rfl⟩ : ∃ m, k = m + 1 := ⟨k - 1, by omega⟩
    rw [hyphenlaw2_UtfOwn.l0]
    split
    · rw [if_neg (by omega)]
      exact join by_ l (by omega) hw k (by omega)
    · exact join by_ l (by omega) hw k (by omega)
  | succ d ih =>
    intro i l hi hl hw k hk
    obtain ⟨k, rfl⟩ : ∃ m, k = m + 1 := ⟨k - 1, by omega⟩
    rw [hyphenlaw2_UtfOwn.l0]
    by_cases hlt : (i : Int) < (l0.length : Int)
    · rw [if_pos hlt, if_pos (by omega), if_pos (by omega), Option.bind_some, if_pos (show l.length + [rd l0 (i : Int)].length < 17592186044416 by simp; omega), Option.bind_some, if_pos (show l.length + [rd l0 (i : Int)].length < 17592186044416 by simp; omega), wrap_id _ (by omega) (by omega), show ((i : Int) + 1) = ((i + 1 : Nat) : Int) from by omega]
      exact ih (i + 1) _ (by omega) (by simp; omega) (fun x hx => by
        rcases List.mem_append.1 hx with h | h
        · exact hw x h
        · rw [List.mem_singleton] at h
          rw [h]; exact hw0 _ (rd_mem l0 i (by omega))) k (by omega)
    · rw [if_neg hlt]
      exact join by_ l (by omega) hw k (by omega)
theorem UtfOwn : hyphenlaw2_UtfOwn.Pure := by
  intro l0 a1 h1 h2 h3 h4
  refine ⟨100000, ?_⟩
  unfold hyphenlaw2_UtfOwn.f
  rw [known_eq _ (by omega), Option.bind_some, if_pos rfl]
  exact loop l0 a1 (by omega) (fun x hx => (wf_iff x).1 (h3 x hx)) 20 0 [] (by omega) (by simp) (fun x hx => by cases hx) 100000 (by omega)
end Go.Proofs.Ytcmacpdpphdkcaa.Pure
