/- For every n the law UtfSizes answers true: how many bytes a scalar has. Conditions: none but the row's own. -/
import Derived.Test.YtcmacpdpphdkcaaU8
import Derived.Test.YtcmacpdpphdkcaaF9
namespace Go.Proofs.Ytcmacpdpphdkcaa.Pure
set_option linter.unusedVariables false
set_option linter.unusedSimpArgs false
open Go.RowKit Go.Proofs.Ytcmacpdpphdkcaa.F Go.Proofs.Ytcmacpdpphdkcaa.U Go.Proofs.YtcmacpdpphdkcaaW.PrintWords Go.Proofs.YtcmacpdpphdkcaaW.PrintLast Go.Proofs.YtcmacpdpphdkcaaW.PrintMore

theorem len_one (n : Int) (h0 : 0 ≤ n) (h1 : n < 1114112) : ((encL [n]).length : Int) = if n < 128 then 1 else if n < 2048 then 2 else if n < 65536 then 3 else 4 := by
  have e : encL [n] = (Utf8.encode n).data.toList := by simp only [encL, List.flatMap_cons, List.flatMap_nil, List.append_nil]
  rw [e]
  cases hv : Utf8.valid n with
  | true =>
    obtain ⟨m, rfl⟩ := Int.eq_ofNat_of_zero_le h0
    rw [encode_enc1 m hv, List.length_map]
    unfold enc1
    by_cases c1 : m < 128
    · rw [if_pos c1, if_pos (show (m : Int) < 128 by omega)]; rfl
    rw [if_neg c1, if_neg (show ¬ (m : Int) < 128 by omega)]
    by_cases c2 : m < 2048
    · rw [if_pos c2, if_pos (show (m : Int) < 2048 by omega)]; rfl
    rw [if_neg c2, if_neg (show ¬ (m : Int) < 2048 by omega)]
    by_cases c3 : m < 65536
    · rw [if_pos c3, if_pos (show (m : Int) < 65536 by omega)]; rfl
    rw [if_neg c3, if_neg (show ¬ (m : Int) < 65536 by omega)]; rfl
  | false =>
    have hn : ¬ ((0 ≤ n ∧ n < 55296) ∨ (57344 ≤ n ∧ n ≤ 1114111)) := fun h => by rw [(valid_int n).2 h] at hv; cases hv
    rw [encode_bad n hv, if_neg (by omega), if_neg (by omega), if_pos (by omega)]
    decide
theorem len_two (n : Int) : (encL [n, n]).length = 2 * (encL [n]).length := by
  simp only [encL, List.flatMap_cons, List.flatMap_nil, List.append_nil, List.length_append]
  omega
theorem UtfSizes : hyphenlaw2_UtfSizes.Pure := by
  intro a0 h1
  refine ⟨100, ?_⟩
  have w := win_range a0 1114112 (by omega)
  unfold hyphenlaw2_UtfSizes.f
  rw [known_eq _ (by omega), Option.bind_some, if_pos rfl, within_eq _ _ (by omega) (by omega), Option.bind_some]
  obtain ⟨n, hn⟩ : ∃ n, win a0 1114112 = n := ⟨_, rfl⟩
  rw [hn] at w ⊢
  have hw1 : ∀ x ∈ [n], wf x := fun x hx => by
    rw [List.mem_singleton] at hx
    subst hx; unfold wf; omega
  have hw2 : ∀ x ∈ [n, n], wf x := fun x hx => by
    simp only [List.mem_cons, List.not_mem_nil, or_false, or_self] at hx
    subst hx; unfold wf; omega
  have hl := len_one n w.1 w.2
  have h2 := len_two n
  have e1 : utf_Encode.f 100 [n] = some (str (encL [n])) := Encode_eq 100 _ hw1 (by simp) (by simp)
  have e2 : utf_Encode.f 100 [n, n] = some (str (encL [n, n])) := Encode_eq 100 _ hw2 (by simp) (by simp)
  rw [e1, e2]
  have s1 := str_size (encL [n])
  have s2 := str_size (encL [n, n])
  have fin : ∀ c : Int, ((encL [n]).length : Int) = c → ((some (str (encL [n]))).bind fun t340 => (if (t340.size : Int) = c then ((some (str (encL [n, n]))).bind fun t344 => (some ((t344.size : Int) == (2 * c)))) else (some false))) = some true := by
    intro c hc
    rw [Option.bind_some, if_pos (by omega), Option.bind_some, beq_iff_eq.2 (by omega)]
  by_cases c1 : n < 128
  · rw [if_pos c1] at hl ⊢; exact fin 1 hl
  rw [if_neg c1] at hl ⊢
  by_cases c2 : n < 2048
  · rw [if_pos c2] at hl ⊢; exact fin 2 hl
  rw [if_neg c2] at hl ⊢
  by_cases c3 : n < 65536
  · rw [if_pos c3] at hl ⊢; exact fin 3 hl
  rw [if_neg c3] at hl ⊢; exact fin 4 hl
end Go.Proofs.Ytcmacpdpphdkcaa.Pure
