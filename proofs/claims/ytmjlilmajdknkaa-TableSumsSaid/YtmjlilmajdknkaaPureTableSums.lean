/- The plain law of TableSums. Conditions: none. -/
import Derived.Test.YtmjlilmajdknkaaG0
import Derived.Test.YtmjlilmajdknkaaT1
import Derived.Test.YtmjlilmajdknkaaK1
set_option linter.unusedSimpArgs false
set_option linter.unusedVariables false
namespace Go.Proofs.YtmjlilmajdknkaaE
theorem sumL_append (l m : List Int) : ∀ s : Int, sumL s (l ++ m) = sumL (sumL s l) m := by
  induction l with
  | nil => intro s; rfl
  | cons b l ih => intro s; rw [List.cons_append, sumL, ih, sumL]
theorem pow31 (m : Nat) : ∀ d : Int, (d * 31 ^ m) % 1000003 = 0 → d % 1000003 = 0 := by
  induction m with
  | zero => intro d h; simpa using h
  | succ m ih =>
    intro d h
    have h1 : ((d * 31) * 31 ^ m) % 1000003 = 0 := by
      rw [Int.pow_succ, Int.mul_comm (31 ^ m) 31, ← Int.mul_assoc] at h
      exact h
    have := ih _ h1
    omega
theorem sumL_set (s : Int) (pre post : List Int) (v w : Int) (h0 : 0 ≤ v) (h1 : v ≤ 255) (h2 : 0 ≤ w) (h3 : w ≤ 255) (e : sumL s (pre ++ v :: post) = sumL s (pre ++ w :: post)) : v = w := by
  rw [sumL_append, sumL_append, sumL, sumL] at e
  have h := sumL_mod post ((sumL s pre * 31 + v) % 1000003) ((sumL s pre * 31 + w) % 1000003)
  rw [e, Int.sub_self] at h
  have := pow31 _ _ h.symm
  omega
end Go.Proofs.YtmjlilmajdknkaaE
namespace Go.Proofs.Ytmjlilmajdknkaa.Pure
open Go.Proofs.YtmjlilmajdknkaaE
theorem TableSums (a0 : List Int) (a1 : Int) (a2 : Int) : (a0.length * 1 ≤ 140737488351232) → (∀ x ∈ a0, IntKind.min .u8 ≤ x ∧ x ≤ IntKind.max .u8) → (IntKind.min .i64 ≤ a1 ∧ a1 ≤ IntKind.max .i64) → (IntKind.min .u8 ≤ a2 ∧ a2 ≤ IntKind.max .u8) → ∃ k, F6 k a0 a1 a2 = some ((true, ()), ()) := by
  intro hl hb' _ h2'
  have hb : ∀ x ∈ a0, 0 ≤ x ∧ x ≤ 255 := hb'
  have h2 : 0 ≤ a2 ∧ a2 ≤ 255 := h2'
  refine ⟨a0.length + 1 + 200, ?_⟩
  have e23 : ∀ l : List Int, (∀ x ∈ l, 0 ≤ x ∧ x ≤ 255) → l.length = a0.length → F23 (a0.length + 1 + 200) l = some ((sumL 1 l, ()), ()) := fun l h1 h2 => F23_eq _ l h1 (by omega) (by omega)
  have e24 := F24_eq (a0.length + 1 + 200) a0 hb (by omega) (by omega)
  unfold F6
  simp only [known12, Option.bind_some, e23 a0 hb rfl, e24, Bool.not_true, cond_false, beq_self_eq_true, List.replicate_zero, List.nil_append, List.length_nil, Nat.zero_add, cond_true]
  cases hz : ((a0.length : Int) == 0)
  · cases hc : decide ((a0.length : Int) > 400)
    · simp only [cond_false]
      have hpos : 0 < a0.length := by
        have : ¬ ((a0.length : Int) = 0) := by simpa using hz
        omega
      have hm := Int.emod_nonneg a1 (show (a0.length : Int) ≠ 0 by omega)
      have hm2 := Int.emod_lt_of_pos a1 (show 0 < (a0.length : Int) by omega)
      rw [if_pos (by omega), F19_eq _ _ _ (by omega) (by omega), Option.bind_some]
      simp only
      rw [if_pos ⟨hm, hm2⟩, if_pos ⟨hm, hm2⟩]
      obtain ⟨i, hi⟩ : ∃ i : Nat, a1 % (a0.length : Int) = i := ⟨(a1 % (a0.length : Int)).toNat, by omega⟩
      rw [hi]
      have hlt : i < a0.length := by omega
      have hg : List.getD a0 i 0 = a0[i] := by simp [List.getD_eq_getElem?_getD, List.getElem?_eq_getElem hlt]
      simp only [Int.toNat_natCast, hg, wu8]
      have hbi := hb _ (List.getElem_mem hlt)
      have hset : ∀ x ∈ a0.set i ((a0[i] + a2) % 256), 0 ≤ x ∧ x ≤ 255 := fun x hx => by
        rcases List.mem_or_eq_of_mem_set hx with h | h
        · exact hb x h
        · subst h; omega
      rw [e23 _ hset (by simp)]
      simp only [Option.bind_some]
      congr 3
      have hsp : a0 = a0.take i ++ a0[i] :: a0.drop (i + 1) := by
        rw [← List.drop_eq_getElem_cons hlt, List.take_append_drop]
      have hss : a0.set i ((a0[i] + a2) % 256) = a0.take i ++ (a0[i] + a2) % 256 :: a0.drop (i + 1) := by
        rw [List.set_eq_take_append_cons_drop, if_pos hlt]
      by_cases h0 : a2 = 0
      · subst h0
        have : (a0[i] + 0) % 256 = a0[i] := by omega
        rw [this, List.set_getElem_self]
        simp
      · have hne : ¬ (sumL 1 (a0.set i ((a0[i] + a2) % 256)) = sumL 1 a0) := fun e => by
          rw [hss] at e
          have e' : sumL 1 (a0.take i ++ (a0[i] + a2) % 256 :: a0.drop (i + 1)) = sumL 1 (a0.take i ++ a0[i] :: a0.drop (i + 1)) := by rw [← hsp]; exact e
          have := sumL_set 1 _ _ _ _ (by omega) (by omega) hbi.1 hbi.2 e'
          omega
        rw [beq_false_of_ne h0, beq_false_of_ne hne]
        rfl
    · rfl
  · rfl
end Go.Proofs.Ytmjlilmajdknkaa.Pure
