/- The plain law of DetNone. Conditions: none. -/
import Derived.Test.YtgmmopbpldgpcaaP1
set_option linter.unusedSimpArgs false
set_option linter.unusedVariables false
set_option maxRecDepth 20000
namespace Go.Proofs.YtgmmopbpldgpcaaE
theorem emitW_none : ∀ (rs : List RulT) (E : List Int) (n : Nat) (v : List Int), emitW rs E (List.replicate n false) v = v
  | [], _, _, v => by simp [emitW]
  | _ :: _, [], _, v => by simp [emitW]
  | _ :: _, _ :: _, 0, v => by simp [emitW]
  | r :: rs, e :: E, n + 1, v => by
    rw [List.replicate_succ, emitW, emitW_none rs E n]
    rfl
theorem F9_0_ok (k : Nat) (c : List Int) (l : List (List Int)) (hl : l.length ≤ 1000000) (h : ∀ v ∈ l, v = none3) : ∀ (d m i : Nat), i + d = l.length → d < m → F9_0 k m (i : Int) c l = some (.inl ((), (c, l, ())))
  | 0, m, i, hi, hm => by
    obtain ⟨m, rfl⟩ := pos1 (m := m) (by omega)
    simp only [F9_0]
    rw [decide_eq_false (by omega), cond_false]
  | d + 1, m, i, hi, hm => by
    obtain ⟨m, rfl⟩ := pos1 (m := m) (by omega)
    have hlt : i < l.length := by omega
    simp only [F9_0]
    unfold F30
    rw [dlt hlt, cond_true, if_pos (inR hlt), Option.bind_some, tnI i, getD_lt _ _ _ hlt, h _ (List.getElem_mem hlt)]
    simp only
    rw [show (!(none3 == List.set (List.set (List.set (List.replicate 3 (0 : Int)) 0 (1152921504606846976 : Int)) 1 (1152921504606846976 : Int)) 2 (1152921504606846976 : Int))) = false from by decide, cond_false, wsucc i _ hlt (by omega), F9_0_ok k c l hl h d m (i + 1) (by omega) (by omega)]
    rfl
theorem nat_rep (n : Nat) : List.replicate n (0 : Int) = natL (List.replicate n 0) := by simp [natL]
theorem det_none (a0 : List RawT) (a1 a2 a3 : List Int) (h1 : a1.length ≤ 100000000000000) (h3 : a3.length ≤ 100000000000000) : ∃ k, F9 k a0 a1 a2 a3 = some ((true, ()), ()) := by
  refine ⟨20000000, ?_⟩
  generalize hk : (20000000 : Nat) = k
  have hk' : 20000000 ≤ k := by omega
  have hk2 : 10000000 ≤ k := by omega
  unfold F9
  refine start10 k hk' a0 a1 a2 h1 _ _ _ fun w N M e15 hw e16 => ?_
  simp only
  have hnl := hw.nl
  have hn4 := hw.nrules
  have dw := wg_dw hw (sets := [List.replicate w.2.2.2.2.1.length false]) (fun s hs => by rw [List.mem_singleton.1 hs, List.length_replicate]; exact hnl) (by simp)
  rw [if_pos (by omega), tnI w.2.2.2.2.1.length, hw.num, F19_dw k hk2 dw, Option.bind_some]
  cases hd : mkN w.2.2.2.2.1 w.2.2.2.1 N 80 with
  | none => rfl
  | some d =>
    have nd := mkN_ok dw.hs hd
    obtain ⟨t, x, e1, e2, hxl, hxN⟩ := letters_ok k hk' w N M hw a3 15 (by decide) h3
    have hw1 : IntKind.wrap .i64 (((x.length : Nat) : Int) + 1) = ((x.length + 1 : Nat) : Int) := wsucc x.length (x.length + 1) (by omega) (by omega)
    simp only [outD, bne_self_eq_false, cond_false]
    rw [show F23 k a3 (15 : Int) = _ from e1, Option.bind_some]
    simp only
    rw [e2, Option.bind_some]
    simp only
    rw [List.length_map, hw1, if_pos (by omega), tnI (x.length + 1), nat_rep, F26_nd k hk2 nd x (List.replicate (x.length + 1) 0) hxN (by omega) (by simp) (fun a ha => by rw [List.eq_of_mem_replicate ha]; simp), Option.bind_some]
    have e3 := F9_0_ok k (natL x) (runL (stepW w.2.2.2.1 w.2.2.2.2.1) (emW w.1.2.1 w.2.2.2.2.1 [List.replicate w.2.2.2.2.1.length false]) (infW w.2.2.2.2.1) x (List.replicate (x.length + 1) 0)) (by rw [runL_len]; omega) (fun v hv => by
      obtain ⟨i, hi, e⟩ := List.mem_map.1 hv
      have hi2 : i < x.length + 1 := List.mem_range.1 hi
      rw [← e]
      unfold runV
      rw [getD_lt (List.replicate (x.length + 1) 0) i 0 (by simpa using hi2), List.getElem_replicate]
      show emitW _ _ (List.replicate w.2.2.2.2.1.length false) none3 = none3
      exact emitW_none _ _ _ _) (x.length + 1) k 0 (by rw [runL_len]; omega) (by omega)
    rw [show ((0 : Nat) : Int) = 0 from rfl] at e3
    simp only
    rw [e3, Option.bind_some]
    simp only
    rw [List.length_map, hw1, runL_len, beq_self_eq_true]
end Go.Proofs.YtgmmopbpldgpcaaE
namespace Go.Proofs.Ytgmmopbpldgpcaa.Pure
open Go.Proofs.YtgmmopbpldgpcaaE
theorem DetNone (a0 : List (Tree (Int × (Int × Unit)))) (a1 : List Int) (a2 : List Int) (a3 : List Int) : (a1.length * 8 ≤ 140737488351232) → (∀ x ∈ a1, IntKind.min .i64 ≤ x ∧ x ≤ IntKind.max .i64) → (a2.length * 8 ≤ 140737488351232) → (∀ x ∈ a2, IntKind.min .i64 ≤ x ∧ x ≤ IntKind.max .i64) → (a3.length * 8 ≤ 140737488351232) → (∀ x ∈ a3, IntKind.min .i64 ≤ x ∧ x ≤ IntKind.max .i64) → ∃ k, F9 k a0 a1 a2 a3 = some ((true, ()), ()) := by
  intros
  exact det_none a0 a1 a2 a3 (by omega) (by omega)
end Go.Proofs.Ytgmmopbpldgpcaa.Pure
