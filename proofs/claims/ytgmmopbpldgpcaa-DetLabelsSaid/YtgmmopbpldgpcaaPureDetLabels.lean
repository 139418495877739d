/- The plain law of DetLabels. Conditions: none. -/
import Derived.Test.YtgmmopbpldgpcaaP1
set_option linter.unusedSimpArgs false
set_option linter.unusedVariables false
set_option maxRecDepth 20000
namespace Go.Proofs.YtgmmopbpldgpcaaE
/-- Sets up to a place, all behind it as they were. -/
theorem F10_0_ok (k : Nat) (hs : List Bool) (w : WorT) (n : Nat) (hn : w.2.2.2.2.1.length = n) (hn4 : n ≤ 1000) : ∀ (d m i : Nat) (a b : List Bool), i + d = n → d < m → a.length = n → b = List.replicate i true ++ List.replicate d false →
    ∃ a', F10_0 k m hs (i : Int) w a b = some ((), (w, a', List.replicate n true, ())) ∧ a'.length = n
  | 0, m, i, a, b, hi, hm, ha, hb => by
    obtain ⟨m, rfl⟩ := pos1 (m := m) (by omega)
    refine ⟨a, ?_, ha⟩
    simp only [F10_0]
    rw [hn, decide_eq_false (by omega), cond_false, hb, show i = n by omega, List.replicate_zero, List.append_nil]
  | d + 1, m, i, a, b, hi, hm, ha, hb => by
    obtain ⟨m, rfl⟩ := pos1 (m := m) (by omega)
    have hbl : b.length = n := by rw [hb]; simp; omega
    have hset : List.set b i true = List.replicate (i + 1) true ++ List.replicate d false := by
      rw [hb, List.set_append_right _ _ (by simp), List.length_replicate, Nat.sub_self, List.replicate_succ, List.set_cons_zero, List.replicate_succ', List.append_assoc]
      rfl
    have ia : 0 ≤ (i : Int) ∧ (i : Int) < ((a.length : Nat) : Int) := by omega
    have ib : 0 ≤ (i : Int) ∧ (i : Int) < ((b.length : Nat) : Int) := by omega
    simp only [F10_0]
    rw [hn, decide_eq_true (show (i : Int) < (n : Int) by omega), cond_true, wsucc i n (by omega) (by omega), tnI i, hset]
    by_cases h : i < hs.length
    · obtain ⟨a', e, h'⟩ := F10_0_ok k hs w n hn hn4 d m (i + 1) (List.set a i (List.getD hs i false)) (List.replicate (i + 1) true ++ List.replicate d false) (by omega) (by omega) (by rw [List.length_set]; exact ha) rfl
      refine ⟨a', ?_, h'⟩
      rw [dlt h, cond_true, if_pos (inR h), if_pos ia, if_pos ib, e]
      rfl
    · obtain ⟨a', e, h'⟩ := F10_0_ok k hs w n hn hn4 d m (i + 1) (List.set a i false) (List.replicate (i + 1) true ++ List.replicate d false) (by omega) (by omega) (by rw [List.length_set]; exact ha) rfl
      refine ⟨a', ?_, h'⟩
      rw [decide_eq_false (by omega), cond_false, if_pos ia, if_pos ib, e]
      rfl
/-- Number by number no more. -/
def LeV (a b : List Int) : Prop := ∀ c : Nat, List.getD a c 0 ≤ List.getD b c 0
theorem minI_l (a b : Int) : minI a b ≤ a := by unfold minI; split <;> omega
theorem minI_r (a b : Int) : minI a b ≤ b := by unfold minI; split <;> omega
theorem minI_mono {a b c d : Int} (h1 : a ≤ b) (h2 : c ≤ d) : minI a c ≤ minI b d := by unfold minI; split <;> split <;> omega
theorem getD_set0 (v : List Int) (i c : Nat) (x : Int) : List.getD (List.set v i x) c 0 = if i = c ∧ c < v.length then x else List.getD v c 0 := by
  rw [List.getD_eq_getElem?_getD, List.getD_eq_getElem?_getD, List.getElem?_set]
  by_cases h : i = c
  · subst h
    by_cases h2 : i < v.length
    · rw [if_pos rfl, if_pos h2, if_pos ⟨rfl, h2⟩]; rfl
    · rw [if_pos rfl, if_neg h2, if_neg (fun q => h2 q.2), List.getElem?_eq_none (by omega)]
  · rw [if_neg h, if_neg (fun q => h q.1)]
theorem rulV_le (r : RulT) (e : Int) (v : List Int) : LeV (rulV r e v) v := fun c => by
  unfold rulV
  rw [getD_set0]
  split
  · rename_i h
    rw [h.1]
    exact minI_l _ _
  · exact Int.le_refl _
theorem rulV_mono {r : RulT} {e : Int} {u v : List Int} (hl : u.length = v.length) (h : LeV u v) : LeV (rulV r e u) (rulV r e v) := fun c => by
  unfold rulV
  rw [getD_set0, getD_set0, hl]
  split
  · exact minI_mono (h _) (Int.le_refl _)
  · exact h c
theorem emitW_le : ∀ (rs : List RulT) (E : List Int) (a : List Bool) (n : Nat) (u v : List Int), a.length = n → u.length = v.length → LeV u v → LeV (emitW rs E (List.replicate n true) u) (emitW rs E a v)
  | [], _, _, _, u, v, _, _, h => by simpa [emitW] using h
  | _ :: _, [], _, _, u, v, _, _, h => by simpa [emitW] using h
  | _ :: _, _ :: _, [], n, u, v, hn, _, h => by
    rw [show n = 0 by simpa using hn.symm]
    simpa [emitW] using h
  | r :: rs, e :: E, b :: a, n, u, v, hn, hl, h => by
    obtain ⟨n, rfl⟩ : ∃ m, n = m + 1 := ⟨a.length, by simpa using hn.symm⟩
    rw [List.replicate_succ, emitW, emitW, if_pos rfl]
    refine emitW_le rs E a n _ _ (by simpa using hn) ?_ ?_
    · cases b with
      | true => rw [if_pos rfl, rulV_len, rulV_len]; exact hl
      | false => rw [if_neg (by simp), rulV_len]; exact hl
    · cases b with
      | true => rw [if_pos rfl]; exact rulV_mono hl h
      | false =>
        rw [if_neg (by simp)]
        exact fun c => Int.le_trans (rulV_le r e u c) (h c)
theorem F31_ok (k : Nat) (hk : 10 ≤ k) (a b c a' b' c' : Int) : F31 k [a, b, c] [a', b', c'] = some (([minI a a', minI b b', minI c c'], ()), ()) := by
  obtain ⟨k, rfl⟩ : ∃ m, k = m + 5 := ⟨k - 5, by omega⟩
  rfl
theorem vec3 {v : List Int} (h : v.length = 3) : ∃ a b c, v = [a, b, c] := by
  match v, h with
  | [a, b, c], _ => exact ⟨a, b, c, rfl⟩
theorem minI_of {a b : Int} (h : b ≤ a) : minI a b = b := by unfold minI; split <;> omega
theorem F31_le (k : Nat) (hk : 10 ≤ k) (u v : List Int) (hu : u.length = 3) (hv : v.length = 3) (h : LeV v u) : F31 k u v = some ((v, ()), ()) := by
  obtain ⟨a, b, c, rfl⟩ := vec3 hu
  obtain ⟨a', b', c', rfl⟩ := vec3 hv
  have h0 : a' ≤ a := h 0
  have h1 : b' ≤ b := h 1
  have h2 : c' ≤ c := h 2
  rw [F31_ok k hk, minI_of h0, minI_of h1, minI_of h2]
theorem in21 (a b : List Int) : (0 : Int) ≤ 1 ∧ (1 : Int) < (([a, b].length : Nat) : Int) := by simp
theorem in20 (a b : List Int) : (0 : Int) ≤ 0 ∧ (0 : Int) < (([a, b].length : Nat) : Int) := by simp
theorem in10 (a : List Int) : (0 : Int) ≤ 0 ∧ (0 : Int) < (([a].length : Nat) : Int) := by simp
theorem F10_1_ok (k : Nat) (hk : 10000000 ≤ k) (nx : List (List Int)) (ea eb : Rows → List Int) (l : List Rows) (hnl : nx.length = l.length) (hl : l.length ≤ 1000000) (hr : ∀ r ∈ nx, r.length ≤ 5000000) (h3 : ∀ y, (ea y).length = 3 ∧ (eb y).length = 3 ∧ LeV (eb y) (ea y)) : ∀ (d m i : Nat), i + d = l.length → d < m →
    F10_1 k m (i : Int) (nx, (l.map (fun y => [ea y, eb y]), ())) (nx, (l.map (fun y => [eb y]), ())) = some (.inl ((), ()))
  | 0, m, i, hi, hm => by
    obtain ⟨m, rfl⟩ := pos1 (m := m) (by omega)
    simp only [F10_1]
    rw [decide_eq_false (by omega), cond_false]
  | d + 1, m, i, hi, hm => by
    obtain ⟨m, rfl⟩ := pos1 (m := m) (by omega)
    have hlt : i < l.length := by omega
    have hn : i < nx.length := by omega
    have ha : i < (l.map (fun y => [ea y, eb y])).length := by rw [List.length_map]; exact hlt
    have hb : i < (l.map (fun y => [eb y])).length := by rw [List.length_map]; exact hlt
    obtain ⟨q1, q2, q3⟩ := h3 l[i]
    have ih := F10_1_ok k hk nx ea eb l hnl hl hr h3 d m (i + 1) (by omega) (by omega)
    simp only [F10_1]
    rw [dlt hn, cond_true, if_pos (inR hn), if_pos (inR hn), tnI i, getD_lt _ _ _ hn, F32_ok k _ _ hk (hr _ (List.getElem_mem hn)), Option.bind_some, decide_eq_true rfl]
    simp only
    rw [Bool.not_true, cond_false, if_pos (inR ha), getD_lt _ _ _ ha, List.getElem_map]
    rw [show ((([ea l[i], eb l[i]].length : Nat) : Int) != 2) = false from rfl, cond_false, if_pos (inR hb), getD_lt _ _ _ hb, List.getElem_map]
    rw [show ((([eb l[i]].length : Nat) : Int) != 1) = false from rfl, cond_false, if_pos (inR ha), if_pos (in21 (ea l[i]) (eb l[i])), if_pos (inR hb), if_pos (in10 (eb l[i]))]
    rw [show List.getD [ea l[i], eb l[i]] (Int.toNat 1) [] = eb l[i] from rfl, show List.getD [eb l[i]] (Int.toNat 0) [] = eb l[i] from rfl, beq_self_eq_true, Bool.not_true, cond_false, if_pos (inR ha), if_pos (in20 (ea l[i]) (eb l[i])), if_pos (inR ha), if_pos (in21 (ea l[i]) (eb l[i])), if_pos (inR ha), if_pos (in21 (ea l[i]) (eb l[i]))]
    rw [show List.getD [ea l[i], eb l[i]] (Int.toNat 0) [] = ea l[i] from rfl, F31_le k (by omega) _ _ q1 q2 q3, Option.bind_some]
    simp only
    rw [beq_self_eq_true, Bool.not_true, cond_false, wsucc i _ hlt (by omega), ih]
    rfl
theorem det_labels (a0 : List RawT) (a1 a2 : List Int) (a3 : List Bool) (h1 : a1.length ≤ 100000000000000) : ∃ k, F10 k a0 a1 a2 a3 = some ((true, ()), ()) := by
  refine ⟨20000000, ?_⟩
  generalize hk : (20000000 : Nat) = k
  have hk' : 20000000 ≤ k := by omega
  have hk2 : 10000000 ≤ k := by omega
  unfold F10
  refine start10 k hk' a0 a1 a2 h1 _ _ _ fun w N M e15 hw e16 => ?_
  simp only
  have hnl := hw.nl
  have hn4 := hw.nrules
  obtain ⟨a', e, ha'⟩ := F10_0_ok k a3 w w.2.2.2.2.1.length rfl (by omega) w.2.2.2.2.1.length k 0 (List.replicate w.2.2.2.2.1.length false) (List.replicate w.2.2.2.2.1.length false) (Nat.zero_add _) (by omega) (by simp) (by simp)
  rw [show ((0 : Nat) : Int) = 0 from rfl] at e
  have hb' : (List.replicate w.2.2.2.2.1.length true).length = w.2.2.2.2.1.length := List.length_replicate
  have dw2 := wg_dw hw (sets := [a', List.replicate w.2.2.2.2.1.length true]) (fun s hs => by
    rcases List.mem_cons.1 hs with q | q
    · rw [q]; omega
    · rw [List.mem_singleton.1 q]; omega) (by simp)
  have dw1 := wg_dw hw (sets := [List.replicate w.2.2.2.2.1.length true]) (fun s hs => by rw [List.mem_singleton.1 hs]; omega) (by simp)
  rw [if_pos (by omega), if_pos (by omega), tnI w.2.2.2.2.1.length, e, Option.bind_some]
  simp only
  rw [show List.set (List.set (List.replicate 2 ([] : List Bool)) 0 a') 1 (List.replicate w.2.2.2.2.1.length true) = [a', List.replicate w.2.2.2.2.1.length true] from rfl, hw.num, F19_dw k hk2 dw2, Option.bind_some, one_list, F19_dw k hk2 dw1, Option.bind_some]
  cases hd : mkN w.2.2.2.2.1 w.2.2.2.1 N 60 with
  | none =>
    obtain ⟨k, rfl⟩ : ∃ m, k = m + 1 := ⟨k - 1, by omega⟩
    rfl
  | some d =>
    have nd := mkN_ok dw1.hs hd
    have hnl2 := nd.m.nl
    have hlen := nd.len
    have e2 := F10_1_ok k hk2 d.2.1 (fun y => emitW w.1.2.1 (endsW w.2.2.2.2.1 y) a' none3) (fun y => emitW w.1.2.1 (endsW w.2.2.2.2.1 y) (List.replicate w.2.2.2.2.1.length true) none3) d.1 hnl2 (by omega) (fun r hr => by rw [nd.rows r hr]; exact dw1.hN) (fun y => ⟨by rw [emitW_len]; rfl, by rw [emitW_len]; rfl, emitW_le _ _ _ _ _ _ ha' rfl (fun c => Int.le_refl _)⟩) d.1.length k 0 (Nat.zero_add _) (by omega)
    rw [show ((0 : Nat) : Int) = 0 from rfl] at e2
    simp only [outD, bne_self_eq_false, cond_false, List.length_map]
    rw [hnl2]
    simp only [bne_self_eq_false, cond_false]
    rw [show F10_1 k k 0 (d.2.1, (List.map (emW w.1.2.1 w.2.2.2.2.1 [a', List.replicate w.2.2.2.2.1.length true]) d.1, ())) (d.2.1, (List.map (emW w.1.2.1 w.2.2.2.2.1 [List.replicate w.2.2.2.2.1.length true]) d.1, ())) = _ from e2]
    rfl
end Go.Proofs.YtgmmopbpldgpcaaE
namespace Go.Proofs.Ytgmmopbpldgpcaa.Pure
open Go.Proofs.YtgmmopbpldgpcaaE
theorem DetLabels (a0 : List (Tree (Int × (Int × Unit)))) (a1 : List Int) (a2 : List Int) (a3 : List Bool) : (a1.length * 8 ≤ 140737488351232) → (∀ x ∈ a1, IntKind.min .i64 ≤ x ∧ x ≤ IntKind.max .i64) → (a2.length * 8 ≤ 140737488351232) → (∀ x ∈ a2, IntKind.min .i64 ≤ x ∧ x ≤ IntKind.max .i64) → ∃ k, F10 k a0 a1 a2 a3 = some ((true, ()), ()) := by
  intros
  exact det_labels a0 a1 a2 a3 (by omega)
end Go.Proofs.Ytgmmopbpldgpcaa.Pure
