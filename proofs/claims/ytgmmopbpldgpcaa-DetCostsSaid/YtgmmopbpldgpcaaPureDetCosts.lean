/- The plain law of DetCosts. Conditions: none. -/
import Derived.Test.YtgmmopbpldgpcaaP1
set_option linter.unusedSimpArgs false
set_option linter.unusedVariables false
set_option maxRecDepth 20000
namespace Go.Proofs.YtgmmopbpldgpcaaE
/-- A dearer rule. -/
def rulA (n : Int) (r : RulT) : RulT := (r.1, (r.2.1 + n, r.2.2))
/-- So much more. -/
def plusV (n : Int) (v : List Int) : List Int := v.map fun x => adI x n
theorem minI_add {a b n : Int} : adI (minI a b) n = minI (adI a n) (adI b n) := by
  unfold adI minI
  repeat' split
  all_goals omega
theorem adI_swap {c e n : Int} (hn : 0 ≤ n) (he : 0 ≤ e) (hc : 0 ≤ c ∧ c + n ≤ 1000000) : adI (c + n) e = adI (adI c e) n := by
  unfold adI minI
  repeat' split
  all_goals omega
theorem plusV_set (n : Int) (v : List Int) (i : Nat) (x : Int) : plusV n (List.set v i x) = List.set (plusV n v) i (adI x n) := by
  unfold plusV
  rw [List.map_set]
theorem plusV_getD {n : Int} {v : List Int} {i : Nat} (h : i < v.length) : List.getD (plusV n v) i 0 = adI (List.getD v i 0) n := by
  rw [getD_lt v i 0 h, getD_lt _ i 0 (by rw [plusV, List.length_map]; exact h)]
  simp [plusV]
theorem rulV_plus {r : RulT} {e n : Int} {v : List Int} (hv : v.length = 3) (h0 : 0 ≤ r.1 ∧ r.1 < 3) (hn : 0 ≤ n) (he : 0 ≤ e) (hc : 0 ≤ r.2.1 ∧ r.2.1 + n ≤ 1000000) : rulV (rulA n r) e (plusV n v) = plusV n (rulV r e v) := by
  unfold rulV
  rw [plusV_set, minI_add, ← plusV_getD (by omega)]
  show List.set (plusV n v) r.1.toNat (minI (List.getD (plusV n v) r.1.toNat 0) (adI (r.2.1 + n) e)) = _
  rw [adI_swap hn he hc]
theorem emitW_plus {n : Int} (hn : 0 ≤ n) : ∀ (rs : List RulT) (E : List Int) (set : List Bool) (v : List Int), v.length = 3 → (∀ r ∈ rs, (0 ≤ r.1 ∧ r.1 < 3) ∧ 0 ≤ r.2.1 ∧ r.2.1 + n ≤ 1000000) → CstL E → emitW (rs.map (rulA n)) E set (plusV n v) = plusV n (emitW rs E set v)
  | [], _, _, v, _, _, _ => by simp [emitW]
  | _ :: _, [], _, v, _, _, _ => by simp [emitW]
  | _ :: _, _ :: _, [], v, _, _, _ => by simp [emitW]
  | r :: rs, e :: E, b :: set, v, hv, hr, hE => by
    have h1 := hr r List.mem_cons_self
    have he := hE e List.mem_cons_self
    have ih := fun v hv => emitW_plus hn rs E set v hv (fun x hx => hr x (List.mem_cons_of_mem _ hx)) fun x hx => hE x (List.mem_cons_of_mem _ hx)
    rw [List.map_cons, emitW, emitW]
    cases b with
    | false =>
      rw [if_neg (by simp), if_neg (by simp)]
      exact ih v hv
    | true =>
      rw [if_pos rfl, if_pos rfl, rulV_plus hv h1.1 hn he.1 h1.2]
      exact ih _ (by rw [rulV_len]; exact hv)
theorem plusV_none {n : Int} (hn : 0 ≤ n) : plusV n none3 = none3 := by
  have : adI 1152921504606846976 n = 1152921504606846976 := by unfold adI minI; split <;> omega
  show [adI 1152921504606846976 n, adI 1152921504606846976 n, adI 1152921504606846976 n] = _
  rw [this]
theorem F7_0_ok (k : Nat) (a3 : List Int) (n : Int) (hn : 0 ≤ n ∧ n < 1000) (w : WorT) (b : BackT) (se : List (List Bool)) (rs : List RulT) (hr : ∀ r ∈ rs, RulP r) (hl : rs.length ≤ 1000) : ∀ (d m i : Nat), i + d = rs.length → d < m →
    F7_0 k m a3 n (i : Int) w b ((rs.take i).map (rulA n) ++ rs.drop i) se = some ((a3, n, ()), (w, b, rs.map (rulA n), se, ()))
  | 0, m, i, hi, hm => by
    obtain ⟨m, rfl⟩ := pos1 (m := m) (by omega)
    have hll : ((rs.take i).map (rulA n) ++ rs.drop i).length = rs.length := by rw [List.length_append, List.length_map, List.length_take, List.length_drop]; omega
    simp only [F7_0]
    rw [hll, decide_eq_false (by omega), cond_false, List.take_of_length_le (by omega), List.drop_eq_nil_of_le (by omega), List.append_nil]
  | d + 1, m, i, hi, hm => by
    obtain ⟨m, rfl⟩ := pos1 (m := m) (by omega)
    have hlt : i < rs.length := by omega
    have hll : ((rs.take i).map (rulA n) ++ rs.drop i).length = rs.length := by rw [List.length_append, List.length_map, List.length_take, List.length_drop]; omega
    have hml : ((rs.take i).map (rulA n)).length = i := by rw [List.length_map, List.length_take]; omega
    have hg : ∀ d0 : RulT, List.getD ((rs.take i).map (rulA n) ++ rs.drop i) i d0 = rs[i] := fun d0 => by
      rw [List.getD_eq_getElem?_getD, List.getElem?_append_right (by omega), hml, Nat.sub_self, List.getElem?_drop, Nat.add_zero, List.getElem?_eq_getElem hlt]
      rfl
    obtain ⟨_, _, c0, c1⟩ := hr _ (List.getElem_mem hlt)
    have hset : List.set ((rs.take i).map (rulA n) ++ rs.drop i) i (rulA n rs[i]) = (rs.take (i + 1)).map (rulA n) ++ rs.drop (i + 1) := by
      rw [List.set_append_right _ _ (by omega), hml, Nat.sub_self, List.drop_eq_getElem_cons hlt, List.set_cons_zero, List.take_succ_eq_append_getElem hlt, List.map_append, List.append_assoc]
      rfl
    simp only [F7_0]
    rw [hll, decide_eq_true (by omega), cond_true, if_pos (inR hlt), if_pos (inR hlt), tnI i, hg, w64 (rs[i].2.1 + n) (by omega) (by omega), show ((rs[i].1, (rs[i].2.1 + n, rs[i].2.2)) : RulT) = rulA n rs[i] from rfl, hset, wsucc i _ hlt (by omega), F7_0_ok k a3 n hn w b se rs hr hl d m (i + 1) (by omega) (by omega)]
    rfl
theorem F34_any (k : Nat) {a n : Int} (ha : Cst a) (hn : 0 ≤ n ∧ n < 1000) : F34 k a n = some ((adI a n, ()), ()) := F34_ad k a n ha (by unfold Cst; omega)
theorem F29_ok (k : Nat) (hk : 10 ≤ k) (v : List Int) (n : Int) (hv : v.length = 3) (hc : CstL v) (hn : 0 ≤ n ∧ n < 1000) : F29 k v n = some ((plusV n v, ()), ()) := by
  obtain ⟨k', hk'⟩ : ∃ m, k = m + 4 := ⟨k - 4, by omega⟩
  match v, hv with
  | [a, b, c], _ =>
    have ha := hc a (by simp)
    have hb := hc b (by simp)
    have hcc := hc c (by simp)
    have e1 : F34 k a n = _ := F34_any k ha hn
    have e2 : F34 k b n = _ := F34_any k hb hn
    have e3 : F34 k c n = _ := F34_any k hcc hn
    have step : F29_0 k (k' + 4) n 0 [a, b, c] (List.replicate 3 0) = some ((), ([adI a n, adI b n, adI c n], List.replicate 3 0, ())) := by
      simp only [F29_0]
      rw [show decide ((0 : Int) < 3) = true from rfl, cond_true, if_pos (by decide), show List.getD [a, b, c] (Int.toNat 0) 0 = a from rfl, e1, Option.bind_some, if_pos (by decide), show IntKind.wrap .i64 ((0 : Int) + 1) = 1 from by decide, show List.set [a, b, c] (Int.toNat 0) (adI a n) = [adI a n, b, c] from rfl]
      rw [show decide ((1 : Int) < 3) = true from rfl, cond_true, if_pos (by decide), show List.getD [adI a n, b, c] (Int.toNat 1) 0 = b from rfl, e2, Option.bind_some, if_pos (by decide), show IntKind.wrap .i64 ((1 : Int) + 1) = 2 from by decide, show List.set [adI a n, b, c] (Int.toNat 1) (adI b n) = [adI a n, adI b n, c] from rfl]
      rw [show decide ((2 : Int) < 3) = true from rfl, cond_true, if_pos (by decide), show List.getD [adI a n, adI b n, c] (Int.toNat 2) 0 = c from rfl, e3, Option.bind_some, if_pos (by decide), show IntKind.wrap .i64 ((2 : Int) + 1) = 3 from by decide, show List.set [adI a n, adI b n, c] (Int.toNat 2) (adI c n) = [adI a n, adI b n, adI c n] from rfl]
      rw [show decide ((3 : Int) < 3) = false from rfl, cond_false]
      rfl
    unfold F29
    rw [show F29_0 k k n 0 [a, b, c] (List.replicate 3 0) = F29_0 k (k' + 4) n 0 [a, b, c] (List.replicate 3 0) from by rw [← hk'], step, Option.bind_some]
    rfl
theorem F7_1_ok (k : Nat) (hk : 10 ≤ k) (n : Int) (hn : 0 ≤ n ∧ n < 1000) (l : List (List Int)) (hl : l.length ≤ 1000000) (h3 : ∀ v ∈ l, v.length = 3 ∧ CstL v) : ∀ (d m i : Nat), i + d = l.length → d < m → F7_1 k m n (i : Int) l (l.map (plusV n)) = some (.inl ((), ()))
  | 0, m, i, hi, hm => by
    obtain ⟨m, rfl⟩ := pos1 (m := m) (by omega)
    simp only [F7_1]
    rw [decide_eq_false (by omega), cond_false]
  | d + 1, m, i, hi, hm => by
    obtain ⟨m, rfl⟩ := pos1 (m := m) (by omega)
    have hlt : i < l.length := by omega
    have hlt2 : i < (l.map (plusV n)).length := by rw [List.length_map]; exact hlt
    obtain ⟨q1, q2⟩ := h3 _ (List.getElem_mem hlt)
    simp only [F7_1]
    rw [dlt hlt, cond_true, if_pos (inR hlt2), if_pos (inR hlt), tnI i, getD_lt _ _ _ hlt, getD_lt _ _ _ hlt2, List.getElem_map, F29_ok k hk _ n q1 q2 hn, Option.bind_some]
    simp only
    rw [beq_self_eq_true, Bool.not_true, cond_false, wsucc i _ hlt (by omega), F7_1_ok k hk n hn l hl h3 d m (i + 1) (by omega) (by omega)]
    rfl
theorem runL_plus {n : Int} (hn : 0 ≤ n) (rs : List RulT) (ss : List SideT) (sets : List (List Bool)) (I : InT) (hs : ∀ s ∈ ss, SOC s) (hr : ∀ r ∈ rs, (0 ≤ r.1 ∧ r.1 < 3) ∧ 0 ≤ r.2.1 ∧ r.2.1 + n ≤ 1000000) (z : Rows) (hz : ShW ss z) (x p : List Nat) : runL (stepW I ss) (emW (rs.map (rulA n)) ss sets) z x p = (runL (stepW I ss) (emW rs ss sets) z x p).map (plusV n) := by
  have hst : ∀ (t : List Nat) (z : Rows), ShW ss z → ShW ss (stF (stepW I ss) z t) := by
    intro t
    induction t with
    | nil => exact fun z h => h
    | cons a t ih => exact fun z h => ih _ (stepW_shw hs h)
  unfold runL
  rw [List.map_map]
  refine List.map_congr_left fun i _ => ?_
  show runV _ _ _ _ _ _ = plusV n (runV _ _ _ _ _ _)
  unfold runV emW
  have hsi := hst (x.take i) z hz
  generalize stF (stepW I ss) z (x.take i) = R at hsi ⊢
  generalize List.getD p i 0 = j
  by_cases hj : j < sets.length
  · rw [getD_lt _ _ _ (by rw [List.length_map]; exact hj), getD_lt _ _ _ (by rw [List.length_map]; exact hj), List.getElem_map, List.getElem_map, ← emitW_plus hn _ _ _ _ rfl hr (endsW_cst hs hsi.2), plusV_none hn]
  · rw [List.getD_eq_getElem?_getD, List.getD_eq_getElem?_getD, List.getElem?_eq_none (by rw [List.length_map]; omega), List.getElem?_eq_none (by rw [List.length_map]; omega)]
    rfl
theorem det_costs (a0 : List RawT) (a1 a2 a3 : List Int) (a4 : Int) (h1 : a1.length ≤ 100000000000000) (h3 : a3.length ≤ 100000000000000) : ∃ k, F7 k a0 a1 a2 a3 a4 = some ((true, ()), ()) := by
  refine ⟨20000000, ?_⟩
  generalize hk : (20000000 : Nat) = k
  have hk' : 20000000 ≤ k := by omega
  have hk2 : 10000000 ≤ k := by omega
  unfold F7
  refine start10 k hk' a0 a1 a2 h1 _ _ _ fun w N M e15 hw e16 => ?_
  simp only
  rw [F17_wg k hk' hw, Option.bind_some]
  cases hq : mkM w.2.2.2.1 w.2.2.2.2.2.1 N 60 with
  | none => rfl
  | some q =>
    have mw := mkM_ok hq
    have dw := mw_dw hw mw
    have hn4 := hw.nrules
    have hv0 : 0 ≤ a4 % 1000 := Int.emod_nonneg _ (by decide)
    have hv1 : a4 % 1000 < 1000 := Int.emod_lt_of_pos _ (by decide)
    have e0 := F7_0_ok k a3 (a4 % 1000) ⟨hv0, hv1⟩ w (q.2.1, (q.2.2.1, ())) q.2.2.2 w.1.2.1 hw.rules (by omega) w.1.2.1.length k 0 (Nat.zero_add _) (by omega)
    rw [show ((0 : Nat) : Int) = 0 from rfl, List.take_zero, List.map_nil, List.nil_append, List.drop_zero] at e0
    have hrr : ∀ r ∈ w.1.2.1, (0 ≤ r.1 ∧ r.1 < 3) ∧ 0 ≤ r.2.1 ∧ r.2.1 + a4 % 1000 ≤ 1000000 := fun r hr => by
      obtain ⟨_, c0, c1, c2⟩ := hw.rules r hr
      exact ⟨c0, c1, by omega⟩
    have dw2 : DW w.2.2.2.1 N (w.1.2.1.map (rulA (a4 % 1000))) w.2.2.2.2.1 q.2.2.2 := ⟨dw.hs, dw.hI, dw.hn, dw.ht, dw.hN, fun r hr => by
      obtain ⟨y, hy, e⟩ := List.mem_map.1 hr
      have := hrr y hy
      rw [← e]
      refine ⟨this.1, ?_⟩
      show Cst (y.2.1 + a4 % 1000)
      unfold Cst
      omega, by rw [List.length_map]; exact dw.hrl, fun s hs => by rw [List.length_map]; exact dw.hset s hs, dw.hsn⟩
    simp only [outA, bne_self_eq_false, cond_false]
    rw [F18_eq10 k a4 1000 (by decide) (by decide), Option.bind_some]
    simp only
    rw [List.replicate_zero, if_pos (by rw [List.length_nil]; omega), List.nil_append, e0, Option.bind_some]
    simp only
    rw [hw.num, F19_dw k hk2 dw, Option.bind_some, F19_dw k hk2 dw2, Option.bind_some]
    cases hd : mkN w.2.2.2.2.1 w.2.2.2.1 N 80 with
    | none => rfl
    | some d =>
      have nd := mkN_ok dw.hs hd
      obtain ⟨t, x, e1, e2, hxl, hxN⟩ := letters_ok k hk' w N M hw a3 15 (by decide) h3
      have hw1 : IntKind.wrap .i64 (((x.length : Nat) : Int) + 1) = ((x.length + 1 : Nat) : Int) := wsucc x.length (x.length + 1) (by omega) (by omega)
      have hr2 := runL_plus hv0 w.1.2.1 w.2.2.2.2.1 q.2.2.2 w.2.2.2.1 dw.hs hrr (infW w.2.2.2.2.1) (infW_shw _) x (lab w.2.2.2.1 w.2.2.2.2.2.1 q.2.2.2 x)
      simp only [outD, bne_self_eq_false, cond_false]
      rw [show F23 k a3 (15 : Int) = _ from e1, Option.bind_some]
      simp only
      rw [e2, Option.bind_some]
      simp only
      rw [F24_lab k hk2 mw x hxN (by omega), Option.bind_some]
      simp only
      rw [F26_nd k hk2 nd x _ hxN (by omega) (lab_len _ _ _ _) (lab_lt mw hxN), Option.bind_some, Option.bind_some]
      simp only
      rw [F26_nd k hk2 nd x _ hxN (by omega) (lab_len _ _ _ _) (lab_lt mw hxN), Option.bind_some]
      simp only
      rw [runL_len, runL_len, bne_self_eq_false, cond_false, List.length_map, hw1, bne_self_eq_false, cond_false, hr2]
      have e4 := F7_1_ok k (by omega) (a4 % 1000) ⟨hv0, hv1⟩ (runL (stepW w.2.2.2.1 w.2.2.2.2.1) (emW w.1.2.1 w.2.2.2.2.1 q.2.2.2) (infW w.2.2.2.2.1) x (lab w.2.2.2.1 w.2.2.2.2.2.1 q.2.2.2 x)) (by rw [runL_len]; omega) (fun v hv => by
        obtain ⟨i, hi, e⟩ := List.mem_map.1 hv
        have hi2 : i < x.length + 1 := List.mem_range.1 hi
        have hll : i < (lab w.2.2.2.1 w.2.2.2.2.2.1 q.2.2.2 x).length := by rw [lab_len]; exact hi2
        have hj := lab_lt mw hxN _ (List.getElem_mem hll)
        have hst : ∀ (t : List Nat) (z : Rows), ShW w.2.2.2.2.1 z → ShW w.2.2.2.2.1 (stF (stepW w.2.2.2.1 w.2.2.2.2.1) z t) := by
          intro t
          induction t with
          | nil => exact fun z h => h
          | cons a t ih => exact fun z h => ih _ (stepW_shw dw.hs h)
        have hsi := hst (x.take i) _ (infW_shw _)
        rw [← e]
        unfold runV emW
        rw [getD_lt (lab w.2.2.2.1 w.2.2.2.2.2.1 q.2.2.2 x) i 0 hll, getD_lt _ _ _ (by rw [List.length_map]; exact hj), List.getElem_map]
        exact ⟨emitW_len _ _ _ _, emitW_cst dw.hr (endsW_cst dw.hs hsi.2) none3_cst⟩) (x.length + 1) k 0 (by rw [runL_len]; omega) (by omega)
      rw [show ((0 : Nat) : Int) = 0 from rfl] at e4
      rw [e4]
      rfl
end Go.Proofs.YtgmmopbpldgpcaaE
namespace Go.Proofs.Ytgmmopbpldgpcaa.Pure
open Go.Proofs.YtgmmopbpldgpcaaE
theorem DetCosts (a0 : List (Tree (Int × (Int × Unit)))) (a1 : List Int) (a2 : List Int) (a3 : List Int) (a4 : Int) : (a1.length * 8 ≤ 140737488351232) → (∀ x ∈ a1, IntKind.min .i64 ≤ x ∧ x ≤ IntKind.max .i64) → (a2.length * 8 ≤ 140737488351232) → (∀ x ∈ a2, IntKind.min .i64 ≤ x ∧ x ≤ IntKind.max .i64) → (a3.length * 8 ≤ 140737488351232) → (∀ x ∈ a3, IntKind.min .i64 ≤ x ∧ x ≤ IntKind.max .i64) → (IntKind.min .i64 ≤ a4 ∧ a4 ≤ IntKind.max .i64) → ∃ k, F7 k a0 a1 a2 a3 a4 = some ((true, ()), ()) := by
  intros
  exact det_costs a0 a1 a2 a3 a4 (by omega) (by omega)
end Go.Proofs.Ytgmmopbpldgpcaa.Pure
