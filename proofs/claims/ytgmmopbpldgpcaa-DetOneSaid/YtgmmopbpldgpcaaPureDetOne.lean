/- The plain law of DetOne. Conditions: none. -/
import Derived.Test.YtgmmopbpldgpcaaP1
set_option linter.unusedSimpArgs false
set_option linter.unusedVariables false
set_option maxRecDepth 20000
namespace Go.Proofs.YtgmmopbpldgpcaaE
theorem F8_0_ok (k : Nat) (a3 : List Int) (w : WorT) (n : Nat) (hn : w.2.2.2.2.1.length = n) (hn4 : n ≤ 1000) : ∀ (d m i : Nat), i + d = n → d < m →
    F8_0 k m a3 (i : Int) w [List.replicate i true ++ List.replicate d false] = some ((a3, ()), (w, [List.replicate n true], ()))
  | 0, m, i, hi, hm => by
    obtain ⟨m, rfl⟩ := pos1 (m := m) (by omega)
    simp only [F8_0]
    rw [hn, decide_eq_false (by omega), cond_false, show i = n by omega, List.replicate_zero, List.append_nil]
  | d + 1, m, i, hi, hm => by
    obtain ⟨m, rfl⟩ := pos1 (m := m) (by omega)
    have hset : List.set (List.replicate i true ++ List.replicate (d + 1) false) i true = List.replicate (i + 1) true ++ List.replicate d false := by
      rw [List.set_append_right _ _ (by simp), List.length_replicate, Nat.sub_self, List.replicate_succ, List.set_cons_zero, List.replicate_succ', List.append_assoc]
      rfl
    have hbl : (List.replicate i true ++ List.replicate (d + 1) false).length = n := by simp; omega
    simp only [F8_0]
    rw [hn, decide_eq_true (show (i : Int) < (n : Int) by omega), cond_true, show List.getD [List.replicate i true ++ List.replicate (d + 1) false] (Int.toNat 0) [] = List.replicate i true ++ List.replicate (d + 1) false from rfl, if_pos (by simp), if_pos (by omega), tnI i, hset, show List.set [List.replicate i true ++ List.replicate (d + 1) false] (Int.toNat 0) (List.replicate (i + 1) true ++ List.replicate d false) = [List.replicate (i + 1) true ++ List.replicate d false] from rfl, wsucc i n (by omega) (by omega), F8_0_ok k a3 w n hn hn4 d m (i + 1) (by omega) (by omega)]
    rfl
theorem F8_1_ok (k : Nat) (w : WorT) (c13 : FwdT) (p x : List Int) (n : Nat) (hn4 : n ≤ 1000) : ∀ (d m i : Nat), i + d = n → d < m →
    F8_1 k m (i : Int) w c13 p (List.replicate i none3 ++ List.replicate d (List.replicate 3 0)) x = some ((), (w, c13, p, List.replicate n none3, x, ()))
  | 0, m, i, hi, hm => by
    obtain ⟨m, rfl⟩ := pos1 (m := m) (by omega)
    simp only [F8_1]
    rw [List.replicate_zero, List.append_nil, List.length_replicate, decide_eq_false (by omega), cond_false, show i = n by omega]
  | d + 1, m, i, hi, hm => by
    obtain ⟨m, rfl⟩ := pos1 (m := m) (by omega)
    have hset : List.set (List.replicate i none3 ++ List.replicate (d + 1) (List.replicate 3 (0 : Int))) i none3 = List.replicate (i + 1) none3 ++ List.replicate d (List.replicate 3 0) := by
      rw [List.set_append_right _ _ (by simp), List.length_replicate, Nat.sub_self, List.replicate_succ, List.set_cons_zero, show List.replicate (i + 1) none3 = List.replicate i none3 ++ [none3] from List.replicate_succ', List.append_assoc]
      rfl
    have hbl : (List.replicate i none3 ++ List.replicate (d + 1) (List.replicate 3 (0 : Int))).length = n := by simp; omega
    simp only [F8_1]
    unfold F30
    rw [hbl, decide_eq_true (show (i : Int) < (n : Int) by omega), cond_true, Option.bind_some, if_pos (by omega), tnI i]
    simp only
    rw [show List.set (List.set (List.set (List.replicate 3 (0 : Int)) 0 (1152921504606846976 : Int)) 1 (1152921504606846976 : Int)) 2 (1152921504606846976 : Int) = none3 from rfl, hset, wsucc i n (by omega) (by omega), F8_1_ok k w c13 p x n hn4 d m (i + 1) (by omega) (by omega)]
    rfl
def bothV : List Int → List Int → List Int := List.zipWith minI
theorem F31_ok (k : Nat) (hk : 10 ≤ k) (u v : List Int) (hu : u.length = 3) (hv : v.length = 3) : F31 k u v = some ((bothV u v, ()), ()) := by
  obtain ⟨k, rfl⟩ : ∃ m, k = m + 5 := ⟨k - 5, by omega⟩
  match u, hu, v, hv with
  | [a, b, c], _, [a', b', c'], _ => rfl
theorem bothV_len {u v : List Int} (hu : u.length = 3) (hv : v.length = 3) : (bothV u v).length = 3 := by rw [bothV, List.length_zipWith, hu, hv]; rfl
theorem F8_2_ok (k : Nat) (hk : 10 ≤ k) (t19 : Int) (w : WorT) (c13 : FwdT) (p x : List Int) (u v : List (List Int)) (huv : u.length = v.length) (hl : v.length ≤ 1000) (hu : ∀ y ∈ u, y.length = 3) (hv : ∀ y ∈ v, y.length = 3) : ∀ (d m i : Nat), i + d = v.length → d < m →
    F8_2 k m t19 (i : Int) w c13 p ((List.zipWith bothV u v).take i ++ u.drop i) x v = some ((t19, ()), (w, c13, p, List.zipWith bothV u v, x, ()))
  | 0, m, i, hi, hm => by
    obtain ⟨m, rfl⟩ := pos1 (m := m) (by omega)
    simp only [F8_2]
    rw [decide_eq_false (by omega), cond_false, List.take_of_length_le (by rw [List.length_zipWith]; omega), List.drop_eq_nil_of_le (by omega), List.append_nil]
  | d + 1, m, i, hi, hm => by
    obtain ⟨m, rfl⟩ := pos1 (m := m) (by omega)
    have hlt : i < v.length := by omega
    have hlt2 : i < u.length := by omega
    have hzl : (List.zipWith bothV u v).length = v.length := by rw [List.length_zipWith]; omega
    have hzi : i < (List.zipWith bothV u v).length := by omega
    have htl : ((List.zipWith bothV u v).take i).length = i := by rw [List.length_take]; omega
    have hll : ((List.zipWith bothV u v).take i ++ u.drop i).length = v.length := by rw [List.length_append, htl, List.length_drop]; omega
    have hg : List.getD ((List.zipWith bothV u v).take i ++ u.drop i) i [] = u[i] := by
      rw [List.getD_eq_getElem?_getD, List.getElem?_append_right (by omega), htl, Nat.sub_self, List.getElem?_drop, Nat.add_zero, List.getElem?_eq_getElem hlt2]
      rfl
    have hset : List.set ((List.zipWith bothV u v).take i ++ u.drop i) i (bothV u[i] v[i]) = (List.zipWith bothV u v).take (i + 1) ++ u.drop (i + 1) := by
      rw [List.set_append_right _ _ (by omega), htl, Nat.sub_self, List.drop_eq_getElem_cons hlt2, List.set_cons_zero, List.take_succ_eq_append_getElem hzi, List.getElem_zipWith, List.append_assoc]
      rfl
    have hin : 0 ≤ (i : Int) ∧ (i : Int) < ((((List.zipWith bothV u v).take i ++ u.drop i).length : Nat) : Int) := by omega
    simp only [F8_2]
    rw [dlt hlt, cond_true, if_pos hin, if_pos (inR hlt), tnI i, hg, getD_lt _ _ _ hlt, F31_ok k hk _ _ (hu _ (List.getElem_mem hlt2)) (hv _ (List.getElem_mem hlt)), Option.bind_some, if_pos hin]
    simp only
    rw [hset, wsucc i _ hlt (by omega), F8_2_ok k hk t19 w c13 p x u v huv hl hu hv d m (i + 1) (by omega) (by omega)]
    rfl
theorem take1 {α : Type} (l : List α) (i : Nat) (h : i < l.length) : List.take (i + 1 - i) (List.drop i l) = [l[i]] := by
  rw [show i + 1 - i = 1 by omega, List.drop_eq_getElem_cons h]
  rfl
theorem rulV_both {r : RulT} {e : Int} {u : List Int} (hr : RulC r) (he : Cst e) (hu : u.length = 3) (hc : CstL u) : rulV r e u = bothV u (rulV r e none3) := by
  have ha := cst_ad hr.2 he
  obtain ⟨h0, h1⟩ := hr.1
  match u, hu with
  | [a, b, c], _ =>
    have e1 := minI_c (hc a (by simp))
    have e2 := minI_c (hc b (by simp))
    have e3 := minI_c (hc c (by simp))
    have e4 := minI_c' ha
    have h3 : r.1 = 0 ∨ r.1 = 1 ∨ r.1 = 2 := by omega
    unfold rulV bothV
    rcases h3 with h | h | h <;> rw [h]
    · show [minI a (adI r.2.1 e), b, c] = [minI a (minI 1152921504606846976 (adI r.2.1 e)), minI b 1152921504606846976, minI c 1152921504606846976]
      rw [e2, e3, e4]
    · show [a, minI b (adI r.2.1 e), c] = [minI a 1152921504606846976, minI b (minI 1152921504606846976 (adI r.2.1 e)), minI c 1152921504606846976]
      rw [e1, e3, e4]
    · show [a, b, minI c (adI r.2.1 e)] = [minI a 1152921504606846976, minI b 1152921504606846976, minI c (minI 1152921504606846976 (adI r.2.1 e))]
      rw [e1, e2, e4]
theorem emitW_snoc (r : RulT) (e : Int) : ∀ (rs : List RulT) (E : List Int) (n : Nat) (v : List Int), rs.length = n → E.length = n → emitW (rs ++ [r]) (E ++ [e]) (List.replicate (n + 1) true) v = rulV r e (emitW rs E (List.replicate n true) v)
  | [], [], 0, v, _, _ => rfl
  | [], [], n + 1, v, h, _ => by simp at h
  | [], _ :: _, n, v, h1, h2 => by simp at h1 h2; omega
  | _ :: _, [], n, v, h1, h2 => by simp at h1 h2; omega
  | _ :: _, _ :: _, 0, v, h1, _ => by simp at h1
  | r' :: rs, e' :: E, n + 1, v, h1, h2 => by
    show emitW (rs ++ [r]) (E ++ [e]) (List.replicate (n + 1) true) (rulV r' e' v) = rulV r e (emitW rs E (List.replicate n true) (rulV r' e' v))
    exact emitW_snoc r e rs E n _ (by simpa using h1) (by simpa using h2)
section
variable (I : InT) (ss : List SideT)
theorem stepW_get {R : Rows} (a i : Nat) (h : i < ss.length) (h2 : i < R.length) (h3 : i < (stepW I ss R a).length) : (stepW I ss R a)[i] = stepC I ss[i] a R[i] := List.getElem_zipWith ..
theorem stepW_at {R : Rows} (hR : ShW ss R) (a i : Nat) (h : i < ss.length) : stepW I [ss[i]] [List.getD R i []] a = [List.getD (stepW I ss R a) i []] := by
  have hl := shw_len hR
  have h2 : i < R.length := by omega
  have h3 : i < (stepW I ss R a).length := by unfold stepW; rw [List.length_zipWith]; omega
  rw [getD_lt R i [] h2, getD_lt _ i [] h3, stepW_get I ss a i h h2 h3]
  rfl
theorem infW_at (i : Nat) (h : i < ss.length) : infW [ss[i]] = [List.getD (infW ss) i []] := by
  rw [getD_lt _ i [] (by simpa [infW] using h)]
  simp [infW]
theorem stF_shw (hs : ∀ s ∈ ss, SOC s) : ∀ (t : List Nat) (z : Rows), ShW ss z → ShW ss (stF (stepW I ss) z t)
  | [], _, h => h
  | a :: t, z, h => stF_shw hs t _ (stepW_shw hs h)
theorem stF_at (hs : ∀ s ∈ ss, SOC s) (i : Nat) (h : i < ss.length) : ∀ (t : List Nat) (z : Rows), ShW ss z → stF (stepW I [ss[i]]) [List.getD z i []] t = [List.getD (stF (stepW I ss) z t) i []]
  | [], z, hz => rfl
  | a :: t, z, hz => by
    show stF (stepW I [ss[i]]) (stepW I [ss[i]] [List.getD z i []] a) t = [List.getD (stF (stepW I ss) (stepW I ss z a) t) i []]
    rw [stepW_at I ss hz a i h]
    exact stF_at hs i h t _ (stepW_shw hs hz)
theorem one_some {N : Nat} {d : QW} (hs : ∀ s ∈ ss, SOC s) (h : mkN ss I N 80 = some d) (i : Nat) (hi : i < ss.length) : ∃ q, mkN [ss[i]] I N 80 = some q := by
  have nd := mkN_ok hs h
  have nle := nd.le
  rw [minI_le (by decide)] at nle
  have hS : ∀ x ∈ d.1.map (fun R => [List.getD R i []]), ∀ a, a < N → stepW I [ss[i]] x a ∈ d.1.map (fun R => [List.getD R i []]) := fun x hx a ha => by
    obtain ⟨y, hy, e⟩ := List.mem_map.1 hx
    obtain ⟨j, hj, ej⟩ := List.mem_iff_getElem.1 hy
    obtain ⟨r, _, _, h3⟩ := nd.m.rows j y hj (by rw [List.getElem?_eq_getElem hj, ej])
    obtain ⟨t, _, h4⟩ := h3 a ha
    rw [← e, stepW_at I ss (nd.shp y hy) a i hi]
    exact List.mem_map.2 ⟨_, List.mem_of_getElem? h4, rfl⟩
  obtain ⟨q, hq, _⟩ := mkA_closed (step := stepW I [ss[i]]) (hold := noH) (d0 := []) (B := minI 80 100000) (d.1.map fun R => [List.getD R i []]) hS (by rw [List.length_map, minI_le (by decide)]; exact nle) ((minI 80 100000).toNat + 2) 0 [infW [ss[i]]] [] [] [] (mach0 _) (fun x hx => by
    rw [List.mem_singleton.1 hx, infW_at ss i hi]
    exact List.mem_map.2 ⟨_, List.mem_of_getElem? nd.z, rfl⟩) (by rw [List.length_map, minI_le (by decide), show Int.toNat 80 = 80 from rfl]; omega)
  exact ⟨q, hq⟩
end
/-- What the first rules say together. -/
def wantI (I : InT) (rs : List RulT) (ss : List SideT) (x : List Nat) (i : Nat) : List (List Int) := (List.range (x.length + 1)).map fun j => emitW (rs.take i) ((endsW ss (stF (stepW I ss) (infW ss) (x.take j))).take i) (List.replicate i true) none3
theorem F8_3_ok (k : Nat) (hk : 20000000 ≤ k) (w : WorT) (N M : Nat) (hw : WG w N M) (d : QW) (hd : mkN w.2.2.2.2.1 w.2.2.2.1 N 80 = some d) (dw : DW w.2.2.2.1 N w.1.2.1 w.2.2.2.2.1 []) (x : List Nat) (hxN : ∀ a ∈ x, a < N) (hxl : x.length ≤ 100) (c13 : FwdT) : ∀ (dd m i : Nat), i + dd = w.2.2.2.2.1.length → dd < m →
    F8_3 k m (i : Int) w c13 (natL (List.replicate (x.length + 1) 0)) (wantI w.2.2.2.1 w.1.2.1 w.2.2.2.2.1 x i) (natL x) = some (.inl ((), (c13, natL (List.replicate (x.length + 1) 0), wantI w.2.2.2.1 w.1.2.1 w.2.2.2.2.1 x w.2.2.2.2.1.length, natL x, ())))
  | 0, m, i, hi, hm => by
    obtain ⟨m, rfl⟩ := pos1 (m := m) (by omega)
    simp only [F8_3]
    rw [decide_eq_false (by omega), cond_false, show i = w.2.2.2.2.1.length by omega]
  | dd + 1, m, i, hi, hm => by
    obtain ⟨m, rfl⟩ := pos1 (m := m) (by omega)
    have hn4 := hw.nrules
    have hnl := hw.nl
    have hlt : i < w.2.2.2.2.1.length := by omega
    have hltr : i < w.1.2.1.length := by omega
    obtain ⟨q, hq⟩ := one_some w.2.2.2.1 w.2.2.2.2.1 dw.hs hd i hlt
    have hri := dw.hr _ (List.getElem_mem hltr)
    have dw1 : DW w.2.2.2.1 N [w.1.2.1[i]] [w.2.2.2.2.1[i]] [[true]] := ⟨fun s hs => by rw [List.mem_singleton.1 hs]; exact dw.hs _ (List.getElem_mem hlt), fun s hs => by rw [List.mem_singleton.1 hs]; exact dw.hI _ (List.getElem_mem hlt), by simp, by
      have := sideW_len (hw.left _ (List.getElem_mem hlt))
      rw [tot_cons]
      show _ + 0 ≤ _
      omega, dw.hN, fun r hr => by rw [List.mem_singleton.1 hr]; exact hri, rfl, fun s hs => by rw [List.mem_singleton.1 hs]; rfl, by simp⟩
    have nd1 := mkN_ok dw1.hs hq
    have hwl : (wantI w.2.2.2.1 w.1.2.1 w.2.2.2.2.1 x i).length = x.length + 1 := by simp [wantI]
    have hrl : (runL (stepW w.2.2.2.1 [w.2.2.2.2.1[i]]) (emW [w.1.2.1[i]] [w.2.2.2.2.1[i]] [[true]]) (infW [w.2.2.2.2.1[i]]) x (List.replicate (x.length + 1) 0)).length = x.length + 1 := runL_len ..
    have hE : ∀ j, CstL (endsW w.2.2.2.2.1 (stF (stepW w.2.2.2.1 w.2.2.2.2.1) (infW w.2.2.2.2.1) (x.take j))) := fun j => endsW_cst dw.hs (stF_shw _ _ dw.hs _ _ (infW_shw _)).2
    have hEl : ∀ j, (endsW w.2.2.2.2.1 (stF (stepW w.2.2.2.1 w.2.2.2.2.1) (infW w.2.2.2.2.1) (x.take j))).length = w.2.2.2.2.1.length := fun j => endsW_len (stF_shw _ _ dw.hs _ _ (infW_shw _))
    have hrun : runL (stepW w.2.2.2.1 [w.2.2.2.2.1[i]]) (emW [w.1.2.1[i]] [w.2.2.2.2.1[i]] [[true]]) (infW [w.2.2.2.2.1[i]]) x (List.replicate (x.length + 1) 0) = (List.range (x.length + 1)).map fun j => rulV w.1.2.1[i] (List.getD (endsW w.2.2.2.2.1 (stF (stepW w.2.2.2.1 w.2.2.2.2.1) (infW w.2.2.2.2.1) (x.take j))) i 0) none3 := by
      unfold runL
      refine List.map_congr_left fun j hj => ?_
      have hj2 : j < x.length + 1 := List.mem_range.1 hj
      have hsh := stF_shw w.2.2.2.1 w.2.2.2.2.1 dw.hs (x.take j) _ (infW_shw _)
      have hll := shw_len hsh
      unfold runV
      rw [getD_lt (List.replicate (x.length + 1) 0) j 0 (by simpa using hj2), List.getElem_replicate, infW_at _ i hlt, stF_at _ _ dw.hs i hlt _ _ (infW_shw _)]
      show rulV w.1.2.1[i] (endC w.2.2.2.2.1[i] (List.getD (stF (stepW w.2.2.2.1 w.2.2.2.2.1) (infW w.2.2.2.2.1) (x.take j)) i [])) none3 = _
      rw [getD_lt _ i [] (by omega), getD_lt _ i 0 (by rw [hEl j]; exact hlt)]
      unfold endsW
      rw [List.getElem_zipWith]
    have hstep : List.zipWith bothV (wantI w.2.2.2.1 w.1.2.1 w.2.2.2.2.1 x i) (runL (stepW w.2.2.2.1 [w.2.2.2.2.1[i]]) (emW [w.1.2.1[i]] [w.2.2.2.2.1[i]] [[true]]) (infW [w.2.2.2.2.1[i]]) x (List.replicate (x.length + 1) 0)) = wantI w.2.2.2.1 w.1.2.1 w.2.2.2.2.1 x (i + 1) := by
      rw [hrun]
      refine List.ext_getElem (by simp [wantI]) fun j h1 h2 => ?_
      rw [List.getElem_zipWith]
      simp only [wantI, List.getElem_map, List.getElem_range]
      have hlE : i < (endsW w.2.2.2.2.1 (stF (stepW w.2.2.2.1 w.2.2.2.2.1) (infW w.2.2.2.2.1) (x.take j))).length := by rw [hEl j]; exact hlt
      rw [List.take_succ_eq_append_getElem hltr, List.take_succ_eq_append_getElem hlE, emitW_snoc _ _ _ _ i _ (by rw [List.length_take]; omega) (by rw [List.length_take]; omega), getD_lt _ i 0 hlE]
      exact (rulV_both hri (hE j _ (List.getElem_mem hlE)) (by rw [emitW_len]; rfl) (emitW_cst (fun r hr => dw.hr r (List.mem_of_mem_take hr)) (fun y hy => hE j y (List.mem_of_mem_take hy)) none3_cst)).symm
    have e2 := F8_2_ok k (by omega) (i : Int) w c13 (natL (List.replicate (x.length + 1) 0)) (natL x) (wantI w.2.2.2.1 w.1.2.1 w.2.2.2.2.1 x i) (runL (stepW w.2.2.2.1 [w.2.2.2.2.1[i]]) (emW [w.1.2.1[i]] [w.2.2.2.2.1[i]] [[true]]) (infW [w.2.2.2.2.1[i]]) x (List.replicate (x.length + 1) 0)) (by omega) (by omega) (fun y hy => by
      obtain ⟨j, _, e⟩ := List.mem_map.1 hy
      rw [← e, emitW_len]
      rfl) (fun y hy => by
      rw [hrun] at hy
      obtain ⟨j, _, e⟩ := List.mem_map.1 hy
      rw [← e, rulV_len]
      rfl) (x.length + 1) k 0 (by omega) (by omega)
    rw [show ((0 : Nat) : Int) = 0 from rfl, List.take_zero, List.nil_append, List.drop_zero, hstep] at e2
    have hwi : IntKind.wrap .i64 ((i : Int) + 1) = ((i + 1 : Nat) : Int) := wsucc i _ hlt (by omega)
    simp only [F8_3]
    rw [dlt hlt, cond_true, hwi, if_pos (by omega), if_pos (by omega), tnI (i + 1), tnI i, take1 _ i hltr, take1 _ i hlt, hw.num, show List.set (List.replicate 1 false) 0 true = [true] from rfl, F19_dw k (by omega) dw1, Option.bind_some, hq]
    simp only [outD, bne_self_eq_false, cond_false]
    rw [F26_nd k (by omega) nd1 x (List.replicate (x.length + 1) 0) hxN (by omega) (by simp) (fun a ha => by rw [List.eq_of_mem_replicate ha]; simp), Option.bind_some]
    simp only
    rw [hrl, hwl, bne_self_eq_false, cond_false, e2, Option.bind_some]
    simp only
    rw [hwi, F8_3_ok k hk w N M hw d hd dw x hxN hxl c13 dd m (i + 1) (by omega) (by omega)]
    rfl
theorem nat_rep (n : Nat) : List.replicate n (0 : Int) = natL (List.replicate n 0) := by simp [natL]
theorem det_one (a0 : List RawT) (a1 a2 a3 : List Int) (h1 : a1.length ≤ 100000000000000) (h3 : a3.length ≤ 100000000000000) : ∃ k, F8 k a0 a1 a2 a3 = some ((true, ()), ()) := by
  refine ⟨20000000, ?_⟩
  generalize hk : (20000000 : Nat) = k
  have hk' : 20000000 ≤ k := by omega
  have hk2 : 10000000 ≤ k := by omega
  unfold F8
  refine start10 k hk' a0 a1 a2 h1 _ _ _ fun w N M e15 hw e16 => ?_
  simp only
  have hnl := hw.nl
  have hn4 := hw.nrules
  have dw := wg_dw hw (sets := [List.replicate w.2.2.2.2.1.length true]) (fun s hs => by rw [List.mem_singleton.1 hs, List.length_replicate]; exact hnl) (by simp)
  have e0 := F8_0_ok k a3 w w.2.2.2.2.1.length rfl (by omega) w.2.2.2.2.1.length k 0 (Nat.zero_add _) (by omega)
  rw [show ((0 : Nat) : Int) = 0 from rfl, List.replicate_zero, List.nil_append] at e0
  rw [if_pos (by omega), tnI w.2.2.2.2.1.length, e0, Option.bind_some]
  simp only
  rw [hw.num, F19_dw k hk2 dw, Option.bind_some]
  cases hd : mkN w.2.2.2.2.1 w.2.2.2.1 N 80 with
  | none => rfl
  | some d =>
    have nd := mkN_ok dw.hs hd
    obtain ⟨t, x, e1, e2, hxl, hxN⟩ := letters_ok k hk' w N M hw a3 12 (by decide) h3
    have hw1 : IntKind.wrap .i64 (((x.length : Nat) : Int) + 1) = ((x.length + 1 : Nat) : Int) := wsucc x.length (x.length + 1) (by omega) (by omega)
    have e3 := F8_1_ok k w (d.2.1, (d.1.map (emW w.1.2.1 w.2.2.2.2.1 [List.replicate w.2.2.2.2.1.length true]), ())) (natL (List.replicate (x.length + 1) 0)) (natL x) (x.length + 1) (by omega) (x.length + 1) k 0 (Nat.zero_add _) (by omega)
    rw [show ((0 : Nat) : Int) = 0 from rfl, List.replicate_zero, List.nil_append] at e3
    have dw0 : DW w.2.2.2.1 N w.1.2.1 w.2.2.2.2.1 [] := wg_dw hw (fun s hs => by cases hs) (by simp)
    have hw0 : wantI w.2.2.2.1 w.1.2.1 w.2.2.2.2.1 x 0 = List.replicate (x.length + 1) none3 := by
      refine List.ext_getElem (by simp [wantI]) fun j h1 h2 => ?_
      simp [wantI, emitW]
    have e4 := F8_3_ok k hk' w N M hw d hd dw0 x hxN (by omega) (d.2.1, (d.1.map (emW w.1.2.1 w.2.2.2.2.1 [List.replicate w.2.2.2.2.1.length true]), ())) w.2.2.2.2.1.length k 0 (Nat.zero_add _) (by omega)
    rw [show ((0 : Nat) : Int) = 0 from rfl, hw0] at e4
    simp only [outD, bne_self_eq_false, cond_false]
    rw [show F23 k a3 (12 : Int) = _ from e1, Option.bind_some]
    simp only
    rw [e2, Option.bind_some]
    simp only
    rw [List.length_map, hw1, if_pos (by omega), if_pos (by omega), tnI (x.length + 1), nat_rep, e3, Option.bind_some]
    simp only
    rw [e4, Option.bind_some]
    simp only
    rw [F26_nd k hk2 nd x (List.replicate (x.length + 1) 0) hxN (by omega) (by simp) (fun a ha => by rw [List.eq_of_mem_replicate ha]; simp), Option.bind_some]
    simp only
    have hfin : runL (stepW w.2.2.2.1 w.2.2.2.2.1) (emW w.1.2.1 w.2.2.2.2.1 [List.replicate w.2.2.2.2.1.length true]) (infW w.2.2.2.2.1) x (List.replicate (x.length + 1) 0) = wantI w.2.2.2.1 w.1.2.1 w.2.2.2.2.1 x w.2.2.2.2.1.length := by
      unfold runL wantI
      refine List.map_congr_left fun j hj => ?_
      have hj2 : j < x.length + 1 := List.mem_range.1 hj
      unfold runV
      rw [getD_lt (List.replicate (x.length + 1) 0) j 0 (by simpa using hj2), List.getElem_replicate, List.take_of_length_le (l := w.1.2.1) (by omega), List.take_of_length_le (l := endsW _ _) (by rw [endsW_len (stF_shw _ _ dw.hs _ _ (infW_shw _))]; exact Nat.le_refl _)]
      rfl
    rw [hfin, F25_self k _ hk2 (by simp [wantI]; omega), Option.bind_some]
end Go.Proofs.YtgmmopbpldgpcaaE
namespace Go.Proofs.Ytgmmopbpldgpcaa.Pure
open Go.Proofs.YtgmmopbpldgpcaaE
theorem DetOne (a0 : List (Tree (Int × (Int × Unit)))) (a1 : List Int) (a2 : List Int) (a3 : List Int) : (a1.length * 8 ≤ 140737488351232) → (∀ x ∈ a1, IntKind.min .i64 ≤ x ∧ x ≤ IntKind.max .i64) → (a2.length * 8 ≤ 140737488351232) → (∀ x ∈ a2, IntKind.min .i64 ≤ x ∧ x ≤ IntKind.max .i64) → (a3.length * 8 ≤ 140737488351232) → (∀ x ∈ a3, IntKind.min .i64 ≤ x ∧ x ≤ IntKind.max .i64) → ∃ k, F8 k a0 a1 a2 a3 = some ((true, ()), ()) := by
  intros
  exact det_one a0 a1 a2 a3 (by omega) (by omega)
end Go.Proofs.Ytgmmopbpldgpcaa.Pure
