/- The plain law of DetSides. Conditions: none. -/
import Derived.Test.YtgmmopbpldgpcaaP1
set_option linter.unusedSimpArgs false
set_option linter.unusedVariables false
set_option maxRecDepth 20000
namespace Go.Proofs.YtgmmopbpldgpcaaE
theorem one_st (I : InT) (s : SideT) : ∀ (t : List Nat) (r : List Int), stF (stepW I [s]) [r] t = [t.foldl (fun r a => stepC I s a r) r]
  | [], r => rfl
  | a :: t, r => one_st I s t (stepC I s a r)
theorem F11_0_ok (k : Nat) (hk : 10000000 ≤ k) (w : WorT) {sets : List RgT} (t : List Int) (v : List (List Int)) {s : SideT} (hss : w.2.2.2.2.1 = [s]) (hs : SOC s) (hg : RgL sets) (hse : ∀ y ∈ s.1, y < ((sets.length : Nat) : Int)) (ht : t.length ≤ 1000000) (hF : F37 k w.1 = some ((sets, ()), ())) (t3 : Int) (e : Nat) (he : e ≤ t.length) : ∀ (d m i : Nat) (acc : Int), i + d = e + 1 → d < m → IsMin acc (fun c => ∃ j, j < i ∧ Acc s (accP sets s t) j e c) →
    ∃ V, F11_0 k m t3 (e : Int) acc (i : Int) w t v = some ((t3, (e : Int), V, ()), (w, t, v, ())) ∧ IsMin V (fun c => ∃ j, j ≤ e ∧ Acc s (accP sets s t) j e c)
  | 0, m, i, acc, hi, hm, h => by
    obtain ⟨m, rfl⟩ := pos1 (m := m) (by omega)
    refine ⟨acc, ?_, h.congr fun c => ⟨fun ⟨j, h1, h2⟩ => ⟨j, by omega, h2⟩, fun ⟨j, h1, h2⟩ => ⟨j, by omega, h2⟩⟩⟩
    simp only [F11_0]
    rw [decide_eq_false (by omega), cond_false]
  | d + 1, m, i, acc, hi, hm, h => by
    obtain ⟨m, rfl⟩ := pos1 (m := m) (by omega)
    obtain ⟨V, e1, h1⟩ := F33_ok k hk s w.1 sets t hs hg hse ht hF i e (by omega) he
    have hl : 0 ≤ (0 : Int) ∧ (0 : Int) < ((w.2.2.2.2.1.length : Nat) : Int) := by rw [hss]; simp
    obtain ⟨V', e2, h2⟩ := F11_0_ok k hk w t v hss hs hg hse ht hF t3 e he d m (i + 1) (minI acc V) (by omega) (by omega) ((h.min h1).congr fun c => by
      constructor
      · rintro (⟨j, q1, q2⟩ | q)
        · exact ⟨j, by omega, q2⟩
        · exact ⟨i, by omega, q⟩
      · rintro ⟨j, q1, q2⟩
        by_cases hj : j < i
        · exact .inl ⟨j, hj, q2⟩
        · obtain rfl : j = i := by omega
          exact .inr q2)
    refine ⟨V', ?_, h2⟩
    have hwi : IntKind.wrap .i64 ((i : Int) + 1) = ((i + 1 : Nat) : Int) := wsucc i (e + 1) (by omega) (by omega)
    simp only [F11_0]
    rw [decide_eq_true (by omega), cond_true, if_pos hl, hss]
    simp only [show Int.toNat 0 = 0 from rfl, List.getD_cons_zero]
    rw [e1, Option.bind_some]
    simp only
    rw [hwi, e2]
    rfl
theorem F11_1_ok (k : Nat) (hk : 10000000 ≤ k) (w : WorT) {sets : List RgT} (t : List Int) (v : List (List Int)) {s : SideT} (hss : w.2.2.2.2.1 = [s]) (hs : SOC s) (hg : RgL sets) (hse : ∀ y ∈ s.1, y < ((sets.length : Nat) : Int)) (ht : t.length ≤ 1000000) (hF : F37 k w.1 = some ((sets, ()), ())) (cost : Int) (hv : v.length = t.length + 1) (hvv : ∀ j, j ≤ t.length → ∃ E, List.getD v j [] = [adI (cost % 20) E, 1152921504606846976, 1152921504606846976] ∧ IsMin E (fun c => ∃ i, i ≤ j ∧ Acc s (accP sets s t) i j c)) (hcst : ∀ j, j ≤ t.length → ∀ V, IsMin V (fun c => ∃ i, i ≤ j ∧ Acc s (accP sets s t) i j c) → Cst V) : ∀ (d m i : Nat), i + d = t.length + 1 → d < m →
    F11_1 k m cost (i : Int) w t v = some (.inl ((), ()))
  | 0, m, i, hi, hm => by
    obtain ⟨m, rfl⟩ := pos1 (m := m) (by omega)
    simp only [F11_1]
    rw [decide_eq_false (by omega), cond_false]
  | d + 1, m, i, hi, hm => by
    obtain ⟨m, rfl⟩ := pos1 (m := m) (by omega)
    have hit : i ≤ t.length := by omega
    have hiv : i < v.length := by omega
    obtain ⟨V, e1, h1⟩ := F11_0_ok k hk w t v hss hs hg hse ht hF cost i hit (i + 1) k 0 1152921504606846976 (by omega) (by omega) (IsMin.inf fun c ⟨j, q, _⟩ => by omega)
    rw [show ((0 : Nat) : Int) = 0 from rfl] at e1
    obtain ⟨E, e2, h2⟩ := hvv i hit
    obtain rfl := h1.uniq h2
    have hm0 : 0 ≤ cost % 20 := Int.emod_nonneg _ (by decide)
    have hm1 : cost % 20 < 20 := Int.emod_lt_of_pos _ (by decide)
    have hwi : IntKind.wrap .i64 ((i : Int) + 1) = ((i + 1 : Nat) : Int) := wsucc i (t.length + 1) (by omega) (by omega)
    have ih := F11_1_ok k hk w t v hss hs hg hse ht hF cost hv hvv hcst d m (i + 1) (by omega) (by omega)
    simp only [F11_1]
    rw [decide_eq_true (by omega), cond_true, e1, Option.bind_some]
    simp only
    rw [if_pos (inR hiv), if_pos (by decide), tnI i, e2, F18_eq10 k _ 20 (by decide) (by decide), Option.bind_some]
    simp only
    rw [F34_ad k _ _ (hcst i hit V h1) ⟨hm0, by omega⟩, Option.bind_some]
    simp only [show Int.toNat 0 = 0 from rfl, show Int.toNat 1 = 1 from rfl, List.getD_cons_zero, List.getD_cons_succ]
    rw [adI_comm V, bne_self_eq_false, cond_false, if_pos (inR hiv), if_pos (by decide), bne_self_eq_false, cond_false, hwi, ih]
    rfl
theorem det_sides (a0 : List RawT) (a1 a2 : List Int) (a3 : Int) (h1 : a2.length ≤ 100000000000000) : ∃ k, F11 k a0 a1 a2 a3 = some ((true, ()), ()) := by
  refine ⟨20000000, ?_⟩
  generalize hk : (20000000 : Nat) = k
  have hk' : 20000000 ≤ k := by omega
  have hk2 : 10000000 ≤ k := by omega
  unfold F11
  rw [F13_known k (by omega), Option.bind_some]
  simp only [Bool.not_true, cond_false]
  obtain ⟨b, e14, hb⟩ := F14_ok k a0 (by omega)
  rw [e14, Option.bind_some]
  simp only
  cases b with
  | false => rfl
  | true =>
    simp only [Bool.not_true, cond_false]
    obtain ⟨_, hraw⟩ := hb rfl
    by_cases hl0 : a0.length = 0
    · rw [show (((a0.length : Nat) : Int) == 0) = true from beq_iff_eq.2 (by omega), cond_true]
    · have hlt : 0 < a0.length := by omega
      have hm0 : 0 ≤ a3 % 20 := Int.emod_nonneg _ (by decide)
      have hm1 : a3 % 20 < 20 := Int.emod_lt_of_pos _ (by decide)
      have hw3 : IntKind.wrap .i64 (3 * (a3 % 20)) = 3 * (a3 % 20) := w64 _ (by omega) (by omega)
      rw [show (((a0.length : Nat) : Int) == 0) = false from beq_false_of_ne (by omega), cond_false, if_pos (by omega), F18_eq10 k _ 20 (by decide) (by decide), Option.bind_some]
      simp only
      rw [two_list, one_list, hw3]
      generalize hr0 : List.getD a0 (Int.toNat 0) (Tree.mk ((0 : Int), ((0 : Int), ())) []) = r0
      have hr0' : RawH 5 r0 := by
        rw [← hr0]
        exact hraw _ (getD_mem hlt)
      have hz : RawH 5 (Tree.mk ((0 : Int), ((Tree.a (Tree.mk ((0 : Int), ((0 : Int), ())) ([] : List RawT))).2.1, ())) (Tree.l (Tree.mk ((0 : Int), ((0 : Int), ())) ([] : List RawT)))) := fun c hc => by cases hc
      rcases F15_s k [r0, Tree.mk ((0 : Int), ((Tree.a (Tree.mk ((0 : Int), ((0 : Int), ())) ([] : List RawT))).2.1, ())) (Tree.l (Tree.mk ((0 : Int), ((0 : Int), ())) ([] : List RawT)))] [3 * (a3 % 20)] a1 hk' (fun r hr => by
        rcases List.mem_cons.1 hr with q | q
        · rw [q]; exact hr0'
        · rw [List.mem_singleton.1 q]; exact hz) (by simp) with ⟨w, e15⟩ | ⟨w, N, sets, e15, hw⟩
      · rw [e15]; rfl
      · rw [e15, Option.bind_some]
        simp only [Bool.not_true, cond_false]
        rcases F16_ok k hk2 w N w.1.1.length hw.g with e16 | e16
        · rw [e16, Option.bind_some]
          simp only [Bool.not_true, cond_false]
          have hrl := hw.f.rl
          simp only [List.length_cons, List.length_nil] at hrl
          have hr1 : w.1.2.1.length = 1 := by have := hw.f.r4; omega
          have hnl := hw.g.nl
          have hs1 : w.2.2.2.2.1.length = 1 := by omega
          obtain ⟨s, hss⟩ : ∃ s, w.2.2.2.2.1 = [s] := by
            match h : w.2.2.2.2.1, hs1 with
            | [s], _ => exact ⟨s, rfl⟩
          obtain ⟨r, hrr⟩ : ∃ r, w.1.2.1 = [r] := by
            match h : w.1.2.1, hr1 with
            | [r], _ => exact ⟨r, rfl⟩
          have hnum := hw.f.num 0 (by omega)
          simp only [NumP, List.length_singleton, Nat.zero_lt_one, true_implies, List.getD_cons_zero] at hnum
          have hr0i : w.1.2.1[0]'(by omega) = r := by simp only [hrr, List.getElem_cons_zero]
          rw [hr0i] at hnum
          have hmod : 3 * (a3 % 20) % 1073741824 = 3 * (a3 % 20) := Int.emod_eq_of_lt (by omega) (by omega)
          have hdiv : Int.tdiv (3 * (a3 % 20)) 3 = a3 % 20 := by
            rw [Int.tdiv_eq_ediv_of_nonneg (by omega)]; omega
          rw [hmod, hdiv, w64 _ (by omega) (by omega), Int.tmod_eq_emod_of_nonneg (by omega), Int.tmod_eq_emod_of_nonneg (by omega)] at hnum
          have hc0 : r.1 = 0 := by omega
          have hc1 : r.2.1 = a3 % 20 := by omega
          have dw := wg_dw hw.g (sets := [[true]]) (fun s hs => by rw [List.mem_singleton.1 hs, hr1]; rfl) (by simp)
          have hss1 : List.set (List.replicate 1 false) 0 true = [true] := rfl
          rw [hss1, hw.g.num, F19_dw k hk2 dw, Option.bind_some]
          have hsW := hw.g.left s (by rw [hss]; exact List.mem_singleton.2 rfl)
          have hsoc := sideW_soc hsW
          have hse : ∀ y ∈ s.1, y < ((sets.length : Nat) : Int) := fun y hy => by
            have := hsW.io.sets y hy
            rw [← hw.il]
            exact this
          cases hd : mkN w.2.2.2.2.1 w.2.2.2.1 N 80 with
          | none => rfl
          | some d =>
            have nd := mkN_ok dw.hs hd
            obtain ⟨t, x, e1, e2, htl, hxl, hlet⟩ := letters_s k hk' hw a2 7 (by decide) h1
            have hw1 : IntKind.wrap .i64 (((t.length : Nat) : Int) + 1) = ((t.length + 1 : Nat) : Int) := wsucc t.length (t.length + 1) (by omega) (by omega)
            have hxN : ∀ a ∈ x, a < N := fun a ha => by
              obtain ⟨j, hj, e⟩ := List.mem_iff_getElem.1 ha
              have := (hlet j hj (by omega)).1
              rw [e] at this
              exact this
            simp only [outD, bne_self_eq_false, cond_false]
            rw [show F23 k a2 (7 : Int) = _ from e1, Option.bind_some]
            simp only
            rw [e2, Option.bind_some]
            simp only
            rw [hw1, if_pos (by omega), tnI (t.length + 1), show List.replicate (t.length + 1) (0 : Int) = natL (List.replicate (x.length + 1) 0) by rw [hxl]; simp [natL], F26_nd k hk2 nd x (List.replicate (x.length + 1) 0) hxN (by omega) (by simp) (fun a ha => by rw [List.eq_of_mem_replicate ha]; simp), Option.bind_some]
            simp only
            rw [runL_len, hxl, bne_self_eq_false, cond_false]
            have ho : ∀ p j (h : j < x.length), p < s.1.length → ofP w.2.2.2.1 s p x[j] = accP sets s t p j := fun p j hj hp => acc_of hse hxl hlet p j hp hj
            have e3 := F11_1_ok k hk2 w t (runL (stepW w.2.2.2.1 w.2.2.2.2.1) (emW w.1.2.1 w.2.2.2.2.1 [[true]]) (infW w.2.2.2.2.1) x (List.replicate (x.length + 1) 0)) hss hsoc hw.rg hse (by omega) hw.se a3 (by rw [runL_len, hxl]) (fun j hj => by
              have hE := out_min hsoc ho j (by omega)
              refine ⟨_, ?_, hE⟩
              have hjl : j < (runL (stepW w.2.2.2.1 w.2.2.2.2.1) (emW w.1.2.1 w.2.2.2.2.1 [[true]]) (infW w.2.2.2.2.1) x (List.replicate (x.length + 1) 0)).length := by rw [runL_len]; omega
              rw [getD_lt _ _ _ hjl]
              simp only [runL, List.getElem_map, List.getElem_range]
              unfold runV
              have hi0 : infW [s] = [List.replicate s.1.length INF1] := rfl
              rw [getD_lt (List.replicate (x.length + 1) 0) j 0 (by rw [List.length_replicate]; omega), List.getElem_replicate, hss, hrr, hi0, one_st]
              generalize hEE : endC s ((x.take j).foldl (fun r a => stepC w.2.2.2.1 s a r) (List.replicate s.1.length INF1)) = E at hE ⊢
              show rulV r (endC s ((x.take j).foldl (fun r a => stepC w.2.2.2.1 s a r) (List.replicate s.1.length INF1))) none3 = _
              rw [hEE]
              unfold rulV
              rw [hc0, hc1]
              show [minI INF1 (adI (a3 % 20) E), INF1, INF1] = _
              have : minI INF1 (adI (a3 % 20) E) = adI (a3 % 20) E := by
                have hI : INF1 = 1152921504606846976 := rfl
                rw [hI]
                unfold adI minI
                split <;> split <;> omega
              rw [this]) (fun j hj V hV => by
              refine ⟨?_, hV.le⟩
              by_cases hV2 : V < 1152921504606846976
              · obtain ⟨i, hi, hA⟩ := hV.at_ hV2
                rcases hA with ⟨_, q, _⟩ | ⟨p, dd, hp, hr, q, _⟩
                · have := hsoc.cn
                  unfold Cst at this
                  omega
                · have hE := cstL_getD hsoc.ce p
                  unfold Cst at hE
                  have hR : ∀ {k' p' : Nat} {c : Int}, Run s (accP sets s t) i k' p' c → 0 ≤ c := fun {k' p' c} r => by
                    induction r with
                    | first p hp h o =>
                      have := cstL_getD hsoc.cf p
                      unfold Cst at this
                      omega
                    | next x hx r h o ih =>
                      have := (hsoc.ca x hx).1
                      omega
                  have := hR hr
                  omega
              · omega) (t.length + 1) k 0 (by omega) (by omega)
            rw [show ((0 : Nat) : Int) = 0 from rfl, hxl] at e3
            rw [e3, Option.bind_some]
        · rw [e16]; rfl
end Go.Proofs.YtgmmopbpldgpcaaE
namespace Go.Proofs.Ytgmmopbpldgpcaa.Pure
open Go.Proofs.YtgmmopbpldgpcaaE
theorem DetSides (a0 : List (Tree (Int × (Int × Unit)))) (a1 : List Int) (a2 : List Int) (a3 : Int) : (a1.length * 8 ≤ 140737488351232) → (∀ x ∈ a1, IntKind.min .i64 ≤ x ∧ x ≤ IntKind.max .i64) → (a2.length * 8 ≤ 140737488351232) → (∀ x ∈ a2, IntKind.min .i64 ≤ x ∧ x ≤ IntKind.max .i64) → (IntKind.min .i64 ≤ a3 ∧ a3 ≤ IntKind.max .i64) → ∃ k, F11 k a0 a1 a2 a3 = some ((true, ()), ()) := by
  intros
  exact det_sides a0 a1 a2 a3 (by omega)
end Go.Proofs.Ytgmmopbpldgpcaa.Pure
