/- Plain laws. Conditions: none. -/
import Derived.Test.YtgojfdimbciaiaaG1
set_option linter.unusedSimpArgs false
set_option linter.unusedVariables false
namespace Go.Proofs.YtgojfdimbciaiaaE
theorem w64 (x : Int) (h : -9223372036854775808 ≤ x) (h2 : x ≤ 9223372036854775807) : IntKind.wrap .i64 x = x := by
  simp only [IntKind.wrap, IntKind.signed, IntKind.bits, Bool.true_and]
  split
  · rename_i hc
    have hc' := of_decide_eq_true hc
    omega
  · rename_i hc
    have hc' : ¬ _ := fun h => hc (decide_eq_true h)
    omega
theorem getD_lt {α : Type} (l : List α) (i : Nat) (d : α) (h : i < l.length) : List.getD l i d = l[i] := by
  simp [List.getD_eq_getElem?_getD, List.getElem?_eq_getElem h]
theorem inR {i n : Nat} (h : i < n) : (0 : Int) ≤ (i : Int) ∧ (i : Int) < ((n : Nat) : Int) := by omega
theorem dlt {i n : Nat} (h : i < n) : decide ((i : Int) < ((n : Nat) : Int)) = true := by simpa using h
theorem dnlt (n : Nat) : decide ((n : Int) < ((n : Nat) : Int)) = false := by simp
theorem wsucc (i n : Nat) (h : i < n) (hn : n ≤ 9223372036854775807) : IntKind.wrap .i64 ((i : Int) + 1) = ((i + 1 : Nat) : Int) := by
  rw [w64 _ (by omega) (by omega)]; omega
theorem nz {n : Nat} (h : 0 < n) : (((n : Nat) : Int) == 0) = false := beq_false_of_ne (by omega)
end Go.Proofs.YtgojfdimbciaiaaE
set_option linter.unusedSimpArgs false
set_option linter.unusedVariables false
namespace Go.Proofs.YtgojfdimbciaiaaE
theorem one_list {α : Type} (d x : α) : List.set (List.replicate 1 d) 0 x = [x] := (rfl : List.set [d] 0 x = [x]).trans rfl
theorem getD_mem {α : Type} {l : List α} {i : Nat} {d : α} (h : i < l.length) : List.getD l i d ∈ l := by
  rw [getD_lt _ _ _ h]
  exact List.getElem_mem h
theorem getD_set_same {α : Type} {l : List α} {i : Nat} {v d : α} (h : i < l.length) : List.getD (List.set l i v) i d = v := by
  rw [List.getD_eq_getElem?_getD, List.getElem?_set_self h]
  rfl
theorem getD_set_ne {α : Type} {l : List α} {i j : Nat} {v d : α} (h : i ≠ j) : List.getD (List.set l i v) j d = List.getD l j d := by
  rw [List.getD_eq_getElem?_getD, List.getD_eq_getElem?_getD, List.getElem?_set_ne h]
abbrev ArcT := Int × (Int × (Int × Unit))
abbrev SideT := List Int × (List Int × (List Int × (List ArcT × (Int × Unit))))
abbrev GrT := List (List Int) × Unit
abbrev WkT := GrT × (List Int × (List Int × Unit))
def adj (l : List ArcT) (u : Int) : List Int := (l.filter fun a => a.1 == u).map fun a => a.2.1
theorem adj_succ (l : List ArcT) (i : Nat) (h : i < l.length) (u : Int) : adj (l.take (i + 1)) u = adj (l.take i) u ++ (if l[i].1 = u then [l[i].2.1] else []) := by
  unfold adj
  rw [List.take_add_one, List.getElem?_eq_getElem h, List.filter_append, List.map_append]
  congr 1
  by_cases e : l[i].1 = u
  · rw [if_pos e]
    simp [e]
  · rw [if_neg e]
    simp [e]
def ArcsP (n : Nat) (l : List ArcT) : Prop := ∀ a ∈ l, (0 ≤ a.1 ∧ a.1 < (n : Int)) ∧ 0 ≤ a.2.1 ∧ a.2.1 < (n : Int)
theorem adj_range {n : Nat} {l : List ArcT} (h : ArcsP n l) (u : Int) : ∀ v ∈ adj l u, 0 ≤ v ∧ v < (n : Int) := fun v hv => by
  unfold adj at hv
  obtain ⟨a, ha, rfl⟩ := List.mem_map.1 hv
  exact (h a (List.mem_filter.1 ha).1).2
theorem adj_len (l : List ArcT) (u : Int) : (adj l u).length ≤ l.length := by
  unfold adj
  rw [List.length_map]
  exact List.length_filter_le _ _
def GrP (n : Nat) (l : List ArcT) (nx : List (List Int)) : Prop := nx.length = n ∧ ∀ u : Nat, u < n → List.getD nx u [] = adj l (u : Int)
theorem F32_0_ok (k n : Nat) (l : List ArcT) (z : GrT) (hl : ArcsP n l) (hs : l.length ≤ 1000000) : ∀ (d m i : Nat) (nx : List (List Int)), i + d = l.length → d < m → GrP n (l.take i) nx →
    ∃ nx', F32_0 k m l ((l.length : Nat) : Int) (i : Int) z (nx, ()) = some ((), (z, (nx', ()), ())) ∧ GrP n l nx'
  | 0, m, i, nx, hi, hm, h => by
    obtain ⟨m, rfl⟩ : ∃ m', m = m' + 1 := ⟨m - 1, by omega⟩
    obtain rfl : i = l.length := by omega
    rw [List.take_length] at h
    refine ⟨nx, ?_, h⟩
    simp only [F32_0]
    rw [dnlt, cond_false]
  | d + 1, m, i, nx, hi, hm, h => by
    obtain ⟨m, rfl⟩ : ∃ m', m = m' + 1 := ⟨m - 1, by omega⟩
    have hlt : i < l.length := by omega
    obtain ⟨h1, h2⟩ := h
    obtain ⟨p1, p2⟩ := (hl _ (List.getElem_mem hlt)).1
    obtain ⟨p, hp⟩ := Int.eq_ofNat_of_zero_le p1
    have hpn : p < n := by omega
    have hadj := h2 p hpn
    have hal := adj_len (l.take i) (p : Int)
    rw [List.length_take] at hal
    have hin : 0 ≤ l[i].1 ∧ l[i].1 < ((nx.length : Nat) : Int) := by omega
    obtain ⟨nx', e, hh⟩ := F32_0_ok k n l z hl hs d m (i + 1) (List.set nx p (List.getD nx p [] ++ [l[i].2.1])) (by omega) (by omega) ⟨by rw [List.length_set]; exact h1, fun u hu => by
      rw [adj_succ l i hlt]
      by_cases e : p = u
      · subst e
        rw [getD_set_same (by omega), hadj, if_pos hp]
      · rw [getD_set_ne e, h2 u hu, if_neg (by omega), List.append_nil]⟩
    refine ⟨nx', ?_, hh⟩
    simp only [F32_0, one_list]
    rw [dlt hlt, cond_true, if_pos (inR hlt), Int.toNat_natCast, getD_lt _ _ _ hlt, if_pos hin, hp, Int.toNat_natCast, if_pos (by rw [hadj, List.length_singleton]; omega), if_pos (by omega), if_pos (by trivial), wsucc i _ hlt (by omega), e, Option.bind_some]
theorem F32_ok (k n : Nat) (s : SideT) (hn : s.1.length = n) (hl : ArcsP n s.2.2.2.1) (hs : s.2.2.2.1.length ≤ 1000000) (hk : s.2.2.2.1.length < k) (hn2 : n ≤ 1000000) : ∃ nx, F32 k s = some (((nx, ()), ()), ()) ∧ GrP n s.2.2.2.1 nx := by
  obtain ⟨nx, e, h⟩ := F32_0_ok k n s.2.2.2.1 (([] : List (List Int)), ()) hl hs s.2.2.2.1.length k 0 (List.replicate n []) (by omega) hk ⟨by simp, fun u hu => by
    rw [getD_lt _ _ _ (by simpa using hu)]
    simp [adj]⟩
  refine ⟨nx, ?_, h⟩
  unfold F32
  rw [hn, if_pos (by omega), Int.toNat_natCast]
  simp only
  rw [show (0 : Int) = ((0 : Nat) : Int) from rfl, e, Option.bind_some]
def wk (nx : List (List Int)) (fr q : List Int) : WkT := ((nx, ()), (fr, (q, ())))
theorem F33_0_ok (k : Nat) (nx : List (List Int)) (t q : List Int) (n : Nat) (hn : n ≤ 1000000) : ∀ (d m i : Nat) (fr : List Int), i + d = n → d < m → fr.length = n → (∀ u, u < i → List.getD fr u 0 = -1) →
    F33_0 k m t (n : Int) (i : Int) (wk nx fr q) = some ((t, ()), (wk nx (List.replicate n (-1)) q, ()))
  | 0, m, i, fr, hi, hm, h1, h2 => by
    obtain ⟨m, rfl⟩ : ∃ m', m = m' + 1 := ⟨m - 1, by omega⟩
    obtain rfl : i = n := by omega
    have : fr = List.replicate i (-1) := by
      refine List.ext_getElem (by simp [h1]) fun u hu _ => ?_
      have := h2 u (by omega)
      rw [getD_lt _ _ _ hu] at this
      simp [this]
    simp only [F33_0]
    rw [decide_eq_false (by omega), cond_false, this]
  | d + 1, m, i, fr, hi, hm, h1, h2 => by
    obtain ⟨m, rfl⟩ : ∃ m', m = m' + 1 := ⟨m - 1, by omega⟩
    have ih := F33_0_ok k nx t q n hn d m (i + 1) (List.set fr i (-1)) (by omega) (by omega) (by rw [List.length_set]; exact h1) (fun u hu => by
      by_cases e : i = u
      · subst e; exact getD_set_same (by omega)
      · rw [getD_set_ne e]; exact h2 u (by omega))
    simp only [F33_0]
    rw [decide_eq_true (by omega), cond_true]
    show (if 0 ≤ (i : Int) ∧ (i : Int) < ((fr.length : Nat) : Int) then (F33_0 k m t (n : Int) (IntKind.wrap .i64 ((i : Int) + 1)) (wk nx (List.set fr i (-1)) q)).bind some else none) = _
    rw [if_pos (by omega), w64 _ (by omega) (by omega), show ((i : Int) + 1) = ((i + 1 : Nat) : Int) from by omega, ih, Option.bind_some]
theorem F33_ok (k n : Nat) (nx : List (List Int)) (r : Nat) (hn : nx.length = n) (hr : r < n) (hn2 : n ≤ 100000) (hk : 10000000 ≤ k) : F33 k (nx, ()) [(r : Int)] = some ((wk nx (List.set (List.replicate n (-1)) r (r : Int)) [(r : Int)], ()), ()) := by
  obtain ⟨k, rfl⟩ : ∃ k', k = k' + 2 := ⟨k - 2, by omega⟩
  have e := F33_0_ok (k + 2) nx [(r : Int)] [] n (by omega) n (k + 2) 0 (List.replicate n 0) (by omega) (by omega) (by simp) (fun u hu => by omega)
  have e : F33_0 (k + 2) (k + 2) [(r : Int)] (n : Int) 0 ((nx, ()), (List.replicate n 0, ([], ()))) = some (([(r : Int)], ()), (wk nx (List.replicate n (-1)) [], ())) := e
  unfold F33
  simp only [List.length_replicate]
  rw [hn, if_pos (by omega), Int.toNat_natCast, e, Option.bind_some]
  simp only
  have e1 : F33_1 (k + 2) (k + 2) [(r : Int)] ((([(r : Int)] : List Int).length : Nat) : Int) 0 ((nx, ()), (List.replicate n (-1), ([], ()))) = some ((), (wk nx (List.set (List.replicate n (-1)) r (r : Int)) [(r : Int)], ())) := by
    simp only [F33_1, one_list]
    have hin : 0 ≤ (r : Int) ∧ (r : Int) < (((List.replicate n (-1 : Int)).length : Nat) : Int) := by
      rw [List.length_replicate]
      omega
    rw [decide_eq_true (show (0 : Int) < ((([(r : Int)] : List Int).length : Nat) : Int) by simp), cond_true, if_pos (show 0 ≤ (0 : Int) ∧ (0 : Int) < ((([(r : Int)] : List Int).length : Nat) : Int) by simp)]
    rw [show List.getD [(r : Int)] (Int.toNat 0) 0 = (r : Int) from rfl, if_pos hin, if_pos (by simp)]
    rfl
  have e1 : F33_1 (k + 2) (k + 2) [(r : Int)] ((([(r : Int)] : List Int).length : Nat) : Int) 0 (wk nx (List.replicate n (-1)) []) = _ := e1
  rw [e1, Option.bind_some]
end Go.Proofs.YtgojfdimbciaiaaE
set_option linter.unusedSimpArgs false
set_option linter.unusedVariables false
namespace Go.Proofs.YtgojfdimbciaiaaE
def vis1 (a : Int) (s : List Int × List Int) (w : Int) : List Int × List Int := if List.getD s.1 (Int.toNat w) 0 < 0 then (List.set s.1 (Int.toNat w) a, s.2 ++ [w]) else s
theorem F34_0_ok (k n : Nat) (nx : List (List Int)) (g a x y : Int) (b : Bool) (l : List Int) (hl : ∀ w ∈ l, 0 ≤ w ∧ w < (n : Int)) (hs : l.length ≤ 1000000) : ∀ (d m i : Nat) (fr q : List Int), i + d = l.length → d < m → fr.length = n → q.length + d ≤ 1000000 →
    F34_0 k m g a x y b l ((l.length : Nat) : Int) (i : Int) (wk nx fr q) = some ((g, x, y, b, ()), (wk nx ((l.drop i).foldl (vis1 a) (fr, q)).1 ((l.drop i).foldl (vis1 a) (fr, q)).2, ()))
  | 0, m, i, fr, q, hi, hm, h1, h2 => by
    obtain ⟨m, rfl⟩ : ∃ m', m = m' + 1 := ⟨m - 1, by omega⟩
    obtain rfl : i = l.length := by omega
    simp only [F34_0]
    rw [dnlt, cond_false, List.drop_eq_nil_of_le (Nat.le_refl _)]
    rfl
  | d + 1, m, i, fr, q, hi, hm, h1, h2 => by
    obtain ⟨m, rfl⟩ : ∃ m', m = m' + 1 := ⟨m - 1, by omega⟩
    have hlt : i < l.length := by omega
    obtain ⟨w0, w1⟩ := hl _ (List.getElem_mem hlt)
    have hin : 0 ≤ l[i] ∧ l[i] < (((wk nx fr q).2.1.length : Nat) : Int) := by
      show 0 ≤ l[i] ∧ l[i] < ((fr.length : Nat) : Int)
      omega
    simp only [F34_0, one_list]
    rw [dlt hlt, cond_true, if_pos (inR hlt), show Int.toNat (i : Int) = i from rfl, getD_lt l _ _ hlt, if_pos hin, wsucc i _ hlt (by omega), List.drop_eq_getElem_cons hlt, List.foldl_cons]
    by_cases hv : List.getD fr (Int.toNat l[i]) 0 < 0
    · have hv1 : vis1 a (fr, q) l[i] = (List.set fr (Int.toNat l[i]) a, q ++ [l[i]]) := if_pos hv
      rw [decide_eq_true (show List.getD (wk nx fr q).2.1 (Int.toNat l[i]) 0 < 0 from hv), cond_true, if_pos hin, hv1]
      rw [if_pos (show ((wk nx fr q).2.2.1.length + [l[i]].length) * (8 * 2) ≤ 281474976710656 ∧ (wk nx fr q).2.2.1.length + [l[i]].length ≤ 9223372036854775807 from (show (q.length + [l[i]].length) * (8 * 2) ≤ 281474976710656 ∧ q.length + [l[i]].length ≤ 9223372036854775807 by rw [List.length_singleton]; omega))]
      show (F34_0 k m g a x y b l ((l.length : Nat) : Int) ((i + 1 : Nat) : Int) (wk nx (List.set fr (Int.toNat l[i]) a) (q ++ [l[i]]))).bind some = _
      rw [F34_0_ok k n nx g a x y b l hl hs d m (i + 1) _ _ (by omega) (by omega) (by rw [List.length_set]; exact h1) (by simp; omega), Option.bind_some]
    · have hv1 : vis1 a (fr, q) l[i] = (fr, q) := if_neg hv
      rw [decide_eq_false (show ¬ List.getD (wk nx fr q).2.1 (Int.toNat l[i]) 0 < 0 from hv), cond_false, hv1, F34_0_ok k n nx g a x y b l hl hs d m (i + 1) _ _ (by omega) (by omega) h1 (by omega), Option.bind_some]
structure Bf (n : Nat) (nx : List (List Int)) (r : Nat) (fr q : List Int) (ord : List Nat) : Prop where
  len : fr.length = n
  nd : ord.Nodup
  lt : ∀ v ∈ ord, v < n
  pos : 0 < ord.length
  fst : List.getD ord 0 0 = r
  root : List.getD fr r 0 = (r : Int)
  vis : ∀ v, v < n → (0 ≤ List.getD fr v 0 ↔ v ∈ ord)
  par : ∀ i, 0 < i → i < ord.length → ∃ j, j < i ∧ List.getD fr (List.getD ord i 0) 0 = ((List.getD ord j 0 : Nat) : Int) ∧ ((List.getD ord i 0 : Nat) : Int) ∈ List.getD nx (List.getD ord j 0) []
  que : ∀ x ∈ q, ∃ v : Nat, x = (v : Int) ∧ v ∈ ord
theorem nd_len : ∀ (n : Nat) (l : List Nat), l.Nodup → (∀ v ∈ l, v < n) → l.length ≤ n
  | 0, l, h, hl => by
    cases l with
    | nil => simp
    | cons a l => exact absurd (hl a (by simp)) (by omega)
  | n + 1, l, h, hl => by
    by_cases hn : n ∈ l
    · have e := List.length_erase_of_mem hn
      have := nd_len n (l.erase n) (h.erase n) (fun v hv => by
        have h1 := hl v (List.mem_of_mem_erase hv)
        have h2 := ((h.mem_erase_iff).1 hv).1
        omega)
      omega
    · have := nd_len n l h (fun v hv => by
        have h1 := hl v hv
        have h2 : v ≠ n := fun e => hn (e ▸ hv)
        omega)
      omega
theorem Bf.ord_len {n : Nat} {nx : List (List Int)} {r : Nat} {fr q : List Int} {ord : List Nat} (h : Bf n nx r fr q ord) : ord.length ≤ n := nd_len n ord h.nd h.lt
theorem vis1_ok {n : Nat} {nx : List (List Int)} {r : Nat} {fr q : List Int} {ord : List Nat} (h : Bf n nx r fr q ord) {a w : Nat} (ha : a ∈ ord) (hw : ((w : Nat) : Int) ∈ List.getD nx a []) (hn : w < n) :
    ∃ ord', Bf n nx r (vis1 (a : Int) (fr, q) (w : Int)).1 (vis1 (a : Int) (fr, q) (w : Int)).2 ord' ∧ ((ord' = ord ∧ (vis1 (a : Int) (fr, q) (w : Int)).2 = q ∧ w ∈ ord) ∨ (ord' = ord ++ [w] ∧ (vis1 (a : Int) (fr, q) (w : Int)).2 = q ++ [(w : Int)])) := by
  by_cases hv : List.getD fr w 0 < 0
  · have hv1 : vis1 (a : Int) (fr, q) (w : Int) = (List.set fr w (a : Int), q ++ [(w : Int)]) := if_pos hv
    have hno : ¬ w ∈ ord := fun e => by have := (h.vis w hn).2 e; omega
    have hwr : w ≠ r := fun e => by
      have := h.root
      rw [e] at hv
      omega
    rw [hv1]
    refine ⟨ord ++ [w], ⟨by rw [List.length_set]; exact h.len, ?_, fun v hv => ?_, by simp, ?_, ?_, fun v hvn => ?_, fun i h0 hi => ?_, fun x hx => ?_⟩, Or.inr ⟨rfl, rfl⟩⟩
    · rw [List.nodup_append]
      exact ⟨h.nd, by simp, fun x hx y hy => by rw [List.mem_singleton.1 hy]; exact fun e => hno (e ▸ hx)⟩
    · rcases List.mem_append.1 hv with hv | hv
      · exact h.lt v hv
      · rw [List.mem_singleton.1 hv]; exact hn
    · rw [List.getD_eq_getElem?_getD, List.getElem?_append_left h.pos, ← List.getD_eq_getElem?_getD]
      exact h.fst
    · rw [getD_set_ne hwr]
      exact h.root
    · by_cases e : w = v
      · subst e
        rw [getD_set_same (by rw [h.len]; exact hn)]
        exact ⟨fun _ => by simp, fun _ => by omega⟩
      · rw [getD_set_ne e, h.vis v hvn]
        constructor
        · intro hm; exact List.mem_append_left _ hm
        · intro hm
          rcases List.mem_append.1 hm with hm | hm
          · exact hm
          · exact absurd (List.mem_singleton.1 hm).symm e
    · by_cases hil : i < ord.length
      · obtain ⟨j, j1, j2, j3⟩ := h.par i h0 hil
        have ei : List.getD (ord ++ [w]) i 0 = List.getD ord i 0 := by rw [List.getD_eq_getElem?_getD, List.getElem?_append_left hil, ← List.getD_eq_getElem?_getD]
        have ej : List.getD (ord ++ [w]) j 0 = List.getD ord j 0 := by rw [List.getD_eq_getElem?_getD, List.getElem?_append_left (by omega), ← List.getD_eq_getElem?_getD]
        have hne : w ≠ List.getD ord i 0 := fun e => hno (e ▸ getD_mem hil)
        exact ⟨j, j1, by rw [ei, ej, getD_set_ne hne]; exact j2, by rw [ei, ej]; exact j3⟩
      · have hi2 : i = ord.length := by
          rw [List.length_append, List.length_singleton] at hi
          omega
        obtain ⟨j, hj, hja⟩ := List.getElem_of_mem ha
        have ei : List.getD (ord ++ [w]) i 0 = w := by
          rw [hi2, List.getD_eq_getElem?_getD, List.getElem?_append_right (Nat.le_refl _), Nat.sub_self]
          rfl
        have ej : List.getD (ord ++ [w]) j 0 = a := by rw [List.getD_eq_getElem?_getD, List.getElem?_append_left hj, List.getElem?_eq_getElem hj, hja]; rfl
        exact ⟨j, by omega, by rw [ei, ej, getD_set_same (by rw [h.len]; exact hn)], by rw [ei, ej]; exact hw⟩
    · rcases List.mem_append.1 hx with hx | hx
      · obtain ⟨v, v1, v2⟩ := h.que x hx
        exact ⟨v, v1, List.mem_append_left _ v2⟩
      · exact ⟨w, List.mem_singleton.1 hx, by simp⟩
  · have hv1 : vis1 (a : Int) (fr, q) (w : Int) = (fr, q) := if_neg hv
    rw [hv1]
    exact ⟨ord, h, Or.inl ⟨rfl, rfl, (h.vis w hn).1 (by omega)⟩⟩
theorem fold_ok {n : Nat} {nx : List (List Int)} {r a : Nat} : ∀ (l : List Int) (fr q : List Int) (ord : List Nat), Bf n nx r fr q ord → a ∈ ord → (∀ w ∈ l, w ∈ List.getD nx a [] ∧ 0 ≤ w ∧ w < (n : Int)) →
    ∃ ord', Bf n nx r (l.foldl (vis1 (a : Int)) (fr, q)).1 (l.foldl (vis1 (a : Int)) (fr, q)).2 ord' ∧ (∀ v ∈ ord, v ∈ ord') ∧ (∀ v ∈ ord', v ∈ ord ∨ ((v : Nat) : Int) ∈ (l.foldl (vis1 (a : Int)) (fr, q)).2) ∧ (∀ x ∈ q, x ∈ (l.foldl (vis1 (a : Int)) (fr, q)).2) ∧
      (∀ w ∈ l, ∃ u : Nat, w = (u : Int) ∧ u ∈ ord') ∧ (l.foldl (vis1 (a : Int)) (fr, q)).2.length + ord.length = q.length + ord'.length ∧ ord.length ≤ ord'.length
  | [], fr, q, ord, h, ha, hl => ⟨ord, h, fun v hv => hv, fun v hv => Or.inl hv, fun x hx => hx, (fun w hw => by cases hw), rfl, Nat.le_refl _⟩
  | w :: l, fr, q, ord, h, ha, hl => by
    obtain ⟨w1, w2, w3⟩ := hl w (by simp)
    obtain ⟨u, rfl⟩ := Int.eq_ofNat_of_zero_le w2
    obtain ⟨o1, b1, c1⟩ := vis1_ok h ha w1 (by omega)
    obtain ⟨fr1, q1⟩ : ∃ fr1, (vis1 (a : Int) (fr, q) (u : Int)).1 = fr1 := ⟨_, rfl⟩
    obtain ⟨q1, e2⟩ : ∃ q1, (vis1 (a : Int) (fr, q) (u : Int)).2 = q1 := ⟨_, rfl⟩
    have e3 : vis1 (a : Int) (fr, q) (u : Int) = ((vis1 (a : Int) (fr, q) (u : Int)).1, (vis1 (a : Int) (fr, q) (u : Int)).2) := rfl
    have hsub : ∀ v ∈ ord, v ∈ o1 := fun v hv => by
      rcases c1 with ⟨c, _, _⟩ | ⟨c, _⟩
      · rw [c]; exact hv
      · rw [c]; exact List.mem_append_left _ hv
    have huo : u ∈ o1 := by
      rcases c1 with ⟨c, _, c3⟩ | ⟨c, _⟩
      · rw [c]; exact c3
      · rw [c]; simp
    obtain ⟨o2, b2, d1, d2, d3, d4, d5, d6⟩ := fold_ok l _ _ o1 b1 (hsub a ha) (fun w hw => hl w (by simp [hw]))
    rw [← e3] at b2 d2 d3 d5
    rw [List.foldl_cons]
    refine ⟨o2, b2, fun v hv => d1 v (hsub v hv), fun v hv => ?_, fun x hx => ?_, fun w hw => ?_, ?_, ?_⟩
    · rcases d2 v hv with hv | hv
      · rcases c1 with ⟨c, _, _⟩ | ⟨c, c2⟩
        · rw [c] at hv; exact Or.inl hv
        · rw [c] at hv
          rcases List.mem_append.1 hv with hv | hv
          · exact Or.inl hv
          · rw [List.mem_singleton.1 hv]
            exact Or.inr (d3 _ (by rw [c2]; simp))
      · exact Or.inr hv
    · refine d3 x ?_
      rcases c1 with ⟨_, c2, _⟩ | ⟨_, c2⟩
      · rw [c2]; exact hx
      · rw [c2]; exact List.mem_append_left _ hx
    · rcases List.mem_cons.1 hw with rfl | hw
      · exact ⟨u, rfl, d1 u huo⟩
      · exact d4 w hw
    · rcases c1 with ⟨c, c2, _⟩ | ⟨c, c2⟩
      · rw [c, c2] at d5; exact d5
      · rw [c, c2] at d5
        simp only [List.length_append, List.length_singleton] at d5
        omega
    · rcases c1 with ⟨c, _⟩ | ⟨c, _⟩
      · rw [c] at d6; exact d6
      · rw [c, List.length_append] at d6; omega
end Go.Proofs.YtgojfdimbciaiaaE
set_option linter.unusedSimpArgs false
set_option linter.unusedVariables false
namespace Go.Proofs.YtgojfdimbciaiaaE
def Shut (nx : List (List Int)) (ord : List Nat) : Prop := ∀ v ∈ ord, ∀ w ∈ List.getD nx v [], ∃ u : Nat, w = (u : Int) ∧ u ∈ ord
def Cl (nx : List (List Int)) (q : List Int) (ord : List Nat) : Prop := ∀ v ∈ ord, ((v : Nat) : Int) ∈ q ∨ ∀ w ∈ List.getD nx v [], ∃ u : Nat, w = (u : Int) ∧ u ∈ ord
def NxP (n : Nat) (nx : List (List Int)) : Prop := nx.length = n ∧ ∀ u : Nat, u < n → (List.getD nx u []).length ≤ 20000 ∧ ∀ w ∈ List.getD nx u [], 0 ≤ w ∧ w < (n : Int)
theorem F34_1_ok (k n : Nat) (nx : List (List Int)) (r goal : Nat) (hnx : NxP n nx) (hg : goal < n) (hn : n ≤ 20000) (hk : 10000000 ≤ k) : ∀ (M m : Nat) (fr q : List Int) (ord : List Nat), Bf n nx r fr q ord → Cl nx q ord → 2 * (n - ord.length) + q.length ≤ M → M < m → M ≤ 100000 →
    ∃ fr' q' ord', F34_1 k m (goal : Int) (wk nx fr q) = some (((goal : Int), ()), (wk nx fr' q', ())) ∧ Bf n nx r fr' q' ord' ∧ (goal ∈ ord' ∨ Shut nx ord')
  | M, m, fr, [], ord, hb, hc, hM, hm, hM2 => by
    obtain ⟨m, rfl⟩ : ∃ m', m = m' + 1 := ⟨m - 1, by omega⟩
    refine ⟨fr, [], ord, ?_, hb, Or.inr fun v hv => ?_⟩
    · simp only [F34_1]
      rfl
    · rcases hc v hv with h | h
      · cases h
      · exact h
  | 0, m, fr, x :: q, ord, hb, hc, hM, hm, hM2 => by
    rw [List.length_cons] at hM
    omega
  | M + 1, m, fr, x :: q, ord, hb, hc, hM, hm, hM2 => by
    obtain ⟨m, rfl⟩ : ∃ m', m = m' + 1 := ⟨m - 1, by omega⟩
    have hlen := hb.len
    rw [List.length_cons] at hM
    have hin : 0 ≤ (goal : Int) ∧ (goal : Int) < (((wk nx fr (x :: q)).2.1.length : Nat) : Int) := by
      show 0 ≤ (goal : Int) ∧ (goal : Int) < ((fr.length : Nat) : Int)
      omega
    have hq0 : decide ((((wk nx fr (x :: q)).2.2.1.length : Nat) : Int) > 0) = true := by
      show decide ((((x :: q).length : Nat) : Int) > 0) = true
      simp
    by_cases hv : List.getD fr goal 0 < 0
    · obtain ⟨a, rfl, ha⟩ := hb.que x (by simp)
      have han := hb.lt a ha
      obtain ⟨n1, n2⟩ := hnx.2 a han
      have hb0 : Bf n nx r fr q ord := ⟨hb.len, hb.nd, hb.lt, hb.pos, hb.fst, hb.root, hb.vis, hb.par, fun y hy => hb.que y (by simp [hy])⟩
      obtain ⟨o1, b1, d1, d2, d3, d4, d5, d6⟩ := fold_ok (List.getD nx a []) fr q ord hb0 ha (fun w hw => ⟨hw, n2 w hw⟩)
      have e0 := F34_0_ok k n nx (goal : Int) (a : Int) (goal : Int) (List.getD fr goal 0) true (List.getD nx a []) n2 (by omega) (List.getD nx a []).length k 0 fr q (by omega) (by omega) hlen (by omega)
      rw [List.drop_zero] at e0
      have hol := b1.ord_len
      obtain ⟨fr', q', ord', e, hh⟩ := F34_1_ok k n nx r goal hnx hg hn hk M m _ _ o1 b1 (fun v hv => by
        rcases d2 v hv with h | h
        · rcases hc v h with h1 | h1
          · rcases List.mem_cons.1 h1 with h2 | h2
            · right
              have : v = a := by omega
              subst this
              exact d4
            · left; exact d3 _ h2
          · right
            intro w hw
            obtain ⟨u, u1, u2⟩ := h1 w hw
            exact ⟨u, u1, d1 u u2⟩
        · left; exact h) (by omega) (by omega) (by omega)
      refine ⟨fr', q', ord', ?_, hh⟩
      simp only [F34_1]
      rw [hq0, cond_true, if_pos hin]
      rw [decide_eq_true (show List.getD (wk nx fr ((a : Int) :: q)).2.1 (Int.toNat (goal : Int)) 0 < 0 from hv), cond_true]
      rw [if_pos (show (0 : Int) ≤ 0 ∧ (0 : Int) < (((wk nx fr ((a : Int) :: q)).2.2.1.length : Nat) : Int) from (show (0 : Int) ≤ 0 ∧ (0 : Int) < ((((a : Int) :: q).length : Nat) : Int) by simp))]
      rw [if_pos (show (0 : Int) ≤ 1 ∧ (1 : Int) ≤ (((wk nx fr ((a : Int) :: q)).2.2.1.length : Nat) : Int) ∧ (((wk nx fr ((a : Int) :: q)).2.2.1.length : Nat) : Int) ≤ (((wk nx fr ((a : Int) :: q)).2.2.1.length : Nat) : Int) from (show (0 : Int) ≤ 1 ∧ (1 : Int) ≤ ((((a : Int) :: q).length : Nat) : Int) ∧ ((((a : Int) :: q).length : Nat) : Int) ≤ ((((a : Int) :: q).length : Nat) : Int) by rw [List.length_cons]; omega))]
      have hw : List.take (Int.toNat (((wk nx fr ((a : Int) :: q)).2.2.1.length : Nat) : Int) - Int.toNat 1) (List.drop (Int.toNat 1) (wk nx fr ((a : Int) :: q)).2.2.1) = q := by
        show List.take (((a : Int) :: q).length - 1) (List.drop 1 ((a : Int) :: q)) = q
        simp
      rw [hw]
      rw [if_pos (show 0 ≤ List.getD (wk nx fr ((a : Int) :: q)).2.2.1 (Int.toNat 0) 0 ∧ List.getD (wk nx fr ((a : Int) :: q)).2.2.1 (Int.toNat 0) 0 < (((wk nx fr ((a : Int) :: q)).1.1.length : Nat) : Int) from (show 0 ≤ (a : Int) ∧ (a : Int) < ((nx.length : Nat) : Int) by have := hnx.1; omega))]
      show ((F34_0 k k (goal : Int) (a : Int) (goal : Int) (List.getD fr goal 0) true (List.getD nx a []) (((List.getD nx a []).length : Nat) : Int) ((0 : Nat) : Int) (wk nx fr q)).bind fun r11 => (F34_1 k m r11.1.1 r11.2.1).bind some) = _
      rw [e0, Option.bind_some]
      simp only
      rw [e, Option.bind_some]
    · refine ⟨fr, x :: q, ord, ?_, hb, Or.inl ((hb.vis goal hg).1 (by omega))⟩
      simp only [F34_1]
      rw [hq0, cond_true, if_pos hin]
      rw [decide_eq_false (show ¬ List.getD (wk nx fr (x :: q)).2.1 (Int.toNat (goal : Int)) 0 < 0 from hv), cond_false]
end Go.Proofs.YtgojfdimbciaiaaE
set_option linter.unusedSimpArgs false
set_option linter.unusedVariables false
namespace Go.Proofs.YtgojfdimbciaiaaE
theorem ext_getD {α : Type} {l m : List α} (d : α) (h : l.length = m.length) (e : ∀ i, i < l.length → List.getD l i d = List.getD m i d) : l = m := by
  refine List.ext_getElem h fun i h1 h2 => ?_
  have := e i h1
  rwa [getD_lt _ _ _ h1, getD_lt _ _ _ h2] at this
theorem getD_reverse (l : List Int) (j : Nat) (h : j < l.length) : List.getD l.reverse j 0 = List.getD l (l.length - 1 - j) 0 := by
  rw [getD_lt _ _ _ (by simpa using h), getD_lt _ _ _ (by omega), List.getElem_reverse]
def TurnP (l c : List Int) (i : Nat) : Prop := c.length = l.length ∧ ∀ j, j < l.length → List.getD c j 0 = if j < i ∨ l.length ≤ j + i then List.getD l (l.length - 1 - j) 0 else List.getD l j 0
theorem F52_0_ok (k : Nat) (l : List Int) (hl : l.length ≤ 1000000) (h0 : 0 < l.length) : ∀ (m i : Nat) (c : List Int), TurnP l c i → 2 * i ≤ l.length → l.length < m + 2 * i →
    F52_0 k m (i : Int) (((l.length : Nat) : Int) - 1 - (i : Int)) c = some ((), (l.reverse, ()))
  | 0, i, c, h, h1, h2 => by omega
  | m + 1, i, c, h, h1, h2 => by
    obtain ⟨hc, he⟩ := h
    simp only [F52_0]
    by_cases hlt : i + 1 + i < l.length
    · have hw1 : IntKind.wrap .i64 ((i : Int) + 1) = ((i + 1 : Nat) : Int) := by rw [w64 _ (by omega) (by omega)]; omega
      have hw2 : IntKind.wrap .i64 (((l.length : Nat) : Int) - 1 - (i : Int) - 1) = ((l.length : Nat) : Int) - 1 - ((i + 1 : Nat) : Int) := by rw [w64 _ (by omega) (by omega)]; omega
      have ht : Int.toNat (((l.length : Nat) : Int) - 1 - (i : Int)) = l.length - 1 - i := by omega
      rw [decide_eq_true (show (i : Int) < ((l.length : Nat) : Int) - 1 - (i : Int) by omega), cond_true, if_pos (by omega), if_pos (by omega), if_pos (by omega), if_pos (by rw [List.length_set]; omega), hw1, hw2, ht]
      rw [show Int.toNat (i : Int) = i from rfl]
      rw [F52_0_ok k l hl h0 m (i + 1) _ ⟨by simp only [List.length_set]; exact hc, fun j hj => ?_⟩ (by omega) (by omega), Option.bind_some]
      have e1 := he i (by omega)
      have e2 := he (l.length - 1 - i) (by omega)
      rw [if_neg (by omega)] at e1 e2
      by_cases j1 : l.length - 1 - i = j
      · subst j1
        rw [getD_set_same (by rw [List.length_set]; omega), e1, if_pos (by omega)]
        congr 1
        omega
      · rw [getD_set_ne j1]
        by_cases j2 : i = j
        · subst j2
          rw [getD_set_same (by omega), e2, if_pos (by omega)]
        · rw [getD_set_ne j2, he j hj]
          by_cases j3 : j < i ∨ l.length ≤ j + i
          · rw [if_pos j3, if_pos (by omega)]
          · rw [if_neg j3, if_neg (by omega)]
    · rw [decide_eq_false (by omega), cond_false]
      have : c = l.reverse := ext_getD 0 (by rw [List.length_reverse]; exact hc) fun j hj => by
        rw [getD_reverse l j (by omega), he j (by omega)]
        by_cases j3 : j < i ∨ l.length ≤ j + i
        · rw [if_pos j3]
        · rw [if_neg j3]
          congr 1
          omega
      rw [this]
theorem F52_ok (k : Nat) (l : List Int) (hl : l.length ≤ 100000) (h0 : 0 < l.length) (hk : 10000000 ≤ k) : F52 k l = some ((), (l.reverse, ())) := by
  have e := F52_0_ok k l (by omega) h0 k 0 l ⟨rfl, fun j hj => by rw [if_neg (by omega)]⟩ (by omega) (by omega)
  rw [show ((0 : Nat) : Int) = 0 from rfl, Int.sub_zero] at e
  unfold F52
  simp only
  rw [w64 _ (by omega) (by omega), e, Option.bind_some]
theorem F35_eq (k : Nat) (l : List Int) (h : l.length ≤ 1000000) : F35 k l = some ((l, ()), ()) := by
  unfold F35
  cases l with
  | nil => rfl
  | cons a l =>
    rw [show ((((a :: l).length : Nat) : Int) == 0) = false from nz (by simp), cond_false, if_pos (by simp only [List.replicate_zero, List.length_nil]; omega)]
    rfl
def Dn (nx : List (List Int)) (ord : List Nat) : List Nat → Prop
  | [] => False
  | [j] => j = 0
  | j :: i :: l => i < j ∧ ((List.getD ord j 0 : Nat) : Int) ∈ List.getD nx (List.getD ord i 0) [] ∧ Dn nx ord (i :: l)
def ordI (ord : List Nat) (j : Nat) : Int := ((List.getD ord j 0 : Nat) : Int)
theorem nd_inj {l : List Nat} (h : l.Nodup) {i j : Nat} (hi : i < l.length) (hj : j < l.length) (e : List.getD l i 0 = List.getD l j 0) : i = j := by
  rw [getD_lt _ _ _ hi, getD_lt _ _ _ hj] at e
  have hp := List.pairwise_iff_getElem.1 h
  by_cases h1 : i < j
  · exact absurd e (hp i j hi hj h1)
  by_cases h2 : j < i
  · exact absurd e.symm (hp j i hj hi h2)
  omega
theorem F34_2_ok (k n : Nat) (nx : List (List Int)) (r : Nat) (fr q : List Int) (ord : List Nat) (hb : Bf n nx r fr q ord) (hn : n ≤ 20000) : ∀ (B i : Nat), i ≤ B → i < ord.length → ∃ js : List Nat, Dn nx ord (i :: js) ∧ (∀ j ∈ i :: js, j ≤ i) ∧ js.length ≤ i ∧
    ∀ (m : Nat) (acc : List Int), i < m → acc.length + i ≤ 100000 → F34_2 k m (ordI ord i) (wk nx fr q) acc = some ((), (wk nx fr q, acc ++ js.map (ordI ord), ()))
  | B, 0, hB, hi => by
    refine ⟨[], rfl, fun j hj => by rw [List.mem_singleton.1 hj]; exact Nat.le_refl _, Nat.le_refl _, fun m acc hm ha => ?_⟩
    obtain ⟨m, rfl⟩ : ∃ m', m = m' + 1 := ⟨m - 1, by omega⟩
    have hf := hb.fst
    have hr := hb.root
    have hlt := hb.lt r (by rw [← hf]; exact getD_mem hi)
    have hlen := hb.len
    have hin : 0 ≤ ordI ord 0 ∧ ordI ord 0 < (((wk nx fr q).2.1.length : Nat) : Int) := by
      show 0 ≤ ((List.getD ord 0 0 : Nat) : Int) ∧ ((List.getD ord 0 0 : Nat) : Int) < ((fr.length : Nat) : Int)
      omega
    have he : (List.getD (wk nx fr q).2.1 (Int.toNat (ordI ord 0)) 0 != ordI ord 0) = false := by
      show (List.getD fr (List.getD ord 0 0) 0 != ((List.getD ord 0 0 : Nat) : Int)) = false
      rw [hf, hr]
      exact bne_self_eq_false _
    simp only [F34_2]
    rw [if_pos hin, he, cond_false, List.map_nil, List.append_nil]
  | 0, i + 1, hB, hi => by omega
  | B + 1, i + 1, hB, hi => by
    obtain ⟨j, j1, j2, j3⟩ := hb.par (i + 1) (by omega) hi
    obtain ⟨js, d1, d2, d3, d4⟩ := F34_2_ok k n nx r fr q ord hb hn B j (by omega) (by omega)
    refine ⟨j :: js, ⟨j1, j3, d1⟩, fun x hx => ?_, ?_, fun m acc hm ha => ?_⟩
    · rcases List.mem_cons.1 hx with rfl | hx
      · exact Nat.le_refl _
      · have := d2 x hx; omega
    · rw [List.length_cons]; omega
    · obtain ⟨m, rfl⟩ : ∃ m', m = m' + 1 := ⟨m - 1, by omega⟩
      have hlt := hb.lt _ (getD_mem (d := 0) hi)
      have hlen := hb.len
      have hin : 0 ≤ ordI ord (i + 1) ∧ ordI ord (i + 1) < (((wk nx fr q).2.1.length : Nat) : Int) := by
        show 0 ≤ ((List.getD ord (i + 1) 0 : Nat) : Int) ∧ ((List.getD ord (i + 1) 0 : Nat) : Int) < ((fr.length : Nat) : Int)
        omega
      have hg : List.getD (wk nx fr q).2.1 (Int.toNat (ordI ord (i + 1))) 0 = ordI ord j := j2
      have hne : (ordI ord j != ordI ord (i + 1)) = true := by
        rw [bne_iff_ne]
        intro e
        have := nd_inj hb.nd (show j < ord.length by omega) hi (by unfold ordI at e; omega)
        omega
      simp only [F34_2, hg, one_list]
      rw [if_pos hin, hne, cond_true, if_pos hin, if_pos (by rw [List.length_singleton]; omega), if_pos hin, d4 m (acc ++ [ordI ord j]) (by omega) (by rw [List.length_append, List.length_singleton]; omega), Option.bind_some, List.append_assoc]
      rfl
end Go.Proofs.YtgojfdimbciaiaaE
set_option linter.unusedSimpArgs false
set_option linter.unusedVariables false
namespace Go.Proofs.YtgojfdimbciaiaaE
theorem dn_get (nx : List (List Int)) (ord : List Nat) : ∀ (L : List Nat), Dn nx ord L → 0 < L.length ∧ List.getD L (L.length - 1) 0 = 0 ∧ ∀ k, k + 1 < L.length → List.getD L (k + 1) 0 < List.getD L k 0 ∧ ordI ord (List.getD L k 0) ∈ List.getD nx (List.getD ord (List.getD L (k + 1) 0) 0) []
  | [], h => h.elim
  | [j], h => ⟨by simp, h, fun k hk => by simp at hk⟩
  | j :: i :: l, h => by
    obtain ⟨h1, h2, h3⟩ := h
    obtain ⟨g1, g2, g3⟩ := dn_get nx ord (i :: l) h3
    refine ⟨by simp, ?_, fun k hk => ?_⟩
    · rw [show (j :: i :: l).length - 1 = (i :: l).length - 1 + 1 from by simp]
      exact g2
    · cases k with
      | zero => exact ⟨h1, h2⟩
      | succ k => exact g3 k (by simpa using hk)
theorem dn_mono (nx : List (List Int)) (ord : List Nat) (L : List Nat) (h : Dn nx ord L) : ∀ (d a : Nat), a + d + 1 < L.length → List.getD L (a + d + 1) 0 < List.getD L a 0
  | 0, a, hd => ((dn_get nx ord L h).2.2 a hd).1
  | d + 1, a, hd => by
    have h1 := dn_mono nx ord L h d a (by omega)
    have h2 := ((dn_get nx ord L h).2.2 (a + d + 1) (by omega)).1
    rw [show a + (d + 1) + 1 = a + d + 1 + 1 from by omega]
    omega
def WayP (n : Nat) (nx : List (List Int)) (r goal : Nat) (l : List Int) : Prop :=
  0 < l.length ∧ List.getD l 0 0 = (r : Int) ∧ List.getD l (l.length - 1) 0 = (goal : Int) ∧ (∀ i, i + 1 < l.length → List.getD l (i + 1) 0 ∈ List.getD nx (Int.toNat (List.getD l i 0)) []) ∧ (∀ i j, i < j → j < l.length → List.getD l i 0 ≠ List.getD l j 0) ∧ (∀ i, i < l.length → 0 ≤ List.getD l i 0 ∧ List.getD l i 0 < (n : Int)) ∧ l.length ≤ n
theorem way_of {n : Nat} {nx : List (List Int)} {r goal : Nat} {fr q : List Int} {ord : List Nat} (hb : Bf n nx r fr q ord) (L : List Nat) (hL : Dn nx ord L) (hg : ordI ord (List.getD L 0 0) = (goal : Int)) (hlt : ∀ j ∈ L, j < ord.length) : WayP n nx r goal (L.map (ordI ord)).reverse := by
  obtain ⟨g1, g2, g3⟩ := dn_get nx ord L hL
  have hlen : (L.map (ordI ord)).reverse.length = L.length := by simp
  have get : ∀ k, k < L.length → List.getD (L.map (ordI ord)).reverse k 0 = ordI ord (List.getD L (L.length - 1 - k) 0) := fun k hk => by
    rw [getD_reverse _ k (by simpa using hk), List.length_map, getD_lt _ _ _ (by rw [List.length_map]; omega), List.getElem_map, getD_lt L _ _ (by omega)]
  have rng : ∀ k, k < L.length → List.getD L k 0 < ord.length := fun k hk => hlt _ (getD_mem hk)
  have ol := hb.ord_len
  have inj : ∀ a b, a < b → b < L.length → List.getD L b 0 < List.getD L a 0 := fun a b hab hbl => by
    have := dn_mono nx ord L hL (b - a - 1) a (by omega)
    rwa [show a + (b - a - 1) + 1 = b from by omega] at this
  have dom : L.length ≤ ord.length := by
    have h0 : ∀ k, k < L.length → L.length - 1 - k ≤ List.getD L k 0 := by
      intro k
      induction hm : L.length - 1 - k generalizing k with
      | zero => intro _; omega
      | succ d ih =>
        intro hk
        have h1 := ih (k + 1) (by omega) (by omega)
        have h2 := (g3 k (by omega)).1
        omega
    have h1 := h0 0 g1
    have h2 := rng 0 g1
    omega
  refine ⟨by rw [hlen]; exact g1, ?_, ?_, fun i hi => ?_, fun i j hij hj => ?_, fun i hi => ?_, by rw [hlen]; omega⟩
  · rw [get 0 g1, Nat.sub_zero, g2]
    unfold ordI
    rw [hb.fst]
  · rw [hlen, get (L.length - 1) (by omega), show L.length - 1 - (L.length - 1) = 0 from by omega]
    exact hg
  · rw [hlen] at hi
    rw [get (i + 1) hi, get i (by omega)]
    have := (g3 (L.length - 1 - (i + 1)) (by omega)).2
    rw [show L.length - 1 - (i + 1) + 1 = L.length - 1 - i from by omega] at this
    exact this
  · rw [hlen] at hj
    rw [get i (by omega), get j hj]
    intro e
    have h1 := inj (L.length - 1 - j) (L.length - 1 - i) (by omega) (by omega)
    have := nd_inj hb.nd (rng (L.length - 1 - i) (by omega)) (rng (L.length - 1 - j) (by omega)) (by unfold ordI at e; omega)
    omega
  · rw [hlen] at hi
    rw [get i hi]
    have := hb.lt _ (getD_mem (d := 0) (rng (L.length - 1 - i) (by omega)))
    unfold ordI
    omega
theorem bf_begin (n : Nat) (nx : List (List Int)) (r : Nat) (hr : r < n) : Bf n nx r (List.set (List.replicate n (-1)) r (r : Int)) [(r : Int)] [r] := by
  refine ⟨by simp, by simp, fun v hv => by rw [List.mem_singleton.1 hv]; exact hr, by simp, rfl, getD_set_same (by simpa using hr), fun v hv => ?_, fun i h0 hi => by simp at hi; omega, fun x hx => ⟨r, List.mem_singleton.1 hx, by simp⟩⟩
  by_cases e : r = v
  · subst e
    rw [getD_set_same (by simpa using hr)]
    simp
  · rw [getD_set_ne e, getD_lt _ _ _ (by simpa using hv), List.getElem_replicate]
    constructor
    · intro h; omega
    · intro h; exact absurd (List.mem_singleton.1 h).symm e
theorem walk_ok (k n : Nat) (nx : List (List Int)) (r goal : Nat) (hnx : NxP n nx) (hr : r < n) (hg : goal < n) (hn : n ≤ 20000) (hk : 10000000 ≤ k) :
    ∃ (w w' : WkT) (l : List Int), F33 k (nx, ()) [(r : Int)] = some ((w, ()), ()) ∧ F34 k w (goal : Int) = some ((l, ()), (w', ())) ∧ ((l = [] ∧ ∃ ord : List Nat, r ∈ ord ∧ ¬ goal ∈ ord ∧ Shut nx ord) ∨ WayP n nx r goal l) := by
  have e1 := F33_ok k n nx r hnx.1 hr (by omega) hk
  obtain ⟨fr, q, ord, e2, hb, ho⟩ := F34_1_ok k n nx r goal hnx hg hn hk (2 * n + 1) k _ _ [r] (bf_begin n nx r hr) (fun v hv => Or.inl (by rw [List.mem_singleton.1 hv]; simp)) (by simp; omega) (by omega) (by omega)
  have hlen := hb.len
  have hr0 : r ∈ ord := by
    have := getD_mem (d := 0) hb.pos
    rwa [hb.fst] at this
  have hin : 0 ≤ (goal : Int) ∧ (goal : Int) < (((wk nx fr q).2.1.length : Nat) : Int) := by
    show 0 ≤ (goal : Int) ∧ (goal : Int) < ((fr.length : Nat) : Int)
    omega
  by_cases hm : goal ∈ ord
  · obtain ⟨i, hi, hgi⟩ := List.getElem_of_mem hm
    obtain ⟨js, d1, d2, d3, d4⟩ := F34_2_ok k n nx r fr q ord hb hn i i (Nat.le_refl _) hi
    have ol := hb.ord_len
    have hoi : ordI ord i = (goal : Int) := by
      unfold ordI
      rw [getD_lt _ _ _ hi, hgi]
    have hw := way_of hb (i :: js) d1 hoi (fun j hj => by have := d2 j hj; omega)
    refine ⟨_, wk nx fr q, ((i :: js).map (ordI ord)).reverse, e1, ?_, Or.inr hw⟩
    have hnn : ¬ List.getD fr goal 0 < 0 := by have := (hb.vis goal hg).2 hm; omega
    have e3 := d4 k [(goal : Int)] (by omega) (by simp; omega)
    rw [hoi] at e3
    unfold F34
    rw [e2, Option.bind_some]
    simp only [one_list]
    rw [if_pos hin, decide_eq_false (show ¬ List.getD (wk nx fr q).2.1 (Int.toNat (goal : Int)) 0 < 0 from hnn), cond_false, e3, Option.bind_some]
    simp only
    rw [show [(goal : Int)] ++ js.map (ordI ord) = (i :: js).map (ordI ord) from by rw [List.map_cons, hoi]; rfl, F52_ok k _ (by simp; omega) (by simp) hk, Option.bind_some]
    simp only
    rw [if_pos (by simp)]
  · have hs := ho.resolve_left hm
    refine ⟨_, wk nx fr q, [], e1, ?_, Or.inl ⟨rfl, ord, hr0, hm, hs⟩⟩
    have hnn : List.getD fr goal 0 < 0 := by
      by_cases h : List.getD fr goal 0 < 0
      · exact h
      · exact absurd ((hb.vis goal hg).1 (by omega)) hm
    unfold F34
    rw [e2, Option.bind_some]
    simp only
    rw [if_pos hin, decide_eq_true (show List.getD (wk nx fr q).2.1 (Int.toNat (goal : Int)) 0 < 0 from hnn), cond_true]
end Go.Proofs.YtgojfdimbciaiaaE
set_option linter.unusedSimpArgs false
set_option linter.unusedVariables false
namespace Go.Proofs.YtgojfdimbciaiaaE
def Ed (l : List ArcT) (u v : Nat) : Prop := ∃ a ∈ l, a.1 = (u : Int) ∧ a.2.1 = (v : Int)
def Rch (l : List ArcT) (u v : Nat) : Prop := ∀ S : Nat → Prop, S u → (∀ x y, S x → Ed l x y → S y) → S v
theorem Rch.refl (l : List ArcT) (u : Nat) : Rch l u u := fun S h _ => h
theorem Rch.trans {l : List ArcT} {u v w : Nat} (h : Rch l u v) (h' : Rch l v w) : Rch l u w := fun S hu hs => h' S (h S hu hs) hs
theorem Rch.ed {l : List ArcT} {u v : Nat} (h : Ed l u v) : Rch l u v := fun S hu hs => hs u v hu h
end Go.Proofs.YtgojfdimbciaiaaE
set_option linter.unusedSimpArgs false
set_option linter.unusedVariables false
namespace Go.Proofs.YtgojfdimbciaiaaE
def PosP (s : SideT) : Prop := ∃ a ∈ s.2.2.2.1, a.2.2.1 > 0 ∧ Rch s.2.2.2.1 (Int.toNat a.2.1) (Int.toNat a.1)
end Go.Proofs.YtgojfdimbciaiaaE
set_option linter.unusedSimpArgs false
set_option linter.unusedVariables false
namespace Go.Proofs.YtgojfdimbciaiaaE
theorem mem_adj {l : List ArcT} {u v : Nat} : ((v : Nat) : Int) ∈ adj l (u : Int) ↔ Ed l u v := by
  unfold adj Ed
  constructor
  · intro h
    obtain ⟨a, ha, e⟩ := List.mem_map.1 h
    obtain ⟨h1, h2⟩ := List.mem_filter.1 ha
    exact ⟨a, h1, by simpa using h2, e⟩
  · rintro ⟨a, ha, h1, h2⟩
    exact List.mem_map.2 ⟨a, List.mem_filter.2 ⟨ha, by simpa using h1⟩, h2⟩
theorem gr_nx {n : Nat} {l : List ArcT} {nx : List (List Int)} (h : GrP n l nx) (hl : ArcsP n l) (hs : l.length ≤ 20000) : NxP n nx := ⟨h.1, fun u hu => by
  rw [h.2 u hu]
  exact ⟨Nat.le_trans (adj_len l u) hs, adj_range hl u⟩⟩
theorem shut_no {n : Nat} {l : List ArcT} {nx : List (List Int)} (h : GrP n l nx) (hl : ArcsP n l) {ord : List Nat} (hs : Shut nx ord) {u v : Nat} (hu : u ∈ ord) (hv : ¬ v ∈ ord) : ¬ Rch l u v := fun hr =>
  hv (hr (fun w => w ∈ ord) hu fun x y hx he => by
    have hxn : x < n := by
      obtain ⟨a, ha, a1, _⟩ := he
      have := (hl a ha).1
      omega
    obtain ⟨w, w1, w2⟩ := hs x hx y (by rw [h.2 x hxn]; exact mem_adj.2 he)
    have : y = w := by omega
    rw [this]
    exact w2)
theorem way_rch {n : Nat} {l : List ArcT} {nx : List (List Int)} (h : GrP n l nx) {r goal : Nat} {p : List Int} (hp : WayP n nx r goal p) : Rch l r goal := by
  obtain ⟨h1, h2, h3, h4, h5, h6, h7⟩ := hp
  have go : ∀ i, i < p.length → Rch l r (Int.toNat (List.getD p i 0)) := by
    intro i
    induction i with
    | zero =>
      intro _
      rw [h2]
      exact Rch.refl l r
    | succ i ih =>
      intro hi
      have g := h6 i (by omega)
      have g2 := h6 (i + 1) hi
      have e := h4 i hi
      rw [h.2 _ (show Int.toNat (List.getD p i 0) < n by omega)] at e
      refine (ih (by omega)).trans (Rch.ed (mem_adj.1 ?_))
      rw [Int.toNat_of_nonneg g2.1]
      exact e
  have := go (p.length - 1) (by omega)
  rw [h3] at this
  exact this
def RoundP (n : Nat) (s : SideT) (p : List Int) : Prop := ∃ a ∈ s.2.2.2.1, ∃ nx, a.2.2.1 > 0 ∧ GrP n s.2.2.2.1 nx ∧ WayP n nx (Int.toNat a.2.1) (Int.toNat a.1) p
theorem F14_0_ok (k n : Nat) (s : SideT) (nx : List (List Int)) (hl : ArcsP n s.2.2.2.1) (hs : s.2.2.2.1.length ≤ 20000) (hn : n ≤ 20000) (hg : GrP n s.2.2.2.1 nx) (hk : 10000000 ≤ k) : ∀ (d m i : Nat), i + d = s.2.2.2.1.length → d < m →
    (∃ p, F14_0 k m s.2.2.2.1 ((s.2.2.2.1.length : Nat) : Int) (i : Int) (nx, ()) = some (.inr ((true, ()), (p, ()))) ∧ PosP s ∧ RoundP n s p) ∨ (F14_0 k m s.2.2.2.1 ((s.2.2.2.1.length : Nat) : Int) (i : Int) (nx, ()) = some (.inl ((), ())) ∧ ∀ a ∈ s.2.2.2.1.drop i, a.2.2.1 > 0 → ¬ Rch s.2.2.2.1 (Int.toNat a.2.1) (Int.toNat a.1))
  | 0, m, i, hi, hm => by
    obtain ⟨m, rfl⟩ : ∃ m', m = m' + 1 := ⟨m - 1, by omega⟩
    obtain rfl : i = s.2.2.2.1.length := by omega
    right
    refine ⟨?_, fun a ha => by rw [List.drop_eq_nil_of_le (Nat.le_refl _)] at ha; cases ha⟩
    simp only [F14_0]
    rw [dnlt, cond_false]
  | d + 1, m, i, hi, hm => by
    obtain ⟨m, rfl⟩ : ∃ m', m = m' + 1 := ⟨m - 1, by omega⟩
    have hlt : i < s.2.2.2.1.length := by omega
    obtain ⟨⟨p1, p2⟩, p3, p4⟩ := hl _ (List.getElem_mem hlt)
    obtain ⟨u, hu⟩ := Int.eq_ofNat_of_zero_le p1
    obtain ⟨v, hv⟩ := Int.eq_ofNat_of_zero_le p3
    have hun : u < n := by omega
    have hvn : v < n := by omega
    have ih := F14_0_ok k n s nx hl hs hn hg hk d m (i + 1) (by omega) (by omega)
    have hdrop := List.drop_eq_getElem_cons hlt
    have skip : (a : ¬ (s.2.2.2.1[i].2.2.1 > 0 ∧ Rch s.2.2.2.1 (Int.toNat s.2.2.2.1[i].2.1) (Int.toNat s.2.2.2.1[i].1))) →
        (∃ p, F14_0 k m s.2.2.2.1 ((s.2.2.2.1.length : Nat) : Int) ((i + 1 : Nat) : Int) (nx, ()) = some (.inr ((true, ()), (p, ()))) ∧ PosP s ∧ RoundP n s p) ∨ (F14_0 k m s.2.2.2.1 ((s.2.2.2.1.length : Nat) : Int) ((i + 1 : Nat) : Int) (nx, ()) = some (.inl ((), ())) ∧ ∀ a ∈ s.2.2.2.1.drop i, a.2.2.1 > 0 → ¬ Rch s.2.2.2.1 (Int.toNat a.2.1) (Int.toNat a.1)) := fun hno => by
      rcases ih with h | ⟨h, h2⟩
      · exact Or.inl h
      · refine Or.inr ⟨h, fun a ha => ?_⟩
        rw [hdrop] at ha
        rcases List.mem_cons.1 ha with rfl | ha
        · exact fun x y => hno ⟨x, y⟩
        · exact h2 a ha
    simp only [F14_0, one_list]
    rw [dlt hlt, cond_true, if_pos (inR hlt), show Int.toNat (i : Int) = i from rfl, getD_lt _ _ _ hlt, wsucc i _ hlt (by omega)]
    by_cases hp : s.2.2.2.1[i].2.2.1 ≤ 0
    · rw [decide_eq_true hp, cond_true, Option.bind_fun_some]
      exact skip (fun x => by omega)
    · rw [decide_eq_false hp, cond_false, hu, hv]
      obtain ⟨w, w', p, e1, e2, e3⟩ := walk_ok k n nx v u (gr_nx hg hl hs) hvn hun hn hk
      rw [e1, Option.bind_some]
      simp only
      rw [e2, Option.bind_some]
      simp only
      rcases e3 with ⟨rfl, ord, o1, o2, o3⟩ | e3
      · rw [show (!(List.isEmpty ([] : List Int))) = false from rfl, cond_false, Option.bind_fun_some]
        exact skip (fun x => by
          have := x.2
          rw [hu, hv] at this
          exact shut_no hg hl o3 o1 o2 this)
      · have hpl := e3.1
        have hp7 := e3.2.2.2.2.2.2
        have hne : (!(List.isEmpty p)) = true := by
          cases p with
          | nil => exact absurd hpl (by simp)
          | cons a p => rfl
        left
        refine ⟨p, ?_, ⟨s.2.2.2.1[i], List.getElem_mem hlt, by omega, by rw [hu, hv]; exact way_rch hg e3⟩, ⟨s.2.2.2.1[i], List.getElem_mem hlt, nx, by omega, hg, by rw [hu, hv]; exact e3⟩⟩
        rw [hne, cond_true, if_pos (by omega), F35_eq k p (by omega), Option.bind_some]
theorem F14_ok (k n : Nat) (s : SideT) (hn : s.1.length = n) (hl : ArcsP n s.2.2.2.1) (hs : s.2.2.2.1.length ≤ 20000) (hn2 : n ≤ 20000) (hk : 10000000 ≤ k) :
    (∃ p, F14 k s = some ((p, true, ()), ()) ∧ PosP s ∧ RoundP n s p) ∨ (F14 k s = some (([], false, ()), ()) ∧ ¬ PosP s) := by
  obtain ⟨nx, e, hg⟩ := F32_ok k n s hn hl (by omega) (by omega) (by omega)
  have h := F14_0_ok k n s nx hl hs hn2 hg hk s.2.2.2.1.length k 0 (by omega) (by omega)
  rw [show ((0 : Nat) : Int) = 0 from rfl, List.drop_zero] at h
  unfold F14
  rw [e, Option.bind_some]
  simp only
  rcases h with ⟨p, h1, h2, h3⟩ | ⟨h1, h2⟩
  · left
    refine ⟨p, ?_, h2, h3⟩
    rw [h1, Option.bind_some]
  · right
    refine ⟨?_, fun ⟨a, ha, x, y⟩ => h2 a ha x y⟩
    rw [h1, Option.bind_some]
end Go.Proofs.YtgojfdimbciaiaaE
set_option linter.unusedSimpArgs false
set_option linter.unusedVariables false
namespace Go.Proofs.YtgojfdimbciaiaaE
theorem F11_eq (k : Nat) : F11 (k + 200) = some ((true, ()), ()) := by kernel_rfl
theorem start2 : ∃ k, 20000000 ≤ k ∧ F11 k = some ((true, ()), ()) := ⟨20000000 + 200, by omega, F11_eq 20000000⟩
theorem F18_eq (k : Nat) (a n : Int) (h0 : 0 < n) (h1 : n ≤ 4611686018427387904) : F42 k a n = some ((a % n, ()), ()) := by
  have hm : Int.tmod a n = a - n * Int.tdiv a n := by have := Int.tmod_add_mul_tdiv a n; omega
  have hlt : Int.tmod a n < n := Int.tmod_lt_of_pos a h0
  have hgt : -n < Int.tmod a n := Int.lt_tmod_of_pos a h0
  unfold F42
  rw [if_pos (by omega)]
  by_cases h : Int.tmod a n < 0
  · rw [decide_eq_true h, cond_true, w64 _ (by omega) (by omega)]
    have : a % n = Int.tmod a n + n := by
      have e : Int.tmod a n + n = (Int.tmod a n + n) % n := (Int.emod_eq_of_lt (by omega) (by omega)).symm
      rw [e, Int.add_emod_right, hm, Int.sub_mul_emod_self_left]
    rw [this]
  · rw [decide_eq_false h, cond_false]
    have : a % n = Int.tmod a n := by
      have e : Int.tmod a n = (Int.tmod a n) % n := (Int.emod_eq_of_lt (by omega) (by omega)).symm
      rw [e, hm, Int.sub_mul_emod_self_left]
    rw [this]
def cst (l : List ArcT) (u v : Int) : Option Int := (l.find? fun a => a.1 == u && a.2.1 == v).map fun a => a.2.2.1
end Go.Proofs.YtgojfdimbciaiaaE
set_option linter.unusedSimpArgs false
set_option linter.unusedVariables false
namespace Go.Proofs.YtgojfdimbciaiaaE
def cw (l : List ArcT) (p : List Int) (i : Nat) : Int := (cst l (List.getD p i 0) (List.getD p ((i + 1) % p.length) 0)).getD 0
def UniqP (l : List ArcT) : Prop := ∀ a ∈ l, ∀ b ∈ l, a.1 = b.1 → a.2.1 = b.2.1 → a = b
def WgtP (l : List ArcT) : Prop := ∀ a ∈ l, 0 ≤ a.2.2.1 ∧ a.2.2.1 ≤ 20000
end Go.Proofs.YtgojfdimbciaiaaE
set_option linter.unusedSimpArgs false
set_option linter.unusedVariables false
set_option maxRecDepth 20000
namespace Go.Proofs.YtgojfdimbciaiaaE
def adI (a b : Int) : Int := minI (a + b) 1152921504606846976
def Cst (a : Int) : Prop := 0 ≤ a ∧ a ≤ 1152921504606846976
theorem F37_ad (k : Nat) (a b : Int) (ha : Cst a) (hb : Cst b) : F37 k a b = some ((adI a b, ()), ()) := by
  unfold Cst at *
  unfold F37 adI
  simp only
  rw [w64 _ (by omega) (by omega)]
def Lt (b a : ArcT) : Prop := b.1 < a.1 ∨ b.1 = a.1 ∧ b.2.1 < a.2.1
instance (b a : ArcT) : Decidable (Lt b a) := inferInstanceAs (Decidable (_ ∨ _))
def Srt (l : List ArcT) : Prop := l.Pairwise Lt
def cntA (a : ArcT) : List ArcT → Nat
  | [] => 0
  | b :: l => if Lt b a then cntA a l + 1 else 0
theorem cntA_le (a : ArcT) : ∀ l : List ArcT, cntA a l ≤ l.length
  | [] => Nat.le_refl _
  | b :: l => by
    unfold cntA
    split
    · have := cntA_le a l
      simp only [List.length_cons]
      omega
    · exact Nat.zero_le _
def insA (a : ArcT) : List ArcT → List ArcT
  | [] => [a]
  | b :: l => if Lt b a then b :: insA a l else if b.1 = a.1 ∧ b.2.1 = a.2.1 then (b.1, (b.2.1, (minI b.2.2.1 a.2.2.1, ()))) :: l else a :: b :: l
theorem insA_eq (a : ArcT) : ∀ l : List ArcT, insA a l = (if cntA a l < l.length ∧ (List.getD l (cntA a l) (0, (0, (0, ())))).1 = a.1 ∧ (List.getD l (cntA a l) (0, (0, (0, ())))).2.1 = a.2.1 then
      List.set l (cntA a l) ((List.getD l (cntA a l) (0, (0, (0, ())))).1, ((List.getD l (cntA a l) (0, (0, (0, ())))).2.1, (minI (List.getD l (cntA a l) (0, (0, (0, ())))).2.2.1 a.2.2.1, ()))) else l.take (cntA a l) ++ [a] ++ l.drop (cntA a l))
  | [] => rfl
  | b :: l => by
    unfold insA cntA
    by_cases hb : Lt b a
    · rw [if_pos hb, if_pos hb, insA_eq a l]
      simp only [List.length_cons, Nat.add_lt_add_iff_right, List.getD_cons_succ, List.set_cons_succ, List.take_succ_cons, List.drop_succ_cons, List.cons_append]
      split <;> rfl
    · rw [if_neg hb, if_neg hb]
      simp only [List.length_cons, List.getD_cons_zero, Nat.zero_lt_succ, true_and, List.set_cons_zero, List.take_zero, List.drop_zero, List.nil_append]
      split
      · rfl
      · rfl
theorem insA_len (a : ArcT) : ∀ l : List ArcT, (insA a l).length ≤ l.length + 1 ∧ l.length ≤ (insA a l).length
  | [] => ⟨Nat.le_refl _, Nat.zero_le _⟩
  | b :: l => by
    unfold insA
    have := insA_len a l
    split
    · simp only [List.length_cons]; omega
    · split <;> (simp only [List.length_cons]; omega)
theorem F65_0_ok (k : Nat) (l : List ArcT) (a : ArcT) (hl : l.length ≤ 1000000) : ∀ (d m i : Nat), i + d = l.length → d < m → F65_0 k m (i : Int) l a = some ((((i + cntA a (l.drop i) : Nat) : Int), ()), (l, (a, ())))
  | 0, m, i, hi, hm => by
    obtain ⟨m, rfl⟩ : ∃ m', m = m' + 1 := ⟨m - 1, by omega⟩
    obtain rfl : i = l.length := by omega
    simp only [F65_0]
    rw [dnlt, cond_false, List.drop_length]
    rfl
  | d + 1, m, i, hi, hm => by
    obtain ⟨m, rfl⟩ : ∃ m', m = m' + 1 := ⟨m - 1, by omega⟩
    have hlt : i < l.length := by omega
    have ih := F65_0_ok k l a hl d m (i + 1) (by omega) (by omega)
    have hg : List.getD l i (0, (0, (0, ()))) = l[i] := getD_lt l i _ hlt
    rw [List.drop_eq_getElem_cons hlt]
    simp only [F65_0]
    rw [dlt hlt, cond_true, if_pos (inR hlt), show Int.toNat (i : Int) = i from rfl, hg, wsucc i _ hlt (by omega), if_pos (inR hlt), if_pos (inR hlt), ih]
    have e : i + 1 + cntA a (List.drop (i + 1) l) = i + (cntA a (List.drop (i + 1) l) + 1) := by omega
    by_cases h1 : l[i].1 < a.1
    · rw [decide_eq_true h1, cond_true, cntA, if_pos (.inl h1), e]
      rfl
    · rw [decide_eq_false h1, cond_false]
      by_cases h2 : l[i].1 = a.1
      · rw [show (l[i].1 == a.1) = true from beq_iff_eq.2 h2, cond_true]
        by_cases h3 : l[i].2.1 < a.2.1
        · rw [decide_eq_true h3, cond_true, cntA, if_pos (.inr ⟨h2, h3⟩), e]
          rfl
        · rw [decide_eq_false h3, cond_false, cntA, if_neg (by rintro (q | q); exact h1 q; exact h3 q.2)]
          rfl
      · rw [beq_false_of_ne h2, cond_false, cntA, if_neg (by rintro (q | q); exact h1 q; exact h2 q.1)]
        rfl
theorem F65_ok (k : Nat) (l : List ArcT) (a : ArcT) (hl : l.length ≤ 1000000) (hk : 10000000 ≤ k) : F65 k l a = some (((if a.2.2.1 ≥ 1152921504606846976 then l else insA a l), ()), ()) := by
  unfold F65
  simp only [List.replicate_zero, List.nil_append, List.length_nil]
  by_cases hw : a.2.2.1 ≥ 1152921504606846976
  · rw [decide_eq_true hw, cond_true, if_pos hw]
  · have e := F65_0_ok k l a hl l.length k 0 (by omega) (by omega)
    rw [show ((0 : Nat) : Int) = 0 from rfl, List.drop_zero, Nat.zero_add] at e
    have hc := cntA_le a l
    rw [decide_eq_false hw, cond_false, if_neg hw, e, Option.bind_some, insA_eq]
    simp only
    generalize hp : cntA a l = p at *
    rw [show Int.toNat (p : Int) = p from rfl, show Int.toNat ((l.length : Nat) : Int) = l.length from rfl, show Int.toNat 0 = 0 from rfl, Nat.sub_zero, List.drop_zero]
    have ht : (l.drop p).take (l.length - p) = l.drop p := List.take_of_length_le (by rw [List.length_drop]; omega)
    have hone : List.set (List.replicate 1 ((0 : Int), ((0 : Int), ((0 : Int), ())))) 0 a = [a] := one_list _ _
    have hlen : (l.take p).length = p := by rw [List.length_take]; omega
    have h0 : (0 + l.length) * (24 * 2) ≤ 281474976710656 ∧ 0 + l.length ≤ 9223372036854775807 := by omega
    have h1 : (0 + (l.take p).length) * (24 * 2) ≤ 281474976710656 ∧ 0 + (l.take p).length ≤ 9223372036854775807 := by omega
    have h2 : ((l.take p).length + [a].length) * (24 * 2) ≤ 281474976710656 ∧ (l.take p).length + [a].length ≤ 9223372036854775807 := by rw [List.length_singleton]; omega
    have h3 : ((l.take p ++ [a]).length + (l.drop p).length) * (24 * 2) ≤ 281474976710656 ∧ (l.take p ++ [a]).length + (l.drop p).length ≤ 9223372036854775807 := by rw [List.length_append, List.length_singleton, List.length_drop]; omega
    by_cases hlt : p < l.length
    · have w1 : (0 : Int) ≤ 0 ∧ (0 : Int) ≤ (p : Int) ∧ (p : Int) ≤ ((l.length : Nat) : Int) := by omega
      have w2 : (0 : Int) ≤ (p : Int) ∧ (p : Int) ≤ ((l.length : Nat) : Int) ∧ ((l.length : Nat) : Int) ≤ ((l.length : Nat) : Int) := by omega
      have hi := inR hlt
      simp only [dlt hlt, cond_true, if_pos hi]
      by_cases g1 : (List.getD l p ((0 : Int), ((0 : Int), ((0 : Int), ())))).1 = a.1
      · rw [show ((List.getD l p ((0 : Int), ((0 : Int), ((0 : Int), ())))).1 == a.1) = true from beq_iff_eq.2 g1, cond_true]
        by_cases g2 : (List.getD l p ((0 : Int), ((0 : Int), ((0 : Int), ())))).2.1 = a.2.1
        · rw [show ((List.getD l p ((0 : Int), ((0 : Int), ((0 : Int), ())))).2.1 == a.2.1) = true from beq_iff_eq.2 g2, cond_true, if_pos h0, if_pos (⟨hlt, g1, g2⟩ : _ ∧ _ ∧ _)]
        · rw [beq_false_of_ne g2, cond_false, if_pos w1, if_pos w2, ht, hone, if_pos h1, if_pos h2, if_pos h3, if_neg (show ¬ (p < l.length ∧ (List.getD l p ((0 : Int), ((0 : Int), ((0 : Int), ())))).1 = a.1 ∧ (List.getD l p ((0 : Int), ((0 : Int), ((0 : Int), ())))).2.1 = a.2.1) from fun q => g2 q.2.2)]
      · rw [beq_false_of_ne g1, cond_false, if_pos w1, if_pos w2, ht, hone, if_pos h1, if_pos h2, if_pos h3, if_neg (show ¬ (p < l.length ∧ (List.getD l p ((0 : Int), ((0 : Int), ((0 : Int), ())))).1 = a.1 ∧ (List.getD l p ((0 : Int), ((0 : Int), ((0 : Int), ())))).2.1 = a.2.1) from fun q => g1 q.2.1)]
    · have hpe : p = l.length := by omega
      rw [decide_eq_false (by omega), cond_false, if_pos (by omega), if_pos (by omega), ht, hone, if_pos h1, if_pos h2, if_pos h3, if_neg (show ¬ (p < l.length ∧ (List.getD l p ((0 : Int), ((0 : Int), ((0 : Int), ())))).1 = a.1 ∧ (List.getD l p ((0 : Int), ((0 : Int), ((0 : Int), ())))).2.1 = a.2.1) from fun q => hlt q.1)]
end Go.Proofs.YtgojfdimbciaiaaE
set_option linter.unusedSimpArgs false
set_option linter.unusedVariables false
set_option maxRecDepth 20000
namespace Go.Proofs.YtgojfdimbciaiaaE
theorem lt_key {a b c d : ArcT} (h1 : a.1 = c.1) (h2 : a.2.1 = c.2.1) (h3 : b.1 = d.1) (h4 : b.2.1 = d.2.1) (h : Lt a b) : Lt c d := by
  unfold Lt at *
  omega
theorem lt_trans {a b c : ArcT} (h : Lt a b) (h' : Lt b c) : Lt a c := by
  unfold Lt at *
  omega
theorem insA_mem (a : ArcT) : ∀ (l : List ArcT) (x : ArcT), x ∈ insA a l → x ∈ l ∨ x.1 = a.1 ∧ x.2.1 = a.2.1 ∧ (x.2.2.1 = a.2.2.1 ∨ ∃ y ∈ l, x.2.2.1 = minI y.2.2.1 a.2.2.1)
  | [], x, h => by
    rw [insA, List.mem_singleton] at h
    subst h
    exact .inr ⟨rfl, rfl, .inl rfl⟩
  | b :: l, x, h => by
    unfold insA at h
    split at h
    · rcases List.mem_cons.1 h with e | e
      · subst e; exact .inl List.mem_cons_self
      · rcases insA_mem a l x e with q | ⟨q1, q2, q3⟩
        · exact .inl (List.mem_cons_of_mem _ q)
        · refine .inr ⟨q1, q2, q3.imp id fun ⟨y, hy, e⟩ => ⟨y, List.mem_cons_of_mem _ hy, e⟩⟩
    · split at h
      · rename_i hk
        rcases List.mem_cons.1 h with e | e
        · subst e; exact .inr ⟨hk.1, hk.2, .inr ⟨b, List.mem_cons_self, rfl⟩⟩
        · exact .inl (List.mem_cons_of_mem _ e)
      · rcases List.mem_cons.1 h with e | e
        · subst e; exact .inr ⟨rfl, rfl, .inl rfl⟩
        · exact .inl e
theorem insA_srt (a : ArcT) : ∀ l : List ArcT, Srt l → Srt (insA a l)
  | [], _ => List.pairwise_singleton _ _
  | b :: l, hs => by
    obtain ⟨h1, h2⟩ := List.pairwise_cons.1 hs
    unfold insA
    split
    · rename_i hb
      refine List.pairwise_cons.2 ⟨fun x hx => ?_, insA_srt a l h2⟩
      rcases insA_mem a l x hx with q | ⟨q1, q2, _⟩
      · exact h1 x q
      · exact lt_key rfl rfl q1.symm q2.symm hb
    · rename_i hb
      split
      · rename_i hk
        exact List.pairwise_cons.2 ⟨fun x hx => lt_key rfl rfl rfl rfl (h1 x hx), h2⟩
      · rename_i hk
        have hab : Lt a b := by
          unfold Lt at hb ⊢
          omega
        refine List.pairwise_cons.2 ⟨fun x hx => ?_, hs⟩
        rcases List.mem_cons.1 hx with e | e
        · subst e; exact hab
        · exact lt_trans hab (h1 x e)
def ArcG (n : Nat) (B : Int) (l : List ArcT) : Prop := ∀ x ∈ l, (0 ≤ x.1 ∧ x.1 < (n : Int)) ∧ (0 ≤ x.2.1 ∧ x.2.1 < (n : Int)) ∧ 0 ≤ x.2.2.1 ∧ x.2.2.1 ≤ B
theorem insA_arcs {n : Nat} {B : Int} {a : ArcT} {l : List ArcT} (h : ArcG n B l) (ha : ArcG n B [a]) : ArcG n B (insA a l) := fun x hx => by
  have h2 := ha a List.mem_cons_self
  rcases insA_mem a l x hx with q | ⟨q1, q2, q3⟩
  · exact h x q
  · rw [q1, q2]
    refine ⟨h2.1, h2.2.1, ?_⟩
    rcases q3 with q | ⟨y, hy, q⟩
    · rw [q]; exact h2.2.2
    · have := h y hy
      rw [q]
      unfold minI
      split <;> omega
theorem srt_len {n : Nat} {B : Int} {l : List ArcT} (hs : Srt l) (h : ArcG n B l) : l.length ≤ n * n := by
  have key : ∀ (l : List ArcT) (c : Nat), Srt l → ArcG n B l → (∀ x ∈ l, (c : Int) ≤ x.1 * n + x.2.1) → c + l.length ≤ n * n ∨ l = [] := by
    intro l
    induction l with
    | nil => intro c _ _ _; exact .inr rfl
    | cons a l ih =>
      intro c hs h hc
      obtain ⟨h1, h2⟩ := List.pairwise_cons.1 hs
      have ga := h a List.mem_cons_self
      have ha := hc a List.mem_cons_self
      left
      have lt1 : a.1 * (n : Int) + a.2.1 < (n : Int) * n := by
        have : (a.1 + 1) * (n : Int) ≤ n * n := Int.mul_le_mul_of_nonneg_right (by omega) (by omega)
        rw [Int.add_mul, Int.one_mul] at this
        omega
      have up : ∀ x ∈ l, a.1 * (n : Int) + a.2.1 + 1 ≤ x.1 * n + x.2.1 := fun x hx => by
        have gx := h x (List.mem_cons_of_mem _ hx)
        have := h1 x hx
        unfold Lt at this
        rcases this with q | ⟨q1, q2⟩
        · have : (a.1 + 1) * (n : Int) ≤ x.1 * n := Int.mul_le_mul_of_nonneg_right (by omega) (by omega)
          rw [Int.add_mul, Int.one_mul] at this
          omega
        · rw [q1]; omega
      have hn : ((c + 1 : Nat) : Int) ≤ (n : Int) * n := by omega
      rcases ih (c + 1) h2 (fun x hx => h x (List.mem_cons_of_mem _ hx)) (fun x hx => by have := up x hx; omega) with q | q
      · simp only [List.length_cons]; omega
      · subst q
        simp only [List.length_cons, List.length_nil]
        have : ((n * n : Nat) : Int) = (n : Int) * n := by simp
        omega
  rcases key l 0 hs h (fun x hx => by have := h x hx; have : 0 ≤ x.1 * (n : Int) := Int.mul_nonneg (by omega) (by omega); omega) with q | q
  · omega
  · subst q; exact Nat.zero_le _
end Go.Proofs.YtgojfdimbciaiaaE
set_option linter.unusedSimpArgs false
set_option linter.unusedVariables false
set_option maxRecDepth 20000
namespace Go.Proofs.YtgojfdimbciaiaaE
abbrev sd (a b c : List Int) (d : List ArcT) (e : Int) : SideT := (a, (b, (c, (d, (e, ())))))
theorem set_pre {α : Type} (A rest : List α) (i : Nat) (d : α) (h1 : i < A.length) (h2 : i < rest.length) : List.set (A.take i ++ rest.drop i) i (List.getD A i d) = A.take (i + 1) ++ rest.drop (i + 1) := by
  rw [List.drop_eq_getElem_cons h2, List.set_append_right i _ (by rw [List.length_take]; omega), show i - (A.take i).length = 0 by rw [List.length_take]; omega, List.set_cons_zero, getD_lt A i d h1, List.take_succ_eq_append_getElem h1, List.append_assoc]
  rfl
theorem set_off {α : Type} (P A rest : List α) (n i : Nat) (d : α) (hP : P.length = n) (h1 : i < A.length) (h2 : i < rest.length) : List.set (P ++ (A.take i ++ rest.drop i)) (n + i) (List.getD A i d) = P ++ (A.take (i + 1) ++ rest.drop (i + 1)) := by
  rw [List.set_append_right (n + i) _ (by omega), show n + i - P.length = i by omega, set_pre A rest i d h1 h2]
theorem len_pre {α : Type} (A rest : List α) (i : Nat) (h1 : i ≤ A.length) (h2 : i ≤ rest.length) : (A.take i ++ rest.drop i).length = rest.length := by
  rw [List.length_append, List.length_take, List.length_drop]
  omega
theorem rep_drop {α : Type} (a : α) (n m : Nat) : (List.replicate (n + m) a).drop n = List.replicate m a := by
  rw [List.drop_replicate]
  congr 1
  omega
theorem take_all {α : Type} (A : List α) (n : Nat) (h : A.length = n) : A.take n = A := by rw [← h]; exact List.take_length
theorem wadd (i j : Nat) (h : i + j ≤ 1000000000) : IntKind.wrap .i64 ((i : Int) + (j : Int)) = ((i + j : Nat) : Int) := by
  rw [w64 _ (by omega) (by omega)]
  omega
theorem F54_0_ok (k n : Nat) (c2 : SideT) (l : List ArcT) (w : Int) (hn : n ≤ 100000) : ∀ (d m i : Nat), i + d = n → d < m →
    F54_0 k m (n : Int) (i : Int) c2 (sd (List.replicate i 0) (List.replicate i 1152921504606846976) (List.replicate i 1152921504606846976) l w) = some ((), (c2, (sd (List.replicate n 0) (List.replicate n 1152921504606846976) (List.replicate n 1152921504606846976) l w, ())))
  | 0, m, i, hi, hm => by
    obtain ⟨m, rfl⟩ : ∃ m', m = m' + 1 := ⟨m - 1, by omega⟩
    obtain rfl : i = n := by omega
    simp only [F54_0]
    rw [dnlt, cond_false]
  | d + 1, m, i, hi, hm => by
    obtain ⟨m, rfl⟩ : ∃ m', m = m' + 1 := ⟨m - 1, by omega⟩
    have hlt : i < n := by omega
    have ih := F54_0_ok k n c2 l w hn d m (i + 1) (by omega) (by omega)
    have hc : ∀ x y : Int, ((List.replicate i x).length + [y].length) * (8 * 2) ≤ 281474976710656 ∧ (List.replicate i x).length + [y].length ≤ 9223372036854775807 := fun x y => by
      rw [List.length_replicate, List.length_singleton]; omega
    simp only [F54_0, one_list]
    rw [dlt hlt, cond_true, if_pos (hc _ _), if_pos (hc _ _), if_pos (hc _ _), wsucc i n hlt (by omega)]
    rw [← List.replicate_succ', ← List.replicate_succ']
    rw [ih]
    rfl
theorem F54_ok (k n : Nat) (hn : n ≤ 100000) (hk : 10000000 ≤ k) : F54 k (n : Int) = some ((sd (List.replicate n 0) (List.replicate n 1152921504606846976) (List.replicate n 1152921504606846976) [] 1152921504606846976, ()), ()) := by
  have h := F54_0_ok k n (sd [] [] [] [] 0) [] 1152921504606846976 hn n k 0 (by omega) (by omega)
  unfold F54
  have h' : F54_0 k k (n : Int) 0 ([], ([], ([], ([], (0, ()))))) ([], ([], ([], ([], ((1152921504606846976 : Int), ()))))) = _ := h
  rw [h', Option.bind_some]
theorem F53_ok (k : Nat) (hk : 10000000 ≤ k) : F53 k = some ((sd [] [] [] [] 0, ()), ()) := by
  have h := F54_ok k 0 (by omega) hk
  unfold F53
  rw [show (0 : Int) = ((0 : Nat) : Int) from rfl, h, Option.bind_some]
  rfl
def shA (n : Nat) (x : ArcT) : ArcT := (x.1 + n, (x.2.1 + n, (x.2.2.1, ())))
theorem F64_0_ok (k : Nat) (a b c4 : SideT) (rest : List Int) (f e : List Int) (l : List ArcT) (w : Int) (ha : a.1.length ≤ 100000) (hr : a.1.length ≤ rest.length) : ∀ (d m i : Nat), i + d = a.1.length → d < m →
    F64_0 k m ((a.1.length : Nat) : Int) (i : Int) a b c4 (sd (a.1.take i ++ rest.drop i) f e l w) = some ((((a.1.length : Nat) : Int), ()), (a, (b, (c4, (sd (a.1 ++ rest.drop a.1.length) f e l w, ())))))
  | 0, m, i, hi, hm => by
    obtain ⟨m, rfl⟩ : ∃ m', m = m' + 1 := ⟨m - 1, by omega⟩
    obtain rfl : i = a.1.length := by omega
    simp only [F64_0]
    rw [dnlt, cond_false, List.take_length]
  | d + 1, m, i, hi, hm => by
    obtain ⟨m, rfl⟩ : ∃ m', m = m' + 1 := ⟨m - 1, by omega⟩
    have hlt : i < a.1.length := by omega
    have ih := F64_0_ok k a b c4 rest f e l w ha hr d m (i + 1) (by omega) (by omega)
    simp only [F64_0]
    rw [dlt hlt, cond_true, if_pos (inR hlt), len_pre a.1 rest i (by omega) (by omega), if_pos (inR (show i < rest.length by omega)), show Int.toNat (i : Int) = i from rfl, set_pre a.1 rest i 0 hlt (by omega), wsucc i _ hlt (by omega), ih]
    rfl
theorem F64_1_ok (k : Nat) (a b c4 : SideT) (n : Nat) (P rest : List Int) (f e : List Int) (l : List ArcT) (w : Int) (hn : n ≤ 100000) (hP : P.length = n) (hb : b.1.length ≤ 100000) (hr : b.1.length ≤ rest.length) : ∀ (d m i : Nat), i + d = b.1.length → d < m →
    F64_1 k m (n : Int) (i : Int) a b c4 (sd (P ++ (b.1.take i ++ rest.drop i)) f e l w) = some (((n : Int), ()), (a, (b, (c4, (sd (P ++ (b.1 ++ rest.drop b.1.length)) f e l w, ())))))
  | 0, m, i, hi, hm => by
    obtain ⟨m, rfl⟩ : ∃ m', m = m' + 1 := ⟨m - 1, by omega⟩
    obtain rfl : i = b.1.length := by omega
    simp only [F64_1]
    rw [dnlt, cond_false, List.take_length]
  | d + 1, m, i, hi, hm => by
    obtain ⟨m, rfl⟩ : ∃ m', m = m' + 1 := ⟨m - 1, by omega⟩
    have hlt : i < b.1.length := by omega
    have ih := F64_1_ok k a b c4 n P rest f e l w hn hP hb hr d m (i + 1) (by omega) (by omega)
    have hlen : n + i < (P ++ (b.1.take i ++ rest.drop i)).length := by rw [List.length_append, len_pre b.1 rest i (by omega) (by omega)]; omega
    simp only [F64_1]
    rw [dlt hlt, cond_true, if_pos (inR hlt), wadd n i (by omega), if_pos (inR hlen), show Int.toNat ((n + i : Nat) : Int) = n + i from rfl, show Int.toNat (i : Int) = i from rfl, set_off P b.1 rest n i 0 hP hlt (by omega), wsucc i _ hlt (by omega), ih]
    rfl
theorem F64_2_ok (k : Nat) (b c4 : SideT) (n : Nat) (A : List ArcT) (g f e : List Int) (w : Int) (hn : n ≤ 100000) (hA : A.length ≤ 1000000) (hb : b.2.2.2.1.length ≤ 1000000) (hr : ArcG 100000 1000000000000 b.2.2.2.1) : ∀ (d m i : Nat), i + d = b.2.2.2.1.length → d < m →
    F64_2 k m (n : Int) (i : Int) b c4 (sd g f e (A ++ (b.2.2.2.1.take i).map (shA n)) w) = some ((), (c4, (sd g f e (A ++ b.2.2.2.1.map (shA n)) w, ())))
  | 0, m, i, hi, hm => by
    obtain ⟨m, rfl⟩ : ∃ m', m = m' + 1 := ⟨m - 1, by omega⟩
    obtain rfl : i = b.2.2.2.1.length := by omega
    simp only [F64_2]
    rw [dnlt, cond_false, List.take_length]
  | d + 1, m, i, hi, hm => by
    obtain ⟨m, rfl⟩ : ∃ m', m = m' + 1 := ⟨m - 1, by omega⟩
    have hlt : i < b.2.2.2.1.length := by omega
    have ih := F64_2_ok k b c4 n A g f e w hn hA hb hr d m (i + 1) (by omega) (by omega)
    have hx := hr _ (List.getElem_mem hlt)
    have hg : List.getD b.2.2.2.1 i ((0 : Int), ((0 : Int), ((0 : Int), ()))) = b.2.2.2.1[i] := getD_lt _ i _ hlt
    have w1 : IntKind.wrap .i64 (b.2.2.2.1[i].1 + (n : Int)) = b.2.2.2.1[i].1 + n := w64 _ (by omega) (by omega)
    have w2 : IntKind.wrap .i64 (b.2.2.2.1[i].2.1 + (n : Int)) = b.2.2.2.1[i].2.1 + n := w64 _ (by omega) (by omega)
    have hone : List.set (List.replicate 1 ((0 : Int), ((0 : Int), ((0 : Int), ())))) 0 (b.2.2.2.1[i].1 + n, (b.2.2.2.1[i].2.1 + n, (b.2.2.2.1[i].2.2.1, ()))) = [shA n b.2.2.2.1[i]] := one_list _ _
    have hc : ((A ++ (b.2.2.2.1.take i).map (shA n)).length + [shA n b.2.2.2.1[i]].length) * (24 * 2) ≤ 281474976710656 ∧ (A ++ (b.2.2.2.1.take i).map (shA n)).length + [shA n b.2.2.2.1[i]].length ≤ 9223372036854775807 := by
      rw [List.length_append, List.length_map, List.length_take, List.length_singleton]; omega
    simp only [F64_2]
    rw [dlt hlt, cond_true, if_pos (inR hlt), if_pos (inR hlt), if_pos (inR hlt), show Int.toNat (i : Int) = i from rfl, hg, w1, w2, hone, if_pos hc, wsucc i _ hlt (by omega), List.append_assoc, show (b.2.2.2.1.take i).map (shA n) ++ [shA n b.2.2.2.1[i]] = (b.2.2.2.1.take (i + 1)).map (shA n) by rw [List.take_succ_eq_append_getElem hlt, List.map_append]; rfl, ih]
    rfl
theorem F64_ok (k : Nat) (a b : SideT) (ha : a.1.length ≤ 10000) (hb : b.1.length ≤ 10000) (hA : a.2.2.2.1.length ≤ 1000000) (hB : b.2.2.2.1.length ≤ 1000000) (hr : ArcG 100000 1000000000000 b.2.2.2.1) (hk : 10000000 ≤ k) :
    F64 k a b = some ((sd (a.1 ++ b.1) (List.replicate (a.1.length + b.1.length) 1152921504606846976) (List.replicate (a.1.length + b.1.length) 1152921504606846976) (a.2.2.2.1 ++ b.2.2.2.1.map (shA a.1.length)) 1152921504606846976, ()), ()) := by
  have e0 := F64_0_ok k a b (sd [] [] [] [] 0) (List.replicate (a.1.length + b.1.length) 0) (List.replicate (a.1.length + b.1.length) 1152921504606846976) (List.replicate (a.1.length + b.1.length) 1152921504606846976) [] 1152921504606846976 (by omega) (by rw [List.length_replicate]; omega) a.1.length k 0 (by omega) (by omega)
  rw [rep_drop, List.take_zero, List.drop_zero, List.nil_append, show ((0 : Nat) : Int) = 0 from rfl] at e0
  have e1 := F64_1_ok k a b (sd [] [] [] [] 0) a.1.length a.1 (List.replicate b.1.length 0) (List.replicate (a.1.length + b.1.length) 1152921504606846976) (List.replicate (a.1.length + b.1.length) 1152921504606846976) [] 1152921504606846976 (by omega) rfl (by omega) (by rw [List.length_replicate]; omega) b.1.length k 0 (by omega) (by omega)
  rw [List.take_zero, List.drop_zero, List.nil_append, show (List.replicate b.1.length (0 : Int)).drop b.1.length = [] by rw [List.drop_replicate, Nat.sub_self]; rfl, List.append_nil, show ((0 : Nat) : Int) = 0 from rfl] at e1
  have e2 := F64_2_ok k b (sd [] [] [] [] 0) a.1.length a.2.2.2.1 (a.1 ++ b.1) (List.replicate (a.1.length + b.1.length) 1152921504606846976) (List.replicate (a.1.length + b.1.length) 1152921504606846976) 1152921504606846976 (by omega) hA hB hr b.2.2.2.1.length k 0 (by omega) (by omega)
  rw [List.take_zero, List.map_nil, List.append_nil, show ((0 : Nat) : Int) = 0 from rfl] at e2
  have hc : (0 + a.2.2.2.1.length) * (24 * 2) ≤ 281474976710656 ∧ 0 + a.2.2.2.1.length ≤ 9223372036854775807 := by omega
  unfold F64
  simp only
  rw [wadd a.1.length b.1.length (by omega), F54_ok k _ (by omega) hk, Option.bind_some, e0, Option.bind_some]
  simp only
  rw [e1, Option.bind_some]
  simp only [List.length_nil]
  rw [if_pos hc, List.nil_append, e2, Option.bind_some]
end Go.Proofs.YtgojfdimbciaiaaE
set_option linter.unusedSimpArgs false
set_option linter.unusedVariables false
set_option maxRecDepth 20000
namespace Go.Proofs.YtgojfdimbciaiaaE
def putA (l : List ArcT) (a : ArcT) : List ArcT := if a.2.2.1 ≥ 1152921504606846976 then l else insA a l
def foldA (g : Nat → ArcT) : Nat → List ArcT → List ArcT
  | 0, l => l
  | m + 1, l => putA (foldA g m l) (g m)
def foldB (g : Nat → Nat → ArcT) (m : Nat) : Nat → List ArcT → List ArcT
  | 0, l => l
  | n + 1, l => foldA (g n) m (foldB g m n l)
theorem putA_len (l : List ArcT) (a : ArcT) : (putA l a).length ≤ l.length + 1 := by
  unfold putA
  split
  · omega
  · exact (insA_len a l).1
theorem foldA_len (g : Nat → ArcT) : ∀ (m : Nat) (l : List ArcT), (foldA g m l).length ≤ l.length + m
  | 0, l => Nat.le_refl _
  | m + 1, l => by
    have h1 := putA_len (foldA g m l) (g m)
    have h2 := foldA_len g m l
    rw [foldA]
    omega
theorem foldB_len (g : Nat → Nat → ArcT) (m : Nat) : ∀ (n : Nat) (l : List ArcT), (foldB g m n l).length ≤ l.length + n * m
  | 0, l => by simp [foldB]
  | n + 1, l => by
    have h1 := foldA_len (g n) m (foldB g m n l)
    have h2 := foldB_len g m n l
    rw [foldB, Nat.add_mul]
    omega
theorem F65_put (k : Nat) (l : List ArcT) (a : ArcT) (hl : l.length ≤ 1000000) (hk : 10000000 ≤ k) : F65 k l a = some ((putA l a, ()), ()) := F65_ok k l a hl hk
theorem getD_map {α β : Type} (f : α → β) (A : List α) (i : Nat) (d : β) (d' : α) (h : i < A.length) : List.getD (A.map f) i d = f (List.getD A i d') := by
  rw [getD_lt _ i d (by rw [List.length_map]; exact h), getD_lt A i d' h, List.getElem_map]
def CstL (l : List Int) : Prop := ∀ x ∈ l, Cst x
theorem CstL.at_ {l : List Int} (h : CstL l) {i : Nat} (hi : i < l.length) : Cst (List.getD l i 0) := h _ (getD_mem hi)
structure SdP (s : SideT) : Prop where
  n : s.1.length ≤ 500
  lf : s.2.1.length = s.1.length
  le : s.2.2.1.length = s.1.length
  cf : CstL s.2.1
  ce : CstL s.2.2.1
  cn : Cst s.2.2.2.2.1
  la : s.2.2.2.1.length ≤ 400000
  ra : ArcG 100000 1000000000000 s.2.2.2.1
section
variable (k : Nat) (a b c4 : SideT)
def catG (a b : SideT) (i j : Nat) : ArcT := ((i : Int), (((a.1.length + j : Nat) : Int), (adI (List.getD a.2.2.1 i 0) (List.getD b.2.1 j 0), ())))
theorem F56_0_ok (hk : 10000000 ≤ k) (ha : SdP a) (hb : SdP b) (i : Nat) (hi : i < a.1.length) (g f e : List Int) (l : List ArcT) (w : Int) (hl : l.length ≤ 900000) : ∀ (d m j : Nat), j + d = b.1.length → d < m →
    F56_0 k m ((a.1.length : Nat) : Int) (i : Int) (j : Int) a b c4 (sd g f e (foldA (catG a b i) j l) w) = some ((((a.1.length : Nat) : Int), ((i : Int), ())), (a, (b, (c4, (sd g f e (foldA (catG a b i) b.1.length l) w, ())))))
  | 0, m, j, hj, hm => by
    obtain ⟨m, rfl⟩ : ∃ m', m = m' + 1 := ⟨m - 1, by omega⟩
    obtain rfl : j = b.1.length := by omega
    simp only [F56_0]
    rw [dnlt, cond_false]
  | d + 1, m, j, hj, hm => by
    obtain ⟨m, rfl⟩ : ∃ m', m = m' + 1 := ⟨m - 1, by omega⟩
    have hlt : j < b.1.length := by omega
    have ih := F56_0_ok hk ha hb i hi g f e l w hl d m (j + 1) (by omega) (by omega)
    have h1 := ha.n
    have h2 := hb.n
    have h3 := ha.le
    have h4 := hb.lf
    have hlen := foldA_len (catG a b i) j l
    simp only [F56_0]
    rw [dlt hlt, cond_true, if_pos (inR (show i < a.2.2.1.length by omega)), if_pos (inR (show j < b.2.1.length by omega)), show Int.toNat (i : Int) = i from rfl, show Int.toNat (j : Int) = j from rfl, F37_ad k _ _ (ha.ce.at_ (by omega)) (hb.cf.at_ (by omega)), Option.bind_some]
    simp only
    rw [wadd a.1.length j (by omega), F65_put k _ _ (by omega) hk, Option.bind_some, wsucc j _ hlt (by omega)]
    simp only
    have e1 : putA (foldA (catG a b i) j l) ((i : Int), (((a.1.length + j : Nat) : Int), (adI (List.getD a.2.2.1 i 0) (List.getD b.2.1 j 0), ()))) = foldA (catG a b i) (j + 1) l := rfl
    rw [e1, ih]
    rfl
theorem F56_1_ok (hk : 10000000 ≤ k) (ha : SdP a) (hb : SdP b) (g rf re : List Int) (l : List ArcT) (w : Int) (hl : l.length ≤ 600000) (hrf : a.1.length ≤ rf.length) (hre : a.1.length ≤ re.length) : ∀ (d m i : Nat), i + d = a.1.length → d < m →
    F56_1 k m ((a.1.length : Nat) : Int) (i : Int) a b c4 (sd g (a.2.1.take i ++ rf.drop i) ((a.2.2.1.map fun x => adI x b.2.2.2.2.1).take i ++ re.drop i) (foldB (catG a b) b.1.length i l) w) =
      some ((((a.1.length : Nat) : Int), ()), (a, (b, (c4, (sd g (a.2.1 ++ rf.drop a.1.length) ((a.2.2.1.map fun x => adI x b.2.2.2.2.1) ++ re.drop a.1.length) (foldB (catG a b) b.1.length a.1.length l) w, ())))))
  | 0, m, i, hi, hm => by
    obtain ⟨m, rfl⟩ : ∃ m', m = m' + 1 := ⟨m - 1, by omega⟩
    obtain rfl : i = a.1.length := by omega
    simp only [F56_1]
    rw [dnlt, cond_false, take_all a.2.1 _ ha.lf, take_all (a.2.2.1.map _) _ (by rw [List.length_map]; exact ha.le)]
  | d + 1, m, i, hi, hm => by
    obtain ⟨m, rfl⟩ : ∃ m', m = m' + 1 := ⟨m - 1, by omega⟩
    have hlt : i < a.1.length := by omega
    have ih := F56_1_ok hk ha hb g rf re l w hl hrf hre d m (i + 1) (by omega) (by omega)
    have h1 := ha.n
    have h2 := hb.n
    have h3 := ha.lf
    have h4 := ha.le
    have hlen := foldB_len (catG a b) b.1.length i l
    have hmul : i * b.1.length ≤ 500 * 500 := Nat.mul_le_mul (by omega) h2
    have hme : (a.2.2.1.map fun x => adI x b.2.2.2.2.1).length = a.1.length := by rw [List.length_map]; exact h4
    have ge : adI (List.getD a.2.2.1 i 0) b.2.2.2.2.1 = List.getD (a.2.2.1.map fun x => adI x b.2.2.2.2.1) i 0 := (getD_map (fun x => adI x b.2.2.2.2.1) _ i 0 0 (by omega)).symm
    have e0 := F56_0_ok k a b c4 hk ha hb i hlt g (a.2.1.take (i + 1) ++ rf.drop (i + 1)) ((a.2.2.1.map fun x => adI x b.2.2.2.2.1).take (i + 1) ++ re.drop (i + 1)) (foldB (catG a b) b.1.length i l) w (by omega) b.1.length k 0 (by omega) (by omega)
    rw [show ((0 : Nat) : Int) = 0 from rfl, foldA] at e0
    simp only [F56_1]
    rw [dlt hlt, cond_true, if_pos (inR (show i < a.2.1.length by omega)), if_pos (inR (show i < a.2.2.1.length by omega)), show Int.toNat (i : Int) = i from rfl, F37_ad k _ _ (ha.ce.at_ (by omega)) hb.cn, Option.bind_some]
    simp only
    rw [len_pre a.2.1 rf i (by omega) (by omega), len_pre (a.2.2.1.map _) re i (by omega) (by omega), if_pos (inR (show i < rf.length by omega)), if_pos (inR (show i < re.length by omega)), set_pre a.2.1 rf i 0 (by omega) (by omega), ge, set_pre (a.2.2.1.map _) re i 0 (by omega) (by omega), e0, Option.bind_some]
    simp only
    rw [wsucc i _ hlt (by omega)]
    have e1 : foldA (catG a b i) b.1.length (foldB (catG a b) b.1.length i l) = foldB (catG a b) b.1.length (i + 1) l := rfl
    rw [e1, ih]
    rfl
theorem F56_2_ok (hk : 10000000 ≤ k) (ha : SdP a) (hb : SdP b) (n : Nat) (hn : n ≤ 10000) (g P Q rf re : List Int) (hP : P.length = n) (hQ : Q.length = n) (l : List ArcT) (w : Int) (hrf : b.1.length ≤ rf.length) (hre : b.1.length ≤ re.length) : ∀ (d m i : Nat), i + d = b.1.length → d < m →
    F56_2 k m (n : Int) (i : Int) a b c4 (sd g (P ++ ((b.2.1.map fun x => adI a.2.2.2.2.1 x).take i ++ rf.drop i)) (Q ++ (b.2.2.1.take i ++ re.drop i)) l w) =
      some ((), (c4, (sd g (P ++ ((b.2.1.map fun x => adI a.2.2.2.2.1 x) ++ rf.drop b.1.length)) (Q ++ (b.2.2.1 ++ re.drop b.1.length)) l w, ())))
  | 0, m, i, hi, hm => by
    obtain ⟨m, rfl⟩ : ∃ m', m = m' + 1 := ⟨m - 1, by omega⟩
    obtain rfl : i = b.1.length := by omega
    simp only [F56_2]
    rw [dnlt, cond_false, take_all b.2.2.1 _ hb.le, take_all (b.2.1.map _) _ (by rw [List.length_map]; exact hb.lf)]
  | d + 1, m, i, hi, hm => by
    obtain ⟨m, rfl⟩ : ∃ m', m = m' + 1 := ⟨m - 1, by omega⟩
    have hlt : i < b.1.length := by omega
    have ih := F56_2_ok hk ha hb n hn g P Q rf re hP hQ l w hrf hre d m (i + 1) (by omega) (by omega)
    have h1 := ha.n
    have h2 := hb.n
    have h3 := hb.lf
    have h4 := hb.le
    have hme : (b.2.1.map fun x => adI a.2.2.2.2.1 x).length = b.1.length := by rw [List.length_map]; exact h3
    have ge : adI a.2.2.2.2.1 (List.getD b.2.1 i 0) = List.getD (b.2.1.map fun x => adI a.2.2.2.2.1 x) i 0 := (getD_map (fun x => adI a.2.2.2.2.1 x) _ i 0 0 (by omega)).symm
    have l1 : n + i < (P ++ ((b.2.1.map fun x => adI a.2.2.2.2.1 x).take i ++ rf.drop i)).length := by rw [List.length_append, len_pre _ rf i (by omega) (by omega)]; omega
    have l2 : n + i < (Q ++ (b.2.2.1.take i ++ re.drop i)).length := by rw [List.length_append, len_pre _ re i (by omega) (by omega)]; omega
    simp only [F56_2]
    rw [dlt hlt, cond_true, if_pos (inR (show i < b.2.1.length by omega)), if_pos (inR (show i < b.2.2.1.length by omega)), show Int.toNat (i : Int) = i from rfl, F37_ad k _ _ ha.cn (hb.cf.at_ (by omega)), Option.bind_some]
    simp only
    rw [wadd n i (by omega), if_pos (inR l1), if_pos (inR l2), show Int.toNat ((n + i : Nat) : Int) = n + i from rfl, ge, set_off P (b.2.1.map _) rf n i 0 hP (by omega) (by omega), set_off Q b.2.2.1 re n i 0 hQ (by omega) (by omega), wsucc i _ hlt (by omega), ih]
    rfl
def catS (a b : SideT) : SideT := sd (a.1 ++ b.1) (a.2.1 ++ b.2.1.map fun x => adI a.2.2.2.2.1 x) ((a.2.2.1.map fun x => adI x b.2.2.2.2.1) ++ b.2.2.1) (foldB (catG a b) b.1.length a.1.length (a.2.2.2.1 ++ b.2.2.2.1.map (shA a.1.length))) (adI a.2.2.2.2.1 b.2.2.2.2.1)
theorem F56_ok (hk : 10000000 ≤ k) (ha : SdP a) (hb : SdP b) (hl : a.2.2.2.1.length + b.2.2.2.1.length ≤ 600000) : F56 k a b = some ((catS a b, ()), ()) := by
  have h1 := ha.n
  have h2 := hb.n
  have h3 := ha.lf
  have h4 := ha.le
  have h5 := hb.lf
  have h6 := hb.le
  have h7 := ha.la
  have h8 := hb.la
  have e1 := F56_1_ok k a b (sd [] [] [] [] 0) hk ha hb (a.1 ++ b.1) (List.replicate (a.1.length + b.1.length) 1152921504606846976) (List.replicate (a.1.length + b.1.length) 1152921504606846976) (a.2.2.2.1 ++ b.2.2.2.1.map (shA a.1.length)) (adI a.2.2.2.2.1 b.2.2.2.2.1) (by rw [List.length_append, List.length_map]; omega) (by rw [List.length_replicate]; omega) (by rw [List.length_replicate]; omega) a.1.length k 0 (by omega) (by omega)
  rw [rep_drop, List.take_zero, List.take_zero, List.drop_zero, List.nil_append, show ((0 : Nat) : Int) = 0 from rfl, foldB] at e1
  have e2 := F56_2_ok k a b (sd [] [] [] [] 0) hk ha hb a.1.length (by omega) (a.1 ++ b.1) a.2.1 (a.2.2.1.map fun x => adI x b.2.2.2.2.1) (List.replicate b.1.length 1152921504606846976) (List.replicate b.1.length 1152921504606846976) h3 (by rw [List.length_map]; exact h4) (foldB (catG a b) b.1.length a.1.length (a.2.2.2.1 ++ b.2.2.2.1.map (shA a.1.length))) (adI a.2.2.2.2.1 b.2.2.2.2.1) (by rw [List.length_replicate]; omega) (by rw [List.length_replicate]; omega) b.1.length k 0 (by omega) (by omega)
  have hnil : (List.replicate b.1.length (1152921504606846976 : Int)).drop b.1.length = [] := by rw [List.drop_replicate, Nat.sub_self]; rfl
  rw [hnil, List.append_nil, List.append_nil, List.take_zero, List.take_zero, List.drop_zero, List.nil_append, show ((0 : Nat) : Int) = 0 from rfl] at e2
  unfold F56
  rw [F64_ok k a b (by omega) (by omega) (by omega) (by omega) hb.ra hk, Option.bind_some, F37_ad k _ _ ha.cn hb.cn, Option.bind_some]
  simp only
  rw [e1, Option.bind_some]
  simp only
  rw [e2, Option.bind_some]
  rfl
theorem F57_0_ok (ha : SdP a) (g rf re : List Int) (l : List ArcT) (w : Int) (hrf : a.1.length ≤ rf.length) (hre : a.1.length ≤ re.length) : ∀ (d m i : Nat), i + d = a.1.length → d < m →
    F57_0 k m ((a.1.length : Nat) : Int) (i : Int) a b c4 (sd g (a.2.1.take i ++ rf.drop i) (a.2.2.1.take i ++ re.drop i) l w) =
      some ((((a.1.length : Nat) : Int), ()), (b, (c4, (sd g (a.2.1 ++ rf.drop a.1.length) (a.2.2.1 ++ re.drop a.1.length) l w, ()))))
  | 0, m, i, hi, hm => by
    obtain ⟨m, rfl⟩ : ∃ m', m = m' + 1 := ⟨m - 1, by omega⟩
    obtain rfl : i = a.1.length := by omega
    simp only [F57_0]
    rw [dnlt, cond_false, take_all a.2.1 _ ha.lf, take_all a.2.2.1 _ ha.le]
  | d + 1, m, i, hi, hm => by
    obtain ⟨m, rfl⟩ : ∃ m', m = m' + 1 := ⟨m - 1, by omega⟩
    have hlt : i < a.1.length := by omega
    have ih := F57_0_ok ha g rf re l w hrf hre d m (i + 1) (by omega) (by omega)
    have h1 := ha.n
    have h3 := ha.lf
    have h4 := ha.le
    simp only [F57_0]
    rw [dlt hlt, cond_true, if_pos (inR (show i < a.2.1.length by omega)), if_pos (inR (show i < a.2.2.1.length by omega)), len_pre a.2.1 rf i (by omega) (by omega), len_pre a.2.2.1 re i (by omega) (by omega), if_pos (inR (show i < rf.length by omega)), if_pos (inR (show i < re.length by omega)), show Int.toNat (i : Int) = i from rfl, set_pre a.2.1 rf i 0 (by omega) (by omega), set_pre a.2.2.1 re i 0 (by omega) (by omega), wsucc i _ hlt (by omega), ih]
    rfl
theorem F57_1_ok (hb : SdP b) (n : Nat) (hn : n ≤ 10000) (g P Q rf re : List Int) (hP : P.length = n) (hQ : Q.length = n) (l : List ArcT) (w : Int) (hrf : b.1.length ≤ rf.length) (hre : b.1.length ≤ re.length) : ∀ (d m i : Nat), i + d = b.1.length → d < m →
    F57_1 k m (n : Int) (i : Int) b c4 (sd g (P ++ (b.2.1.take i ++ rf.drop i)) (Q ++ (b.2.2.1.take i ++ re.drop i)) l w) =
      some ((), (c4, (sd g (P ++ (b.2.1 ++ rf.drop b.1.length)) (Q ++ (b.2.2.1 ++ re.drop b.1.length)) l w, ())))
  | 0, m, i, hi, hm => by
    obtain ⟨m, rfl⟩ : ∃ m', m = m' + 1 := ⟨m - 1, by omega⟩
    obtain rfl : i = b.1.length := by omega
    simp only [F57_1]
    rw [dnlt, cond_false, take_all b.2.2.1 _ hb.le, take_all b.2.1 _ hb.lf]
  | d + 1, m, i, hi, hm => by
    obtain ⟨m, rfl⟩ : ∃ m', m = m' + 1 := ⟨m - 1, by omega⟩
    have hlt : i < b.1.length := by omega
    have ih := F57_1_ok hb n hn g P Q rf re hP hQ l w hrf hre d m (i + 1) (by omega) (by omega)
    have h2 := hb.n
    have h3 := hb.lf
    have h4 := hb.le
    have l1 : n + i < (P ++ (b.2.1.take i ++ rf.drop i)).length := by rw [List.length_append, len_pre _ rf i (by omega) (by omega)]; omega
    have l2 : n + i < (Q ++ (b.2.2.1.take i ++ re.drop i)).length := by rw [List.length_append, len_pre _ re i (by omega) (by omega)]; omega
    simp only [F57_1]
    rw [dlt hlt, cond_true, if_pos (inR (show i < b.2.1.length by omega)), if_pos (inR (show i < b.2.2.1.length by omega)), show Int.toNat (i : Int) = i from rfl, wadd n i (by omega), if_pos (inR l1), if_pos (inR l2), show Int.toNat ((n + i : Nat) : Int) = n + i from rfl, set_off P b.2.1 rf n i 0 hP (by omega) (by omega), set_off Q b.2.2.1 re n i 0 hQ (by omega) (by omega), wsucc i _ hlt (by omega), ih]
    rfl
def altS (a b : SideT) : SideT := sd (a.1 ++ b.1) (a.2.1 ++ b.2.1) (a.2.2.1 ++ b.2.2.1) (a.2.2.2.1 ++ b.2.2.2.1.map (shA a.1.length)) (minI a.2.2.2.2.1 b.2.2.2.2.1)
theorem F57_ok (hk : 10000000 ≤ k) (ha : SdP a) (hb : SdP b) : F57 k a b = some ((altS a b, ()), ()) := by
  have h1 := ha.n
  have h2 := hb.n
  have h3 := ha.lf
  have h4 := ha.le
  have h7 := ha.la
  have h8 := hb.la
  have e1 := F57_0_ok k a b (sd [] [] [] [] 0) ha (a.1 ++ b.1) (List.replicate (a.1.length + b.1.length) 1152921504606846976) (List.replicate (a.1.length + b.1.length) 1152921504606846976) (a.2.2.2.1 ++ b.2.2.2.1.map (shA a.1.length)) (minI a.2.2.2.2.1 b.2.2.2.2.1) (by rw [List.length_replicate]; omega) (by rw [List.length_replicate]; omega) a.1.length k 0 (by omega) (by omega)
  rw [rep_drop, List.take_zero, List.take_zero, List.drop_zero, List.nil_append, show ((0 : Nat) : Int) = 0 from rfl] at e1
  have e2 := F57_1_ok k b (sd [] [] [] [] 0) hb a.1.length (by omega) (a.1 ++ b.1) a.2.1 a.2.2.1 (List.replicate b.1.length 1152921504606846976) (List.replicate b.1.length 1152921504606846976) h3 h4 (a.2.2.2.1 ++ b.2.2.2.1.map (shA a.1.length)) (minI a.2.2.2.2.1 b.2.2.2.2.1) (by rw [List.length_replicate]; omega) (by rw [List.length_replicate]; omega) b.1.length k 0 (by omega) (by omega)
  have hnil : (List.replicate b.1.length (1152921504606846976 : Int)).drop b.1.length = [] := by rw [List.drop_replicate, Nat.sub_self]; rfl
  rw [hnil, List.append_nil, List.append_nil, List.take_zero, List.take_zero, List.drop_zero, List.nil_append, show ((0 : Nat) : Int) = 0 from rfl] at e2
  unfold F57
  rw [F64_ok k a b (by omega) (by omega) (by omega) (by omega) hb.ra hk, Option.bind_some]
  simp only
  rw [e1, Option.bind_some]
  simp only
  rw [e2, Option.bind_some]
  rfl
def starG (a : SideT) (i j : Nat) : ArcT := ((i : Int), ((j : Int), (adI (List.getD a.2.2.1 i 0) (List.getD a.2.1 j 0), ())))
theorem F58_0_ok (hk : 10000000 ≤ k) (ha : SdP a) (i : Nat) (hi : i < a.1.length) (l : List ArcT) (hl : l.length ≤ 900000) : ∀ (d m j : Nat), j + d = a.1.length → d < m →
    F58_0 k m (i : Int) (j : Int) a c4 (foldA (starG a i) j l) = some (((i : Int), ()), (a, (c4, (foldA (starG a i) a.1.length l, ()))))
  | 0, m, j, hj, hm => by
    obtain ⟨m, rfl⟩ : ∃ m', m = m' + 1 := ⟨m - 1, by omega⟩
    obtain rfl : j = a.1.length := by omega
    simp only [F58_0]
    rw [dnlt, cond_false]
  | d + 1, m, j, hj, hm => by
    obtain ⟨m, rfl⟩ : ∃ m', m = m' + 1 := ⟨m - 1, by omega⟩
    have hlt : j < a.1.length := by omega
    have ih := F58_0_ok hk ha i hi l hl d m (j + 1) (by omega) (by omega)
    have h1 := ha.n
    have h3 := ha.le
    have h4 := ha.lf
    have hlen := foldA_len (starG a i) j l
    simp only [F58_0]
    rw [dlt hlt, cond_true, if_pos (inR (show i < a.2.2.1.length by omega)), if_pos (inR (show j < a.2.1.length by omega)), show Int.toNat (i : Int) = i from rfl, show Int.toNat (j : Int) = j from rfl, F37_ad k _ _ (ha.ce.at_ (by omega)) (ha.cf.at_ (by omega)), Option.bind_some]
    simp only
    rw [F65_put k _ _ (by omega) hk, Option.bind_some, wsucc j _ hlt (by omega)]
    simp only
    have e1 : putA (foldA (starG a i) j l) ((i : Int), ((j : Int), (adI (List.getD a.2.2.1 i 0) (List.getD a.2.1 j 0), ()))) = foldA (starG a i) (j + 1) l := rfl
    rw [e1, ih]
    rfl
theorem F58_1_ok (hk : 10000000 ≤ k) (ha : SdP a) (l : List ArcT) (hl : l.length ≤ 600000) : ∀ (d m i : Nat), i + d = a.1.length → d < m →
    F58_1 k m (i : Int) a c4 (foldB (starG a) a.1.length i l) = some ((), (a, (c4, (foldB (starG a) a.1.length a.1.length l, ()))))
  | 0, m, i, hi, hm => by
    obtain ⟨m, rfl⟩ : ∃ m', m = m' + 1 := ⟨m - 1, by omega⟩
    obtain rfl : i = a.1.length := by omega
    simp only [F58_1]
    rw [dnlt, cond_false]
  | d + 1, m, i, hi, hm => by
    obtain ⟨m, rfl⟩ : ∃ m', m = m' + 1 := ⟨m - 1, by omega⟩
    have hlt : i < a.1.length := by omega
    have ih := F58_1_ok hk ha l hl d m (i + 1) (by omega) (by omega)
    have h1 := ha.n
    have hlen := foldB_len (starG a) a.1.length i l
    have hmul : i * a.1.length ≤ 500 * 500 := Nat.mul_le_mul (by omega) h1
    have e0 := F58_0_ok k a c4 hk ha i hlt (foldB (starG a) a.1.length i l) (by omega) a.1.length k 0 (by omega) (by omega)
    rw [show ((0 : Nat) : Int) = 0 from rfl, foldA] at e0
    simp only [F58_1]
    rw [dlt hlt, cond_true, e0, Option.bind_some]
    simp only
    rw [wsucc i _ hlt (by omega)]
    have e1 : foldA (starG a i) a.1.length (foldB (starG a) a.1.length i l) = foldB (starG a) a.1.length (i + 1) l := rfl
    rw [e1, ih]
    rfl
def starS (a : SideT) : SideT := sd a.1 a.2.1 a.2.2.1 (foldB (starG a) a.1.length a.1.length a.2.2.2.1) 0
theorem F58_ok (hk : 10000000 ≤ k) (ha : SdP a) : F58 k a = some ((starS a, ()), ()) := by
  have h7 := ha.la
  have ha' : SdP (sd a.1 a.2.1 a.2.2.1 a.2.2.2.1 0) := ⟨ha.n, ha.lf, ha.le, ha.cf, ha.ce, ⟨Int.le_refl _, (by decide : (0 : Int) ≤ 1152921504606846976)⟩, ha.la, ha.ra⟩
  have e := F58_1_ok k (sd a.1 a.2.1 a.2.2.1 a.2.2.2.1 0) (sd [] [] [] [] 0) hk ha' a.2.2.2.1 (by omega) a.1.length k 0 (Nat.zero_add _) (by have := ha.n; omega)
  rw [show ((0 : Nat) : Int) = 0 from rfl, foldB] at e
  have hc : (0 + a.2.2.2.1.length) * (24 * 2) ≤ 281474976710656 ∧ 0 + a.2.2.2.1.length ≤ 9223372036854775807 := by omega
  unfold F58
  simp only [List.replicate_zero, List.length_nil, List.nil_append]
  rw [if_pos hc]
  have e' : F58_1 k k 0 (a.1, (a.2.1, (a.2.2.1, (a.2.2.2.1, ((0 : Int), a.2.2.2.2.2))))) ([], ([], ([], ([], ((0 : Int), ()))))) a.2.2.2.1 = _ := e
  rw [e', Option.bind_some]
  rfl
end
end Go.Proofs.YtgojfdimbciaiaaE
set_option linter.unusedSimpArgs false
set_option linter.unusedVariables false
set_option maxRecDepth 20000
namespace Go.Proofs.YtgojfdimbciaiaaE
abbrev RawT := Tree (Int × (Int × Unit))
abbrev RexT := Tree (Int × (Int × (Int × (Int × (ByteArray × Unit)))))
def RawH : Nat → RawT → Prop
  | 0, _ => False
  | h + 1, r => ∀ c ∈ r.l, RawH h c
theorem F26_0_ok (k : Nat) (f : List RawT → Int → Option ((Int × Unit) × Unit)) (l : List RawT) (d B : Nat) (Pc : List RawT → Prop) (hd : d ≤ 5) (hB : B ≤ 100000) (hf : ∀ c, ∃ n : Nat, f c ((d + 1 : Nat) : Int) = some (((n : Int), ()), ()) ∧ n ≤ B ∧ (n ≤ 30 → Pc c)) : ∀ (m i n : Nat), 31 ≤ n + m → n ≤ 31 + B → i ≤ l.length → i ≤ n → (n ≤ 30 → ∀ j, j < i → Pc (List.getD l j (Tree.mk (0, (0, ())) [])).l) →
    ∃ q : Nat, F26_0 k f (m + 1) l (d : Int) (n : Int) (i : Int) = some (((q : Int), ()), ()) ∧ q ≤ 31 + B ∧ (q ≤ 30 → l.length ≤ q ∧ ∀ j, j < l.length → Pc (List.getD l j (Tree.mk (0, (0, ())) [])).l) := by
  intro m
  induction m with
  | zero =>
    intro i n h1 h2 hi hin hJ
    simp only [F26_0]
    by_cases hlt : i < l.length
    · rw [dlt hlt, cond_true, decide_eq_false (by omega), cond_false]
      exact ⟨n, rfl, h2, fun q => by omega⟩
    · rw [decide_eq_false (by omega), cond_false]
      exact ⟨n, rfl, h2, fun q => by omega⟩
  | succ m ih =>
    intro i n h1 h2 hi hin hJ
    rw [F26_0]
    simp only
    by_cases hlt : i < l.length
    · rw [dlt hlt, cond_true]
      by_cases hn : n ≤ 30
      · rw [decide_eq_true (by omega), cond_true, if_pos (inR hlt), show Int.toNat (i : Int) = i from rfl]
        obtain ⟨x, e, hx, hxs⟩ := hf (Tree.l (List.getD l i (Tree.mk (0, (0, ())) [])))
        rw [show IntKind.wrap .i64 ((d : Int) + 1) = ((d + 1 : Nat) : Int) by rw [w64 _ (by omega) (by omega)]; omega, e, Option.bind_some]
        simp only
        rw [show IntKind.wrap .i64 (IntKind.wrap .i64 ((n : Int) + 1) + (x : Int)) = ((n + 1 + x : Nat) : Int) by rw [w64 ((n : Int) + 1) (by omega) (by omega), w64 _ (by omega) (by omega)]; omega, show IntKind.wrap .i64 ((i : Int) + 1) = ((i + 1 : Nat) : Int) by rw [w64 _ (by omega) (by omega)]; omega, Option.bind_fun_some]
        refine ih (i + 1) (n + 1 + x) (by omega) (by omega) hlt (by omega) fun hq j hj => ?_
        by_cases hji : j = i
        · subst hji
          exact hxs (by omega)
        · exact hJ hn j (by omega)
      · rw [decide_eq_false (by omega), cond_false]
        exact ⟨n, rfl, h2, fun q => by omega⟩
    · rw [decide_eq_false (by omega), cond_false]
      refine ⟨n, rfl, h2, fun q => ⟨by omega, fun j hj => hJ q j (by omega)⟩⟩
theorem R26_step (k d B h : Nat) (l : List RawT) (hd : d ≤ 5) (hB : B ≤ 100000) (hk : 100 ≤ k) (hf : ∀ c, ∃ n : Nat, R26 k c ((d + 1 : Nat) : Int) = some (((n : Int), ()), ()) ∧ n ≤ B ∧ (n ≤ 30 → ∀ r : RawT, r.l = c → RawH h r)) :
    ∃ n : Nat, R26 (k + 1) l (d : Int) = some (((n : Int), ()), ()) ∧ n ≤ 31 + B ∧ (n ≤ 30 → l.length ≤ n ∧ ∀ r ∈ l, RawH h r) := by
  obtain ⟨k', hk'⟩ : ∃ k', k = k' + 1 := ⟨k - 1, by omega⟩
  obtain ⟨q, h1, h2, h3⟩ := F26_0_ok k (R26 k) l d B (fun c => ∀ r : RawT, r.l = c → RawH h r) hd hB hf k' 0 0 (by omega) (by omega) (Nat.zero_le _) (Nat.le_refl _) (fun _ j hj => by omega)
  refine ⟨q, ?_, by omega, fun hq => ⟨(h3 hq).1, fun r hr => ?_⟩⟩
  · rw [R26, B26, decide_eq_false (by omega), cond_false]
    have h1' : F26_0 k (R26 k) k l (d : Int) 0 0 = some (((q : Int), ()), ()) := by
      rw [← hk'] at h1; exact h1
    rw [h1', Option.bind_some]
  · obtain ⟨j, hj, rfl⟩ := List.getElem_of_mem hr
    have := (h3 hq).2 j hj
    rw [getD_lt l j _ hj] at this
    exact this _ rfl
theorem R26_ok : ∀ (e d k : Nat) (l : List RawT), d + e = 5 → e + 200 ≤ k → ∃ n : Nat, R26 k l (d : Int) = some (((n : Int), ()), ()) ∧ n ≤ 1031 + 31 * e ∧ (n ≤ 30 → l.length ≤ n ∧ ∀ r ∈ l, RawH e r)
  | 0, d, k, l, hd, hk => by
    obtain ⟨k, rfl⟩ : ∃ k', k = k' + 1 := ⟨k - 1, by omega⟩
    obtain ⟨n, h1, h2, h3⟩ := R26_step k d 1000 0 l (by omega) (by omega) (by omega) (fun c => by
      obtain ⟨k, rfl⟩ : ∃ k', k = k' + 1 := ⟨k - 1, by omega⟩
      refine ⟨1000, ?_, Nat.le_refl _, fun q => by omega⟩
      rw [R26, B26, decide_eq_true (by omega), cond_true]
      rfl)
    exact ⟨n, h1, by omega, h3⟩
  | e + 1, d, k, l, hd, hk => by
    obtain ⟨k, rfl⟩ : ∃ k', k = k' + 1 := ⟨k - 1, by omega⟩
    obtain ⟨n, h1, h2, h3⟩ := R26_step k d (1031 + 31 * e) (e + 1) l (by omega) (by omega) (by omega) (fun c => by
      obtain ⟨n, h1, h2, h3⟩ := R26_ok e (d + 1) k c (by omega) (by omega)
      exact ⟨n, h1, h2, fun q r hr => by
        intro x hx
        rw [hr] at hx
        exact (h3 q).2 x hx⟩)
    exact ⟨n, h1, by omega, h3⟩
theorem F12_ok (k : Nat) (l : List RawT) (hk : 1000 ≤ k) : ∃ b, F12 k l = some ((b, ()), ()) ∧ (b = true → l.length ≤ 30 ∧ ∀ r ∈ l, RawH 5 r) := by
  obtain ⟨n, h1, _, h3⟩ := R26_ok 5 0 k l rfl (by omega)
  refine ⟨decide ((n : Int) ≤ 30), ?_, fun hb => ?_⟩
  · unfold F12 F26
    have h1' : R26 k l 0 = some (((n : Int), ()), ()) := h1
    rw [h1', Option.bind_some]
  · have := of_decide_eq_true hb
    exact ⟨by have := (h3 (by omega)).1; omega, (h3 (by omega)).2⟩

def Leaf (x : RexT) : Prop := x.a.1 = 1 ∨ x.a.1 = 2 ∨ x.a.1 = 3
def RexP (w : Bool) : Nat → RexT → Prop
  | 0, x => Leaf x
  | h + 1, x => Leaf x ∨ ((x.a.1 = 4 ∨ x.a.1 = 5) ∧ ∃ p q, x.l = [p, q] ∧ RexP w h p ∧ RexP w h q) ∨ (x.a.1 = 6 ∧ ∃ p, x.l = [p] ∧ RexP w h p) ∨
      (x.a.1 = 7 ∧ (0 ≤ x.a.2.1 ∧ x.a.2.1 ≤ 2 ∧ x.a.2.1 ≤ x.a.2.2.1 ∧ x.a.2.2.1 ≤ x.a.2.1 + 2) ∧ ∃ p, x.l = [p] ∧ RexP w h p) ∨ (x.a.1 = 8 ∧ w = true ∧ (0 ≤ x.a.2.2.2.1 ∧ x.a.2.2.2.1 ≤ 6) ∧ ∃ p, x.l = [p] ∧ RexP w h p)
theorem RexP.up {w : Bool} : ∀ {h : Nat} {x : RexT}, RexP w h x → RexP w (h + 1) x
  | 0, x, p => .inl p
  | h + 1, x, p => by
    rcases p with p | ⟨a, p, q, e, hp, hq⟩ | ⟨a, p, e, hp⟩ | ⟨a, b, p, e, hp⟩ | ⟨a, b, c, p, e, hp⟩
    · exact .inl p
    · exact .inr (.inl ⟨a, p, q, e, hp.up, hq.up⟩)
    · exact .inr (.inr (.inl ⟨a, p, e, hp.up⟩))
    · exact .inr (.inr (.inr (.inl ⟨a, b, p, e, hp.up⟩)))
    · exact .inr (.inr (.inr (.inr ⟨a, b, c, p, e, hp.up⟩)))
theorem F42_eq (k : Nat) (a n : Int) (h0 : 0 < n) (h1 : n ≤ 4611686018427387904) : F42 k a n = some ((a % n, ()), ()) := F18_eq k a n h0 h1
def nms : List ByteArray := [⟨#[97]⟩, ⟨#[118]⟩, ⟨#[100]⟩, ⟨#[115]⟩, ⟨#[119, 49]⟩, ⟨#[111, 116, 104, 101, 114]⟩]
theorem F40_eq (k : Nat) : F40 k = some ((nms, ()), ()) := by
  unfold F40 nms
  rfl
theorem raw_eta (r : RawT) : Tree.mk ((Tree.a r).1, ((Tree.a r).2.1, ())) (Tree.l r) = r := by
  cases r
  rfl
theorem two_list {α : Type} (d x y : α) : List.set (List.set (List.replicate 2 d) 0 x) 1 y = [x, y] := (rfl : List.set (List.set [d, d] 0 x) 1 y = [x, y]).trans rfl
theorem R27_ok (b : Bool) : ∀ (h k : Nat), 2 * h ≤ k → (∀ r, RawH h r → ∃ x, (R27 k).1 r b = some ((x, ()), ()) ∧ RexP (!b) h x) ∧ (∀ (r : RawT) (i : Int), (i = 0 ∨ i = 1) → RawH (h + 1) r → ∃ x, (R27 (k + 1)).2 r i b = some ((x, ()), ()) ∧ RexP (!b) h x) := by
  intro h
  induction h with
  | zero =>
    intro k hk
    have one : ∀ r, RawH 0 r → ∃ x, (R27 k).1 r b = some ((x, ()), ()) ∧ RexP (!b) 0 x := fun r hr => hr.elim
    refine ⟨one, fun r i hi hr => ?_⟩
    have hnil : r.l = [] := by
      cases hl : r.l with
      | nil => rfl
      | cons c l => exact (hr c (by rw [hl]; exact List.mem_cons_self)).elim
    show ∃ x, B45 k (R27 k).1 (R27 k).2 r i b = some ((x, ()), ()) ∧ _
    unfold B45
    simp only
    rw [hnil, decide_eq_false (by simp only [List.length_nil]; omega), cond_false, F40_eq, Option.bind_some, F42_eq k _ 4 (by omega) (by omega), Option.bind_some]
    simp only
    rw [if_pos (by simp only [nms, List.length_cons, List.length_nil]; omega)]
    exact ⟨_, rfl, .inr (.inl rfl)⟩
  | succ h ih =>
    intro k hk
    obtain ⟨k, rfl⟩ : ∃ k', k = k' + 1 := ⟨k - 1, by omega⟩
    obtain ⟨k, rfl⟩ : ∃ k', k = k' + 1 := ⟨k - 1, by omega⟩
    obtain ⟨ih1, ih2⟩ := ih k (by omega)
    have one : ∀ r, RawH (h + 1) r → ∃ x, (R27 (k + 1 + 1)).1 r b = some ((x, ()), ()) ∧ RexP (!b) (h + 1) x := by
      intro r hr
      obtain ⟨p, ep, hp⟩ := ih2 r 0 (.inl rfl) hr
      obtain ⟨q, eq, hq⟩ := ih2 r 1 (.inr rfl) hr
      have em := Int.emod_nonneg (Tree.a r).1 (show (20 : Int) ≠ 0 by omega)
      show ∃ x, B27 (k + 1) (R27 (k + 1)).1 (R27 (k + 1)).2 r b = some ((x, ()), ()) ∧ _
      unfold B27
      rw [F42_eq _ _ 20 (by omega) (by omega), Option.bind_some]
      simp only [raw_eta, two_list, one_list]
      rw [ep, eq, F40_eq, F42_eq _ _ 4 (by omega) (by omega), F42_eq _ _ 3 (by omega) (by omega), F42_eq _ _ 7 (by omega) (by omega)]
      simp only [Option.bind_some]
      rw [F42_eq _ _ 3 (by omega) (by omega)]
      simp only [Option.bind_some]
      by_cases c1 : (Tree.a r).1 % 20 < 1
      · rw [decide_eq_true c1, cond_true]
        exact ⟨_, rfl, .inl (.inl rfl)⟩
      rw [decide_eq_false c1, cond_false]
      by_cases c2 : (Tree.a r).1 % 20 < 6
      · rw [decide_eq_true c2, cond_true, if_pos (by simp only [nms, List.length_cons, List.length_nil]; omega)]
        exact ⟨_, rfl, .inl (.inr (.inl rfl))⟩
      rw [decide_eq_false c2, cond_false]
      by_cases c3 : (Tree.a r).1 % 20 < 8
      · rw [decide_eq_true c3, cond_true]
        exact ⟨_, rfl, .inl (.inr (.inr rfl))⟩
      rw [decide_eq_false c3, cond_false]
      by_cases c4 : (Tree.a r).1 % 20 < 13
      · rw [decide_eq_true c4, cond_true]
        exact ⟨_, rfl, .inr (.inl ⟨.inl rfl, p, q, rfl, hp, hq⟩)⟩
      rw [decide_eq_false c4, cond_false]
      by_cases c5 : (Tree.a r).1 % 20 < 15
      · rw [decide_eq_true c5, cond_true]
        exact ⟨_, rfl, .inr (.inl ⟨.inr rfl, p, q, rfl, hp, hq⟩)⟩
      rw [decide_eq_false c5, cond_false]
      by_cases c6 : (Tree.a r).1 % 20 < 16
      · rw [decide_eq_true c6, cond_true]
        exact ⟨_, rfl, .inr (.inr (.inl ⟨rfl, p, rfl, hp⟩))⟩
      rw [decide_eq_false c6, cond_false]
      by_cases c7 : (Tree.a r).1 % 20 < 18
      · rw [decide_eq_true c7, cond_true]
        refine ⟨_, rfl, .inr (.inr (.inr (.inl ⟨rfl, ?_, p, rfl, hp⟩)))⟩
        simp only [Tree.a]
        have m1 := Int.emod_nonneg (Tree.a r).2.1 (show (3 : Int) ≠ 0 by omega)
        have m2 := Int.emod_lt_of_pos (Tree.a r).2.1 (show (0 : Int) < 3 by omega)
        have m3 := Int.emod_nonneg (IntKind.wrap .i64 (Int.tdiv (Tree.a r).2.1 3)) (show (3 : Int) ≠ 0 by omega)
        have m4 := Int.emod_lt_of_pos (IntKind.wrap .i64 (Int.tdiv (Tree.a r).2.1 3)) (show (0 : Int) < 3 by omega)
        rw [w64 (_ + _) (by omega) (by omega)]
        omega
      rw [decide_eq_false c7, cond_false]
      cases b with
      | true =>
        rw [cond_true]
        exact ⟨_, rfl, hp.up⟩
      | false =>
        rw [cond_false]
        refine ⟨_, rfl, .inr (.inr (.inr (.inr ⟨rfl, rfl, ?_, p, rfl, hp⟩)))⟩
        simp only [Tree.a]
        omega
    refine ⟨one, fun r i hi hr => ?_⟩
    show ∃ x, B45 (k + 1 + 1) (R27 (k + 1 + 1)).1 (R27 (k + 1 + 1)).2 r i b = some ((x, ()), ()) ∧ _
    unfold B45
    simp only
    by_cases hlt : i < ((r.l.length : Nat) : Int)
    · rw [decide_eq_true hlt, cond_true, if_pos ⟨by omega, hlt⟩]
      obtain ⟨x, e, hx⟩ := one (List.getD r.l i.toNat (Tree.mk (0, (0, ())) [])) (hr _ (getD_mem (by omega)))
      rw [e, Option.bind_some]
      exact ⟨x, rfl, hx⟩
    · rw [decide_eq_false hlt, cond_false, F40_eq, Option.bind_some, F42_eq _ _ 4 (by omega) (by omega), Option.bind_some]
      simp only
      rw [if_pos (by simp only [nms, List.length_cons, List.length_nil]; omega)]
      exact ⟨_, rfl, .inl (.inr (.inl rfl))⟩
theorem F27_ok (k : Nat) (r : RawT) (b : Bool) (h : Nat) (hr : RawH h r) (hk : 2 * h ≤ k) : ∃ x, F27 k r b = some ((x, ()), ()) ∧ RexP (!b) h x := (R27_ok b h k hk).1 r hr
end Go.Proofs.YtgojfdimbciaiaaE
set_option linter.unusedSimpArgs false
set_option linter.unusedVariables false
set_option maxRecDepth 20000
namespace Go.Proofs.YtgojfdimbciaiaaE
def CB (C x : Int) : Prop := 0 ≤ x ∧ (x ≤ C ∨ x = 1152921504606846976)
theorem CB.up {C D x : Int} (h : CB C x) (hD : C ≤ D) : CB D x := by
  unfold CB at *
  omega
theorem CB.cst {C x : Int} (h : CB C x) (hC : C ≤ 1000000000) : Cst x := by
  unfold CB at h
  unfold Cst
  omega
theorem adI_cb {C D x y : Int} (hx : CB C x) (hy : CB D y) (hC : C ≤ 1000000000) (hD : D ≤ 1000000000) : CB (C + D) (adI x y) := by
  unfold CB at *
  unfold adI minI
  split <;> omega
theorem minI_cb {C x y : Int} (hx : CB C x) (hy : CB C y) : CB C (minI x y) := by
  unfold minI
  split <;> assumption
structure SideG (n : Nat) (C : Int) (M : Nat) (s : SideT) : Prop where
  ls : s.1.length = n
  lf : s.2.1.length = n
  le : s.2.2.1.length = n
  cf : ∀ x ∈ s.2.1, CB C x
  ce : ∀ x ∈ s.2.2.1, CB C x
  cn : CB C s.2.2.2.2.1
  srt : Srt s.2.2.2.1
  arcs : ArcG n (2 * C) s.2.2.2.1
  sets : ∀ x ∈ s.1, -1 ≤ x ∧ x < (M : Int)
theorem ArcG.up {n m : Nat} {B D : Int} {l : List ArcT} (h : ArcG n B l) (hn : n ≤ m) (hB : B ≤ D) : ArcG m D l := fun x hx => by
  have := h x hx
  omega
theorem SideG.up {n M : Nat} {C D : Int} {s : SideT} (h : SideG n C M s) (hD : C ≤ D) : SideG n D M s :=
  ⟨h.ls, h.lf, h.le, fun x hx => (h.cf x hx).up hD, fun x hx => (h.ce x hx).up hD, h.cn.up hD, h.srt, h.arcs.up (Nat.le_refl _) (by omega), h.sets⟩
theorem SideG.sd {n M : Nat} {C : Int} {s : SideT} (h : SideG n C M s) (hn : n ≤ 500) (hC : C ≤ 1000000000) : SdP s := by
  have hl := srt_len h.srt h.arcs
  have : n * n ≤ 500 * 500 := Nat.mul_le_mul hn hn
  exact ⟨by rw [h.ls]; exact hn, by rw [h.lf, h.ls], by rw [h.le, h.ls], fun x hx => (h.cf x hx).cst hC, fun x hx => (h.ce x hx).cst hC, h.cn.cst hC, by omega, h.arcs.up (by omega) (by omega)⟩
theorem putA_G {n : Nat} {B : Int} {l : List ArcT} {a : ArcT} (hs : Srt l) (h : ArcG n B l) (ha : (0 ≤ a.1 ∧ a.1 < (n : Int)) ∧ (0 ≤ a.2.1 ∧ a.2.1 < (n : Int)) ∧ 0 ≤ a.2.2.1 ∧ (a.2.2.1 ≤ B ∨ a.2.2.1 ≥ 1152921504606846976)) : Srt (putA l a) ∧ ArcG n B (putA l a) := by
  unfold putA
  split
  · exact ⟨hs, h⟩
  · refine ⟨insA_srt a l hs, insA_arcs h fun x hx => ?_⟩
    rw [List.mem_singleton] at hx
    subst hx
    exact ⟨ha.1, ha.2.1, ha.2.2.1, ha.2.2.2.resolve_right (by assumption)⟩
theorem foldA_G {n : Nat} {B : Int} (g : Nat → ArcT) : ∀ (m : Nat) (l : List ArcT), (∀ j, j < m → (0 ≤ (g j).1 ∧ (g j).1 < (n : Int)) ∧ (0 ≤ (g j).2.1 ∧ (g j).2.1 < (n : Int)) ∧ 0 ≤ (g j).2.2.1 ∧ ((g j).2.2.1 ≤ B ∨ (g j).2.2.1 ≥ 1152921504606846976)) → Srt l → ArcG n B l → Srt (foldA g m l) ∧ ArcG n B (foldA g m l)
  | 0, l, _, hs, h => ⟨hs, h⟩
  | m + 1, l, hg, hs, h => by
    obtain ⟨h1, h2⟩ := foldA_G g m l (fun j hj => hg j (by omega)) hs h
    exact putA_G h1 h2 (hg m (by omega))
theorem foldB_G {n : Nat} {B : Int} (g : Nat → Nat → ArcT) (m : Nat) : ∀ (q : Nat) (l : List ArcT), (∀ i j, i < q → j < m → (0 ≤ (g i j).1 ∧ (g i j).1 < (n : Int)) ∧ (0 ≤ (g i j).2.1 ∧ (g i j).2.1 < (n : Int)) ∧ 0 ≤ (g i j).2.2.1 ∧ ((g i j).2.2.1 ≤ B ∨ (g i j).2.2.1 ≥ 1152921504606846976)) → Srt l → ArcG n B l → Srt (foldB g m q l) ∧ ArcG n B (foldB g m q l)
  | 0, l, _, hs, h => ⟨hs, h⟩
  | q + 1, l, hg, hs, h => by
    obtain ⟨h1, h2⟩ := foldB_G g m q l (fun i j hi hj => hg i j (by omega) hj) hs h
    exact foldA_G (g q) m _ (fun j hj => hg q j (by omega) hj) h1 h2
theorem shA_srt (n : Nat) {l : List ArcT} (h : Srt l) : Srt (l.map (shA n)) := by
  rw [Srt, List.pairwise_map]
  exact h.imp fun q => by
    unfold Lt shA at *
    simp only
    omega
theorem shA_arcs {n m : Nat} {B : Int} {l : List ArcT} (h : ArcG m B l) : ∀ x ∈ l.map (shA n), ((n : Int) ≤ x.1 ∧ x.1 < ((n + m : Nat) : Int)) ∧ ((n : Int) ≤ x.2.1 ∧ x.2.1 < ((n + m : Nat) : Int)) ∧ 0 ≤ x.2.2.1 ∧ x.2.2.1 ≤ B := fun x hx => by
  obtain ⟨y, hy, rfl⟩ := List.mem_map.1 hx
  have := h y hy
  unfold shA
  simp only
  omega
theorem join_G {n m : Nat} {B : Int} {l q : List ArcT} (h1 : Srt l) (h2 : ArcG n B l) (h3 : Srt q) (h4 : ArcG m B q) : Srt (l ++ q.map (shA n)) ∧ ArcG (n + m) B (l ++ q.map (shA n)) := by
  constructor
  · refine List.pairwise_append.2 ⟨h1, shA_srt n h3, fun a ha b hb => ?_⟩
    have := h2 a ha
    have := shA_arcs (n := n) h4 b hb
    exact .inl (by omega)
  · intro x hx
    rcases List.mem_append.1 hx with e | e
    · have := h2 x e; omega
    · have := shA_arcs (n := n) h4 x e; omega
theorem mem_app {α : Type} {P : α → Prop} {l q : List α} (h1 : ∀ x ∈ l, P x) (h2 : ∀ x ∈ q, P x) : ∀ x ∈ l ++ q, P x := fun x hx => (List.mem_append.1 hx).elim (h1 x) (h2 x)
theorem SideG.ef {n M : Nat} {C : Int} {s : SideT} (h : SideG n C M s) {i : Nat} (hi : i < n) : CB C (List.getD s.2.1 i 0) := h.cf _ (getD_mem (by rw [h.lf]; exact hi))
theorem SideG.ee {n M : Nat} {C : Int} {s : SideT} (h : SideG n C M s) {i : Nat} (hi : i < n) : CB C (List.getD s.2.2.1 i 0) := h.ce _ (getD_mem (by rw [h.le]; exact hi))
theorem cat_G {n m M : Nat} {C D : Int} {a b : SideT} (ha : SideG n C M a) (hb : SideG m D M b) (hC : 0 ≤ C ∧ C ≤ 100000000) (hD : 0 ≤ D ∧ D ≤ 100000000) : SideG (n + m) (C + D) M (catS a b) := by
  obtain ⟨j1, j2⟩ := join_G (B := 2 * (C + D)) ha.srt (ha.arcs.up (Nat.le_refl _) (by omega)) hb.srt (hb.arcs.up (Nat.le_refl _) (by omega))
  rw [← ha.ls] at j1 j2
  obtain ⟨f1, f2⟩ := foldB_G (catG a b) b.1.length a.1.length (a.2.2.2.1 ++ b.2.2.2.1.map (shA a.1.length)) (n := a.1.length + m) (B := 2 * (C + D)) (fun i j hi hj => by
    have q := adI_cb (ha.ee (ha.ls ▸ hi)) (hb.ef (hb.ls ▸ hj)) (by omega) (by omega)
    rw [hb.ls] at hj
    unfold CB at q
    unfold catG
    simp only
    omega) j1 j2
  refine ⟨by simp only [catS, sd, List.length_append, ha.ls, hb.ls], by simp only [catS, sd, List.length_append, List.length_map, ha.lf, hb.lf], by simp only [catS, sd, List.length_append, List.length_map, ha.le, hb.le], ?_, ?_, adI_cb ha.cn hb.cn (by omega) (by omega), f1, ha.ls ▸ f2, mem_app ha.sets hb.sets⟩
  · refine mem_app (fun x hx => (ha.cf x hx).up (by omega)) fun x hx => ?_
    obtain ⟨y, hy, rfl⟩ := List.mem_map.1 hx
    exact adI_cb ha.cn (hb.cf y hy) (by omega) (by omega)
  · refine mem_app (fun x hx => ?_) fun x hx => (hb.ce x hx).up (by omega)
    obtain ⟨y, hy, rfl⟩ := List.mem_map.1 hx
    exact adI_cb (ha.ce y hy) hb.cn (by omega) (by omega)
theorem alt_G {n m M : Nat} {C : Int} {a b : SideT} (ha : SideG n C M a) (hb : SideG m C M b) : SideG (n + m) C M (altS a b) := by
  obtain ⟨j1, j2⟩ := join_G (B := 2 * C) ha.srt ha.arcs hb.srt hb.arcs
  rw [← ha.ls] at j1 j2
  exact ⟨by simp only [altS, sd, List.length_append, ha.ls, hb.ls], by simp only [altS, sd, List.length_append, ha.lf, hb.lf], by simp only [altS, sd, List.length_append, ha.le, hb.le], mem_app ha.cf hb.cf, mem_app ha.ce hb.ce, minI_cb ha.cn hb.cn, j1, ha.ls ▸ j2, mem_app ha.sets hb.sets⟩
theorem star_G {n M : Nat} {C : Int} {a : SideT} (ha : SideG n C M a) (hC : 0 ≤ C ∧ C ≤ 100000000) : SideG n C M (starS a) := by
  obtain ⟨f1, f2⟩ := foldB_G (starG a) a.1.length a.1.length a.2.2.2.1 (n := n) (B := 2 * C) (fun i j hi hj => by
    rw [ha.ls] at hi hj
    have q := adI_cb (ha.ee hi) (ha.ef hj) (by omega) (by omega)
    unfold CB at q
    unfold starG
    simp only
    omega) ha.srt ha.arcs
  exact ⟨ha.ls, ha.lf, ha.le, ha.cf, ha.ce, ⟨Int.le_refl _, .inl hC.1⟩, f1, f2, ha.sets⟩
def wgtS (a : SideT) (w : Int) : SideT := sd a.1 (a.2.1.map fun x => adI x w) a.2.2.1 a.2.2.2.1 (adI a.2.2.2.2.1 w)
theorem wgt_G {n M : Nat} {C w : Int} {a : SideT} (ha : SideG n C M a) (hC : 0 ≤ C ∧ C ≤ 100000000) (hw : 0 ≤ w ∧ w ≤ 6) : SideG n (C + 6) M (wgtS a w) := by
  have cw : CB 6 w := ⟨hw.1, .inl hw.2⟩
  refine ⟨ha.ls, by simp only [wgtS, sd, List.length_map, ha.lf], ha.le, fun x hx => ?_, fun x hx => (ha.ce x hx).up (by omega), adI_cb ha.cn cw (by omega) (by omega), ha.srt, ha.arcs.up (Nat.le_refl _) (by omega), ha.sets⟩
  obtain ⟨y, hy, rfl⟩ := List.mem_map.1 hx
  exact adI_cb (ha.cf y hy) cw (by omega) (by omega)
theorem none_G {n M : Nat} {C : Int} {a : SideT} (ha : SideG n C M a) (hC : 0 ≤ C) : SideG n C M (sd a.1 a.2.1 a.2.2.1 a.2.2.2.1 0) :=
  ⟨ha.ls, ha.lf, ha.le, ha.cf, ha.ce, ⟨Int.le_refl _, .inl hC⟩, ha.srt, ha.arcs, ha.sets⟩
def timS (a : SideT) (lo : Int) : Nat → SideT → SideT
  | 0, s => s
  | k + 1, s => timS a lo k (if ((k + 1 : Nat) : Int) > lo then sd (catS a s).1 (catS a s).2.1 (catS a s).2.2.1 (catS a s).2.2.2.1 0 else catS a s)
theorem tim_G {n M : Nat} {C lo : Int} {a : SideT} (ha : SideG n C M a) (hC : 0 ≤ C ∧ C ≤ 1000000) : ∀ (k m : Nat) (q : Nat) (s : SideT), q + k ≤ 20 → SideG m ((q : Int) * C) M s → SideG (k * n + m) (((q + k : Nat) : Int) * C) M (timS a lo k s)
  | 0, m, q, s, hq, hs => by simpa [timS] using hs
  | k + 1, m, q, s, hq, hs => by
    have hqc : 0 ≤ (q : Int) * C ∧ (q : Int) * C ≤ 20000000 := ⟨Int.mul_nonneg (by omega) hC.1, by
      have : (q : Int) * C ≤ 20 * 1000000 := Int.mul_le_mul (by omega) hC.2 hC.1 (by omega)
      omega⟩
    have h := cat_G ha hs (by omega) (by omega)
    have e1 : C + (q : Int) * C = ((q + 1 : Nat) : Int) * C := by
      rw [show ((q + 1 : Nat) : Int) = (q : Int) + 1 by omega, Int.add_mul, Int.one_mul, Int.add_comm]
    rw [e1] at h
    have h' : SideG (n + m) (((q + 1 : Nat) : Int) * C) M (if ((k + 1 : Nat) : Int) > lo then sd (catS a s).1 (catS a s).2.1 (catS a s).2.2.1 (catS a s).2.2.2.1 0 else catS a s) := by
      split
      · exact none_G h (Int.mul_nonneg (by omega) hC.1)
      · exact h
    have := tim_G (lo := lo) ha hC k (n + m) (q + 1) _ (by omega) h'
    rw [timS, show (k + 1) * n + m = k * n + (n + m) by rw [Nat.add_mul]; omega, show q + (k + 1) = q + 1 + k by omega]
    exact this
end Go.Proofs.YtgojfdimbciaiaaE
set_option linter.unusedSimpArgs false
set_option linter.unusedVariables false
set_option maxRecDepth 20000
namespace Go.Proofs.YtgojfdimbciaiaaE
abbrev ClsT := Tree (Int × (Int × (Int × (ByteArray × Unit))))
abbrev DefT := ByteArray × (ClsT × Unit)
abbrev RuleT := Int × (Int × (RexT × (RexT × Unit)))
abbrev FileT := List DefT × (List RuleT × Unit)
def sizeR : Nat → RexT → Nat
  | 0, x => if x.a.1 = 1 then 0 else 1
  | h + 1, x => if x.a.1 = 1 then 0 else if x.a.1 = 2 ∨ x.a.1 = 3 then 1 else if x.a.1 = 7 then (x.l.map (sizeR h)).sum * x.a.2.2.1.toNat else (x.l.map (sizeR h)).sum
theorem sizeR_le {w : Bool} : ∀ (h : Nat) (x : RexT), RexP w h x → sizeR h x ≤ 4 ^ h
  | 0, x, _ => by unfold sizeR; split <;> simp
  | h + 1, x, p => by
    have hp : 1 ≤ 4 ^ h := Nat.one_le_pow _ _ (by omega)
    have e4 : 4 ^ (h + 1) = 4 ^ h * 4 := Nat.pow_succ 4 h
    unfold sizeR
    split
    · omega
    · split
      · omega
      · rename_i h1 h2
        rcases p with p | ⟨a, p, q, e, hp1, hq1⟩ | ⟨a, p, e, hp1⟩ | ⟨a, b, p, e, hp1⟩ | ⟨a, _, b, p, e, hp1⟩
        · unfold Leaf at p; omega
        · have g1 := sizeR_le h p hp1
          have g2 := sizeR_le h q hq1
          rw [e, if_neg (by omega)]
          simp only [List.map_cons, List.map_nil, List.sum_cons, List.sum_nil]
          omega
        · have g1 := sizeR_le h p hp1
          rw [e, if_neg (by omega)]
          simp only [List.map_cons, List.map_nil, List.sum_cons, List.sum_nil]
          omega
        · have g1 := sizeR_le h p hp1
          rw [e, if_pos a]
          simp only [List.map_cons, List.map_nil, List.sum_cons, List.sum_nil, Nat.add_zero]
          rw [e4]
          exact Nat.mul_le_mul g1 (by omega)
        · have g1 := sizeR_le h p hp1
          rw [e, if_neg (by omega)]
          simp only [List.map_cons, List.map_nil, List.sum_cons, List.sum_nil]
          omega
abbrev UnfT := Int × (Int × (Int × (Int × (ByteArray × (List RexT × Unit)))))
theorem F43_0_ok (k : Nat) (f : RexT → Option ((Int × Unit) × Unit)) (sz : RexT → Nat) (c : UnfT) (hf : ∀ p ∈ c.2.2.2.2.2.1, f p = some (((sz p : Int), ()), ())) (hl : c.2.2.2.2.2.1.length ≤ 1000) (hs : (c.2.2.2.2.2.1.map sz).sum ≤ 100000000) : ∀ (d m i t : Nat), i + d = c.2.2.2.2.2.1.length → d < m → t + ((c.2.2.2.2.2.1.drop i).map sz).sum = (c.2.2.2.2.2.1.map sz).sum →
    F43_0 k f m (t : Int) (i : Int) c = some (((((c.2.2.2.2.2.1.map sz).sum : Nat) : Int), ()), (c, ()))
  | 0, m, i, t, hi, hm, ht => by
    obtain ⟨m, rfl⟩ : ∃ m', m = m' + 1 := ⟨m - 1, by omega⟩
    obtain rfl : i = c.2.2.2.2.2.1.length := by omega
    rw [List.drop_length, List.map_nil, List.sum_nil, Nat.add_zero] at ht
    simp only [F43_0]
    rw [dnlt, cond_false, ht]
  | d + 1, m, i, t, hi, hm, ht => by
    obtain ⟨m, rfl⟩ : ∃ m', m = m' + 1 := ⟨m - 1, by omega⟩
    have hlt : i < c.2.2.2.2.2.1.length := by omega
    rw [List.drop_eq_getElem_cons hlt, List.map_cons, List.sum_cons] at ht
    have ih := F43_0_ok k f sz c hf hl hs d m (i + 1) (t + sz c.2.2.2.2.2.1[i]) (by omega) (by omega) (by omega)
    have hmin : minI (((t + sz c.2.2.2.2.2.1[i] : Nat) : Int)) 1000000000 = ((t + sz c.2.2.2.2.2.1[i] : Nat) : Int) := by
      unfold minI
      rw [if_neg (by omega)]
    simp only [F43_0]
    rw [dlt hlt, cond_true, if_pos (inR hlt), show Int.toNat (i : Int) = i from rfl, getD_lt _ i _ hlt, hf _ (List.getElem_mem hlt), Option.bind_some]
    simp only
    rw [wadd t _ (by omega), hmin, wsucc i _ hlt (by omega), ih]
    rfl
theorem R43_ok {w : Bool} : ∀ (h k : Nat) (x : RexT), h ≤ 8 → RexP w h x → h + 100 ≤ k → R43 k x = some (((sizeR h x : Int), ()), ())
  | 0, k, x, h8, p, hk => by
    obtain ⟨k, rfl⟩ : ∃ k', k = k' + 1 := ⟨k - 1, by omega⟩
    rw [R43, B43]
    unfold sizeR
    rcases p with p | p | p <;> rw [p] <;> rfl
  | h + 1, k, x, h8, p, hk => by
    obtain ⟨k, rfl⟩ : ∃ k', k = k' + 1 := ⟨k - 1, by omega⟩
    have hle := sizeR_le (h + 1) x p
    have hpow : 4 ^ (h + 1) ≤ 4 ^ 8 := Nat.pow_le_pow_right (by omega) h8
    have h48 : (4 : Nat) ^ 8 = 65536 := by decide
    have h1p : 1 ≤ 4 ^ h := Nat.one_le_pow _ _ (by omega)
    have hpow2 : 4 ^ h ≤ 4 ^ 8 := Nat.pow_le_pow_right (by omega) (by omega)
    rw [R43, B43]
    by_cases c1 : x.a.1 = 1
    · rw [beq_iff_eq.2 c1, cond_true]
      unfold sizeR
      rw [if_pos c1]
      rfl
    rw [beq_false_of_ne c1, cond_false]
    by_cases c2 : x.a.1 = 2
    · rw [beq_iff_eq.2 c2, cond_true]
      unfold sizeR
      rw [if_neg c1, if_pos (.inl c2)]
      rfl
    rw [beq_false_of_ne c2, cond_false]
    by_cases c3 : x.a.1 = 3
    · rw [beq_iff_eq.2 c3, cond_true]
      unfold sizeR
      rw [if_neg c1, if_pos (.inr c3)]
      rfl
    rw [beq_false_of_ne c3, cond_false]
    have loop : ∀ (hl : x.l.length ≤ 2) (hP : ∀ p ∈ x.l, RexP w h p), F43_0 k (R43 k) k 0 0 (x.a.1, (x.a.2.1, (x.a.2.2.1, (x.a.2.2.2.1, (x.a.2.2.2.2.1, (x.l, ())))))) = some (((((x.l.map (sizeR h)).sum : Nat) : Int), ()), ((x.a.1, (x.a.2.1, (x.a.2.2.1, (x.a.2.2.2.1, (x.a.2.2.2.2.1, (x.l, ())))))), ())) ∧ (x.l.map (sizeR h)).sum ≤ 2 * 65536 := fun hl hP => by
      have hsum : (x.l.map (sizeR h)).sum ≤ 2 * 65536 := by
        match hx : x.l, hl with
        | [], _ => simp
        | [p], _ => have := sizeR_le h p (hP p (by rw [hx]; simp)); simp only [List.map_cons, List.map_nil, List.sum_cons, List.sum_nil]; omega
        | [p, q], _ =>
          have := sizeR_le h p (hP p (by rw [hx]; simp))
          have := sizeR_le h q (hP q (by rw [hx]; simp))
          simp only [List.map_cons, List.map_nil, List.sum_cons, List.sum_nil]; omega
      refine ⟨F43_0_ok k (R43 k) (sizeR h) (x.a.1, (x.a.2.1, (x.a.2.2.1, (x.a.2.2.2.1, (x.a.2.2.2.2.1, (x.l, ())))))) (fun p hp => R43_ok h k p (by omega) (hP p hp) (by omega)) (show x.l.length ≤ 1000 by omega) (show (x.l.map (sizeR h)).sum ≤ 100000000 by omega) x.l.length k 0 0 (Nat.zero_add _) (by omega) ?_, hsum⟩
      rw [List.drop_zero, Nat.zero_add]
    have hshape : x.l.length ≤ 2 ∧ (∀ p ∈ x.l, RexP w h p) ∧ (x.a.1 = 7 → 0 ≤ x.a.2.2.1 ∧ x.a.2.2.1 ≤ 4) := by
      rcases p with p | ⟨a, p, q, e, hp1, hq1⟩ | ⟨a, p, e, hp1⟩ | ⟨a, b, p, e, hp1⟩ | ⟨a, _, b, p, e, hp1⟩
      · unfold Leaf at p; omega
      · rw [e]
        refine ⟨by simp, fun y hy => ?_, fun q => by omega⟩
        simp only [List.mem_cons, List.not_mem_nil, or_false] at hy
        rcases hy with rfl | rfl <;> assumption
      · rw [e]
        refine ⟨by simp, fun y hy => ?_, fun q => by omega⟩
        rw [List.mem_singleton] at hy
        subst hy; exact hp1
      · rw [e]
        refine ⟨by simp, fun y hy => ?_, fun q => by omega⟩
        rw [List.mem_singleton] at hy
        subst hy; exact hp1
      · rw [e]
        refine ⟨by simp, fun y hy => ?_, fun q => by omega⟩
        rw [List.mem_singleton] at hy
        subst hy; exact hp1
    obtain ⟨g1, g2, g3⟩ := hshape
    obtain ⟨e, hsum⟩ := loop g1 g2
    rw [e, Option.bind_some]
    simp only
    unfold sizeR
    rw [if_neg c1, if_neg (by omega)]
    by_cases c7 : x.a.1 = 7
    · obtain ⟨g4, g5⟩ := g3 c7
      rw [beq_iff_eq.2 c7, cond_true, if_pos c7]
      have hmul : (((x.l.map (sizeR h)).sum : Nat) : Int) * x.a.2.2.1 = (((x.l.map (sizeR h)).sum * x.a.2.2.1.toNat : Nat) : Int) := by
        rw [Int.natCast_mul, Int.toNat_of_nonneg g4]
      have hb : (x.l.map (sizeR h)).sum * x.a.2.2.1.toNat ≤ 2 * 65536 * 4 := Nat.mul_le_mul hsum (by omega)
      rw [hmul, w64 _ (by omega) (by omega)]
      unfold minI
      rw [if_neg (by omega)]
    · rw [beq_false_of_ne c7, cond_false, if_neg c7]

def fndI : List DefT → ByteArray → Nat → Int
  | [], _, _ => -1
  | d :: l, nm, i => if d.1.toList = nm.toList then (i : Int) else fndI l nm (i + 1)
def fnd (l : List DefT) (nm : ByteArray) : Int := fndI l nm 0
theorem fndI_range (nm : ByteArray) : ∀ (l : List DefT) (i : Nat), -1 ≤ fndI l nm i ∧ fndI l nm i < ((i + l.length : Nat) : Int) ∨ fndI l nm i = -1
  | [], i => .inr rfl
  | d :: l, i => by
    unfold fndI
    split
    · left
      simp only [List.length_cons]
      omega
    · rcases fndI_range nm l (i + 1) with h | h
      · left
        simp only [List.length_cons]
        omega
      · exact .inr h
theorem fnd_range (l : List DefT) (nm : ByteArray) : -1 ≤ fnd l nm ∧ fnd l nm < ((l.length : Nat) : Int) := by
  have := fndI_range nm l 0
  unfold fnd
  omega
theorem F55_0_ok (k : Nat) (nm : ByteArray) (c : FileT) (hl : c.1.length ≤ 1000) : ∀ (d m i : Nat), i + d = c.1.length → d < m →
    F55_0 k m nm (i : Int) c = some (if fndI (c.1.drop i) nm i = -1 then .inl ((), ()) else .inr ((fndI (c.1.drop i) nm i, ()), ()))
  | 0, m, i, hi, hm => by
    obtain ⟨m, rfl⟩ : ∃ m', m = m' + 1 := ⟨m - 1, by omega⟩
    obtain rfl : i = c.1.length := by omega
    simp only [F55_0]
    rw [dnlt, cond_false, List.drop_length, fndI, if_pos rfl]
  | d + 1, m, i, hi, hm => by
    obtain ⟨m, rfl⟩ : ∃ m', m = m' + 1 := ⟨m - 1, by omega⟩
    have hlt : i < c.1.length := by omega
    have ih := F55_0_ok k nm c hl d m (i + 1) (by omega) (by omega)
    rw [List.drop_eq_getElem_cons hlt, fndI]
    simp only [F55_0]
    rw [dlt hlt, cond_true, if_pos (inR hlt), show Int.toNat (i : Int) = i from rfl, getD_lt _ i _ hlt]
    by_cases he : c.1[i].1.toList = nm.toList
    · rw [beq_iff_eq.2 he, cond_true, if_pos he, if_neg (by omega)]
    · rw [beq_false_of_ne he, cond_false, if_neg he, wsucc i _ hlt (by omega), ih]
      rfl
theorem F55_ok (k : Nat) (c : FileT) (nm : ByteArray) (hl : c.1.length ≤ 1000) (hk : 10000000 ≤ k) : F55 k c nm = some ((fnd c.1 nm, ()), ()) := by
  have h := F55_0_ok k nm c hl c.1.length k 0 (by omega) (by omega)
  rw [List.drop_zero, show ((0 : Nat) : Int) = 0 from rfl] at h
  unfold F55
  rw [h, Option.bind_some]
  by_cases hc : fndI c.1 nm 0 = -1
  · rw [if_pos hc]
    unfold fnd
    rw [hc]
  · rw [if_neg hc]
    rfl

def leafS (fn : ByteArray → Int) (x : RexT) : SideT := if x.a.1 = 1 then sd [] [] [] [] 0 else if x.a.1 = 2 then sd [fn x.a.2.2.2.2.1] [0] [0] [] 1152921504606846976 else sd [-1] [0] [0] [] 1152921504606846976
def rex0 : RexT := Tree.mk (0, (0, (0, (0, (ByteArray.empty, ()))))) []
def sideS (fn : ByteArray → Int) : Nat → RexT → SideT
  | 0, x => leafS fn x
  | h + 1, x => if x.a.1 = 1 ∨ x.a.1 = 2 ∨ x.a.1 = 3 then leafS fn x
    else if x.a.1 = 4 then catS (sideS fn h (List.getD x.l 0 rex0)) (sideS fn h (List.getD x.l 1 rex0))
    else if x.a.1 = 5 then altS (sideS fn h (List.getD x.l 0 rex0)) (sideS fn h (List.getD x.l 1 rex0))
    else if x.a.1 = 6 then starS (sideS fn h (List.getD x.l 0 rex0))
    else if x.a.1 = 8 then wgtS (sideS fn h (List.getD x.l 0 rex0)) x.a.2.2.2.1
    else timS (sideS fn h (List.getD x.l 0 rex0)) x.a.2.1 x.a.2.2.1.toNat (sd [] [] [] [] 0)
def cB : Nat → Int
  | 0 => 0
  | h + 1 => 4 * cB h + 6
theorem cB_range : ∀ h : Nat, h ≤ 6 → 0 ≤ cB h ∧ cB h ≤ 9000
  | 0, _ => by decide
  | 1, _ => by decide
  | 2, _ => by decide
  | 3, _ => by decide
  | 4, _ => by decide
  | 5, _ => by decide
  | 6, _ => by decide
  | h + 7, q => by omega
theorem leaf_G (fn : ByteArray → Int) (M : Nat) (hfn : ∀ nm, -1 ≤ fn nm ∧ fn nm < (M : Int)) (x : RexT) (p : Leaf x) (C : Int) (hC : 0 ≤ C) : SideG (if x.a.1 = 1 then 0 else 1) C M (leafS fn x) := by
  have c0 : CB C 0 := ⟨Int.le_refl _, .inl hC⟩
  have cI : CB C 1152921504606846976 := ⟨by decide, .inr rfl⟩
  unfold leafS
  split
  · exact ⟨rfl, rfl, rfl, fun x hx => (by cases hx), fun x hx => (by cases hx), c0, List.Pairwise.nil, fun x hx => (by cases hx), fun x hx => (by cases hx)⟩
  · split
    · exact ⟨rfl, rfl, rfl, fun x hx => (by rw [List.mem_singleton.1 hx]; exact c0), fun x hx => (by rw [List.mem_singleton.1 hx]; exact c0), cI, List.Pairwise.nil, fun x hx => (by cases hx), fun x hx => (by rw [List.mem_singleton.1 hx]; exact hfn _)⟩
    · exact ⟨rfl, rfl, rfl, fun x hx => (by rw [List.mem_singleton.1 hx]; exact c0), fun x hx => (by rw [List.mem_singleton.1 hx]; exact c0), cI, List.Pairwise.nil, fun x hx => (by cases hx), fun x hx => (by rw [List.mem_singleton.1 hx]; omega)⟩
theorem sizeR_leaf {h : Nat} {x : RexT} (p : Leaf x) : sizeR h x = if x.a.1 = 1 then 0 else 1 := by
  cases h with
  | zero => rfl
  | succ h =>
    unfold sizeR
    unfold Leaf at p
    split
    · rfl
    · rw [if_pos (by omega)]
theorem sideS_leaf {fn : ByteArray → Int} {h : Nat} {x : RexT} (p : Leaf x) : sideS fn h x = leafS fn x := by
  cases h with
  | zero => rfl
  | succ h => unfold sideS; exact if_pos p
theorem empty_G (M : Nat) (C : Int) (hC : 0 ≤ C) : SideG 0 C M (sd [] [] [] [] 0) :=
  ⟨rfl, rfl, rfl, fun x hx => (by cases hx), fun x hx => (by cases hx), ⟨Int.le_refl _, .inl hC⟩, List.Pairwise.nil, fun x hx => (by cases hx), fun x hx => (by cases hx)⟩
theorem side_G {w : Bool} (fn : ByteArray → Int) (M : Nat) (hfn : ∀ nm, -1 ≤ fn nm ∧ fn nm < (M : Int)) : ∀ (h : Nat) (x : RexT), h ≤ 6 → RexP w h x → SideG (sizeR h x) (cB h) M (sideS fn h x)
  | 0, x, _, p => by
    rw [sizeR_leaf p, sideS_leaf p]
    exact leaf_G fn M hfn x p _ (by decide)
  | h + 1, x, h6, p => by
    have hc := cB_range h (by omega)
    have hc2 : cB (h + 1) = 4 * cB h + 6 := rfl
    rcases p with p | ⟨a, p, q, e, hp1, hq1⟩ | ⟨a, p, e, hp1⟩ | ⟨a, b, p, e, hp1⟩ | ⟨a, _, b, p, e, hp1⟩
    · rw [sizeR_leaf p, sideS_leaf p]
      exact leaf_G fn M hfn x p _ (by omega)
    · have g1 := side_G fn M hfn h p (by omega) hp1
      have g2 := side_G fn M hfn h q (by omega) hq1
      unfold sizeR sideS
      rw [if_neg (by omega), if_neg (by omega), if_neg (by omega), if_neg (by omega), e]
      simp only [List.map_cons, List.map_nil, List.sum_cons, List.sum_nil, Nat.add_zero, List.getD_cons_zero, List.getD_cons_succ]
      rcases a with a | a
      · rw [if_pos a]
        exact (cat_G g1 g2 (by omega) (by omega)).up (by omega)
      · rw [if_neg (by omega), if_pos a]
        exact (alt_G g1 g2).up (by omega)
    · have g1 := side_G fn M hfn h p (by omega) hp1
      unfold sizeR sideS
      rw [if_neg (by omega), if_neg (by omega), if_neg (by omega), if_neg (by omega), if_neg (by omega), if_neg (by omega), if_pos a, e]
      simp only [List.map_cons, List.map_nil, List.sum_cons, List.sum_nil, Nat.add_zero, List.getD_cons_zero]
      exact (star_G g1 (by omega)).up (by omega)
    · have g1 := side_G fn M hfn h p (by omega) hp1
      unfold sizeR sideS
      rw [if_neg (by omega), if_neg (by omega), if_pos a, if_neg (by omega), if_neg (by omega), if_neg (by omega), if_neg (by omega), if_neg (by omega), e]
      simp only [List.map_cons, List.map_nil, List.sum_cons, List.sum_nil, Nat.add_zero, List.getD_cons_zero]
      have := tim_G (lo := x.a.2.1) g1 (by omega) x.a.2.2.1.toNat 0 0 (sd [] [] [] [] 0) (by omega) (by rw [show ((0 : Nat) : Int) * cB h = 0 by simp]; exact empty_G M 0 (Int.le_refl _))
      rw [Nat.add_zero, Nat.mul_comm, Nat.zero_add] at this
      refine this.up ?_
      have : ((x.a.2.2.1.toNat : Nat) : Int) * cB h ≤ 4 * cB h := Int.mul_le_mul_of_nonneg_right (by omega) hc.1
      omega
    · have g1 := side_G fn M hfn h p (by omega) hp1
      unfold sizeR sideS
      rw [if_neg (by omega), if_neg (by omega), if_neg (by omega), if_neg (by omega), if_neg (by omega), if_neg (by omega), if_neg (by omega), if_pos a, e]
      simp only [List.map_cons, List.map_nil, List.sum_cons, List.sum_nil, Nat.add_zero, List.getD_cons_zero]
      exact (wgt_G g1 (by omega) b).up (by omega)
end Go.Proofs.YtgojfdimbciaiaaE
set_option linter.unusedSimpArgs false
set_option linter.unusedVariables false
set_option maxRecDepth 20000
namespace Go.Proofs.YtgojfdimbciaiaaE
theorem get_pre {α : Type} (A rest : List α) (i : Nat) (d : α) (h1 : i < A.length) (h2 : i < rest.length) : List.getD (A.take i ++ rest.drop i) i d = List.getD rest i d := by
  rw [List.drop_eq_getElem_cons h2, List.getD_eq_getElem?_getD, List.getElem?_append_right (by rw [List.length_take]; omega), show i - (A.take i).length = 0 by rw [List.length_take]; omega, getD_lt rest i d h2]
  rfl
theorem F44_0_ok (k : Nat) (f : RexT → FileT → Option ((SideT × Unit) × Unit)) (c2 : UnfT) (c4 : SideT) (g F e : List Int) (l : List ArcT) (w' : Int) (hF : CstL F) (hw : Cst c2.2.2.2.1) (hl : F.length ≤ 1000) : ∀ (d m i : Nat), i + d = F.length → d < m →
    F44_0 k f m (i : Int) c2 c4 (sd g ((F.map fun x => adI x c2.2.2.2.1).take i ++ F.drop i) e l w') = some ((), (c4, (sd g (F.map fun x => adI x c2.2.2.2.1) e l w', ())))
  | 0, m, i, hi, hm => by
    obtain ⟨m, rfl⟩ : ∃ m', m = m' + 1 := ⟨m - 1, by omega⟩
    obtain rfl : i = F.length := by omega
    simp only [F44_0]
    rw [len_pre _ F F.length (by rw [List.length_map]; omega) (by omega), dnlt, cond_false, List.drop_length, List.append_nil, take_all _ _ (List.length_map _)]
  | d + 1, m, i, hi, hm => by
    obtain ⟨m, rfl⟩ : ∃ m', m = m' + 1 := ⟨m - 1, by omega⟩
    have hlt : i < F.length := by omega
    have hml : i < (F.map fun x => adI x c2.2.2.2.1).length := by rw [List.length_map]; exact hlt
    have ih := F44_0_ok k f c2 c4 g F e l w' hF hw hl d m (i + 1) (by omega) (by omega)
    have ge : adI (List.getD F i 0) c2.2.2.2.1 = List.getD (F.map fun x => adI x c2.2.2.2.1) i 0 := (getD_map (fun x => adI x c2.2.2.2.1) _ i 0 0 hlt).symm
    simp only [F44_0]
    rw [len_pre _ F i (by omega) (by omega), dlt hlt, cond_true, if_pos (inR hlt), show Int.toNat (i : Int) = i from rfl, get_pre _ F i 0 hml hlt, F37_ad k _ _ (hF.at_ hlt) hw, Option.bind_some]
    simp only
    rw [if_pos (inR hlt), ge, set_pre _ F i 0 hml hlt, wsucc i _ hlt (by omega), ih]
    rfl
theorem F44_1_ok (k : Nat) (f : RexT → FileT → Option ((SideT × Unit) × Unit)) (c2 : UnfT) (c4 a : SideT) (n M : Nat) (C : Int) (hk : 10000000 ≤ k) (ha : SideG n C M a) (hC : 0 ≤ C ∧ C ≤ 1000000) : ∀ (j m p q : Nat) (s : SideT), j < m → q + j ≤ 20 → j * n + p ≤ 500 → SideG p ((q : Int) * C) M s →
    F44_1 k f m (j : Int) c2 c4 s a = some ((), (c4, (timS a c2.2.1 j s, ())))
  | 0, m, p, q, s, hm, hq, hn, hs => by
    obtain ⟨m, rfl⟩ : ∃ m', m = m' + 1 := ⟨m - 1, by omega⟩
    simp only [F44_1]
    rw [decide_eq_false (by omega), cond_false]
    rfl
  | j + 1, m, p, q, s, hm, hq, hn, hs => by
    obtain ⟨m, rfl⟩ : ∃ m', m = m' + 1 := ⟨m - 1, by omega⟩
    have hqc : 0 ≤ (q : Int) * C ∧ (q : Int) * C ≤ 20000000 := ⟨Int.mul_nonneg (by omega) hC.1, by
      have : (q : Int) * C ≤ 20 * 1000000 := Int.mul_le_mul (by omega) hC.2 hC.1 (by omega)
      omega⟩
    have hn' : (j + 1) * n + p = j * n + (n + p) := by rw [Nat.add_mul]; omega
    have hnp : n + p ≤ 500 := by omega
    have sa := ha.sd (by omega) (by omega)
    have ss := hs.sd (by omega) (by omega)
    have h := cat_G ha hs (by omega) (by omega)
    have e1 : C + (q : Int) * C = ((q + 1 : Nat) : Int) * C := by
      rw [show ((q + 1 : Nat) : Int) = (q : Int) + 1 by omega, Int.add_mul, Int.one_mul, Int.add_comm]
    rw [e1] at h
    have la := srt_len ha.srt ha.arcs
    have ls := srt_len hs.srt hs.arcs
    have m1 : n * n ≤ 500 * 500 := Nat.mul_le_mul (by omega) (by omega)
    have m2 : p * p ≤ 500 * 500 := Nat.mul_le_mul (by omega) (by omega)
    have e56 := F56_ok k a s hk sa ss (by omega)
    have hj : IntKind.wrap .i64 (((j + 1 : Nat) : Int) - 1) = (j : Int) := by rw [w64 _ (by omega) (by omega)]; omega
    simp only [F44_1]
    rw [decide_eq_true (by omega), cond_true, e56, Option.bind_some]
    simp only
    rw [hj, timS]
    by_cases hgt : ((j + 1 : Nat) : Int) > c2.2.1
    · rw [decide_eq_true hgt, cond_true, if_pos hgt]
      have ih := F44_1_ok k f c2 c4 a n M C hk ha hC j m (n + p) (q + 1) (sd (catS a s).1 (catS a s).2.1 (catS a s).2.2.1 (catS a s).2.2.2.1 0) (by omega) (by omega) (by omega) (none_G h (Int.mul_nonneg (by omega) hC.1))
      have ih' : F44_1 k f m (j : Int) c2 c4 ((catS a s).1, ((catS a s).2.1, ((catS a s).2.2.1, ((catS a s).2.2.2.1, ((0 : Int), (catS a s).2.2.2.2.2))))) a = _ := ih
      rw [ih', Option.bind_some]
    · rw [decide_eq_false hgt, cond_false, if_neg hgt]
      have ih := F44_1_ok k f c2 c4 a n M C hk ha hC j m (n + p) (q + 1) (catS a s) (by omega) (by omega) (by omega) h
      rw [ih, Option.bind_some]
theorem R44_ok {w : Bool} (fl : FileT) (hfl : fl.1.length ≤ 1000) : ∀ (h k : Nat) (x : RexT), h ≤ 5 → RexP w h x → sizeR h x ≤ 500 → h + 10000000 < k → R44 k x fl = some ((sideS (fnd fl.1) h x, ()), ()) := by
  have leaf : ∀ (h k : Nat) (x : RexT), Leaf x → h + 10000000 < k → R44 k x fl = some ((sideS (fnd fl.1) h x, ()), ()) := by
    intro h k x p hk
    obtain ⟨k, rfl⟩ : ∃ k', k = k' + 1 := ⟨k - 1, by omega⟩
    have e54 := F54_ok k 1 (by omega) (by omega)
    rw [show ((1 : Nat) : Int) = 1 from rfl] at e54
    rw [sideS_leaf p]
    have hS : leafS (fnd fl.1) x = (if x.a.1 = 1 then sd [] [] [] [] 0 else if x.a.1 = 2 then sd [fnd fl.1 x.a.2.2.2.2.1] [0] [0] [] 1152921504606846976 else sd [-1] [0] [0] [] 1152921504606846976) := rfl
    generalize leafS (fnd fl.1) x = S at hS
    show B44 k (R44 k) x fl = _
    unfold B44
    rcases p with p | p | p
    · rw [if_pos p] at hS
      rw [hS, p, F53_ok k (by omega)]
      rfl
    · rw [if_neg (by omega), if_pos p] at hS
      rw [hS, p, e54, F55_ok k fl _ hfl (by omega)]
      rfl
    · rw [if_neg (by omega), if_neg (by omega)] at hS
      rw [hS, p, e54]
      rfl
  intro h
  induction h with
  | zero => intro k x _ p _ hk; exact leaf 0 k x p hk
  | succ h ih =>
    intro k x h5 p hsz hk
    by_cases hp : Leaf x
    · exact leaf (h + 1) k x hp hk
    obtain ⟨k, rfl⟩ : ∃ k', k = k' + 1 := ⟨k - 1, by omega⟩
    have hc := cB_range h (by omega)
    have hpow : ∀ y, RexP w h y → sizeR h y ≤ 500 := fun y hy => by
      have := sizeR_le h y hy
      have h2 : 4 ^ h ≤ 4 ^ 4 := Nat.pow_le_pow_right (by omega) (by omega)
      have h3 : (4 : Nat) ^ 4 = 256 := by decide
      omega
    have hrec : ∀ y, RexP w h y → R44 k y fl = some ((sideS (fnd fl.1) h y, ()), ()) ∧ SideG (sizeR h y) (cB h) fl.1.length (sideS (fnd fl.1) h y) := fun y hy => ⟨ih k y (by omega) hy (hpow y hy) (by omega), side_G (fnd fl.1) fl.1.length (fnd_range fl.1) h y (by omega) hy⟩
    have hx : ¬ (x.a.1 = 1 ∨ x.a.1 = 2 ∨ x.a.1 = 3) := hp
    have hS : sideS (fnd fl.1) (h + 1) x = (if x.a.1 = 4 then catS (sideS (fnd fl.1) h (List.getD x.l 0 rex0)) (sideS (fnd fl.1) h (List.getD x.l 1 rex0))
      else if x.a.1 = 5 then altS (sideS (fnd fl.1) h (List.getD x.l 0 rex0)) (sideS (fnd fl.1) h (List.getD x.l 1 rex0))
      else if x.a.1 = 6 then starS (sideS (fnd fl.1) h (List.getD x.l 0 rex0))
      else if x.a.1 = 8 then wgtS (sideS (fnd fl.1) h (List.getD x.l 0 rex0)) x.a.2.2.2.1
      else timS (sideS (fnd fl.1) h (List.getD x.l 0 rex0)) x.a.2.1 x.a.2.2.1.toNat (sd [] [] [] [] 0)) := by
      conv => lhs; unfold sideS
      exact if_neg hx
    generalize sideS (fnd fl.1) (h + 1) x = S at hS
    show B44 k (R44 k) x fl = _
    unfold B44
    rw [beq_false_of_ne (show ¬ x.a.1 = 1 by omega), beq_false_of_ne (show ¬ x.a.1 = 2 by omega), beq_false_of_ne (show ¬ x.a.1 = 3 by omega), cond_false, cond_false, cond_false]
    rcases p with p | ⟨a, p, q, e, hp1, hq1⟩ | ⟨a, p, e, hp1⟩ | ⟨a, b, p, e, hp1⟩ | ⟨a, _, b, p, e, hp1⟩
    · exact absurd p hp
    · obtain ⟨e1, g1⟩ := hrec p hp1
      obtain ⟨e2, g2⟩ := hrec q hq1
      have n1 := hpow p hp1
      have n2 := hpow q hq1
      have s1 := g1.sd n1 (by omega)
      have s2 := g2.sd n2 (by omega)
      have m1 : sizeR h p * sizeR h p ≤ 500 * 500 := Nat.mul_le_mul n1 n1
      have m2 : sizeR h q * sizeR h q ≤ 500 * 500 := Nat.mul_le_mul n2 n2
      have l1 := srt_len g1.srt g1.arcs
      have l2 := srt_len g2.srt g2.arcs
      have i0 : (0 : Int) ≤ 0 ∧ (0 : Int) < ((([p, q] : List RexT).length : Nat) : Int) := by simp only [List.length_cons, List.length_nil]; omega
      have i1 : (0 : Int) ≤ 1 ∧ (1 : Int) < ((([p, q] : List RexT).length : Nat) : Int) := by simp only [List.length_cons, List.length_nil]; omega
      rw [e] at hS ⊢
      rcases a with a | a
      · rw [if_pos a] at hS
        rw [hS, a, show ((4 : Int) == 4) = true from rfl, cond_true, if_pos i0, if_pos i1]
        simp only [show Int.toNat 0 = 0 from rfl, show Int.toNat 1 = 1 from rfl, List.getD_cons_zero, List.getD_cons_succ]
        rw [e1, Option.bind_some, e2, Option.bind_some]
        simp only
        rw [F56_ok k _ _ (by omega) s1 s2 (by omega), Option.bind_some]
      · rw [if_neg (by omega), if_pos a] at hS
        rw [hS, a, show ((5 : Int) == 4) = false from rfl, cond_false, show ((5 : Int) == 5) = true from rfl, cond_true, if_pos i0, if_pos i1]
        simp only [show Int.toNat 0 = 0 from rfl, show Int.toNat 1 = 1 from rfl, List.getD_cons_zero, List.getD_cons_succ]
        rw [e1, Option.bind_some, e2, Option.bind_some]
        simp only
        rw [F57_ok k _ _ (by omega) s1 s2, Option.bind_some]
    · obtain ⟨e1, g1⟩ := hrec p hp1
      have s1 := g1.sd (hpow p hp1) (by omega)
      have i0 : (0 : Int) ≤ 0 ∧ (0 : Int) < ((([p] : List RexT).length : Nat) : Int) := by simp only [List.length_cons, List.length_nil]; omega
      rw [if_neg (by omega), if_neg (by omega), if_pos a, e] at hS
      rw [hS, e, a, show ((6 : Int) == 4) = false from rfl, cond_false, show ((6 : Int) == 5) = false from rfl, cond_false, show ((6 : Int) == 6) = true from rfl, cond_true, if_pos i0]
      simp only [show Int.toNat 0 = 0 from rfl, List.getD_cons_zero]
      rw [e1, Option.bind_some]
      simp only
      rw [F58_ok k _ (by omega) s1, Option.bind_some]
    · obtain ⟨e1, g1⟩ := hrec p hp1
      have s1 := g1.sd (hpow p hp1) (by omega)
      have i0 : (0 : Int) ≤ 0 ∧ (0 : Int) < ((([p] : List RexT).length : Nat) : Int) := by simp only [List.length_cons, List.length_nil]; omega
      have hszp : sizeR h p * x.a.2.2.1.toNat ≤ 500 := by
        unfold sizeR at hsz
        rw [if_neg (by omega), if_neg (by omega), if_pos a, e] at hsz
        simpa only [List.map_cons, List.map_nil, List.sum_cons, List.sum_nil, Nat.add_zero] using hsz
      have hi : x.a.2.2.1 = ((x.a.2.2.1.toNat : Nat) : Int) := by omega
      have e44 := F44_1_ok k (R44 k) (x.a.1, (x.a.2.1, (x.a.2.2.1, (x.a.2.2.2.1, (x.a.2.2.2.2.1, (x.l, ())))))) (sd [] [] [] [] 0) (sideS (fnd fl.1) h p) (sizeR h p) fl.1.length (cB h) (by omega) g1 (by omega) x.a.2.2.1.toNat k 0 0 (sd [] [] [] [] 0) (by omega) (by omega) (by rw [Nat.add_zero, Nat.mul_comm]; exact hszp) (by rw [show ((0 : Nat) : Int) * cB h = 0 by simp]; exact empty_G _ 0 (Int.le_refl _))
      rw [← hi, e, a] at e44
      have e44' : F44_1 k (R44 k) k x.a.2.2.1 ((7 : Int), (x.a.2.1, (x.a.2.2.1, (x.a.2.2.2.1, (x.a.2.2.2.2.1, ([p], ())))))) ([], ([], ([], ([], ((0 : Int), ()))))) (sd [] [] [] [] 0) (sideS (fnd fl.1) h p) = _ := e44
      rw [if_neg (by omega), if_neg (by omega), if_neg (by omega), if_neg (by omega), e] at hS
      rw [hS, e, a, show ((7 : Int) == 4) = false from rfl, cond_false, show ((7 : Int) == 5) = false from rfl, cond_false, show ((7 : Int) == 6) = false from rfl, cond_false, show ((7 : Int) == 8) = false from rfl, cond_false, if_pos i0]
      simp only [show Int.toNat 0 = 0 from rfl, List.getD_cons_zero]
      rw [F53_ok k (by omega), Option.bind_some, e1, Option.bind_some]
      simp only
      rw [e44', Option.bind_some]
    · obtain ⟨e1, g1⟩ := hrec p hp1
      have s1 := g1.sd (hpow p hp1) (by omega)
      have i0 : (0 : Int) ≤ 0 ∧ (0 : Int) < ((([p] : List RexT).length : Nat) : Int) := by simp only [List.length_cons, List.length_nil]; omega
      have hw : Cst x.a.2.2.2.1 := by unfold Cst; omega
      have e44 := F44_0_ok k (R44 k) (x.a.1, (x.a.2.1, (x.a.2.2.1, (x.a.2.2.2.1, (x.a.2.2.2.2.1, (x.l, ())))))) (sd [] [] [] [] 0) (sideS (fnd fl.1) h p).1 (sideS (fnd fl.1) h p).2.1 (sideS (fnd fl.1) h p).2.2.1 (sideS (fnd fl.1) h p).2.2.2.1 (adI (sideS (fnd fl.1) h p).2.2.2.2.1 x.a.2.2.2.1) s1.cf hw (by have := s1.lf; have := s1.n; omega) (sideS (fnd fl.1) h p).2.1.length k 0 (Nat.zero_add _) (by have := s1.lf; have := s1.n; omega)
      rw [List.take_zero, List.drop_zero, List.nil_append, e, a, show ((0 : Nat) : Int) = 0 from rfl] at e44
      have e44' : F44_0 k (R44 k) k 0 ((8 : Int), (x.a.2.1, (x.a.2.2.1, (x.a.2.2.2.1, (x.a.2.2.2.2.1, ([p], ())))))) ([], ([], ([], ([], ((0 : Int), ()))))) ((sideS (fnd fl.1) h p).1, ((sideS (fnd fl.1) h p).2.1, ((sideS (fnd fl.1) h p).2.2.1, ((sideS (fnd fl.1) h p).2.2.2.1, (adI (sideS (fnd fl.1) h p).2.2.2.2.1 x.a.2.2.2.1, (sideS (fnd fl.1) h p).2.2.2.2.2))))) = _ := e44
      rw [if_neg (by omega), if_neg (by omega), if_neg (by omega), if_pos a, e] at hS
      rw [hS, e, a, show ((8 : Int) == 4) = false from rfl, cond_false, show ((8 : Int) == 5) = false from rfl, cond_false, show ((8 : Int) == 6) = false from rfl, cond_false, show ((8 : Int) == 8) = true from rfl, cond_true, if_pos i0]
      simp only [show Int.toNat 0 = 0 from rfl, List.getD_cons_zero]
      rw [e1, Option.bind_some]
      simp only
      rw [F37_ad k _ _ s1.cn hw, Option.bind_some]
      simp only
      rw [e44', Option.bind_some]
      rfl
theorem rex_eta (x : RexT) : Tree.mk ((Tree.a x).1, ((Tree.a x).2.1, ((Tree.a x).2.2.1, ((Tree.a x).2.2.2.1, ((Tree.a x).2.2.2.2.1, ()))))) (Tree.l x) = x := by
  cases x
  rfl
theorem F22_ok {w : Bool} (k : Nat) (x : RexT) (fl : FileT) (hfl : fl.1.length ≤ 1000) (hx : RexP w 5 x) (hk : 20000000 ≤ k) :
    F22 k x fl = some ((if sizeR 5 x > 120 then (sd [] [] [] [] 0, (false, ())) else (sideS (fnd fl.1) 5 x, (true, ()))), ()) := by
  unfold F22
  simp only [rex_eta]
  have e43 : F43 k x = some (((sizeR 5 x : Int), ()), ()) := R43_ok 5 k x (by omega) hx (by omega)
  rw [e43, Option.bind_some]
  simp only
  by_cases hs : sizeR 5 x > 120
  · rw [decide_eq_true (by omega), cond_true, if_pos hs]
  · have e44 : F44 k x fl = some ((sideS (fnd fl.1) 5 x, ()), ()) := R44_ok fl hfl 5 k x (Nat.le_refl _) hx (by omega) (by omega)
    rw [decide_eq_false (by omega), cond_false, if_neg hs, e44, Option.bind_some]
end Go.Proofs.YtgojfdimbciaiaaE
set_option linter.unusedSimpArgs false
set_option linter.unusedVariables false
set_option maxRecDepth 20000
namespace Go.Proofs.YtgojfdimbciaiaaE
def ClsL (P : ByteArray → Prop) (x : ClsT) : Prop := x.l = [] ∧ (x.a.1 = 1 ∨ (x.a.1 = 2 ∧ P x.a.2.2.2.1) ∨ x.a.1 = 3)
def ClsP (P : ByteArray → Prop) : Nat → ClsT → Prop
  | 0, x => ClsL P x
  | h + 1, x => ClsL P x ∨ (x.a.1 = 4 ∧ ∃ p, x.l = [p] ∧ ClsP P h p) ∨ ((x.a.1 = 5 ∨ x.a.1 = 6 ∨ x.a.1 = 7) ∧ ∃ p q, x.l = [p, q] ∧ ClsP P h p ∧ ClsP P h q)
theorem ClsL.mono {P Q : ByteArray → Prop} (hPQ : ∀ nm, P nm → Q nm) {x : ClsT} (h : ClsL P x) : ClsL Q x := ⟨h.1, h.2.imp id fun q => q.imp (fun r => ⟨r.1, hPQ _ r.2⟩) id⟩
theorem ClsP.mono {P Q : ByteArray → Prop} (hPQ : ∀ nm, P nm → Q nm) : ∀ {h : Nat} {x : ClsT}, ClsP P h x → ClsP Q h x
  | 0, x, p => ClsL.mono hPQ p
  | h + 1, x, p => by
    rcases p with p | ⟨a, p, e, hp⟩ | ⟨a, p, q, e, hp, hq⟩
    · exact .inl (p.mono hPQ)
    · exact .inr (.inl ⟨a, p, e, hp.mono hPQ⟩)
    · exact .inr (.inr ⟨a, p, q, e, hp.mono hPQ, hq.mono hPQ⟩)
theorem ClsP.leaf {P : ByteArray → Prop} {x : ClsT} (p : ClsL P x) : ∀ h, ClsP P h x
  | 0 => p
  | _ + 1 => .inl p
def def0 : DefT := (ByteArray.empty, (Tree.mk (0, (0, (0, (ByteArray.empty, ())))) [], ()))
theorem R41_ok (ahead : List DefT) (h0 : 0 < ahead.length) (h1 : ahead.length ≤ 1000) : ∀ (e d k : Nat) (n : Int), d + e = 4 → e < k → 0 ≤ n → n ≤ 1099511627776 → ∃ x, R41 k n ahead (d : Int) = some ((x, ()), (ahead, ())) ∧ ClsP (fun nm => ∃ y ∈ ahead, y.1 = nm) e x := by
  intro e
  induction e with
  | zero =>
    intro d k n hd hk hn hn2
    obtain ⟨k, rfl⟩ : ∃ k', k = k' + 1 := ⟨k - 1, by omega⟩
    show ∃ x, B41 k (R41 k) n ahead (d : Int) = some ((x, ()), (ahead, ())) ∧ _
    unfold B41
    rw [F42_eq k n 16 (by omega) (by omega), Option.bind_some]
    simp only
    rw [F42_eq k _ 50 (by omega) (by omega), Option.bind_some, decide_eq_true (show (d : Int) > 3 by omega), cond_true]
    cases decide (n % 16 < 5) with
    | true => rw [cond_true]; exact ⟨_, rfl, rfl, .inl rfl⟩
    | false => rw [cond_false]; exact ⟨_, rfl, rfl, .inl rfl⟩
  | succ e ih =>
    intro d k n hd hk hn hn2
    obtain ⟨k, rfl⟩ : ∃ k', k = k' + 1 := ⟨k - 1, by omega⟩
    have hm : IntKind.wrap .i64 (Int.tdiv n 16) = n / 16 := by rw [Int.tdiv_eq_ediv_of_nonneg hn, w64 _ (by omega) (by omega)]
    have hm3 : IntKind.wrap .i64 (Int.tdiv (n / 16) 3) = n / 16 / 3 := by rw [Int.tdiv_eq_ediv_of_nonneg (by omega), w64 _ (by omega) (by omega)]
    have hm48 : IntKind.wrap .i64 (Int.tdiv (n / 16) 48) = n / 16 / 48 := by rw [Int.tdiv_eq_ediv_of_nonneg (by omega), w64 _ (by omega) (by omega)]
    have hd1 : IntKind.wrap .i64 ((d : Int) + 1) = ((d + 1 : Nat) : Int) := by rw [w64 _ (by omega) (by omega)]; omega
    have ht : Int.tmod (n / 16) 3 = n / 16 % 3 := Int.tmod_eq_emod_of_nonneg (by omega)
    have hk5 : IntKind.wrap .i64 (5 + n / 16 % 3) = 5 + n / 16 % 3 := w64 _ (by omega) (by omega)
    obtain ⟨p1, e1, q1⟩ := ih (d + 1) k (n / 16) (by omega) (by omega) (by omega) (by omega)
    obtain ⟨p2, e2, q2⟩ := ih (d + 1) k (n / 16 / 3) (by omega) (by omega) (by omega) (by omega)
    obtain ⟨p3, e3, q3⟩ := ih (d + 1) k (n / 16 / 48) (by omega) (by omega) (by omega) (by omega)
    have el := F42_eq k (n / 16) ((ahead.length : Nat) : Int) (by omega) (by omega)
    have hml := Int.emod_nonneg (n / 16) (show ((ahead.length : Nat) : Int) ≠ 0 by omega)
    have hml2 := Int.emod_lt_of_pos (n / 16) (show 0 < ((ahead.length : Nat) : Int) by omega)
    show ∃ x, B41 k (R41 k) n ahead (d : Int) = some ((x, ()), (ahead, ())) ∧ _
    unfold B41
    simp only [hm, hm3, hm48, hd1, ht, hk5, two_list, one_list]
    rw [F42_eq k n 16 (by omega) (by omega), Option.bind_some, decide_eq_false (show ¬ (d : Int) > 3 by omega), cond_false, F42_eq k (n / 16) 50 (by omega) (by omega), F42_eq k (n / 16) 1114112 (by omega) (by omega)]
    simp only [Option.bind_some]
    rw [el, e1, e2]
    simp only [Option.bind_some]
    rw [e3]
    simp only [Option.bind_some]
    by_cases c1 : n % 16 < 5
    · rw [decide_eq_true c1, cond_true]
      exact ⟨_, rfl, .inl ⟨rfl, .inl rfl⟩⟩
    rw [decide_eq_false c1, cond_false]
    by_cases c2 : n % 16 < 6
    · rw [decide_eq_true c2, cond_true]
      exact ⟨_, rfl, .inl ⟨rfl, .inl rfl⟩⟩
    rw [decide_eq_false c2, cond_false, decide_eq_true (show ((ahead.length : Nat) : Int) > 0 by omega), cond_true]
    by_cases c3 : n % 16 < 8
    · rw [decide_eq_true c3, cond_true, if_pos ⟨hml, hml2⟩]
      refine ⟨_, rfl, .inl ⟨rfl, .inr (.inl ⟨rfl, _, getD_mem (d := def0) (show (n / 16 % ((ahead.length : Nat) : Int)).toNat < ahead.length by omega), rfl⟩)⟩⟩
    rw [decide_eq_false c3, cond_false]
    by_cases c4 : n % 16 < 9
    · rw [decide_eq_true c4, cond_true]
      exact ⟨_, rfl, .inl ⟨rfl, .inr (.inr rfl)⟩⟩
    rw [decide_eq_false c4, cond_false]
    by_cases c5 : n % 16 < 10
    · rw [decide_eq_true c5, cond_true]
      exact ⟨_, rfl, .inr (.inl ⟨rfl, p1, rfl, q1⟩)⟩
    rw [decide_eq_false c5, cond_false]
    refine ⟨_, rfl, .inr (.inr ⟨?_, p2, p3, rfl, q2, q3⟩)⟩
    simp only [Tree.a]
    omega
def DefsP (l : List DefT) : Prop := ∀ j, j < l.length → ClsP (fun nm => ∃ i, i < j ∧ (List.getD l i def0).1 = nm) 4 (List.getD l j def0).2.1
theorem getD_app1 {α : Type} (l q : List α) (i : Nat) (d : α) (h : i < l.length) : List.getD (l ++ q) i d = List.getD l i d := by
  simp [List.getD_eq_getElem?_getD, List.getElem?_append_left h]
theorem getD_last {α : Type} (l : List α) (x d : α) : List.getD (l ++ [x]) l.length d = x := by
  simp [List.getD_eq_getElem?_getD]
theorem defs_add {l : List DefT} (h : DefsP l) {nm : ByteArray} {c : ClsT} (hc : ClsP (fun nm => ∃ y ∈ l, y.1 = nm) 4 c) : DefsP (l ++ [(nm, (c, ()))]) := fun j hj => by
  rw [List.length_append, List.length_singleton] at hj
  by_cases hlt : j < l.length
  · rw [getD_app1 _ _ _ _ hlt]
    exact (h j hlt).mono fun nm ⟨i, hi, e⟩ => ⟨i, hi, by rw [getD_app1 _ _ _ _ (by omega)]; exact e⟩
  · obtain rfl : j = l.length := by omega
    rw [getD_last]
    exact hc.mono fun nm ⟨y, hy, e⟩ => by
      obtain ⟨i, hi, rfl⟩ := List.getElem_of_mem hy
      exact ⟨i, hi, by rw [getD_app1 _ _ _ _ hi, getD_lt l i _ hi]; exact e⟩
theorem F21_0_ok (k : Nat) (ds : List Int) (hk : 10000000 ≤ k) : ∀ (d m i : Nat) (l : List DefT), i + d = 2 → d < m → l.length = 4 + i → DefsP l → ∃ l', F21_0 k m ds (i : Int) l = some ((), (l', ())) ∧ 4 ≤ l'.length ∧ l'.length ≤ 6 ∧ DefsP l'
  | 0, m, i, l, hi, hm, hl, h => by
    obtain ⟨m, rfl⟩ : ∃ m', m = m' + 1 := ⟨m - 1, by omega⟩
    refine ⟨l, ?_, by omega, by omega, h⟩
    simp only [F21_0]
    by_cases hlt : i < ds.length
    · rw [dlt hlt, cond_true, decide_eq_false (by omega), cond_false]
    · rw [decide_eq_false (by omega), cond_false]
  | d + 1, m, i, l, hi, hm, hl, h => by
    obtain ⟨m, rfl⟩ : ∃ m', m = m' + 1 := ⟨m - 1, by omega⟩
    by_cases hlt : i < ds.length
    · have m1 := Int.emod_nonneg (List.getD ds i 0) (show (1099511627776 : Int) ≠ 0 by omega)
      have m2 := Int.emod_lt_of_pos (List.getD ds i 0) (show (0 : Int) < 1099511627776 by omega)
      obtain ⟨x, e41, hx⟩ := R41_ok l (by omega) (by omega) 4 0 k (List.getD ds i 0 % 1099511627776) rfl (by omega) m1 (by omega)
      have e41' : F41 k (List.getD ds i 0 % 1099511627776) l 0 = some ((x, ()), (l, ())) := e41
      obtain ⟨l', e, hl'⟩ := F21_0_ok k ds hk d m (i + 1) (l ++ [(List.getD nms (4 + i) ByteArray.empty, (x, ()))]) (by omega) (by omega) (by rw [List.length_append, List.length_singleton]; omega) (defs_add h hx)
      refine ⟨l', ?_, hl'⟩
      have h4 : IntKind.wrap .i64 (4 + (i : Int)) = ((4 + i : Nat) : Int) := by rw [w64 _ (by omega) (by omega)]; omega
      have hn : (0 : Int) ≤ ((4 + i : Nat) : Int) ∧ ((4 + i : Nat) : Int) < ((nms.length : Nat) : Int) := by simp only [nms, List.length_cons, List.length_nil]; omega
      have hc : (l.length + [(List.getD nms (4 + i) ByteArray.empty, (x, ()))].length) * (80 * 2) ≤ 281474976710656 ∧ l.length + [(List.getD nms (4 + i) ByteArray.empty, (x, ()))].length ≤ 9223372036854775807 := by rw [List.length_singleton]; omega
      simp only [F21_0, one_list]
      rw [dlt hlt, cond_true, decide_eq_true (by omega), cond_true, if_pos (inR hlt), F40_eq, Option.bind_some, h4]
      simp only
      rw [if_pos hn, show Int.toNat (i : Int) = i from rfl, show Int.toNat ((4 + i : Nat) : Int) = 4 + i from rfl, F42_eq k _ _ (by omega) (by omega), Option.bind_some]
      simp only
      rw [e41', Option.bind_some]
      simp only
      rw [if_pos hc, show IntKind.wrap .i64 ((i : Int) + 1) = ((i + 1 : Nat) : Int) by rw [w64 _ (by omega) (by omega)]; omega, e, Option.bind_some]
    · refine ⟨l, ?_, by omega, by omega, h⟩
      simp only [F21_0]
      rw [decide_eq_false (by omega), cond_false]
def rngC (lo hi : Int) : ClsT := Tree.mk (1, (lo, (hi, (ByteArray.empty, ())))) []
def defs4 : List DefT := [(⟨#[97]⟩, (rngC 97 97, ())), (⟨#[118]⟩, (rngC 97 99, ())), (⟨#[100]⟩, (Tree.mk (5, (0, (0, (ByteArray.empty, ())))) [rngC 48 57, rngC 19968 20223], ())),
  (⟨#[115]⟩, (Tree.mk (7, (0, (0, (ByteArray.empty, ())))) [Tree.mk (3, (0, (0, (ByteArray.empty, ())))) [], Tree.mk (2, (0, (0, (⟨#[118]⟩, ())))) []], ()))]
theorem defs4_ok : DefsP defs4 := fun j hj => by
  match j, hj with
  | 0, _ => exact .inl ⟨rfl, .inl rfl⟩
  | 1, _ => exact .inl ⟨rfl, .inl rfl⟩
  | 2, _ => exact .inr (.inr ⟨.inl rfl, _, _, rfl, .inl ⟨rfl, .inl rfl⟩, .inl ⟨rfl, .inl rfl⟩⟩)
  | 3, _ => exact .inr (.inr ⟨.inr (.inr rfl), _, _, rfl, .inl ⟨rfl, .inr (.inr rfl)⟩, .inl ⟨rfl, .inr (.inl ⟨rfl, 1, by omega, rfl⟩)⟩⟩)
  | j + 4, h => simp only [defs4, List.length_cons, List.length_nil] at h; omega
theorem F39_eq (k : Nat) (a b : Int) : F39 k a b = some ((rngC a b, ()), ()) := rfl
theorem F21_ok (k : Nat) (ds : List Int) (hk : 10000000 ≤ k) : ∃ l, F21 k ds = some ((l, ()), ()) ∧ 4 ≤ l.length ∧ l.length ≤ 6 ∧ DefsP l := by
  obtain ⟨l, e, h1, h2, h3⟩ := F21_0_ok k ds hk 2 k 0 defs4 rfl (by omega) rfl defs4_ok
  refine ⟨l, ?_, h1, h2, h3⟩
  unfold F21
  simp only [F39_eq, Option.bind_some]
  have e' : F21_0 k k ds 0 defs4 = some ((), (l, ())) := e
  show (F21_0 k k ds 0 defs4).bind _ = _
  rw [e', Option.bind_some]
end Go.Proofs.YtgojfdimbciaiaaE
set_option linter.unusedSimpArgs false
set_option linter.unusedVariables false
set_option maxRecDepth 20000
namespace Go.Proofs.YtgojfdimbciaiaaE
abbrev RgE := Int × (Int × Unit)
abbrev RgT := List RgE
def RgP (r : RgE) : Prop := 0 ≤ r.1 ∧ r.1 ≤ r.2.1 ∧ r.2.1 ≤ 1114111
def LoS (l : RgT) : Prop := l.Pairwise (fun a b => a.1 ≤ b.1) ∧ ∀ r ∈ l, RgP r
def RgS (l : RgT) : Prop := l.Pairwise (fun a b => a.2.1 + 2 ≤ b.1) ∧ ∀ r ∈ l, RgP r
theorem rgS_len {l : RgT} (h : RgS l) : l.length ≤ 1114112 := by
  have key : ∀ (l : RgT) (c : Nat), RgS l → (∀ r ∈ l, (c : Int) ≤ r.1) → c + l.length ≤ 1114112 ∨ l = [] := by
    intro l
    induction l with
    | nil => intro c _ _; exact .inr rfl
    | cons a l ih =>
      intro c hs hc
      obtain ⟨h1, h2⟩ := List.pairwise_cons.1 hs.1
      have ga := hs.2 a List.mem_cons_self
      have ha := hc a List.mem_cons_self
      unfold RgP at ga
      left
      rcases ih (c + 1) ⟨h2, fun r hr => hs.2 r (List.mem_cons_of_mem _ hr)⟩ (fun r hr => by have := h1 r hr; omega) with q | q
      · simp only [List.length_cons]; omega
      · subst q
        simp only [List.length_cons, List.length_nil]
        omega
  rcases key l 0 h (fun r hr => by have := h.2 r hr; unfold RgP at this; omega) with q | q
  · omega
  · subst q; simp
def posL (x : Int) (l : RgT) (p : Nat) : Prop := p ≤ l.length ∧ (∀ r ∈ l.take p, r.1 ≤ x) ∧ ∀ r ∈ l.drop p, x < r.1
theorem F66_0_ok (k : Nat) (t0 : RgT) (t4 : Int) (x : RgE) (l : RgT) (hl : LoS l) (hn : l.length ≤ 100000000) : ∀ (p m : Nat), p < m → p ≤ l.length → (∀ r ∈ l.drop p, x.1 < r.1) → ∃ q : Nat, F66_0 k m t0 t4 (p : Int) x l = some ((t0, (t4, ((q : Int), ()))), (x, (l, ()))) ∧ posL x.1 l q
  | 0, m, hm, hp, hd => by
    obtain ⟨m, rfl⟩ : ∃ m', m = m' + 1 := ⟨m - 1, by omega⟩
    refine ⟨0, ?_, Nat.zero_le _, (fun r hr => by simp at hr), hd⟩
    simp only [F66_0]
    rw [decide_eq_false (by omega), cond_false]
  | p + 1, m, hm, hp, hd => by
    obtain ⟨m, rfl⟩ : ∃ m', m = m' + 1 := ⟨m - 1, by omega⟩
    have hlt : p < l.length := by omega
    have hw : IntKind.wrap .i64 (((p + 1 : Nat) : Int) - 1) = (p : Int) := by rw [w64 _ (by omega) (by omega)]; omega
    simp only [F66_0, hw]
    rw [decide_eq_true (by omega), cond_true, if_pos (inR hlt), show Int.toNat (p : Int) = p from rfl, getD_lt l p _ hlt]
    by_cases hx : x.1 < l[p].1
    · rw [decide_eq_true hx, cond_true, Option.bind_fun_some]
      refine F66_0_ok k t0 t4 x l hl hn p m (by omega) (by omega) fun r hr => ?_
      rw [List.drop_eq_getElem_cons hlt] at hr
      rcases List.mem_cons.1 hr with e | e
      · rw [e]; exact hx
      · exact hd r e
    · rw [decide_eq_false hx, cond_false]
      refine ⟨p + 1, rfl, hp, fun r hr => ?_, hd⟩
      rw [List.take_succ_eq_append_getElem hlt] at hr
      rcases List.mem_append.1 hr with e | e
      · have h2 := hl.1
        rw [← List.take_append_drop p l, List.drop_eq_getElem_cons hlt] at h2
        have := (List.pairwise_append.1 h2).2.2 r e l[p] List.mem_cons_self
        omega
      · rw [List.mem_singleton] at e
        rw [e]; omega
theorem ins_LoS {x : RgE} {l : RgT} {p : Nat} (hl : LoS l) (hx : RgP x) (hp : posL x.1 l p) : LoS (l.take p ++ [x] ++ l.drop p) := by
  obtain ⟨h1, h2, h3⟩ := hp
  have hs := hl.1
  rw [← List.take_append_drop p l] at hs
  obtain ⟨g1, g2, g3⟩ := List.pairwise_append.1 hs
  constructor
  · refine List.pairwise_append.2 ⟨List.pairwise_append.2 ⟨g1, List.pairwise_singleton _ _, fun a ha b hb => ?_⟩, g2, fun a ha b hb => ?_⟩
    · rw [List.mem_singleton.1 hb]; exact h2 a ha
    · rcases List.mem_append.1 ha with e | e
      · exact g3 a e b hb
      · rw [List.mem_singleton.1 e]
        have := h3 b hb
        omega
  · intro r hr
    rcases List.mem_append.1 hr with e | e
    · rcases List.mem_append.1 e with e | e
      · exact hl.2 r (List.mem_of_mem_take e)
      · rw [List.mem_singleton.1 e]; exact hx
    · exact hl.2 r (List.mem_of_mem_drop e)
theorem F66_1_ok (k : Nat) (t0 : RgT) (hn : t0.length ≤ 5000000) (hk : 10000000 ≤ k) : ∀ (d m i : Nat) (l : RgT), i + d = t0.length → d < m → LoS l → l.length ≤ i → ∃ l', F66_1 k m t0 (i : Int) l = some ((), (l', ())) ∧ LoS l' ∧ l'.length ≤ t0.length
  | 0, m, i, l, hi, hm, hl, hli => by
    obtain ⟨m, rfl⟩ : ∃ m', m = m' + 1 := ⟨m - 1, by omega⟩
    obtain rfl : i = t0.length := by omega
    refine ⟨l, ?_, hl, hli⟩
    simp only [F66_1]
    rw [dnlt, cond_false]
  | d + 1, m, i, l, hi, hm, hl, hli => by
    obtain ⟨m, rfl⟩ : ∃ m', m = m' + 1 := ⟨m - 1, by omega⟩
    have hlt : i < t0.length := by omega
    simp only [F66_1]
    rw [dlt hlt, cond_true, if_pos (inR hlt), if_pos (inR hlt), show Int.toNat (i : Int) = i from rfl, getD_lt t0 i _ hlt, wsucc i _ hlt (by omega)]
    by_cases hx : maxI t0[i].1 0 > minI t0[i].2.1 1114111
    · rw [decide_eq_true hx, cond_true, Option.bind_fun_some]
      exact F66_1_ok k t0 hn hk d m (i + 1) l (by omega) (by omega) hl (by omega)
    · have hxp : RgP (maxI t0[i].1 0, (minI t0[i].2.1 1114111, ())) := by
        have m1 : 0 ≤ maxI t0[i].1 0 := by unfold maxI; split <;> omega
        have m2 : minI t0[i].2.1 1114111 ≤ 1114111 := by unfold minI; split <;> omega
        exact ⟨m1, by simp only; omega, m2⟩
      obtain ⟨q, e, hq⟩ := F66_0_ok k t0 (i : Int) (maxI t0[i].1 0, (minI t0[i].2.1 1114111, ())) l hl (by omega) l.length k (by omega) (Nat.le_refl _) (fun r hr => by rw [List.drop_length] at hr; cases hr)
      have hql := hq.1
      have ht : (l.drop q).take (l.length - q) = l.drop q := List.take_of_length_le (by rw [List.length_drop]; omega)
      have h1 : (0 + (l.take q).length) * (16 * 2) ≤ 281474976710656 ∧ 0 + (l.take q).length ≤ 9223372036854775807 := by rw [List.length_take]; omega
      have h2 : ((l.take q).length + [(maxI t0[i].1 0, (minI t0[i].2.1 1114111, ()))].length) * (16 * 2) ≤ 281474976710656 ∧ (l.take q).length + [(maxI t0[i].1 0, (minI t0[i].2.1 1114111, ()))].length ≤ 9223372036854775807 := by rw [List.length_take, List.length_singleton]; omega
      have h3 : ((l.take q ++ [(maxI t0[i].1 0, (minI t0[i].2.1 1114111, ()))]).length + (l.drop q).length) * (16 * 2) ≤ 281474976710656 ∧ (l.take q ++ [(maxI t0[i].1 0, (minI t0[i].2.1 1114111, ()))]).length + (l.drop q).length ≤ 9223372036854775807 := by rw [List.length_append, List.length_take, List.length_singleton, List.length_drop]; omega
      obtain ⟨l', e2, hl'⟩ := F66_1_ok k t0 hn hk d m (i + 1) (l.take q ++ [(maxI t0[i].1 0, (minI t0[i].2.1 1114111, ()))] ++ l.drop q) (by omega) (by omega) (ins_LoS hl hxp hq) (by rw [List.length_append, List.length_append, List.length_take, List.length_singleton, List.length_drop]; omega)
      refine ⟨l', ?_, hl'⟩
      rw [decide_eq_false hx, cond_false, e, Option.bind_some]
      simp only [List.replicate_zero, List.nil_append, List.length_nil, one_list]
      rw [if_pos (by omega), if_pos (by omega), show Int.toNat (q : Int) = q from rfl, show Int.toNat ((l.length : Nat) : Int) = l.length from rfl, show Int.toNat 0 = 0 from rfl, Nat.sub_zero, List.drop_zero, ht, if_pos h1, if_pos h2, if_pos h3, wsucc i _ hlt (by omega), e2, Option.bind_some]
theorem F66_ok (k : Nat) (l : RgT) (hn : l.length ≤ 5000000) (hk : 10000000 ≤ k) : ∃ l', F66 k l = some ((l', ()), ()) ∧ LoS l' ∧ l'.length ≤ l.length := by
  obtain ⟨l', e, h⟩ := F66_1_ok k l hn hk l.length k 0 [] (Nat.zero_add _) (by omega) ⟨List.Pairwise.nil, fun r hr => by cases hr⟩ (Nat.le_refl _)
  refine ⟨l', ?_, h⟩
  have e' : F66_1 k k l 0 [] = some ((), (l', ())) := e
  unfold F66
  rw [e', Option.bind_some]
theorem F59_0_ok (k : Nat) (t : RgT) (hn : t.length ≤ 5000000) (ht : LoS t) : ∀ (d m i : Nat) (out : RgT), i + d = t.length → d < m → RgS out → out.length ≤ i → (∀ o ∈ out, ∀ r ∈ t.drop i, o.1 ≤ r.1) → ∃ out', F59_0 k m (i : Int) t out = some ((), (out', ())) ∧ RgS out'
  | 0, m, i, out, hi, hm, ho, hol, hlo => by
    obtain ⟨m, rfl⟩ : ∃ m', m = m' + 1 := ⟨m - 1, by omega⟩
    obtain rfl : i = t.length := by omega
    refine ⟨out, ?_, ho⟩
    simp only [F59_0]
    rw [dnlt, cond_false]
  | d + 1, m, i, out, hi, hm, ho, hol, hlo => by
    obtain ⟨m, rfl⟩ : ∃ m', m = m' + 1 := ⟨m - 1, by omega⟩
    have hlt : i < t.length := by omega
    have hx := ht.2 _ (List.getElem_mem hlt)
    have hd : t.drop i = t[i] :: t.drop (i + 1) := List.drop_eq_getElem_cons hlt
    have hup : ∀ r ∈ t.drop (i + 1), t[i].1 ≤ r.1 := by
      have h2 := ht.1
      rw [← List.take_append_drop i t, hd] at h2
      exact (List.pairwise_cons.1 (List.pairwise_append.1 h2).2.1).1
    have hone : List.set (List.replicate 1 ((0 : Int), ((0 : Int), ()))) 0 t[i] = [t[i]] := one_list _ _
    have hc : (out.length + [t[i]].length) * (16 * 2) ≤ 281474976710656 ∧ out.length + [t[i]].length ≤ 9223372036854775807 := by rw [List.length_singleton]; omega
    simp only [F59_0]
    rw [dlt hlt, cond_true, if_pos (inR hlt), show Int.toNat (i : Int) = i from rfl, getD_lt t i _ hlt, wsucc i _ hlt (by omega), hone]
    rcases Nat.eq_zero_or_pos out.length with h0 | h0
    · have hnil : out = [] := List.eq_nil_of_length_eq_zero h0
      subst hnil
      rw [decide_eq_false (by rw [w64 _ (by simp) (by simp)]; simp), cond_false, if_pos (inR hlt), if_pos hc]
      obtain ⟨out', e, h⟩ := F59_0_ok k t hn ht d m (i + 1) [t[i]] (by omega) (by omega) ⟨List.pairwise_singleton _ _, fun r hr => by rw [List.mem_singleton.1 hr]; exact hx⟩ (by simp) (fun o ho r hr => by rw [List.mem_singleton.1 ho]; exact hup r hr)
      exact ⟨out', by rw [List.nil_append, e]; rfl, h⟩
    · obtain ⟨n, hn'⟩ : ∃ n, out.length = n + 1 := ⟨out.length - 1, by omega⟩
      have hw : IntKind.wrap .i64 (((out.length : Nat) : Int) - 1) = (n : Int) := by rw [w64 _ (by omega) (by omega)]; omega
      have hnl : n < out.length := by omega
      have hspl : out = out.take n ++ [out[n]] := by
        conv => lhs; rw [← List.take_append_drop n out, List.drop_eq_getElem_cons hnl, List.drop_eq_nil_of_le (show out.length ≤ n + 1 by omega)]
      have hon := ho.2 _ (List.getElem_mem hnl)
      have hlo' := hlo _ (List.getElem_mem hnl) t[i] (by rw [hd]; exact List.mem_cons_self)
      unfold RgP at hx hon
      rw [hw, decide_eq_true (by omega), cond_true, if_pos (inR hlt), if_pos (inR hnl), show Int.toNat (n : Int) = n from rfl, getD_lt out n _ hnl, w64 (out[n].2.1 + 1) (by omega) (by omega)]
      by_cases hm' : t[i].1 ≤ out[n].2.1 + 1
      · rw [decide_eq_true hm', cond_true, if_pos (inR hnl)]
        have hset : out.set n (out[n].1, (maxI out[n].2.1 t[i].2.1, out[n].2.2)) = out.take n ++ [(out[n].1, (maxI out[n].2.1 t[i].2.1, ()))] := by
          rw [List.set_eq_take_append_cons_drop, if_pos hnl, List.drop_eq_nil_of_le (show out.length ≤ n + 1 by omega)]
        have hmx : out[n].2.1 ≤ maxI out[n].2.1 t[i].2.1 ∧ maxI out[n].2.1 t[i].2.1 ≤ 1114111 := by unfold maxI; split <;> omega
        have hs := ho.1
        rw [hspl] at hs
        obtain ⟨g1, g2, g3⟩ := List.pairwise_append.1 hs
        have hS : RgS (out.take n ++ [(out[n].1, (maxI out[n].2.1 t[i].2.1, ()))]) := by
          refine ⟨List.pairwise_append.2 ⟨g1, List.pairwise_singleton _ _, fun a ha b hb => ?_⟩, fun r hr => ?_⟩
          · rw [List.mem_singleton.1 hb]
            exact g3 a ha out[n] (List.mem_singleton.2 rfl)
          · rcases List.mem_append.1 hr with e | e
            · exact ho.2 r (List.mem_of_mem_take e)
            · rw [List.mem_singleton.1 e]
              exact ⟨hon.1, by simp only; omega, hmx.2⟩
        obtain ⟨out', e, h⟩ := F59_0_ok k t hn ht d m (i + 1) (out.take n ++ [(out[n].1, (maxI out[n].2.1 t[i].2.1, ()))]) (by omega) (by omega) hS (by rw [List.length_append, List.length_take, List.length_singleton]; omega) (fun o ho' r hr => by
          have hr' : r ∈ t.drop i := by rw [hd]; exact List.mem_cons_of_mem _ hr
          rcases List.mem_append.1 ho' with e | e
          · exact hlo o (List.mem_of_mem_take e) r hr'
          · rw [List.mem_singleton.1 e]
            exact hlo _ (List.getElem_mem hnl) r hr')
        exact ⟨out', by rw [if_pos (inR hnl), hset, e]; rfl, h⟩
      · rw [decide_eq_false hm', cond_false, if_pos (inR hlt), if_pos hc]
        have hs := ho.1
        have hS : RgS (out ++ [t[i]]) := by
          refine ⟨List.pairwise_append.2 ⟨hs, List.pairwise_singleton _ _, fun a ha b hb => ?_⟩, fun r hr => ?_⟩
          · rw [List.mem_singleton.1 hb]
            rw [hspl] at ha hs
            obtain ⟨g1, g2, g3⟩ := List.pairwise_append.1 hs
            rcases List.mem_append.1 ha with e | e
            · have := g3 a e _ (List.mem_singleton.2 rfl)
              omega
            · rw [List.mem_singleton.1 e]; omega
          · rcases List.mem_append.1 hr with e | e
            · exact ho.2 r e
            · rw [List.mem_singleton.1 e]; exact hx
        obtain ⟨out', e, h⟩ := F59_0_ok k t hn ht d m (i + 1) (out ++ [t[i]]) (by omega) (by omega) hS (by rw [List.length_append, List.length_singleton]; omega) (fun o ho' r hr => by
          have hr' : r ∈ t.drop i := by rw [hd]; exact List.mem_cons_of_mem _ hr
          rcases List.mem_append.1 ho' with e | e
          · exact hlo o e r hr'
          · rw [List.mem_singleton.1 e]; exact hup r hr)
        exact ⟨out', by rw [e]; rfl, h⟩
theorem F59_ok (k : Nat) (l : RgT) (hn : l.length ≤ 5000000) (hk : 10000000 ≤ k) : ∃ l', F59 k l = some ((l', ()), ()) ∧ RgS l' := by
  obtain ⟨t, e1, ht, htl⟩ := F66_ok k l hn hk
  obtain ⟨l', e, h⟩ := F59_0_ok k t (by omega) ht t.length k 0 [] (Nat.zero_add _) (by omega) ⟨List.Pairwise.nil, fun r hr => by cases hr⟩ (Nat.le_refl _) (fun o ho => by cases ho)
  refine ⟨l', ?_, h⟩
  have e' : F59_0 k k 0 t [] = some ((), (l', ())) := e
  unfold F59
  rw [e1, Option.bind_some]
  simp only
  rw [e', Option.bind_some]
theorem F60_0_ok (k : Nat) (t : RgT) (hn : t.length ≤ 4000000) : ∀ (d m i : Nat) (x : Int) (l : RgT), i + d = t.length → d < m → l.length = i → ∃ (y : Int) (l' : RgT), F60_0 k m t x (i : Int) l = some ((y, ()), (l', ())) ∧ l'.length = t.length
  | 0, m, i, x, l, hi, hm, hl => by
    obtain ⟨m, rfl⟩ : ∃ m', m = m' + 1 := ⟨m - 1, by omega⟩
    obtain rfl : i = t.length := by omega
    refine ⟨x, l, ?_, hl⟩
    simp only [F60_0]
    rw [dnlt, cond_false]
  | d + 1, m, i, x, l, hi, hm, hl => by
    obtain ⟨m, rfl⟩ : ∃ m', m = m' + 1 := ⟨m - 1, by omega⟩
    have hlt : i < t.length := by omega
    obtain ⟨y, l', e, h⟩ := F60_0_ok k t hn d m (i + 1) (IntKind.wrap .i64 (t[i].2.1 + 1)) (l ++ [(x, (IntKind.wrap .i64 (t[i].1 - 1), ()))]) (by omega) (by omega) (by rw [List.length_append, List.length_singleton]; omega)
    refine ⟨y, l', ?_, h⟩
    have hc : (l.length + [(x, (IntKind.wrap .i64 (t[i].1 - 1), ()))].length) * (16 * 2) ≤ 281474976710656 ∧ l.length + [(x, (IntKind.wrap .i64 (t[i].1 - 1), ()))].length ≤ 9223372036854775807 := by rw [List.length_singleton]; omega
    simp only [F60_0, one_list]
    rw [dlt hlt, cond_true, if_pos (inR hlt), show Int.toNat (i : Int) = i from rfl, getD_lt t i _ hlt, if_pos hc, if_pos (inR hlt), wsucc i _ hlt (by omega), e]
    rfl
theorem F60_ok (k : Nat) (t : RgT) (hn : t.length ≤ 4000000) (hk : 10000000 ≤ k) : ∃ l', F60 k t = some ((l', ()), ()) ∧ RgS l' := by
  obtain ⟨y, l, e, hl⟩ := F60_0_ok k t hn t.length k 0 0 [] (Nat.zero_add _) (by omega) rfl
  obtain ⟨l', e2, h⟩ := F59_ok k (l ++ [(y, (1114111, ()))]) (by rw [List.length_append, List.length_singleton]; omega) hk
  refine ⟨l', ?_, h⟩
  have e' : F60_0 k k t 0 0 [] = some ((y, ()), (l, ())) := e
  have hc : (l.length + [(y, ((1114111 : Int), ()))].length) * (16 * 2) ≤ 281474976710656 ∧ l.length + [(y, ((1114111 : Int), ()))].length ≤ 9223372036854775807 := by rw [List.length_singleton]; omega
  unfold F60
  rw [e', Option.bind_some]
  simp only [one_list]
  rw [if_pos hc, e2, Option.bind_some]
theorem F61_ok (k : Nat) (a b : RgT) (ha : a.length ≤ 1200000) (hb : b.length ≤ 1200000) (hk : 10000000 ≤ k) : ∃ l', F61 k a b = some ((l', ()), ()) ∧ RgS l' := by
  obtain ⟨l', e2, h⟩ := F59_ok k (a ++ b) (by rw [List.length_append]; omega) hk
  refine ⟨l', ?_, h⟩
  unfold F61
  simp only [List.replicate_zero, List.nil_append, List.length_nil]
  rw [if_pos (by omega), if_pos (by omega), e2, Option.bind_some]
theorem F62_ok (k : Nat) (a b : RgT) (ha : a.length ≤ 1200000) (hb : b.length ≤ 1200000) (hk : 10000000 ≤ k) : ∃ l', F62 k a b = some ((l', ()), ()) ∧ RgS l' := by
  obtain ⟨x, e1, h1⟩ := F60_ok k a (by omega) hk
  obtain ⟨y, e2, h2⟩ := F60_ok k b (by omega) hk
  have l1 := rgS_len h1
  have l2 := rgS_len h2
  obtain ⟨z, e3, h3⟩ := F61_ok k x y (by omega) (by omega) hk
  have l3 := rgS_len h3
  obtain ⟨l', e4, h⟩ := F60_ok k z (by omega) hk
  refine ⟨l', ?_, h⟩
  unfold F62
  rw [e1, Option.bind_some, e2, Option.bind_some]
  simp only
  rw [e3, Option.bind_some]
  simp only
  rw [e4, Option.bind_some]
theorem F63_ok (k : Nat) (a b : RgT) (ha : a.length ≤ 1200000) (hb : b.length ≤ 1200000) (hk : 10000000 ≤ k) : ∃ l', F63 k a b = some ((l', ()), ()) ∧ RgS l' := by
  obtain ⟨y, e2, h2⟩ := F60_ok k b (by omega) hk
  have l2 := rgS_len h2
  obtain ⟨l', e4, h⟩ := F62_ok k a y ha (by omega) hk
  refine ⟨l', ?_, h⟩
  unfold F63
  rw [e2, Option.bind_some]
  simp only
  rw [e4, Option.bind_some]
end Go.Proofs.YtgojfdimbciaiaaE
set_option linter.unusedSimpArgs false
set_option linter.unusedVariables false
set_option maxRecDepth 20000
namespace Go.Proofs.YtgojfdimbciaiaaE
abbrev CUnf := Int × (Int × (Int × (ByteArray × (List ClsT × Unit))))
def RgL (l : List RgT) : Prop := ∀ s ∈ l, RgS s
theorem rgL_at {l : List RgT} (h : RgL l) (i : Nat) : RgS (List.getD l i []) := by
  by_cases hi : i < l.length
  · exact h _ (getD_mem hi)
  · rw [List.getD_eq_getElem?_getD, List.getElem?_eq_none (by omega)]
    exact ⟨List.Pairwise.nil, fun r hr => by cases hr⟩
theorem F46_0_ok (k : Nat) (f : ClsT → FileT → List RgT → Option ((RgT × Unit) × (List RgT × Unit))) (c : CUnf) (fl : FileT) (sets : List RgT) (hn : c.2.2.2.2.1.length ≤ 1000) (hf : ∀ p ∈ c.2.2.2.2.1, ∃ o, f p fl sets = some ((o, ()), (sets, ())) ∧ RgS o) : ∀ (d m i : Nat) (acc : List RgT), i + d = c.2.2.2.2.1.length → d < m → acc.length = i → RgL acc →
    ∃ outs, F46_0 k f m (i : Int) sets c fl acc = some ((), (sets, (c, (fl, (outs, ()))))) ∧ outs.length = c.2.2.2.2.1.length ∧ RgL outs
  | 0, m, i, acc, hi, hm, hl, h => by
    obtain ⟨m, rfl⟩ : ∃ m', m = m' + 1 := ⟨m - 1, by omega⟩
    obtain rfl : i = c.2.2.2.2.1.length := by omega
    refine ⟨acc, ?_, hl, h⟩
    simp only [F46_0]
    rw [dnlt, cond_false]
  | d + 1, m, i, acc, hi, hm, hl, h => by
    obtain ⟨m, rfl⟩ : ∃ m', m = m' + 1 := ⟨m - 1, by omega⟩
    have hlt : i < c.2.2.2.2.1.length := by omega
    obtain ⟨o, e, ho⟩ := hf _ (List.getElem_mem hlt)
    obtain ⟨outs, e2, h2⟩ := F46_0_ok k f c fl sets hn hf d m (i + 1) (acc ++ [o]) (by omega) (by omega) (by rw [List.length_append, List.length_singleton]; omega) (mem_app h fun s hs => by rw [List.mem_singleton.1 hs]; exact ho)
    refine ⟨outs, ?_, h2⟩
    have hc : (acc.length + [o].length) * (24 * 2) ≤ 281474976710656 ∧ acc.length + [o].length ≤ 9223372036854775807 := by rw [List.length_singleton]; omega
    simp only [F46_0, one_list]
    rw [dlt hlt, cond_true, if_pos (inR hlt), show Int.toNat (i : Int) = i from rfl, getD_lt _ i _ hlt, e, Option.bind_some]
    simp only
    rw [if_pos hc, wsucc i _ hlt (by omega), e2]
    rfl
theorem R46_ok (P : ByteArray → Prop) (fl : FileT) (hfl : fl.1.length ≤ 1000) (sets : List RgT) (hP : ∀ nm, P nm → 0 ≤ fnd fl.1 nm ∧ fnd fl.1 nm < ((sets.length : Nat) : Int)) (hs : RgL sets) : ∀ (h k : Nat) (c : ClsT), h ≤ 10 → ClsP P h c → h + 10000000 < k → ∃ o, R46 k c fl sets = some ((o, ()), (sets, ())) ∧ RgS o := by
  have leaf : ∀ (k : Nat) (c : ClsT), ClsL P c → 10000000 < k → ∃ o, R46 k c fl sets = some ((o, ()), (sets, ())) ∧ RgS o := by
    intro k c hc hk
    obtain ⟨k, rfl⟩ : ∃ k', k = k' + 1 := ⟨k - 1, by omega⟩
    obtain ⟨hl, hc⟩ := hc
    obtain ⟨outs, e, _⟩ := F46_0_ok k (R46 k) (c.a.1, (c.a.2.1, (c.a.2.2.1, (c.a.2.2.2.1, (c.l, ()))))) fl sets (show c.l.length ≤ 1000 by rw [hl]; simp) (fun p hp => by
      have hp' : p ∈ c.l := hp
      rw [hl] at hp'; cases hp') c.l.length k 0 [] (Nat.zero_add _) (by rw [hl]; simp only [List.length_nil]; omega) rfl (fun s hs => by cases hs)
    rw [show ((0 : Nat) : Int) = 0 from rfl] at e
    show ∃ o, B46 k (R46 k) c fl sets = some ((o, ()), (sets, ())) ∧ RgS o
    unfold B46
    rw [e, Option.bind_some]
    simp only
    rcases hc with a | ⟨a, hn⟩ | a
    · obtain ⟨o, e1, h1⟩ := F59_ok k [(c.a.2.1, (c.a.2.2.1, ()))] (by simp) (by omega)
      rw [a, show ((1 : Int) == 1) = true from rfl, cond_true, one_list, e1, Option.bind_some]
      exact ⟨o, rfl, h1⟩
    · obtain ⟨g1, g2⟩ := hP _ hn
      rw [a, show ((2 : Int) == 1) = false from rfl, cond_false, show ((2 : Int) == 2) = true from rfl, cond_true, F55_ok k fl _ hfl (by omega), Option.bind_some]
      simp only
      rw [if_pos ⟨g1, g2⟩]
      exact ⟨_, rfl, rgL_at hs _⟩
    · obtain ⟨o, e1, h1⟩ := F60_ok k [] (by simp) (by omega)
      rw [a, show ((3 : Int) == 1) = false from rfl, cond_false, show ((3 : Int) == 2) = false from rfl, cond_false, show ((3 : Int) == 3) = true from rfl, cond_true, e1, Option.bind_some]
      exact ⟨o, rfl, h1⟩
  intro h
  induction h with
  | zero => intro k c _ hc hk; exact leaf k c hc (by omega)
  | succ h ih =>
    intro k c h10 hc hk
    rcases hc with hc | hc
    · exact leaf k c hc (by omega)
    obtain ⟨k, rfl⟩ : ∃ k', k = k' + 1 := ⟨k - 1, by omega⟩
    have hall : ∀ p ∈ c.l, ClsP P h p := by
      rcases hc with ⟨a, p, e, hp⟩ | ⟨a, p, q, e, hp, hq⟩
      · rw [e]
        intro y hy
        rw [List.mem_singleton.1 hy]; exact hp
      · rw [e]
        intro y hy
        simp only [List.mem_cons, List.not_mem_nil, or_false] at hy
        rcases hy with rfl | rfl <;> assumption
    have hlen : c.l.length ≤ 2 := by
      rcases hc with ⟨a, p, e, hp⟩ | ⟨a, p, q, e, hp, hq⟩ <;> rw [e] <;> simp
    obtain ⟨outs, e, ho, hr⟩ := F46_0_ok k (R46 k) (c.a.1, (c.a.2.1, (c.a.2.2.1, (c.a.2.2.2.1, (c.l, ()))))) fl sets (show c.l.length ≤ 1000 by omega) (fun p hp => ih k p (by omega) (hall p hp) (by omega)) c.l.length k 0 [] (Nat.zero_add _) (by omega) rfl (fun s hs => by cases hs)
    rw [show ((0 : Nat) : Int) = 0 from rfl] at e
    have ho' : outs.length = c.l.length := ho
    have r0 := rgL_at hr 0
    have r1 := rgL_at hr 1
    have l0 := rgS_len r0
    have l1 := rgS_len r1
    show ∃ o, B46 k (R46 k) c fl sets = some ((o, ()), (sets, ())) ∧ RgS o
    unfold B46
    rw [e, Option.bind_some]
    simp only [show Int.toNat 0 = 0 from rfl, show Int.toNat 1 = 1 from rfl]
    rcases hc with ⟨a, p, ep, hp⟩ | ⟨a, p, q, ep, hp, hq⟩
    · rw [ep] at ho'
      have i0 : (0 : Int) ≤ 0 ∧ (0 : Int) < ((outs.length : Nat) : Int) := by rw [ho']; simp
      obtain ⟨o, e1, h1⟩ := F60_ok k (List.getD outs 0 []) (by omega) (by omega)
      rw [a, show ((4 : Int) == 1) = false from rfl, cond_false, show ((4 : Int) == 2) = false from rfl, cond_false, show ((4 : Int) == 3) = false from rfl, cond_false, show ((4 : Int) == 4) = true from rfl, cond_true, if_pos i0, e1, Option.bind_some]
      exact ⟨o, rfl, h1⟩
    · rw [ep] at ho'
      have i0 : (0 : Int) ≤ 0 ∧ (0 : Int) < ((outs.length : Nat) : Int) := by rw [ho']; simp
      have i1 : (0 : Int) ≤ 1 ∧ (1 : Int) < ((outs.length : Nat) : Int) := by rw [ho']; simp
      rw [beq_false_of_ne (show ¬ c.a.1 = 1 by omega), cond_false, beq_false_of_ne (show ¬ c.a.1 = 2 by omega), cond_false, beq_false_of_ne (show ¬ c.a.1 = 3 by omega), cond_false, beq_false_of_ne (show ¬ c.a.1 = 4 by omega), cond_false, if_pos i0, if_pos i1]
      rcases a with a | a | a
      · obtain ⟨o, e1, h1⟩ := F61_ok k (List.getD outs 0 []) (List.getD outs 1 []) (by omega) (by omega) (by omega)
        rw [a, show ((5 : Int) == 5) = true from rfl, cond_true, e1, Option.bind_some]
        exact ⟨o, rfl, h1⟩
      · obtain ⟨o, e1, h1⟩ := F62_ok k (List.getD outs 0 []) (List.getD outs 1 []) (by omega) (by omega) (by omega)
        rw [a, show ((6 : Int) == 5) = false from rfl, cond_false, show ((6 : Int) == 6) = true from rfl, cond_true, if_pos i0, if_pos i1, e1, Option.bind_some]
        exact ⟨o, rfl, h1⟩
      · obtain ⟨o, e1, h1⟩ := F63_ok k (List.getD outs 0 []) (List.getD outs 1 []) (by omega) (by omega) (by omega)
        rw [a, show ((7 : Int) == 5) = false from rfl, cond_false, show ((7 : Int) == 6) = false from rfl, cond_false, if_pos i0, if_pos i1, e1, Option.bind_some]
        exact ⟨o, rfl, h1⟩
theorem fndI_le (nm : ByteArray) : ∀ (l : List DefT) (j i : Nat), j < l.length → (List.getD l j def0).1 = nm → (i : Int) ≤ fndI l nm i ∧ fndI l nm i ≤ ((i + j : Nat) : Int)
  | [], j, i, h, _ => by simp at h
  | d :: l, j, i, h, e => by
    unfold fndI
    by_cases hd : d.1.toList = nm.toList
    · rw [if_pos hd]; omega
    · rw [if_neg hd]
      cases j with
      | zero => exact absurd (by rw [List.getD_cons_zero] at e; rw [e]) hd
      | succ j =>
        have := fndI_le nm l j (i + 1) (by simpa using h) (by simpa using e)
        omega
theorem F28_0_ok (k : Nat) (fl : FileT) (hfl : fl.1.length ≤ 1000) (hd : DefsP fl.1) (hk : 20000000 ≤ k) : ∀ (d m i : Nat) (acc : List RgT), i + d = fl.1.length → d < m → acc.length = i → RgL acc →
    ∃ outs, F28_0 k m (i : Int) fl acc = some ((), (outs, ())) ∧ outs.length = fl.1.length ∧ RgL outs
  | 0, m, i, acc, hi, hm, hl, h => by
    obtain ⟨m, rfl⟩ : ∃ m', m = m' + 1 := ⟨m - 1, by omega⟩
    obtain rfl : i = fl.1.length := by omega
    refine ⟨acc, ?_, hl, h⟩
    simp only [F28_0]
    rw [dnlt, cond_false]
  | d + 1, m, i, acc, hi, hm, hl, h => by
    obtain ⟨m, rfl⟩ : ∃ m', m = m' + 1 := ⟨m - 1, by omega⟩
    have hlt : i < fl.1.length := by omega
    obtain ⟨o, e, ho⟩ := R46_ok _ fl hfl acc (fun nm ⟨j, hj, en⟩ => by
      have := fndI_le nm fl.1 j 0 (by omega) en
      unfold fnd
      omega) h 4 k _ (by omega) (hd i hlt) (by omega)
    have e' : F46 k (List.getD fl.1 i def0).2.1 fl acc = some ((o, ()), (acc, ())) := e
    obtain ⟨outs, e2, h2⟩ := F28_0_ok k fl hfl hd hk d m (i + 1) (acc ++ [o]) (by omega) (by omega) (by rw [List.length_append, List.length_singleton]; omega) (mem_app h fun s hs => by rw [List.mem_singleton.1 hs]; exact ho)
    refine ⟨outs, ?_, h2⟩
    have hc : (acc.length + [o].length) * (24 * 2) ≤ 281474976710656 ∧ acc.length + [o].length ≤ 9223372036854775807 := by rw [List.length_singleton]; omega
    have e'' : F46 k (List.getD fl.1 i (ByteArray.empty, ((Tree.mk ((0 : Int), ((0 : Int), ((0 : Int), (ByteArray.empty, ())))) []), ()))).2.1 fl acc = some ((o, ()), (acc, ())) := e'
    simp only [F28_0, one_list]
    rw [dlt hlt, cond_true, if_pos (inR hlt), show Int.toNat (i : Int) = i from rfl, e'', Option.bind_some]
    simp only
    rw [if_pos hc, wsucc i _ hlt (by omega), e2]
    rfl
theorem F28_ok (k : Nat) (fl : FileT) (hfl : fl.1.length ≤ 1000) (hd : DefsP fl.1) (hk : 20000000 ≤ k) : ∃ sets, F28 k fl = some ((sets, ()), ()) ∧ sets.length = fl.1.length ∧ RgL sets := by
  obtain ⟨outs, e, h⟩ := F28_0_ok k fl hfl hd hk fl.1.length k 0 [] (Nat.zero_add _) (by omega) rfl (fun s hs => by cases hs)
  refine ⟨outs, ?_, h⟩
  have e' : F28_0 k k 0 fl [] = some ((), (outs, ())) := e
  unfold F28
  rw [e', Option.bind_some]
end Go.Proofs.YtgojfdimbciaiaaE
set_option linter.unusedSimpArgs false
set_option linter.unusedVariables false
set_option maxRecDepth 20000
namespace Go.Proofs.YtgojfdimbciaiaaE
def has (l : RgT) (n : Int) : Bool := l.any fun r => decide (n ≥ r.1) && decide (n ≤ r.2.1)
theorem F51_0_ok (k : Nat) (l : RgT) (x : Int) (hl : l.length ≤ 5000000) : ∀ (d m i : Nat), i + d = l.length → d < m → F51_0 k m l x (i : Int) = some (if has (l.drop i) x = true then .inr ((true, ()), ()) else .inl ((), ()))
  | 0, m, i, hi, hm => by
    obtain ⟨m, rfl⟩ : ∃ m', m = m' + 1 := ⟨m - 1, by omega⟩
    obtain rfl : i = l.length := by omega
    simp only [F51_0]
    rw [dnlt, cond_false, List.drop_length]
    rfl
  | d + 1, m, i, hi, hm => by
    obtain ⟨m, rfl⟩ : ∃ m', m = m' + 1 := ⟨m - 1, by omega⟩
    have hlt : i < l.length := by omega
    have ih := F51_0_ok k l x hl d m (i + 1) (by omega) (by omega)
    have e : has (l.drop i) x = (decide (x ≥ l[i].1) && decide (x ≤ l[i].2.1) || has (l.drop (i + 1)) x) := by
      rw [List.drop_eq_getElem_cons hlt]
      rfl
    simp only [F51_0]
    rw [dlt hlt, cond_true, if_pos (inR hlt), show Int.toNat (i : Int) = i from rfl, getD_lt l i _ hlt, if_pos (inR hlt), wsucc i _ hlt (by omega), ih, e]
    cases decide (x ≥ l[i].1) with
    | false => rfl
    | true =>
      cases decide (x ≤ l[i].2.1) with
      | false => rfl
      | true => rfl
theorem F51_ok (k : Nat) (l : RgT) (x : Int) (hl : l.length ≤ 5000000) (hk : 10000000 ≤ k) : F51 k l x = some ((has l x, ()), ()) := by
  have e := F51_0_ok k l x hl l.length k 0 (Nat.zero_add _) (by omega)
  rw [List.drop_zero, show ((0 : Nat) : Int) = 0 from rfl] at e
  unfold F51
  rw [e, Option.bind_some]
  cases h : has l x with
  | true => rfl
  | false => rfl
def keyF (x : Int) : List RgT → Int → Int
  | [], t => t
  | s :: l, t => keyF x l (2 * t + (if has s x then 1 else 0))
theorem F48_0_ok (k : Nat) (l : List RgT) (x : Int) (hk : 10000000 ≤ k) (hl : l.length ≤ 40) (hr : RgL l) : ∀ (d m i : Nat) (t : Int), i + d = l.length → d < m → 0 ≤ t → t < 2 ^ i → F48_0 k m l x t (i : Int) = some ((keyF x (l.drop i) t, ()), ())
  | 0, m, i, t, hi, hm, h0, h1 => by
    obtain ⟨m, rfl⟩ : ∃ m', m = m' + 1 := ⟨m - 1, by omega⟩
    obtain rfl : i = l.length := by omega
    simp only [F48_0]
    rw [dnlt, cond_false, List.drop_length]
    rfl
  | d + 1, m, i, t, hi, hm, h0, h1 => by
    obtain ⟨m, rfl⟩ : ∃ m', m = m' + 1 := ⟨m - 1, by omega⟩
    have hlt : i < l.length := by omega
    have hp : (2 : Int) ^ i ≤ 2 ^ 40 := by
      have : (2 : Nat) ^ i ≤ 2 ^ 40 := Nat.pow_le_pow_right (by omega) (by omega)
      exact_mod_cast this
    have hp40 : (2 : Int) ^ 40 = 1099511627776 := by decide
    have hps : (2 : Int) ^ (i + 1) = 2 ^ i * 2 := Int.pow_succ 2 i
    have hlen := rgS_len (hr _ (List.getElem_mem hlt))
    rw [List.drop_eq_getElem_cons hlt, keyF]
    simp only [F48_0]
    rw [dlt hlt, cond_true, if_pos (inR hlt), show Int.toNat (i : Int) = i from rfl, getD_lt l i _ hlt, F51_ok k _ x (by omega) hk, Option.bind_some]
    simp only
    rw [wsucc i _ hlt (by omega), w64 (2 * t) (by omega) (by omega), w64 (2 * t + 1) (by omega) (by omega)]
    cases has l[i] x with
    | true =>
      rw [cond_true, if_pos rfl, F48_0_ok k l x hk hl hr d m (i + 1) (2 * t + 1) (by omega) (by omega) (by omega) (by omega), Option.bind_some]
    | false =>
      rw [cond_false, if_neg (by simp), Int.add_zero, F48_0_ok k l x hk hl hr d m (i + 1) (2 * t) (by omega) (by omega) (by omega) (by omega), Option.bind_some]
theorem F48_ok (k : Nat) (l : List RgT) (x : Int) (hk : 10000000 ≤ k) (hl : l.length ≤ 40) (hr : RgL l) : F48 k l x = some ((keyF x l 0, ()), ()) := by
  have e := F48_0_ok k l x hk hl hr l.length k 0 0 (Nat.zero_add _) (by omega) (Int.le_refl _) (by decide)
  rw [List.drop_zero, show ((0 : Nat) : Int) = 0 from rfl] at e
  unfold F48
  rw [e, Option.bind_some]
def RisL (l : List Int) : Prop := l.Pairwise (· < ·) ∧ ∀ x ∈ l, 0 ≤ x ∧ x ≤ 1114111
theorem risL_len {l : List Int} (h : RisL l) : l.length ≤ 1114112 := by
  have key : ∀ (l : List Int) (c : Nat), RisL l → (∀ r ∈ l, (c : Int) ≤ r) → c + l.length ≤ 1114112 ∨ l = [] := by
    intro l
    induction l with
    | nil => intro c _ _; exact .inr rfl
    | cons a l ih =>
      intro c hs hc
      obtain ⟨h1, h2⟩ := List.pairwise_cons.1 hs.1
      have ga := hs.2 a List.mem_cons_self
      have ha := hc a List.mem_cons_self
      left
      rcases ih (c + 1) ⟨h2, fun r hr => hs.2 r (List.mem_cons_of_mem _ hr)⟩ (fun r hr => by have := h1 r hr; omega) with q | q
      · simp only [List.length_cons]; omega
      · subst q
        simp only [List.length_cons, List.length_nil]
        omega
  rcases key l 0 h (fun r hr => by have := h.2 r hr; omega) with q | q
  · omega
  · subst q; simp
def insI (x : Int) (l : List Int) (p : Nat) : List Int := l.take p ++ [x] ++ l.drop p
def posI (x : Int) (l : List Int) (p : Nat) : Prop := p ≤ l.length ∧ (∀ r ∈ l.take p, r ≤ x) ∧ ∀ r ∈ l.drop p, x < r
theorem F47_0_ok (k : Nat) (t0 : List RgT) (t4 t5 : Int) (q : Nat) (c l : List Int) (hl : RisL l) (hq : q < c.length) : ∀ (p m : Nat), p < m → p ≤ l.length → (∀ r ∈ l.drop p, List.getD c q 0 < r) → ∃ z : Nat, F47_0 k m t0 t4 t5 (q : Int) (p : Int) c l = some ((t0, (t4, (t5, ((q : Int), ((z : Int), ()))))), (c, (l, ()))) ∧ posI (List.getD c q 0) l z
  | 0, m, hm, hp, hd => by
    obtain ⟨m, rfl⟩ : ∃ m', m = m' + 1 := ⟨m - 1, by omega⟩
    refine ⟨0, ?_, Nat.zero_le _, (fun r hr => by simp at hr), hd⟩
    simp only [F47_0]
    rw [decide_eq_false (by omega), cond_false]
  | p + 1, m, hm, hp, hd => by
    obtain ⟨m, rfl⟩ : ∃ m', m = m' + 1 := ⟨m - 1, by omega⟩
    have hlt : p < l.length := by omega
    have hlen := risL_len hl
    have hw : IntKind.wrap .i64 (((p + 1 : Nat) : Int) - 1) = (p : Int) := by rw [w64 _ (by omega) (by omega)]; omega
    simp only [F47_0, hw]
    rw [decide_eq_true (by omega), cond_true, if_pos (inR hq), if_pos (inR hlt), show Int.toNat (p : Int) = p from rfl, show Int.toNat (q : Int) = q from rfl, getD_lt l p _ hlt]
    by_cases hx : List.getD c q 0 < l[p]
    · rw [decide_eq_true hx, cond_true, Option.bind_fun_some]
      refine F47_0_ok k t0 t4 t5 q c l hl hq p m (by omega) (by omega) fun r hr => ?_
      rw [List.drop_eq_getElem_cons hlt] at hr
      rcases List.mem_cons.1 hr with e | e
      · rw [e]; exact hx
      · exact hd r e
    · rw [decide_eq_false hx, cond_false]
      refine ⟨p + 1, rfl, hp, fun r hr => ?_, hd⟩
      rw [List.take_succ_eq_append_getElem hlt] at hr
      rcases List.mem_append.1 hr with e | e
      · have h2 := hl.1
        rw [← List.take_append_drop p l, List.drop_eq_getElem_cons hlt] at h2
        have := (List.pairwise_append.1 h2).2.2 r e l[p] List.mem_cons_self
        omega
      · rw [List.mem_singleton] at e
        rw [e]; omega
theorem insI_ris {x : Int} {l : List Int} {p : Nat} (hl : RisL l) (h0 : 0 ≤ x) (h1 : x ≤ 1114111) (hp : posI x l p) (hne : p = 0 ∨ List.getD l (p - 1) 0 ≠ x) : RisL (insI x l p) := by
  obtain ⟨g0, g1, g2⟩ := hp
  have hs := hl.1
  rw [← List.take_append_drop p l] at hs
  obtain ⟨q1, q2, q3⟩ := List.pairwise_append.1 hs
  have hlt : ∀ r ∈ l.take p, r < x := fun r hr => by
    have h := g1 r hr
    rcases hne with e | e
    · subst e; simp at hr
    · have hp0 : p ≠ 0 := fun q => by subst q; simp at hr
      have hp1 : p - 1 < l.length := by omega
      rw [getD_lt l _ _ hp1] at e
      have hlast : l[p - 1] ≤ x := g1 _ (by
        have : p - 1 < (l.take p).length := by rw [List.length_take]; omega
        have e2 := List.getElem_mem this
        rwa [List.getElem_take] at e2)
      obtain ⟨j, hj, rfl⟩ := List.getElem_of_mem hr
      rw [List.length_take] at hj
      rw [List.getElem_take]
      by_cases hjp : j = p - 1
      · subst hjp; omega
      · have := List.pairwise_iff_getElem.1 hl.1 j (p - 1) (by omega) hp1 (by omega)
        omega
  constructor
  · refine List.pairwise_append.2 ⟨List.pairwise_append.2 ⟨q1, List.pairwise_singleton _ _, fun a ha b hb => ?_⟩, q2, fun a ha b hb => ?_⟩
    · rw [List.mem_singleton.1 hb]; exact hlt a ha
    · rcases List.mem_append.1 ha with e | e
      · exact q3 a e b hb
      · rw [List.mem_singleton.1 e]; exact g2 b hb
  · intro r hr
    rcases List.mem_append.1 hr with e | e
    · rcases List.mem_append.1 e with e | e
      · exact hl.2 r (List.mem_of_mem_take e)
      · rw [List.mem_singleton.1 e]; exact ⟨h0, h1⟩
    · exact hl.2 r (List.mem_of_mem_drop e)
theorem F47_1_ok (k : Nat) (t0 : List RgT) (t4 t5 : Int) (c : List Int) (hk : 10000000 ≤ k) (hc : c.length = 2) (h0 : ∀ x ∈ c, 0 ≤ x) : ∀ (d m q : Nat) (l : List Int), q + d = 2 → d < m → RisL l → ∃ l', F47_1 k m t0 t4 t5 (q : Int) c l = some ((t0, (t4, (t5, ()))), (l', ())) ∧ RisL l' ∧ (∀ x ∈ l, x ∈ l') ∧ ∀ x ∈ c.drop q, x ≤ 1114111 → x ∈ l'
  | 0, m, q, l, hq, hm, hl => by
    obtain ⟨m, rfl⟩ : ∃ m', m = m' + 1 := ⟨m - 1, by omega⟩
    obtain rfl : q = 2 := by omega
    refine ⟨l, ?_, hl, fun x hx => hx, fun x hx => ?_⟩
    · simp only [F47_1]
      rw [decide_eq_false (by omega), cond_false]
    · rw [List.drop_eq_nil_of_le (by omega)] at hx; cases hx
  | d + 1, m, q, l, hq, hm, hl => by
    obtain ⟨m, rfl⟩ : ∃ m', m = m' + 1 := ⟨m - 1, by omega⟩
    have hlt : q < c.length := by omega
    have hlen := risL_len hl
    obtain ⟨z, e, hz⟩ := F47_0_ok k t0 t4 t5 q c l hl hlt l.length k (by omega) (Nat.le_refl _) (fun r hr => by rw [List.drop_length] at hr; cases hr)
    have hzl := hz.1
    have hcq : List.getD c q 0 = c[q] := getD_lt c q 0 hlt
    have hq0 := h0 _ (List.getElem_mem hlt)
    have hdq : c.drop q = c[q] :: c.drop (q + 1) := List.drop_eq_getElem_cons hlt
    rw [hcq] at hz
    have hwq : IntKind.wrap .i64 ((q : Int) + 1) = ((q + 1 : Nat) : Int) := by rw [w64 _ (by omega) (by omega)]; omega
    have stay : (c[q] ≤ 1114111 → c[q] ∈ l) → ∃ l', (F47_1 k m t0 t4 t5 ((q + 1 : Nat) : Int) c l).bind some = some ((t0, (t4, (t5, ()))), (l', ())) ∧ RisL l' ∧ (∀ x ∈ l, x ∈ l') ∧ ∀ x ∈ c.drop q, x ≤ 1114111 → x ∈ l' := fun hin => by
      obtain ⟨l', e2, h2, h3, h4⟩ := F47_1_ok k t0 t4 t5 c hk hc h0 d m (q + 1) l (by omega) (by omega) hl
      refine ⟨l', by rw [e2]; rfl, h2, h3, fun x hx hx2 => ?_⟩
      rw [hdq] at hx
      rcases List.mem_cons.1 hx with g | g
      · subst g; exact h3 _ (hin hx2)
      · exact h4 x g hx2
    have put : c[q] ≤ 1114111 → (z = 0 ∨ List.getD l (z - 1) 0 ≠ c[q]) → ∃ l', (F47_1 k m t0 t4 t5 ((q + 1 : Nat) : Int) c (l.take z ++ [c[q]] ++ l.drop z)).bind some = some ((t0, (t4, (t5, ()))), (l', ())) ∧ RisL l' ∧ (∀ x ∈ l, x ∈ l') ∧ ∀ x ∈ c.drop q, x ≤ 1114111 → x ∈ l' := fun hle hne => by
      have hr := insI_ris hl hq0 hle hz hne
      have hin : ∀ x ∈ l, x ∈ insI c[q] l z := fun x hx => by
        unfold insI
        rw [← List.take_append_drop z l] at hx
        rcases List.mem_append.1 hx with g | g
        · exact List.mem_append_left _ (List.mem_append_left _ g)
        · exact List.mem_append_right _ g
      obtain ⟨l', e2, h2, h3, h4⟩ := F47_1_ok k t0 t4 t5 c hk hc h0 d m (q + 1) (insI c[q] l z) (by omega) (by omega) hr
      refine ⟨l', by
        have e3 : F47_1 k m t0 t4 t5 ((q + 1 : Nat) : Int) c (l.take z ++ [c[q]] ++ l.drop z) = _ := e2
        rw [e3]; rfl, h2, fun x hx => h3 x (hin x hx), fun x hx hx2 => ?_⟩
      rw [hdq] at hx
      rcases List.mem_cons.1 hx with g | g
      · subst g
        exact h3 _ (List.mem_append_left _ (List.mem_append_right _ (List.mem_singleton.2 rfl)))
      · exact h4 x g hx2
    have w1 : (0 : Int) ≤ 0 ∧ (0 : Int) ≤ (z : Int) ∧ (z : Int) ≤ ((l.length : Nat) : Int) := by omega
    have w2 : (0 : Int) ≤ (z : Int) ∧ (z : Int) ≤ ((l.length : Nat) : Int) ∧ ((l.length : Nat) : Int) ≤ ((l.length : Nat) : Int) := by omega
    have ht : (l.drop z).take (l.length - z) = l.drop z := List.take_of_length_le (by rw [List.length_drop]; omega)
    have k1 : (0 + (l.take z).length) * (8 * 2) ≤ 281474976710656 ∧ 0 + (l.take z).length ≤ 9223372036854775807 := by rw [List.length_take]; omega
    have k2 : ((l.take z).length + [c[q]].length) * (8 * 2) ≤ 281474976710656 ∧ (l.take z).length + [c[q]].length ≤ 9223372036854775807 := by rw [List.length_take, List.length_singleton]; omega
    have k3 : ((l.take z ++ [c[q]]).length + (l.drop z).length) * (8 * 2) ≤ 281474976710656 ∧ (l.take z ++ [c[q]]).length + (l.drop z).length ≤ 9223372036854775807 := by rw [List.length_append, List.length_take, List.length_singleton, List.length_drop]; omega
    simp only [F47_1]
    rw [decide_eq_true (show (q : Int) < 2 by omega), cond_true, e, Option.bind_some]
    simp only [List.replicate_zero, List.nil_append, List.length_nil, one_list]
    rw [if_pos (inR hlt), show Int.toNat (q : Int) = q from rfl, show Int.toNat (z : Int) = z from rfl, show Int.toNat ((l.length : Nat) : Int) = l.length from rfl, show Int.toNat 0 = 0 from rfl, Nat.sub_zero, List.drop_zero, hcq, hwq, ht]
    by_cases hle : c[q] ≤ 1114111
    · rw [decide_eq_true hle, cond_true]
      by_cases hz0 : z = 0
      · rw [show ((z : Int) == 0) = true by rw [hz0]; rfl, cond_true, if_pos w1, if_pos (inR hlt), if_pos w2, if_pos k1, if_pos k2, if_pos k3]
        exact put hle (.inl hz0)
      · have hz1 : z - 1 < l.length := by omega
        have hw : IntKind.wrap .i64 ((z : Int) - 1) = ((z - 1 : Nat) : Int) := by rw [w64 _ (by omega) (by omega)]; omega
        rw [beq_false_of_ne (show ¬ (z : Int) = 0 by omega), cond_false, hw, if_pos (inR hz1), if_pos (inR hlt), show Int.toNat ((z - 1 : Nat) : Int) = z - 1 from rfl]
        by_cases he : List.getD l (z - 1) 0 = c[q]
        · rw [show (List.getD l (z - 1) 0 != c[q]) = false by rw [he]; simp, cond_false]
          refine stay fun _ => ?_
          rw [← he]
          exact getD_mem hz1
        · rw [show (List.getD l (z - 1) 0 != c[q]) = true by simpa using he, cond_true, if_pos w1, if_pos (inR hlt), if_pos w2, if_pos k1, if_pos k2, if_pos k3]
          exact put hle (.inr he)
    · rw [decide_eq_false hle, cond_false]
      exact stay fun h => absurd h hle
end Go.Proofs.YtgojfdimbciaiaaE
set_option linter.unusedSimpArgs false
set_option linter.unusedVariables false
set_option maxRecDepth 20000
namespace Go.Proofs.YtgojfdimbciaiaaE
theorem rgs_at {t : RgT} (h : RgS t) {i : Nat} (hi : i < t.length) : RgP (t[i]) := h.2 _ (List.getElem_mem hi)
theorem F47_2_ok (k : Nat) (t0 : List RgT) (q : Nat) (hk : 10000000 ≤ k) (hq : q < t0.length) (hs : RgS (List.getD t0 q [])) : ∀ (d m i : Nat) (l : List Int), i + d = (List.getD t0 q []).length → d < m → RisL l → ∃ l', F47_2 k m t0 (q : Int) (i : Int) l = some ((t0, ((q : Int), ())), (l', ())) ∧ RisL l' ∧ ∀ x ∈ l, x ∈ l'
  | 0, m, i, l, hi, hm, hl => by
    obtain ⟨m, rfl⟩ : ∃ m', m = m' + 1 := ⟨m - 1, by omega⟩
    refine ⟨l, ?_, hl, fun x hx => hx⟩
    simp only [F47_2]
    rw [if_pos (inR hq), show Int.toNat (q : Int) = q from rfl, decide_eq_false (by omega), cond_false]
  | d + 1, m, i, l, hi, hm, hl => by
    obtain ⟨m, rfl⟩ : ∃ m', m = m' + 1 := ⟨m - 1, by omega⟩
    have hlt : i < (List.getD t0 q []).length := by omega
    have hlen := rgS_len hs
    have hP := rgs_at hs hlt
    obtain ⟨p0, p1, p2⟩ := hP
    have hw : IntKind.wrap .i64 ((List.getD t0 q [])[i].2.1 + 1) = (List.getD t0 q [])[i].2.1 + 1 := w64 _ (by omega) (by omega)
    obtain ⟨l1, e1, h1, h2, _⟩ := F47_1_ok k t0 (q : Int) (i : Int) [(List.getD t0 q [])[i].1, (List.getD t0 q [])[i].2.1 + 1] hk rfl (fun x hx => by
      rcases List.mem_cons.1 hx with g | g
      · rw [g]; exact p0
      · rcases List.mem_cons.1 g with g | g
        · rw [g]; omega
        · cases g) 2 k 0 l rfl (by omega) hl
    obtain ⟨l2, e2, h3, h4⟩ := F47_2_ok k t0 q hk hq hs d m (i + 1) l1 (by omega) (by omega) h1
    refine ⟨l2, ?_, h3, fun x hx => h4 x (h2 x hx)⟩
    have e1' : F47_1 k k t0 (q : Int) (i : Int) 0 (List.set (List.set (List.replicate 2 (0 : Int)) 0 (List.getD t0 q [])[i].1) 1 ((List.getD t0 q [])[i].2.1 + 1)) l = _ := e1
    have hwi : IntKind.wrap .i64 ((i : Int) + 1) = ((i + 1 : Nat) : Int) := by rw [w64 _ (by omega) (by omega)]; omega
    simp only [F47_2]
    rw [if_pos (inR hq), show Int.toNat (q : Int) = q from rfl, dlt hlt, cond_true, if_pos (inR hq), if_pos (inR hlt), if_pos (inR hq), if_pos (inR hlt), show Int.toNat (i : Int) = i from rfl, getD_lt (List.getD t0 q []) i _ hlt, hw, e1', Option.bind_some]
    simp only
    rw [hwi, e2]
    rfl
theorem F47_3_ok (k : Nat) (t0 : List RgT) (hk : 10000000 ≤ k) (hn : t0.length ≤ 1000) (hs : RgL t0) : ∀ (d m i : Nat) (l : List Int), i + d = t0.length → d < m → RisL l → ∃ l', F47_3 k m t0 (i : Int) l = some ((), (l', ())) ∧ RisL l' ∧ ∀ x ∈ l, x ∈ l'
  | 0, m, i, l, hi, hm, hl => by
    obtain ⟨m, rfl⟩ : ∃ m', m = m' + 1 := ⟨m - 1, by omega⟩
    refine ⟨l, ?_, hl, fun x hx => hx⟩
    simp only [F47_3]
    rw [decide_eq_false (by omega), cond_false]
  | d + 1, m, i, l, hi, hm, hl => by
    obtain ⟨m, rfl⟩ : ∃ m', m = m' + 1 := ⟨m - 1, by omega⟩
    have hlt : i < t0.length := by omega
    have hr := rgL_at hs i
    have hlen := rgS_len hr
    obtain ⟨l1, e1, h1, h2⟩ := F47_2_ok k t0 i hk hlt hr (List.getD t0 i []).length k 0 l (Nat.zero_add _) (by omega) hl
    obtain ⟨l2, e2, h3, h4⟩ := F47_3_ok k t0 hk hn hs d m (i + 1) l1 (by omega) (by omega) h1
    refine ⟨l2, ?_, h3, fun x hx => h4 x (h2 x hx)⟩
    rw [show ((0 : Nat) : Int) = 0 from rfl] at e1
    simp only [F47_3]
    rw [dlt hlt, cond_true, e1, Option.bind_some]
    simp only
    rw [wsucc i _ hlt (by omega), e2]
    rfl
theorem F47_ok (k : Nat) (t0 : List RgT) (hk : 10000000 ≤ k) (hn : t0.length ≤ 1000) (hs : RgL t0) : ∃ l, F47 k t0 = some ((l, ()), ()) ∧ RisL l ∧ 0 ∈ l := by
  obtain ⟨l, e, h1, h2⟩ := F47_3_ok k t0 hk hn hs t0.length k 0 [0] (Nat.zero_add _) (by omega) ⟨List.pairwise_singleton _ _, fun x hx => by
    rw [List.mem_singleton.1 hx]; omega⟩
  refine ⟨l, ?_, h1, h2 0 (List.mem_singleton.2 rfl)⟩
  have e' : F47_3 k k t0 0 (List.set (List.replicate 1 (0 : Int)) 0 0) = _ := e
  unfold F47
  simp only
  rw [e', Option.bind_some]
theorem F29_0_ok (k : Nat) (t0 : List RgT) (t8 t9 t10 : Int) (a b c s : List Int) (hn : s.length ≤ 5000000) : ∀ (d m i : Nat), i + d = s.length → d < m → ∃ j : Nat, F29_0 k m t0 t8 t9 t10 (i : Int) a b c s = some ((t0, (t8, (t9, (t10, ((j : Int), ()))))), (a, (b, (c, (s, ()))))) ∧ j ≤ s.length
  | 0, m, i, hi, hm => by
    obtain ⟨m, rfl⟩ : ∃ m', m = m' + 1 := ⟨m - 1, by omega⟩
    refine ⟨i, ?_, by omega⟩
    simp only [F29_0]
    rw [decide_eq_false (by omega), cond_false]
  | d + 1, m, i, hi, hm => by
    obtain ⟨m, rfl⟩ : ∃ m', m = m' + 1 := ⟨m - 1, by omega⟩
    have hlt : i < s.length := by omega
    obtain ⟨j, e, hj⟩ := F29_0_ok k t0 t8 t9 t10 a b c s hn d m (i + 1) (by omega) (by omega)
    simp only [F29_0]
    rw [dlt hlt, cond_true, if_pos (inR hlt), wsucc i _ hlt (by omega)]
    cases (List.getD s (Int.toNat (i : Int)) 0 != t10) with
    | true => exact ⟨j, by rw [cond_true, e]; rfl, hj⟩
    | false => exact ⟨i, by rw [cond_false], by omega⟩
def LetP (n : Nat) (l : List Int) : Prop := ∀ x ∈ l, 0 ≤ x ∧ x < (n : Int)
theorem LetP.add {n : Nat} {l : List Int} (h : LetP n l) {j m : Nat} (hj : j < m) (hm : n ≤ m) : LetP m (l ++ [(j : Int)]) := fun x hx => by
  rcases List.mem_append.1 hx with g | g
  · have := h x g
    omega
  · rw [List.mem_singleton.1 g]; omega
theorem F29_1_ok (k : Nat) (t0 : List RgT) (p : List Int) (hk : 10000000 ≤ k) (hn : t0.length ≤ 40) (hs : RgL t0) (hp : p.length ≤ 2000000) : ∀ (d m i : Nat) (t8 : Int) (b c s : List Int), i + d = p.length → d < m → b.length = c.length → c.length ≤ i → s.length ≤ i → LetP s.length c →
    ∃ b' c', F29_1 k m t0 t8 (i : Int) p b c s = some ((), (b', (c', ()))) ∧ b'.length = c'.length ∧ c'.length ≤ 2000000 ∧ LetP 2000000 c'
  | 0, m, i, t8, b, c, s, hi, hm, hb, hc, hl, hL => by
    obtain ⟨m, rfl⟩ : ∃ m', m = m' + 1 := ⟨m - 1, by omega⟩
    refine ⟨b, c, ?_, hb, by omega, fun x hx => ?_⟩
    · simp only [F29_1]
      rw [decide_eq_false (by omega), cond_false]
    · have := hL x hx
      omega
  | d + 1, m, i, t8, b, c, s, hi, hm, hb, hc, hl, hL => by
    obtain ⟨m, rfl⟩ : ∃ m', m = m' + 1 := ⟨m - 1, by omega⟩
    have hlt : i < p.length := by omega
    simp only [F29_1]
    rw [dlt hlt, cond_true, if_pos (inR hlt), show Int.toNat (i : Int) = i from rfl, F48_ok k t0 _ hk hn hs, Option.bind_some]
    simp only
    generalize keyF (List.getD p i 0) t0 0 = v
    rw [wsucc i _ hlt (by omega)]
    cases (v == t8) with
    | true =>
      obtain ⟨b', c', e, h⟩ := F29_1_ok k t0 p hk hn hs hp d m (i + 1) t8 b c s (by omega) (by omega) hb (by omega) (by omega) hL
      exact ⟨b', c', by rw [cond_true, e]; rfl, h⟩
    | false =>
      obtain ⟨j, e, hj⟩ := F29_0_ok k t0 v (i : Int) v p b c s (by omega) s.length k 0 (Nat.zero_add _) (by omega)
      rw [show ((0 : Nat) : Int) = 0 from rfl] at e
      rw [cond_false, e, Option.bind_some]
      simp only [one_list]
      have k1 : (s.length + [v].length) * (8 * 2) ≤ 281474976710656 ∧ s.length + [v].length ≤ 9223372036854775807 := by rw [List.length_singleton]; omega
      have k2 : (b.length + [List.getD p i 0].length) * (8 * 2) ≤ 281474976710656 ∧ b.length + [List.getD p i 0].length ≤ 9223372036854775807 := by rw [List.length_singleton]; omega
      have k3 : (c.length + [(j : Int)].length) * (8 * 2) ≤ 281474976710656 ∧ c.length + [(j : Int)].length ≤ 9223372036854775807 := by rw [List.length_singleton]; omega
      have hb2 : (b ++ [List.getD p i 0]).length = (c ++ [(j : Int)]).length := by simp [hb]
      have hc2 : (c ++ [(j : Int)]).length ≤ i + 1 := by simp; omega
      rw [wsucc i _ hlt (by omega), show Int.toNat (i : Int) = i from rfl]
      by_cases he : j = s.length
      · subst he
        have hs2 : (s ++ [v]).length = s.length + 1 := by simp
        obtain ⟨b', c', e, h⟩ := F29_1_ok k t0 p hk hn hs hp d m (i + 1) v (b ++ [List.getD p i 0]) (c ++ [((s.length : Nat) : Int)]) (s ++ [v]) (by omega) (by omega) hb2 hc2 (by omega) (by
          rw [hs2]; exact hL.add (by omega) (by omega))
        refine ⟨b', c', ?_, h⟩
        rw [show (((s.length : Nat) : Int) == ((s.length : Nat) : Int)) = true by simp, cond_true, if_pos k1, if_pos (inR hlt), if_pos k2, if_pos k3, e]
        rfl
      · obtain ⟨b', c', e, h⟩ := F29_1_ok k t0 p hk hn hs hp d m (i + 1) v (b ++ [List.getD p i 0]) (c ++ [(j : Int)]) s (by omega) (by omega) hb2 hc2 (by omega) (hL.add (by omega) (by omega))
        refine ⟨b', c', ?_, h⟩
        rw [beq_false_of_ne (show ¬ (j : Int) = ((s.length : Nat) : Int) by omega), cond_false, if_pos (inR hlt), if_pos k2, if_pos k3, e]
        rfl
theorem F29_ok (k : Nat) (t0 : List RgT) (hk : 10000000 ≤ k) (hn : t0.length ≤ 40) (hs : RgL t0) : ∃ b c, F29 k t0 = some ((b, (c, ())), ()) ∧ b.length = c.length ∧ c.length ≤ 2000000 ∧ LetP 2000000 c := by
  obtain ⟨p, e, hp, _⟩ := F47_ok k t0 hk (by omega) hs
  have hl := risL_len hp
  obtain ⟨b, c, e2, h⟩ := F29_1_ok k t0 p hk hn hs (by omega) p.length k 0 (-1) [] [] [] (Nat.zero_add _) (by omega) rfl (Nat.le_refl _) (Nat.le_refl _) (fun x hx => by cases hx)
  refine ⟨b, c, ?_, h⟩
  rw [show ((0 : Nat) : Int) = 0 from rfl] at e2
  unfold F29
  rw [e, Option.bind_some]
  simp only
  rw [e2, Option.bind_some]
theorem F50_0_ok (k : Nat) (l : List Int) (hl : l.length ≤ 5000000) (hL : LetP 2000000 l) : ∀ (d m i : Nat) (t : Int), i + d = l.length → d < m → 0 ≤ t → t ≤ 2000000 → (∀ x ∈ l.take i, x < t) → ∃ c, F50_0 k m l t (i : Int) = some ((c, ()), ()) ∧ 0 ≤ c ∧ c ≤ 2000000 ∧ ∀ x ∈ l, x < c
  | 0, m, i, t, hi, hm, h0, h1, hx => by
    obtain ⟨m, rfl⟩ : ∃ m', m = m' + 1 := ⟨m - 1, by omega⟩
    refine ⟨t, ?_, h0, h1, fun x h => hx x ?_⟩
    · simp only [F50_0]
      rw [decide_eq_false (by omega), cond_false]
    · rw [List.take_of_length_le (by omega)]; exact h
  | d + 1, m, i, t, hi, hm, h0, h1, hx => by
    obtain ⟨m, rfl⟩ : ∃ m', m = m' + 1 := ⟨m - 1, by omega⟩
    have hlt : i < l.length := by omega
    have hx2 := hL _ (List.getElem_mem hlt)
    have hm2 : maxI t (l[i] + 1) = t ∧ l[i] + 1 ≤ t ∨ maxI t (l[i] + 1) = l[i] + 1 ∧ t ≤ l[i] + 1 := by
      unfold maxI
      split <;> omega
    obtain ⟨c, e, h⟩ := F50_0_ok k l hl hL d m (i + 1) (maxI t (l[i] + 1)) (by omega) (by omega) (by omega) (by omega) (fun x h => by
      rw [List.take_succ_eq_append_getElem hlt] at h
      rcases List.mem_append.1 h with g | g
      · have := hx x g; omega
      · rw [List.mem_singleton.1 g]; omega)
    refine ⟨c, ?_, h⟩
    simp only [F50_0]
    rw [dlt hlt, cond_true, if_pos (inR hlt), show Int.toNat (i : Int) = i from rfl, getD_lt l i _ hlt, wsucc i _ hlt (by omega), w64 (l[i] + 1) (by omega) (by omega), e]
    rfl
theorem F50_ok (k : Nat) (l : List Int) (hk : 10000000 ≤ k) (hl : l.length ≤ 5000000) (hL : LetP 2000000 l) : ∃ c, F50 k l = some ((c, ()), ()) ∧ 0 ≤ c ∧ c ≤ 2000000 ∧ ∀ x ∈ l, x < c := by
  obtain ⟨c, e, h⟩ := F50_0_ok k l hl hL l.length k 0 0 (Nat.zero_add _) (by omega) (Int.le_refl _) (by omega) (fun x h => by rw [List.take_zero] at h; cases h)
  rw [show ((0 : Nat) : Int) = 0 from rfl] at e
  exact ⟨c, by
    unfold F50
    rw [e, Option.bind_some], h⟩
theorem F31_0_ok (k : Nat) (t0 : List RgT) (p q : List Int) (u : Nat) (m2 : List (List Bool)) (N : Nat) (hk : 10000000 ≤ k) (hu : u < t0.length) (hs : RgL t0) (hpq : p.length = q.length) (hp : p.length ≤ 2000000) (hq : ∀ x ∈ q, 0 ≤ x ∧ x < (N : Int)) : ∀ (d m i : Nat) (row : List Bool), i + d = p.length → d < m → row.length = N → ∃ row', F31_0 k m t0 p q (u : Int) (i : Int) row m2 = some ((t0, (p, (q, ((u : Int), ())))), (row', (m2, ()))) ∧ row'.length = N
  | 0, m, i, row, hi, hm, hr => by
    obtain ⟨m, rfl⟩ : ∃ m', m = m' + 1 := ⟨m - 1, by omega⟩
    refine ⟨row, ?_, hr⟩
    simp only [F31_0]
    rw [decide_eq_false (by omega), cond_false]
  | d + 1, m, i, row, hi, hm, hr => by
    obtain ⟨m, rfl⟩ : ∃ m', m = m' + 1 := ⟨m - 1, by omega⟩
    have hlt : i < p.length := by omega
    have hlt2 : i < q.length := by omega
    have hlen := rgS_len (rgL_at hs u)
    have hx := hq _ (List.getElem_mem hlt2)
    obtain ⟨row', e, h⟩ := F31_0_ok k t0 p q u m2 N hk hu hs hpq hp hq d m (i + 1) (List.set row (Int.toNat q[i]) (has (List.getD t0 u []) (List.getD p i 0))) (by omega) (by omega) (by rw [List.length_set]; exact hr)
    refine ⟨row', ?_, h⟩
    have hin : 0 ≤ q[i] ∧ q[i] < ((List.length row : Nat) : Int) := by omega
    simp only [F31_0]
    rw [dlt hlt, cond_true, if_pos (inR hlt2), if_pos (inR hu), if_pos (inR hlt), show Int.toNat (u : Int) = u from rfl, show Int.toNat (i : Int) = i from rfl, F51_ok k _ _ (by omega) hk, Option.bind_some]
    simp only
    rw [getD_lt q i _ hlt2, if_pos hin, wsucc i _ hlt (by omega), e]
    rfl
theorem F31_1_ok (k : Nat) (t0 : List RgT) (p q : List Int) (c : Int) (hk : 10000000 ≤ k) (hn : t0.length ≤ 1000) (hs : RgL t0) (hpq : p.length = q.length) (hp : p.length ≤ 2000000) (e50 : F50 k q = some ((c, ()), ())) (hc0 : 0 ≤ c) (hc1 : c ≤ 2000000) (hq : ∀ x ∈ q, 0 ≤ x ∧ x < c) : ∀ (d m i : Nat) (M : List (List Bool)), i + d = t0.length → d < m → M.length = i → (∀ r ∈ M, r.length = c.toNat) → ∃ M', F31_1 k m t0 p q (i : Int) M = some ((), (M', ())) ∧ M'.length = t0.length ∧ ∀ r ∈ M', r.length = c.toNat
  | 0, m, i, M, hi, hm, hM, hr => by
    obtain ⟨m, rfl⟩ : ∃ m', m = m' + 1 := ⟨m - 1, by omega⟩
    refine ⟨M, ?_, by omega, hr⟩
    simp only [F31_1]
    rw [decide_eq_false (by omega), cond_false]
  | d + 1, m, i, M, hi, hm, hM, hr => by
    obtain ⟨m, rfl⟩ : ∃ m', m = m' + 1 := ⟨m - 1, by omega⟩
    have hlt : i < t0.length := by omega
    obtain ⟨row, e, h⟩ := F31_0_ok k t0 p q i M c.toNat hk hlt hs hpq hp (fun x hx => by have := hq x hx; omega) p.length k 0 (List.replicate c.toNat false) (Nat.zero_add _) (by omega) (by simp)
    rw [show ((0 : Nat) : Int) = 0 from rfl] at e
    obtain ⟨M', e2, h2, h3⟩ := F31_1_ok k t0 p q c hk hn hs hpq hp e50 hc0 hc1 hq d m (i + 1) (M ++ [row]) (by omega) (by omega) (by simp [hM]) (fun r hx => by
      rcases List.mem_append.1 hx with g | g
      · exact hr r g
      · rw [List.mem_singleton.1 g]; exact h)
    refine ⟨M', ?_, h2, h3⟩
    have k1 : (0 ≤ c ∧ c < c + 1) ∧ c ≤ 9223372036854775807 ∧ ((1 : Nat) : Int) * c ≤ 281474976710656 := by omega
    have k2 : (M.length + [row].length) * (24 * 2) ≤ 281474976710656 ∧ M.length + [row].length ≤ 9223372036854775807 := by rw [List.length_singleton]; omega
    simp only [F31_1]
    rw [dlt hlt, cond_true, e50, Option.bind_some]
    simp only
    rw [if_pos k1, e, Option.bind_some]
    simp only [one_list]
    rw [wsucc i _ hlt (by omega)]
    rw [if_pos k2, e2]
    rfl
theorem F31_ok (k : Nat) (t0 : List RgT) (p q : List Int) (hk : 10000000 ≤ k) (hn : t0.length ≤ 1000) (hs : RgL t0) (hpq : p.length = q.length) (hp : p.length ≤ 2000000) (hL : LetP 2000000 q) : ∃ M, F31 k t0 p q = some ((M, ()), ()) ∧ M.length = t0.length ∧ ∀ r ∈ M, r.length ≤ 2000000 := by
  obtain ⟨c, e, h0, h1, h2⟩ := F50_ok k q hk (by omega) hL
  obtain ⟨M, e2, h3, h4⟩ := F31_1_ok k t0 p q c hk hn hs hpq hp e h0 h1 (fun x hx => ⟨(hL x hx).1, h2 x hx⟩) t0.length k 0 [] (Nat.zero_add _) (by omega) rfl (fun r hr => by cases hr)
  refine ⟨M, ?_, h3, fun r hr => by have := h4 r hr; omega⟩
  rw [show ((0 : Nat) : Int) = 0 from rfl] at e2
  unfold F31
  rw [e2, Option.bind_some]
theorem F49_0_ok (k : Nat) (M : List (List Bool)) (u v : Nat) (s : SideT) (hu : u < s.1.length) (hv : List.getD s.1 u 0 = (v : Int)) (hM : v < M.length) (hr : (List.getD M v []).length ≤ 5000000) : ∀ (d m i : Nat), i + d = (List.getD M v []).length → d < m → F49_0 k m M (u : Int) (i : Int) s = some (.inl ((), ())) ∨ F49_0 k m M (u : Int) (i : Int) s = some (.inr ((true, ()), ()))
  | 0, m, i, hi, hm => by
    obtain ⟨m, rfl⟩ : ∃ m', m = m' + 1 := ⟨m - 1, by omega⟩
    left
    simp only [F49_0]
    rw [if_pos (inR hu), show Int.toNat (u : Int) = u from rfl, hv, if_pos (inR hM), show Int.toNat (v : Int) = v from rfl, decide_eq_false (by omega), cond_false]
  | d + 1, m, i, hi, hm => by
    obtain ⟨m, rfl⟩ : ∃ m', m = m' + 1 := ⟨m - 1, by omega⟩
    have hlt : i < (List.getD M v []).length := by omega
    have ih := F49_0_ok k M u v s hu hv hM hr d m (i + 1) (by omega) (by omega)
    simp only [F49_0]
    rw [if_pos (inR hu), show Int.toNat (u : Int) = u from rfl, hv, if_pos (inR hM), show Int.toNat (v : Int) = v from rfl, dlt hlt, cond_true, if_pos (inR hu), if_pos (inR hM), if_pos (inR hlt), wsucc i _ hlt (by omega)]
    cases List.getD (List.getD M v []) (Int.toNat (i : Int)) false with
    | true => right; rw [cond_true]
    | false =>
      rw [cond_false]
      rcases ih with e | e
      · left; rw [e]; rfl
      · right; rw [e]; rfl
theorem F49_ok (k : Nat) (M : List (List Bool)) (u : Nat) (s : SideT) (hk : 10000000 ≤ k) (hu : u < s.1.length) (hv : List.getD s.1 u 0 < ((M.length : Nat) : Int)) (hr : ∀ r ∈ M, r.length ≤ 2000000) : ∃ b, F49 k s M (u : Int) = some ((b, ()), ()) := by
  unfold F49
  rw [if_pos (inR hu), show Int.toNat (u : Int) = u from rfl]
  by_cases h : List.getD s.1 u 0 < 0
  · exact ⟨true, by rw [decide_eq_true h]; rfl⟩
  · obtain ⟨v, hv'⟩ : ∃ v : Nat, List.getD s.1 u 0 = (v : Int) := ⟨(List.getD s.1 u 0).toNat, by omega⟩
    have hM : v < M.length := by omega
    have h2 := hr _ (getD_mem (d := []) hM)
    rw [decide_eq_false h]
    simp only [cond_false]
    rcases F49_0_ok k M u v s hu hv' hM (by omega) (List.getD M v []).length k 0 (Nat.zero_add _) (by omega) with e | e
    · rw [show ((0 : Nat) : Int) = 0 from rfl] at e
      exact ⟨false, by rw [e]; rfl⟩
    · rw [show ((0 : Nat) : Int) = 0 from rfl] at e
      exact ⟨true, by rw [e]; rfl⟩
end Go.Proofs.YtgojfdimbciaiaaE
set_option linter.unusedSimpArgs false
set_option linter.unusedVariables false
set_option maxRecDepth 20000
namespace Go.Proofs.YtgojfdimbciaiaaE
abbrev sd0 : SideT := (([] : (List Int)), (([] : (List Int)), (([] : (List Int)), (([] : (List (Int × (Int × (Int × Unit))))), ((0 : Int), ())))))
def offs : List Bool → Nat
  | [] => 0
  | b :: l => (if b then 0 else 1) + offs l
theorem offs_le : ∀ l : List Bool, offs l ≤ l.length
  | [] => Nat.le_refl _
  | b :: l => by
    have := offs_le l
    unfold offs
    simp only [List.length_cons]
    split <;> omega
theorem offs_set : ∀ (l : List Bool) (i : Nat), i < l.length → offs (List.set l i true) + (if List.getD l i false then 0 else 1) = offs l
  | [], i, h => by simp at h
  | b :: l, 0, h => by
    cases b <;> simp [offs]
    omega
  | b :: l, i + 1, h => by
    have := offs_set l i (by simpa using h)
    simp only [List.set_cons_succ, offs, List.getD_cons_succ]
    omega
theorem F30_0_ok {n M0 : Nat} {C : Int} (k : Nat) (M : List (List Bool)) (s c4 : SideT) (hk : 10000000 ≤ k) (hn : n ≤ 500) (hs : SideG n C M0 s) (hM : M0 ≤ M.length) (hr : ∀ r ∈ M, r.length ≤ 2000000) : ∀ (d m i : Nat) (a b c : List Bool), i + d = n → d < m → a.length = n → b.length = n → c.length = n →
    ∃ a' b' c', F30_0 k m M (n : Int) (i : Int) s c4 a b c = some (((n : Int), ()), (s, (c4, (a', (b', (c', ())))))) ∧ a'.length = n ∧ b'.length = n ∧ c'.length = n
  | 0, m, i, a, b, c, hi, hm, ha, hb, hc => by
    obtain ⟨m, rfl⟩ : ∃ m', m = m' + 1 := ⟨m - 1, by omega⟩
    refine ⟨a, b, c, ?_, ha, hb, hc⟩
    simp only [F30_0]
    rw [decide_eq_false (by omega), cond_false]
  | d + 1, m, i, a, b, c, hi, hm, ha, hb, hc => by
    obtain ⟨m, rfl⟩ : ∃ m', m = m' + 1 := ⟨m - 1, by omega⟩
    have hls := hs.ls
    have hlf := hs.lf
    have hle := hs.le
    have hx := hs.sets (List.getD s.1 i 0) (getD_mem (by omega))
    obtain ⟨v, e⟩ := F49_ok k M i s hk (by omega) (by omega) hr
    have key : ∀ a' b' c' : List Bool, a'.length = n → b'.length = n → c'.length = n → ∃ a2 b2 c2, (F30_0 k m M (n : Int) ((i + 1 : Nat) : Int) s c4 a' b' c').bind some = some (((n : Int), ()), (s, (c4, (a2, (b2, (c2, ())))))) ∧ a2.length = n ∧ b2.length = n ∧ c2.length = n := fun a' b' c' g1 g2 g3 => by
      obtain ⟨a2, b2, c2, e, h⟩ := F30_0_ok k M s c4 hk hn hs hM hr d m (i + 1) a' b' c' (by omega) (by omega) g1 g2 g3
      exact ⟨a2, b2, c2, by rw [e]; rfl, h⟩
    have wi : IntKind.wrap .i64 ((i : Int) + 1) = ((i + 1 : Nat) : Int) := by rw [w64 _ (by omega) (by omega)]; omega
    have q1 : (0 : Int) ≤ (i : Int) ∧ (i : Int) < ((c.length : Nat) : Int) := by omega
    have q2 : (0 : Int) ≤ (i : Int) ∧ (i : Int) < (((List.set c (Int.toNat (i : Int)) v).length : Nat) : Int) := by rw [List.length_set]; omega
    have q3 : (0 : Int) ≤ (i : Int) ∧ (i : Int) < ((s.2.1.length : Nat) : Int) := by omega
    have q4 : (0 : Int) ≤ (i : Int) ∧ (i : Int) < ((s.2.2.1.length : Nat) : Int) := by omega
    have q5 : (0 : Int) ≤ (i : Int) ∧ (i : Int) < ((a.length : Nat) : Int) := by omega
    have q6 : (0 : Int) ≤ (i : Int) ∧ (i : Int) < ((b.length : Nat) : Int) := by omega
    simp only [F30_0]
    rw [decide_eq_true (by omega), cond_true, e, Option.bind_some]
    simp only
    rw [if_pos q1, if_pos q2, wi]
    cases List.getD (List.set c (Int.toNat (i : Int)) v) (Int.toNat (i : Int)) false with
    | true =>
      rw [cond_true, if_pos q3, if_pos q2, cond_true, if_pos q4, if_pos q5, if_pos q6]
      exact key _ _ _ (by rw [List.length_set]; exact ha) (by rw [List.length_set]; exact hb) (by rw [List.length_set]; exact hc)
    | false =>
      rw [cond_false, if_pos q2, cond_false, if_pos q5, if_pos q6]
      exact key _ _ _ (by rw [List.length_set]; exact ha) (by rw [List.length_set]; exact hb) (by rw [List.length_set]; exact hc)
theorem F30_1_ok {n M0 : Nat} {C : Int} (k : Nat) (s c4 : SideT) (c : List Bool) (hn : n ≤ 500) (hs : SideG n C M0 s) (hc : c.length = n) : ∀ (d m i : Nat) (t : Bool) (a b : List Bool), i + d = s.2.2.2.1.length → d < m → a.length = n → b.length = n →
    ∃ t' a' b', F30_1 k m (n : Int) t (i : Int) s c4 a b c = some (((n : Int), (t', ())), (s, (c4, (a', (b', (c, ())))))) ∧ a'.length = n ∧ b'.length = n ∧ offs a' + offs b' ≤ offs a + offs b ∧ (t' = true → t = true ∨ offs a' + offs b' < offs a + offs b)
  | 0, m, i, t, a, b, hi, hm, ha, hb => by
    obtain ⟨m, rfl⟩ : ∃ m', m = m' + 1 := ⟨m - 1, by omega⟩
    refine ⟨t, a, b, ?_, ha, hb, Nat.le_refl _, fun h => .inl h⟩
    simp only [F30_1]
    rw [decide_eq_false (by omega), cond_false]
  | d + 1, m, i, t, a, b, hi, hm, ha, hb => by
    obtain ⟨m, rfl⟩ : ∃ m', m = m' + 1 := ⟨m - 1, by omega⟩
    have hlt : i < s.2.2.2.1.length := by omega
    have hlen := srt_len hs.srt hs.arcs
    have hnn : n * n ≤ 500 * 500 := Nat.mul_le_mul hn hn
    have hx := hs.arcs _ (List.getElem_mem hlt)
    have key : ∀ (t1 : Bool) (a1 b1 : List Bool), a1.length = n → b1.length = n → offs a1 + offs b1 ≤ offs a + offs b → (t1 = true → t = true ∨ offs a1 + offs b1 < offs a + offs b) →
        ∃ t' a' b', (F30_1 k m (n : Int) t1 ((i + 1 : Nat) : Int) s c4 a1 b1 c).bind some = some (((n : Int), (t', ())), (s, (c4, (a', (b', (c, ())))))) ∧ a'.length = n ∧ b'.length = n ∧ offs a' + offs b' ≤ offs a + offs b ∧ (t' = true → t = true ∨ offs a' + offs b' < offs a + offs b) := fun t1 a1 b1 g1 g2 g3 g4 => by
      obtain ⟨t', a', b', e, h1, h2, h3, h4⟩ := F30_1_ok k s c4 c hn hs hc d m (i + 1) t1 a1 b1 (by omega) (by omega) g1 g2
      refine ⟨t', a', b', by rw [e]; rfl, h1, h2, by omega, fun q => ?_⟩
      rcases h4 q with r | r
      · rcases g4 r with r | r
        · exact .inl r
        · exact .inr (by omega)
      · exact .inr (by omega)
    obtain ⟨⟨x1, x2⟩, ⟨x3, x4⟩, _⟩ := hx
    have sa := offs_set a (Int.toNat s.2.2.2.1[i].2.1) (by omega)
    have sb := offs_set b (Int.toNat s.2.2.2.1[i].1) (by omega)
    have q1 : (0 : Int) ≤ s.2.2.2.1[i].1 ∧ s.2.2.2.1[i].1 < ((a.length : Nat) : Int) := by omega
    have q2 : (0 : Int) ≤ s.2.2.2.1[i].2.1 ∧ s.2.2.2.1[i].2.1 < ((a.length : Nat) : Int) := by omega
    have q3 : (0 : Int) ≤ s.2.2.2.1[i].1 ∧ s.2.2.2.1[i].1 < ((b.length : Nat) : Int) := by omega
    have q4 : (0 : Int) ≤ s.2.2.2.1[i].2.1 ∧ s.2.2.2.1[i].2.1 < ((b.length : Nat) : Int) := by omega
    have q5 : (0 : Int) ≤ s.2.2.2.1[i].1 ∧ s.2.2.2.1[i].1 < ((c.length : Nat) : Int) := by omega
    have q6 : (0 : Int) ≤ s.2.2.2.1[i].2.1 ∧ s.2.2.2.1[i].2.1 < ((c.length : Nat) : Int) := by omega
    have la : (List.set a (Int.toNat s.2.2.2.1[i].2.1) true).length = n := by rw [List.length_set]; exact ha
    have lb : (List.set b (Int.toNat s.2.2.2.1[i].1) true).length = n := by rw [List.length_set]; exact hb
    have fa : List.getD a (Int.toNat s.2.2.2.1[i].2.1) false = false → offs (List.set a (Int.toNat s.2.2.2.1[i].2.1) true) + 1 = offs a := fun h => by
      rw [h] at sa; exact sa
    have fb : List.getD b (Int.toNat s.2.2.2.1[i].1) false = false → offs (List.set b (Int.toNat s.2.2.2.1[i].1) true) + 1 = offs b := fun h => by
      rw [h] at sb; exact sb
    have none' := key t a b ha hb (Nat.le_refl _) (fun h => .inl h)
    have both : List.getD a (Int.toNat s.2.2.2.1[i].2.1) false = false → List.getD b (Int.toNat s.2.2.2.1[i].1) false = false → _ := fun h1 h2 => key true _ _ la lb (by have := fa h1; have := fb h2; omega) (fun _ => .inr (by have := fa h1; have := fb h2; omega))
    have onlyA : List.getD a (Int.toNat s.2.2.2.1[i].2.1) false = false → _ := fun h1 => key true _ b la hb (by have := fa h1; omega) (fun _ => .inr (by have := fa h1; omega))
    have onlyB : List.getD b (Int.toNat s.2.2.2.1[i].1) false = false → _ := fun h1 => key true a _ ha lb (by have := fb h1; omega) (fun _ => .inr (by have := fb h1; omega))
    simp only [F30_1]
    rw [dlt hlt, cond_true, if_pos (inR hlt), show Int.toNat (i : Int) = i from rfl, getD_lt s.2.2.2.1 i _ hlt, wsucc i _ hlt (by omega), if_pos q1]
    cases h1 : List.getD a (Int.toNat s.2.2.2.1[i].1) false with
    | true =>
      rw [cond_true, if_pos q6]
      cases h2 : List.getD c (Int.toNat s.2.2.2.1[i].2.1) false with
      | true =>
        rw [cond_true, if_pos q2]
        cases h3 : List.getD a (Int.toNat s.2.2.2.1[i].2.1) false with
        | false =>
          rw [Bool.not_false, cond_true, if_pos q2, if_pos q4]
          cases h4 : List.getD b (Int.toNat s.2.2.2.1[i].2.1) false with
          | true =>
            rw [cond_true, if_pos q5]
            cases h5 : List.getD c (Int.toNat s.2.2.2.1[i].1) false with
            | true =>
              rw [cond_true, if_pos q3]
              cases h6 : List.getD b (Int.toNat s.2.2.2.1[i].1) false with
              | true => rw [Bool.not_true, cond_false]; exact onlyA h3
              | false => rw [Bool.not_false, cond_true, if_pos q3]; exact both h3 h6
            | false => rw [cond_false]; exact onlyA h3
          | false => rw [cond_false]; exact onlyA h3
        | true =>
          rw [Bool.not_true, cond_false, if_pos q4]
          cases h4 : List.getD b (Int.toNat s.2.2.2.1[i].2.1) false with
          | true =>
            rw [cond_true, if_pos q5]
            cases h5 : List.getD c (Int.toNat s.2.2.2.1[i].1) false with
            | true =>
              rw [cond_true, if_pos q3]
              cases h6 : List.getD b (Int.toNat s.2.2.2.1[i].1) false with
              | true => rw [Bool.not_true, cond_false]; exact none'
              | false => rw [Bool.not_false, cond_true, if_pos q3]; exact onlyB h6
            | false => rw [cond_false]; exact none'
          | false => rw [cond_false]; exact none'
      | false =>
        rw [cond_false, if_pos q4]
        cases h4 : List.getD b (Int.toNat s.2.2.2.1[i].2.1) false with
        | true =>
          rw [cond_true, if_pos q5]
          cases h5 : List.getD c (Int.toNat s.2.2.2.1[i].1) false with
          | true =>
            rw [cond_true, if_pos q3]
            cases h6 : List.getD b (Int.toNat s.2.2.2.1[i].1) false with
            | true => rw [Bool.not_true, cond_false]; exact none'
            | false => rw [Bool.not_false, cond_true, if_pos q3]; exact onlyB h6
          | false => rw [cond_false]; exact none'
        | false => rw [cond_false]; exact none'
    | false =>
      rw [cond_false, if_pos q4]
      cases h4 : List.getD b (Int.toNat s.2.2.2.1[i].2.1) false with
      | true =>
        rw [cond_true, if_pos q5]
        cases h5 : List.getD c (Int.toNat s.2.2.2.1[i].1) false with
        | true =>
          rw [cond_true, if_pos q3]
          cases h6 : List.getD b (Int.toNat s.2.2.2.1[i].1) false with
          | true => rw [Bool.not_true, cond_false]; exact none'
          | false => rw [Bool.not_false, cond_true, if_pos q3]; exact onlyB h6
        | false => rw [cond_false]; exact none'
      | false => rw [cond_false]; exact none'
theorem F30_2_ok {n M0 : Nat} {C : Int} (k : Nat) (s c4 : SideT) (c : List Bool) (hk : 10000000 ≤ k) (hn : n ≤ 500) (hs : SideG n C M0 s) (hc : c.length = n) : ∀ (d m : Nat) (t : Bool) (a b : List Bool), offs a + offs b < d → d < m → a.length = n → b.length = n →
    ∃ a' b', F30_2 k m (n : Int) t s c4 a b c = some (((n : Int), ()), (s, (c4, (a', (b', ()))))) ∧ a'.length = n ∧ b'.length = n
  | 0, m, t, a, b, hd, hm, ha, hb => by omega
  | d + 1, m, t, a, b, hd, hm, ha, hb => by
    obtain ⟨m, rfl⟩ : ∃ m', m = m' + 1 := ⟨m - 1, by omega⟩
    cases t with
    | false =>
      refine ⟨a, b, ?_, ha, hb⟩
      simp only [F30_2]
      rw [cond_false]
    | true =>
      have hlen := srt_len hs.srt hs.arcs
      have hnn : n * n ≤ 500 * 500 := Nat.mul_le_mul hn hn
      obtain ⟨t', a', b', e, h1, h2, h3, h4⟩ := F30_1_ok k s c4 c hn hs hc s.2.2.2.1.length k 0 false a b (Nat.zero_add _) (by omega) ha hb
      rw [show ((0 : Nat) : Int) = 0 from rfl] at e
      have fin : ∃ a2 b2, F30_2 k m (n : Int) t' s c4 a' b' c = some (((n : Int), ()), (s, (c4, (a2, (b2, ()))))) ∧ a2.length = n ∧ b2.length = n := by
        cases t' with
        | true =>
          rcases h4 rfl with q | q
          · cases q
          · exact F30_2_ok k s c4 c hk hn hs hc d m true a' b' (by omega) (by omega) h1 h2
        | false =>
          obtain ⟨m, rfl⟩ : ∃ m', m = m' + 1 := ⟨m - 1, by omega⟩
          refine ⟨a', b', ?_, h1, h2⟩
          simp only [F30_2]
          rw [cond_false]
      obtain ⟨a2, b2, e2, h⟩ := fin
      refine ⟨a2, b2, ?_, h⟩
      simp only [F30_2]
      rw [cond_true, e, Option.bind_some]
      simp only
      rw [e2]
      rfl
end Go.Proofs.YtgojfdimbciaiaaE
set_option linter.unusedSimpArgs false
set_option linter.unusedVariables false
set_option maxRecDepth 20000
namespace Go.Proofs.YtgojfdimbciaiaaE
structure RenP (n i : Nat) (j : Nat) (z : List Int) : Prop where
  len : z.length = n
  rng : ∀ x, x < i → -1 ≤ List.getD z x 0 ∧ List.getD z x 0 < (j : Int)
  mon : ∀ x y, x < y → y < i → 0 ≤ List.getD z x 0 → 0 ≤ List.getD z y 0 → List.getD z x 0 < List.getD z y 0
theorem getS_ne {α : Type} {l : List α} {i x : Nat} {v d : α} (h : x ≠ i) : List.getD (List.set l i v) x d = List.getD l x d := by
  rw [List.getD_eq_getElem?_getD, List.getD_eq_getElem?_getD, List.getElem?_set_ne (fun q => h q.symm)]
theorem getS_eq {α : Type} {l : List α} {i : Nat} {v d : α} (h : i < l.length) : List.getD (List.set l i v) i d = v := by
  rw [List.getD_eq_getElem?_getD, List.getElem?_set_self h]
  rfl
theorem RenP.no {n i j : Nat} {z : List Int} (h : RenP n i j z) (hi : i < n) : RenP n (i + 1) j (List.set z i (-1)) := by
  have hl := h.len
  refine ⟨by rw [List.length_set]; exact hl, fun x hx => ?_, fun x y hxy hy h0 h1 => ?_⟩
  · by_cases e : x = i
    · subst e
      rw [getS_eq (by omega)]; omega
    · rw [getS_ne e]
      exact h.rng x (by omega)
  · by_cases e : y = i
    · subst e
      rw [getS_eq (by omega)] at h1; omega
    · rw [getS_ne e] at h1 ⊢
      rw [getS_ne (by omega)] at h0 ⊢
      exact h.mon x y hxy (by omega) h0 h1
theorem RenP.yes {n i j : Nat} {z : List Int} (h : RenP n i j z) (hi : i < n) : RenP n (i + 1) (j + 1) (List.set (List.set z i (-1)) i ((j : Nat) : Int)) := by
  have hl := h.len
  refine ⟨by rw [List.length_set, List.length_set]; exact hl, fun x hx => ?_, fun x y hxy hy h0 h1 => ?_⟩
  · by_cases e : x = i
    · subst e
      rw [getS_eq (by rw [List.length_set]; omega)]; omega
    · rw [getS_ne e, getS_ne e]
      have := h.rng x (by omega)
      omega
  · have ex : x ≠ i := by omega
    rw [getS_ne ex, getS_ne ex] at h0 ⊢
    by_cases e : y = i
    · subst e
      rw [getS_eq (by rw [List.length_set]; omega)]
      exact (h.rng x (by omega)).2
    · rw [getS_ne e, getS_ne e] at h1 ⊢
      exact h.mon x y hxy (by omega) h0 h1
theorem F30_3_ok {n M0 : Nat} {C : Int} (k : Nat) (s c4 : SideT) (a b : List Bool) (R : List (Int × (Int × (Int × Unit))) × (Int × Unit)) (hn : n ≤ 500) (hs : SideG n C M0 s) (ha : a.length = n) (hb : b.length = n) : ∀ (d m i j : Nat) (l1 l2 l3 z : List Int), i + d = n → d < m → l1.length = j → l2.length = j → l3.length = j → j ≤ i → RenP n i j z → (∀ x ∈ l1, -1 ≤ x ∧ x < (M0 : Int)) → (∀ x ∈ l2, CB C x) → (∀ x ∈ l3, CB C x) →
    ∃ (j' : Nat) (l1' l2' l3' z' : List Int), F30_3 k m (n : Int) (i : Int) s c4 (l1, (l2, (l3, R))) a b z = some ((), (s, (c4, ((l1', (l2', (l3', R))), (z', ()))))) ∧ l1'.length = j' ∧ l2'.length = j' ∧ l3'.length = j' ∧ j' ≤ n ∧ RenP n n j' z' ∧ (∀ x ∈ l1', -1 ≤ x ∧ x < (M0 : Int)) ∧ (∀ x ∈ l2', CB C x) ∧ (∀ x ∈ l3', CB C x)
  | 0, m, i, j, l1, l2, l3, z, hi, hm, e1, e2, e3, hj, hz, g1, g2, g3 => by
    obtain ⟨m, rfl⟩ : ∃ m', m = m' + 1 := ⟨m - 1, by omega⟩
    obtain rfl : i = n := by omega
    refine ⟨j, l1, l2, l3, z, ?_, e1, e2, e3, hj, hz, g1, g2, g3⟩
    simp only [F30_3]
    rw [decide_eq_false (by omega), cond_false]
  | d + 1, m, i, j, l1, l2, l3, z, hi, hm, e1, e2, e3, hj, hz, g1, g2, g3 => by
    obtain ⟨m, rfl⟩ : ∃ m', m = m' + 1 := ⟨m - 1, by omega⟩
    have hls := hs.ls
    have hlf := hs.lf
    have hle := hs.le
    have hzl := hz.len
    have wi : IntKind.wrap .i64 ((i : Int) + 1) = ((i + 1 : Nat) : Int) := by rw [w64 _ (by omega) (by omega)]; omega
    have q1 : (0 : Int) ≤ (i : Int) ∧ (i : Int) < ((z.length : Nat) : Int) := by omega
    have q2 : (0 : Int) ≤ (i : Int) ∧ (i : Int) < ((a.length : Nat) : Int) := by omega
    have q3 : (0 : Int) ≤ (i : Int) ∧ (i : Int) < ((b.length : Nat) : Int) := by omega
    have q4 : (0 : Int) ≤ (i : Int) ∧ (i : Int) < (((List.set z i (-1)).length : Nat) : Int) := by rw [List.length_set]; omega
    have q5 : (0 : Int) ≤ (i : Int) ∧ (i : Int) < ((s.1.length : Nat) : Int) := by omega
    have q6 : (0 : Int) ≤ (i : Int) ∧ (i : Int) < ((s.2.1.length : Nat) : Int) := by omega
    have q7 : (0 : Int) ≤ (i : Int) ∧ (i : Int) < ((s.2.2.1.length : Nat) : Int) := by omega
    have no : ∃ (j' : Nat) (l1' l2' l3' z' : List Int), (F30_3 k m (n : Int) ((i + 1 : Nat) : Int) s c4 (l1, (l2, (l3, R))) a b (List.set z i (-1))).bind some = some ((), (s, (c4, ((l1', (l2', (l3', R))), (z', ()))))) ∧ l1'.length = j' ∧ l2'.length = j' ∧ l3'.length = j' ∧ j' ≤ n ∧ RenP n n j' z' ∧ (∀ x ∈ l1', -1 ≤ x ∧ x < (M0 : Int)) ∧ (∀ x ∈ l2', CB C x) ∧ (∀ x ∈ l3', CB C x) := by
      obtain ⟨j', l1', l2', l3', z', e, h⟩ := F30_3_ok k s c4 a b R hn hs ha hb d m (i + 1) j l1 l2 l3 (List.set z i (-1)) (by omega) (by omega) e1 e2 e3 (by omega) (hz.no (by omega)) g1 g2 g3
      exact ⟨j', l1', l2', l3', z', by rw [e]; rfl, h⟩
    have k1 : ∀ (l : List Int) (x : Int), l.length = j → (l.length + [x].length) * (8 * 2) ≤ 281474976710656 ∧ l.length + [x].length ≤ 9223372036854775807 := fun l x h => by rw [h, List.length_singleton]; omega
    simp only [F30_3]
    rw [decide_eq_true (by omega), cond_true, if_pos q1, show Int.toNat (i : Int) = i from rfl, if_pos q2, wi]
    cases List.getD a i false with
    | false => rw [cond_false]; exact no
    | true =>
      rw [cond_true, if_pos q3]
      cases List.getD b i false with
      | false => rw [cond_false]; exact no
      | true =>
        simp only [one_list]
        rw [cond_true, if_pos q4, if_pos q5, if_pos q6, if_pos q7, if_pos (k1 l1 _ e1), if_pos (k1 l2 _ e2), if_pos (k1 l3 _ e3), e1]
        have add : ∀ {P : Int → Prop} {l : List Int} {x : Int}, (∀ y ∈ l, P y) → P x → ∀ y ∈ l ++ [x], P y := fun h1 h2 y hy => by
          rcases List.mem_append.1 hy with g | g
          · exact h1 y g
          · rw [List.mem_singleton.1 g]; exact h2
        obtain ⟨j', l1', l2', l3', z', e, h⟩ := F30_3_ok k s c4 a b R hn hs ha hb d m (i + 1) (j + 1) (l1 ++ [List.getD s.1 i 0]) (l2 ++ [List.getD s.2.1 i 0]) (l3 ++ [List.getD s.2.2.1 i 0]) (List.set (List.set z i (-1)) i ((j : Nat) : Int)) (by omega) (by omega) (by simp [e1]) (by simp [e2]) (by simp [e3]) (by omega) (hz.yes (by omega)) (add (P := fun x => -1 ≤ x ∧ x < (M0 : Int)) g1 (hs.sets _ (getD_mem (by omega)))) (add g2 (hs.cf _ (getD_mem (by omega)))) (add g3 (hs.ce _ (getD_mem (by omega))))
        exact ⟨j', l1', l2', l3', z', by rw [e]; rfl, h⟩
def renA (z : List Int) (x : ArcT) : ArcT := (List.getD z (Int.toNat x.1) 0, (List.getD z (Int.toNat x.2.1) 0, (x.2.2.1, ())))
theorem ren_lt {n j : Nat} {z : List Int} (hz : RenP n n j z) {B : Int} {l : List ArcT} (hl : ArcG n B l) {x y : ArcT} (hx : x ∈ l) (hy : y ∈ l) (h : Lt x y) (h1 : 0 ≤ (renA z x).1) (h2 : 0 ≤ (renA z x).2.1) (h3 : 0 ≤ (renA z y).1) (h4 : 0 ≤ (renA z y).2.1) : Lt (renA z x) (renA z y) := by
  have ax := hl x hx
  have ay := hl y hy
  unfold Lt at *
  unfold renA at *
  simp only at *
  rcases h with h | ⟨e, h⟩
  · left
    exact hz.mon _ _ (by omega) (by omega) h1 h3
  · right
    rw [e]
    exact ⟨rfl, hz.mon _ _ (by omega) (by omega) h2 h4⟩
theorem F30_4_ok {n M0 j : Nat} {C : Int} (k : Nat) (s c4 : SideT) (z : List Int) (l1 l2 l3 : List Int) (R : Int × Unit) (hn : n ≤ 500) (hs : SideG n C M0 s) (hz : RenP n n j z) : ∀ (d m i : Nat) (o : List ArcT), i + d = s.2.2.2.1.length → d < m → o.length ≤ i → Srt o → ArcG j (2 * C) o → (∀ y ∈ o, ∃ x ∈ s.2.2.2.1.take i, y = renA z x) →
    ∃ o', F30_4 k m (i : Int) s c4 (l1, (l2, (l3, (o, R)))) z = some ((), (c4, ((l1, (l2, (l3, (o', R)))), ()))) ∧ Srt o' ∧ ArcG j (2 * C) o'
  | 0, m, i, o, hi, hm, ho, h1, h2, h3 => by
    obtain ⟨m, rfl⟩ : ∃ m', m = m' + 1 := ⟨m - 1, by omega⟩
    refine ⟨o, ?_, h1, h2⟩
    simp only [F30_4]
    rw [decide_eq_false (by omega), cond_false]
  | d + 1, m, i, o, hi, hm, ho, h1, h2, h3 => by
    obtain ⟨m, rfl⟩ : ∃ m', m = m' + 1 := ⟨m - 1, by omega⟩
    have hlt : i < s.2.2.2.1.length := by omega
    have hlen := srt_len hs.srt hs.arcs
    have hnn : n * n ≤ 500 * 500 := Nat.mul_le_mul hn hn
    have hx := hs.arcs _ (List.getElem_mem hlt)
    have hzl := hz.len
    have tk : s.2.2.2.1.take (i + 1) = s.2.2.2.1.take i ++ [s.2.2.2.1[i]] := List.take_succ_eq_append_getElem hlt
    have up : ∀ y ∈ o, ∃ x ∈ s.2.2.2.1.take (i + 1), y = renA z x := fun y hy => by
      obtain ⟨x, hx, e⟩ := h3 y hy
      exact ⟨x, by rw [tk]; exact List.mem_append_left _ hx, e⟩
    have skip : ∃ o', (F30_4 k m ((i + 1 : Nat) : Int) s c4 (l1, (l2, (l3, (o, R)))) z).bind some = some ((), (c4, ((l1, (l2, (l3, (o', R)))), ()))) ∧ Srt o' ∧ ArcG j (2 * C) o' := by
      obtain ⟨o', e, h⟩ := F30_4_ok k s c4 z l1 l2 l3 R hn hs hz d m (i + 1) o (by omega) (by omega) (by omega) h1 h2 up
      exact ⟨o', by rw [e]; rfl, h⟩
    have q1 : (0 : Int) ≤ s.2.2.2.1[i].1 ∧ s.2.2.2.1[i].1 < ((z.length : Nat) : Int) := by omega
    have q2 : (0 : Int) ≤ s.2.2.2.1[i].2.1 ∧ s.2.2.2.1[i].2.1 < ((z.length : Nat) : Int) := by omega
    simp only [F30_4]
    rw [dlt hlt, cond_true, if_pos (inR hlt), show Int.toNat (i : Int) = i from rfl, getD_lt s.2.2.2.1 i _ hlt, wsucc i _ hlt (by omega), if_pos q1]
    by_cases g1 : List.getD z (Int.toNat s.2.2.2.1[i].1) 0 ≥ 0
    · rw [decide_eq_true g1, cond_true, if_pos q2]
      by_cases g2 : List.getD z (Int.toNat s.2.2.2.1[i].2.1) 0 ≥ 0
      · rw [decide_eq_true g2, cond_true, if_pos q1, if_pos q2]
        simp only [one_list]
        have k1 : (o.length + [renA z s.2.2.2.1[i]].length) * (24 * 2) ≤ 281474976710656 ∧ o.length + [renA z s.2.2.2.1[i]].length ≤ 9223372036854775807 := by rw [List.length_singleton]; omega
        have k1' : (o.length + [((List.getD z (Int.toNat s.2.2.2.1[i].1) 0), (List.getD z (Int.toNat s.2.2.2.1[i].2.1) 0, (s.2.2.2.1[i].2.2.1, ())))].length) * (24 * 2) ≤ 281474976710656 ∧ o.length + [((List.getD z (Int.toNat s.2.2.2.1[i].1) 0), (List.getD z (Int.toNat s.2.2.2.1[i].2.1) 0, (s.2.2.2.1[i].2.2.1, ())))].length ≤ 9223372036854775807 := k1
        rw [if_pos k1']
        have r1 := hz.rng (Int.toNat s.2.2.2.1[i].1) (by omega)
        have r2 := hz.rng (Int.toNat s.2.2.2.1[i].2.1) (by omega)
        obtain ⟨o', e, h⟩ := F30_4_ok k s c4 z l1 l2 l3 R hn hs hz d m (i + 1) (o ++ [renA z s.2.2.2.1[i]]) (by omega) (by omega) (by simp; omega) (by
          refine List.pairwise_append.2 ⟨h1, List.pairwise_singleton _ _, fun y hy y2 hy2 => ?_⟩
          rw [List.mem_singleton.1 hy2]
          obtain ⟨x, hx2, e⟩ := h3 y hy
          have hy3 := h2 y hy
          have hs2 := hs.srt
          unfold Srt at hs2
          rw [← List.take_append_drop i s.2.2.2.1, List.drop_eq_getElem_cons hlt] at hs2
          have lt := (List.pairwise_append.1 hs2).2.2 x hx2 s.2.2.2.1[i] List.mem_cons_self
          rw [e] at hy3 ⊢
          exact ren_lt hz hs.arcs (List.mem_of_mem_take hx2) (List.getElem_mem hlt) lt hy3.1.1 hy3.2.1.1 g1 g2) (fun y hy => by
          rcases List.mem_append.1 hy with g | g
          · exact h2 y g
          · rw [List.mem_singleton.1 g]
            exact ⟨⟨g1, r1.2⟩, ⟨g2, r2.2⟩, hx.2.2⟩) (fun y hy => by
          rcases List.mem_append.1 hy with g | g
          · exact up y g
          · exact ⟨_, by rw [tk]; exact List.mem_append_right _ (List.mem_singleton.2 rfl), List.mem_singleton.1 g⟩)
        refine ⟨o', ?_, h⟩
        have e' : F30_4 k m ((i + 1 : Nat) : Int) s c4 (l1, (l2, (l3, (o ++ [((List.getD z (Int.toNat s.2.2.2.1[i].1) 0), (List.getD z (Int.toNat s.2.2.2.1[i].2.1) 0, (s.2.2.2.1[i].2.2.1, ())))], R)))) z = _ := e
        rw [e']
        rfl
      · rw [decide_eq_false g2, cond_false]
        exact skip
    · rw [decide_eq_false g1, cond_false]
      exact skip
theorem F30_ok {n M0 : Nat} {C : Int} (k : Nat) (s : SideT) (M : List (List Bool)) (hk : 10000000 ≤ k) (hn : n ≤ 500) (hs : SideG n C M0 s) (hM : M0 ≤ M.length) (hr : ∀ r ∈ M, r.length ≤ 2000000) : ∃ (j : Nat) (s' : SideT), F30 k s M = some ((s', ()), ()) ∧ j ≤ n ∧ SideG j C M0 s' := by
  have hls := hs.ls
  have hlen := srt_len hs.srt hs.arcs
  have hnn : n * n ≤ 500 * 500 := Nat.mul_le_mul hn hn
  obtain ⟨a, b, c, e1, ha, hb, hc⟩ := F30_0_ok k M s sd0 hk hn hs hM hr n k 0 (List.replicate n false) (List.replicate n false) (List.replicate n false) (Nat.zero_add _) (by omega) (by simp) (by simp) (by simp)
  rw [show ((0 : Nat) : Int) = 0 from rfl] at e1
  have oa := offs_le a
  have ob := offs_le b
  obtain ⟨a2, b2, e2, ha2, hb2⟩ := F30_2_ok k s sd0 c hk hn hs hc (offs a + offs b + 1) k true a b (by omega) (by omega) ha hb
  obtain ⟨j, l1, l2, l3, z, e3, h1, h2, h3, hj, hz, g1, g2, g3⟩ := F30_3_ok k s sd0 a2 b2 ([], (s.2.2.2.2.1, ())) hn hs ha2 hb2 n k 0 0 [] [] [] (List.replicate n 0) (Nat.zero_add _) (by omega) rfl rfl rfl (Nat.le_refl _) ⟨by simp, fun x hx => by omega, fun x y _ hy => by omega⟩ (fun x hx => by cases hx) (fun x hx => by cases hx) (fun x hx => by cases hx)
  rw [show ((0 : Nat) : Int) = 0 from rfl] at e3
  obtain ⟨o, e4, h4, h5⟩ := F30_4_ok k s sd0 z l1 l2 l3 (s.2.2.2.2.1, ()) hn hs hz s.2.2.2.1.length k 0 [] (Nat.zero_add _) (by omega) (Nat.le_refl _) List.Pairwise.nil (fun x hx => by cases hx) (fun x hx => by cases hx)
  rw [show ((0 : Nat) : Int) = 0 from rfl] at e4
  refine ⟨j, (l1, (l2, (l3, (o, (s.2.2.2.2.1, ()))))), ?_, hj, ⟨h1, h2, h3, g2, g3, hs.cn, h4, h5, g1⟩⟩
  have q1 : ((0 : Int) ≤ (n : Int) ∧ (n : Int) < (n : Int) + 1) ∧ (n : Int) ≤ 9223372036854775807 ∧ ((1 : Nat) : Int) * (n : Int) ≤ 281474976710656 := by omega
  have q2 : ((0 : Int) ≤ (n : Int) ∧ (n : Int) < (n : Int) + 1) ∧ (n : Int) ≤ 9223372036854775807 ∧ ((8 : Nat) : Int) * (n : Int) ≤ 281474976710656 := by omega
  unfold F30
  simp only
  rw [hls, if_pos q1, if_pos q1, if_pos q1, show Int.toNat ((n : Nat) : Int) = n from rfl, e1, Option.bind_some]
  simp only
  rw [e2, Option.bind_some]
  simp only
  rw [if_pos q2, show Int.toNat ((n : Nat) : Int) = n from rfl, e3, Option.bind_some]
  simp only
  rw [e4, Option.bind_some]
theorem F13_ok (k : Nat) (r : RawT) (ds : List Int) (hr : RawH 5 r) (hk : 20000000 ≤ k) : ∃ (s : SideT) (b : Bool), F13 k r ds = some ((s, (b, ())), ()) ∧ (b = true → ∃ n M, n ≤ 120 ∧ SideG n (cB 5) M s) := by
  obtain ⟨ds', e1, h1, h2, h3⟩ := F21_ok k ds (by omega)
  obtain ⟨x, e2, hx⟩ := F27_ok k r false 5 hr (by omega)
  have e2' : F27 k (Tree.mk ((Tree.a r).1, ((Tree.a r).2.1, ())) (Tree.l r)) false = some ((x, ()), ()) := by
    rw [← e2]
    cases r
    rfl
  have e3 := F22_ok k x (ds', (([] : List RuleT), ())) (show ds'.length ≤ 1000 by omega) hx hk
  obtain ⟨sets, e4, h4, h5⟩ := F28_ok k (ds', (([] : List RuleT), ())) (show ds'.length ≤ 1000 by omega) h3 hk
  have h4' : sets.length = ds'.length := h4
  obtain ⟨bs, cs, e5, h6, h7, h8⟩ := F29_ok k sets (by omega) (by omega) h5
  obtain ⟨M, e6, h9, h10⟩ := F31_ok k sets bs cs (by omega) (by omega) h5 h6 (by omega) h8
  unfold F13
  rw [e1, Option.bind_some]
  simp only
  rw [e2', Option.bind_some]
  simp only
  rw [e3, Option.bind_some]
  by_cases hsz : sizeR 5 x > 120
  · rw [if_pos hsz]
    exact ⟨_, false, rfl, fun q => by cases q⟩
  · rw [if_neg hsz]
    have hG := side_G (fnd ds') ds'.length (fnd_range ds') 5 x (by omega) hx
    obtain ⟨j, s', e7, hj, hs'⟩ := F30_ok k _ M (by omega) (by omega) hG (by omega) h10
    have e7' : F30 k (sideS (fnd (ds', (([] : List RuleT), ())).1) 5 x) M = some ((s', ()), ()) := e7
    refine ⟨s', true, ?_, fun _ => ⟨j, ds'.length, by omega, hs'⟩⟩
    simp only [Bool.not_true, cond_false]
    rw [e4, Option.bind_some]
    simp only
    rw [e5, Option.bind_some]
    simp only
    rw [e6, Option.bind_some]
    simp only
    rw [e7', Option.bind_some]
end Go.Proofs.YtgojfdimbciaiaaE
set_option linter.unusedSimpArgs false
set_option linter.unusedVariables false
set_option maxRecDepth 20000
namespace Go.Proofs.YtgojfdimbciaiaaE
structure SideR (n : Nat) (s : SideT) : Prop where
  le : n ≤ 120
  len : s.1.length = n
  fst : s.2.1.length = n
  arcs : ArcsP n s.2.2.2.1
  uniq : UniqP s.2.2.2.1
  wgt : WgtP s.2.2.2.1
  num : s.2.2.2.1.length ≤ 20000
theorem SideG.r {n M : Nat} {s : SideT} (hn : n ≤ 120) (h : SideG n (cB 5) M s) : SideR n s := by
  have hc : cB 5 = 2046 := rfl
  have hlen := srt_len h.srt h.arcs
  have hnn : n * n ≤ 120 * 120 := Nat.mul_le_mul hn hn
  refine ⟨hn, h.ls, h.lf, fun a ha => ?_, fun a ha b hb e1 e2 => ?_, fun a ha => ?_, by omega⟩
  · have := h.arcs a ha
    omega
  · obtain ⟨i, hi, rfl⟩ := List.getElem_of_mem ha
    obtain ⟨j, hj, rfl⟩ := List.getElem_of_mem hb
    have hs := List.pairwise_iff_getElem.1 h.srt
    by_cases hij : i < j
    · have := hs i j hi hj hij
      unfold Lt at this
      omega
    · by_cases hji : j < i
      · have := hs j i hj hi hji
        unfold Lt at this
        omega
      · have : i = j := by omega
        subst this
        rfl
  · have := h.arcs a ha
    omega
end Go.Proofs.YtgojfdimbciaiaaE
set_option linter.unusedSimpArgs false
set_option linter.unusedVariables false
set_option maxRecDepth 20000
namespace Go.Proofs.YtgojfdimbciaiaaE
def Wlk (nx : List (List Int)) (st : Nat → Prop) : Nat → Nat → Prop
  | 0, v => st v
  | m + 1, v => ∃ u, Wlk nx st m u ∧ ((v : Nat) : Int) ∈ List.getD nx u []
structure Lv (n : Nat) (nx : List (List Int)) (st : Nat → Prop) (D : Nat → Nat) (fr q : List Int) : Prop where
  len : fr.length = n
  par : ∀ v, v < n → 0 ≤ List.getD fr v 0 → (List.getD fr v 0 = (v : Int) ∧ D v = 1 ∧ st v) ∨ ∃ u, u < n ∧ List.getD fr v 0 = ((u : Nat) : Int) ∧ u ≠ v ∧ 0 ≤ List.getD fr u 0 ∧ D v = D u + 1 ∧ ((v : Nat) : Int) ∈ List.getD nx u []
  ini : ∀ v, v < n → st v → 0 ≤ List.getD fr v 0 ∧ D v = 1
  que : ∀ x ∈ q, ∃ v : Nat, v < n ∧ x = (v : Int) ∧ 0 ≤ List.getD fr v 0
  srt : q.Pairwise fun x y => D x.toNat ≤ D y.toNat
  near : ∀ v, v < n → 0 ≤ List.getD fr v 0 → ∀ x ∈ q, D v ≤ D x.toNat + 1
def ClsV (nx : List (List Int)) (D : Nat → Nat) (fr : List Int) (v : Nat) : Prop := ∀ w ∈ List.getD nx v [], 0 ≤ List.getD fr w.toNat 0 ∧ D w.toNat ≤ D v + 1
def negs : List Int → Nat
  | [] => 0
  | b :: l => (if b < 0 then 1 else 0) + negs l
theorem negs_le : ∀ l : List Int, negs l ≤ l.length
  | [] => Nat.le_refl _
  | b :: l => by
    have := negs_le l
    unfold negs
    simp only [List.length_cons]
    split <;> omega
theorem negs_set : ∀ (l : List Int) (i : Nat) (a : Int), 0 ≤ a → i < l.length → List.getD l i 0 < 0 → negs (List.set l i a) + 1 = negs l
  | [], i, a, h0, h, _ => by simp at h
  | b :: l, 0, a, h0, h, h1 => by
    have h1' : b < 0 := h1
    have h2 : ¬ a < 0 := by omega
    simp only [List.set_cons_zero, negs]
    rw [if_pos h1', if_neg h2]
    omega
  | b :: l, i + 1, a, h0, h, h1 => by
    have := negs_set l i a h0 (by simpa using h) h1
    simp only [List.set_cons_succ, negs]
    omega
theorem lv_vis {n : Nat} {nx : List (List Int)} {st : Nat → Prop} {D : Nat → Nat} {fr q : List Int} (h : Lv n nx st D fr q) {a w : Nat} (ha : a < n) (hva : 0 ≤ List.getD fr a 0) (hw : w < n) (hin : ((w : Nat) : Int) ∈ List.getD nx a [])
    (hn : ∀ v, v < n → 0 ≤ List.getD fr v 0 → D v ≤ D a + 1) (hq : ∀ x ∈ q, D a ≤ D x.toNat ∧ D x.toNat ≤ D a + 1) :
    ∃ D', Lv n nx st D' (vis1 (a : Int) (fr, q) (w : Int)).1 (vis1 (a : Int) (fr, q) (w : Int)).2 ∧ (∀ v, v < n → 0 ≤ List.getD fr v 0 → 0 ≤ List.getD (vis1 (a : Int) (fr, q) (w : Int)).1 v 0 ∧ D' v = D v) ∧
      (∀ v, v < n → 0 ≤ List.getD (vis1 (a : Int) (fr, q) (w : Int)).1 v 0 → D' v ≤ D' a + 1) ∧ (∀ x ∈ (vis1 (a : Int) (fr, q) (w : Int)).2, D' a ≤ D' x.toNat ∧ D' x.toNat ≤ D' a + 1) ∧
      0 ≤ List.getD (vis1 (a : Int) (fr, q) (w : Int)).1 w 0 ∧ D' w ≤ D' a + 1 ∧ (∀ v, v < n → 0 ≤ List.getD (vis1 (a : Int) (fr, q) (w : Int)).1 v 0 → 0 ≤ List.getD fr v 0 ∨ ((v : Nat) : Int) ∈ (vis1 (a : Int) (fr, q) (w : Int)).2) ∧ (∀ x ∈ q, x ∈ (vis1 (a : Int) (fr, q) (w : Int)).2) ∧
      negs (vis1 (a : Int) (fr, q) (w : Int)).1 + (vis1 (a : Int) (fr, q) (w : Int)).2.length = negs fr + q.length ∧ negs (vis1 (a : Int) (fr, q) (w : Int)).1 ≤ negs fr := by
  by_cases hv : List.getD fr w 0 < 0
  · have hv1 : vis1 (a : Int) (fr, q) (w : Int) = (List.set fr w (a : Int), q ++ [(w : Int)]) := if_pos hv
    have hlen := h.len
    have hwa : w ≠ a := fun e => by subst e; omega
    have old : ∀ v, 0 ≤ List.getD fr v 0 → w ≠ v := fun v h1 e => by subst e; omega
    have oldq : ∀ x ∈ q, w ≠ x.toNat := fun x hx => by
      obtain ⟨v, _, e, h1⟩ := h.que x hx
      rw [e]
      exact old v h1
    have gs : List.getD (List.set fr w (a : Int)) w 0 = (a : Int) := getD_set_same (by omega)
    have gn : ∀ v, w ≠ v → List.getD (List.set fr w (a : Int)) v 0 = List.getD fr v 0 := fun v e => getD_set_ne e
    obtain ⟨D2, ds, dn⟩ : ∃ D2 : Nat → Nat, D2 w = D a + 1 ∧ ∀ v, w ≠ v → D2 v = D v := ⟨fun v => if v = w then D a + 1 else D v, if_pos rfl, fun v e => if_neg fun q => e q.symm⟩
    have kp : ∀ v, 0 ≤ List.getD fr v 0 → 0 ≤ List.getD (List.set fr w (a : Int)) v 0 ∧ D2 v = D v := fun v h1 => by
      rw [gn v (old v h1)]
      exact ⟨h1, dn v (old v h1)⟩
    have spl : ∀ v, v < n → 0 ≤ List.getD (List.set fr w (a : Int)) v 0 → v = w ∨ (w ≠ v ∧ 0 ≤ List.getD fr v 0) := fun v hvn h1 => by
      by_cases e : w = v
      · exact .inl e.symm
      · rw [gn v e] at h1
        exact .inr ⟨e, h1⟩
    rw [hv1]
    refine ⟨D2, ⟨by rw [List.length_set]; exact h.len, fun v hvn h1 => ?_, fun v hvn h1 => ?_, fun x hx => ?_, ?_, fun v hvn h1 x hx => ?_⟩, fun v hvn h1 => kp v h1, fun v hvn h1 => ?_, fun x hx => ?_, ?_, ?_, fun v hvn h1 => ?_, fun x hx => List.mem_append_left _ hx, ?_, ?_⟩
    · rcases spl v hvn h1 with e | ⟨e, h2⟩
      · subst e
        refine .inr ⟨a, ha, gs, fun e => hwa e.symm, (kp a hva).1, ?_, hin⟩
        rw [ds, dn a hwa]
      · rw [gn v e, dn v e]
        rcases h.par v hvn h2 with p | ⟨u, u1, u2, u3, u4, u5, u6⟩
        · exact .inl p
        · exact .inr ⟨u, u1, u2, u3, (kp u u4).1, by rw [(kp u u4).2]; exact u5, u6⟩
    · obtain ⟨h2, h3⟩ := h.ini v hvn h1
      obtain ⟨h4, h5⟩ := kp v h2
      exact ⟨h4, by rw [h5]; exact h3⟩
    · rcases List.mem_append.1 hx with g | g
      · obtain ⟨v, v1, v2, v3⟩ := h.que x g
        exact ⟨v, v1, v2, (kp v v3).1⟩
      · exact ⟨w, hw, List.mem_singleton.1 g, by rw [gs]; omega⟩
    · refine List.pairwise_append.2 ⟨?_, List.pairwise_singleton _ _, fun x hx y hy => ?_⟩
      · refine List.Pairwise.imp_of_mem (fun {x y} hx hy hxy => ?_) h.srt
        rw [dn _ (oldq x hx), dn _ (oldq y hy)]
        exact hxy
      · rw [List.mem_singleton.1 hy, dn _ (oldq x hx), show ((w : Nat) : Int).toNat = w from rfl, ds]
        exact (hq x hx).2
    · have hxd : D2 x.toNat = D x.toNat ∧ x ∈ q ∨ D2 x.toNat = D a + 1 := by
        rcases List.mem_append.1 hx with g | g
        · exact .inl ⟨dn _ (oldq x g), g⟩
        · right
          rw [List.mem_singleton.1 g, show ((w : Nat) : Int).toNat = w from rfl, ds]
      rcases spl v hvn h1 with e | ⟨e, h2⟩
      · subst e
        rw [ds]
        rcases hxd with ⟨e2, g⟩ | e2
        · rw [e2]
          have := (hq x g).1
          omega
        · rw [e2]; omega
      · rw [dn v e]
        rcases hxd with ⟨e2, g⟩ | e2
        · rw [e2]
          exact h.near v hvn h2 x g
        · rw [e2]
          have := hn v hvn h2
          omega
    · rw [dn a hwa]
      rcases spl v hvn h1 with e | ⟨e, h2⟩
      · subst e
        rw [ds]; omega
      · rw [dn v e]
        exact hn v hvn h2
    · rw [dn a hwa]
      rcases List.mem_append.1 hx with g | g
      · rw [dn _ (oldq x g)]
        exact hq x g
      · rw [List.mem_singleton.1 g, show ((w : Nat) : Int).toNat = w from rfl, ds]
        omega
    · rw [gs]; omega
    · rw [ds, dn a hwa]; omega
    · rcases spl v hvn h1 with e | ⟨e, h2⟩
      · exact .inr (List.mem_append_right _ (by rw [e]; exact List.mem_singleton.2 rfl))
      · exact .inl h2
    · have := negs_set fr w (a : Int) (by omega) (by omega) hv
      simp only [List.length_append, List.length_singleton]
      omega
    · have := negs_set fr w (a : Int) (by omega) (by omega) hv
      show negs (List.set fr w (a : Int)) ≤ negs fr
      omega
  · have hv1 : vis1 (a : Int) (fr, q) (w : Int) = (fr, q) := if_neg hv
    rw [hv1]
    exact ⟨D, h, fun v hvn h1 => ⟨h1, rfl⟩, hn, hq, (show 0 ≤ List.getD fr w 0 by omega), hn w hw (by omega), fun v hvn h1 => .inl h1, fun x hx => hx, rfl, Nat.le_refl _⟩
theorem lv_fold {n : Nat} {nx : List (List Int)} {st : Nat → Prop} {a : Nat} (ha : a < n) : ∀ (l : List Int) (D : Nat → Nat) (fr q : List Int), Lv n nx st D fr q → 0 ≤ List.getD fr a 0 → (∀ w ∈ l, w ∈ List.getD nx a [] ∧ 0 ≤ w ∧ w < (n : Int)) →
    (∀ v, v < n → 0 ≤ List.getD fr v 0 → D v ≤ D a + 1) → (∀ x ∈ q, D a ≤ D x.toNat ∧ D x.toNat ≤ D a + 1) →
    ∃ D', Lv n nx st D' (l.foldl (vis1 (a : Int)) (fr, q)).1 (l.foldl (vis1 (a : Int)) (fr, q)).2 ∧ (∀ v, v < n → 0 ≤ List.getD fr v 0 → 0 ≤ List.getD (l.foldl (vis1 (a : Int)) (fr, q)).1 v 0 ∧ D' v = D v) ∧
      (∀ w ∈ l, 0 ≤ List.getD (l.foldl (vis1 (a : Int)) (fr, q)).1 w.toNat 0 ∧ D' w.toNat ≤ D' a + 1) ∧ (∀ v, v < n → 0 ≤ List.getD (l.foldl (vis1 (a : Int)) (fr, q)).1 v 0 → 0 ≤ List.getD fr v 0 ∨ ((v : Nat) : Int) ∈ (l.foldl (vis1 (a : Int)) (fr, q)).2) ∧ (∀ x ∈ q, x ∈ (l.foldl (vis1 (a : Int)) (fr, q)).2) ∧
      negs (l.foldl (vis1 (a : Int)) (fr, q)).1 + (l.foldl (vis1 (a : Int)) (fr, q)).2.length = negs fr + q.length ∧ negs (l.foldl (vis1 (a : Int)) (fr, q)).1 ≤ negs fr
  | [], D, fr, q, h, hva, hl, hn, hq => ⟨D, h, fun v hvn h1 => ⟨h1, rfl⟩, fun w hw => (by cases hw), fun v hvn h1 => .inl h1, fun x hx => hx, rfl, Nat.le_refl _⟩
  | w :: l, D, fr, q, h, hva, hl, hn, hq => by
    obtain ⟨w1, w2, w3⟩ := hl w List.mem_cons_self
    obtain ⟨u, rfl⟩ := Int.eq_ofNat_of_zero_le w2
    obtain ⟨D1, b1, c1, c2, c3, c4, c5, c6, c7, c8, c9⟩ := lv_vis h ha hva (show u < n by omega) w1 hn hq
    have e3 : vis1 (a : Int) (fr, q) (u : Int) = ((vis1 (a : Int) (fr, q) (u : Int)).1, (vis1 (a : Int) (fr, q) (u : Int)).2) := rfl
    obtain ⟨D2, b2, d1, d2, d3, d4, d5, d6⟩ := lv_fold ha l D1 _ _ b1 (c1 a ha hva).1 (fun w hw => hl w (List.mem_cons_of_mem _ hw)) c2 c3
    rw [← e3] at b2 d1 d2 d3 d4 d5 d6
    rw [List.foldl_cons]
    refine ⟨D2, b2, fun v hvn h1 => ?_, fun w hw => ?_, fun v hvn h1 => ?_, fun x hx => d4 x (c7 x hx), by omega, by omega⟩
    · obtain ⟨g1, g2⟩ := c1 v hvn h1
      obtain ⟨g3, g4⟩ := d1 v hvn g1
      exact ⟨g3, by omega⟩
    · rcases List.mem_cons.1 hw with rfl | hw
      · obtain ⟨g3, g4⟩ := d1 u (by omega) c4
        refine ⟨g3, ?_⟩
        have := (d1 a ha (c1 a ha hva).1).2
        show D2 u ≤ D2 a + 1
        omega
      · exact d2 w hw
    · rcases d3 v hvn h1 with g | g
      · rcases c6 v hvn g with g | g
        · exact .inl g
        · exact .inr (d4 _ g)
      · exact .inr g
def ClsQ (n : Nat) (nx : List (List Int)) (D : Nat → Nat) (fr q : List Int) : Prop := ∀ v, v < n → 0 ≤ List.getD fr v 0 → ((v : Nat) : Int) ∈ q ∨ ClsV nx D fr v
theorem lv_min {n : Nat} {nx : List (List Int)} {st : Nat → Prop} {D : Nat → Nat} {fr q : List Int} (h : Lv n nx st D fr q) (hc : ClsQ n nx D fr q) (hnx : NxP n nx) (hst : ∀ v, st v → v < n) : ∀ (m v : Nat), Wlk nx st m v → v < n ∧ ((0 ≤ List.getD fr v 0 ∧ D v ≤ m + 1) ∨ ∃ x ∈ q, D x.toNat ≤ m)
  | 0, v, hw => by
    have hv := hst v hw
    obtain ⟨h1, h2⟩ := h.ini v hv hw
    exact ⟨hv, .inl ⟨h1, by omega⟩⟩
  | m + 1, v, ⟨u, hw, hin⟩ => by
    obtain ⟨hu, ih⟩ := lv_min h hc hnx hst m u hw
    have hv := (hnx.2 u hu).2 _ hin
    refine ⟨by omega, ?_⟩
    rcases ih with ⟨h1, h2⟩ | ⟨x, hx, h2⟩
    · rcases hc u hu h1 with g | g
      · exact .inr ⟨_, g, by rw [show ((u : Nat) : Int).toNat = u from rfl]; omega⟩
      · obtain ⟨g1, g2⟩ := g _ hin
        rw [show ((v : Nat) : Int).toNat = v from rfl] at g1 g2
        exact .inl ⟨g1, by omega⟩
    · exact .inr ⟨x, hx, by omega⟩
end Go.Proofs.YtgojfdimbciaiaaE
set_option linter.unusedSimpArgs false
set_option linter.unusedVariables false
set_option maxRecDepth 20000
namespace Go.Proofs.YtgojfdimbciaiaaE
theorem F34_1_lv (k n : Nat) (nx : List (List Int)) (st : Nat → Prop) (goal : Nat) (hnx : NxP n nx) (hg : goal < n) (hn : n ≤ 20000) (hk : 10000000 ≤ k) : ∀ (M m : Nat) (D : Nat → Nat) (fr q : List Int), Lv n nx st D fr q → ClsQ n nx D fr q → 2 * negs fr + q.length ≤ M → M < m → M ≤ 100000 →
    ∃ D' fr' q', F34_1 k m (goal : Int) (wk nx fr q) = some (((goal : Int), ()), (wk nx fr' q', ())) ∧ Lv n nx st D' fr' q' ∧ ClsQ n nx D' fr' q' ∧ (0 ≤ List.getD fr' goal 0 ∨ q' = [])
  | M, m, D, fr, [], hb, hc, hM, hm, hM2 => by
    obtain ⟨m, rfl⟩ : ∃ m', m = m' + 1 := ⟨m - 1, by omega⟩
    refine ⟨D, fr, [], ?_, hb, hc, .inr rfl⟩
    simp only [F34_1]
    rfl
  | 0, m, D, fr, x :: q, hb, hc, hM, hm, hM2 => by
    rw [List.length_cons] at hM
    omega
  | M + 1, m, D, fr, x :: q, hb, hc, hM, hm, hM2 => by
    obtain ⟨m, rfl⟩ : ∃ m', m = m' + 1 := ⟨m - 1, by omega⟩
    have hlen := hb.len
    rw [List.length_cons] at hM
    have hin : 0 ≤ (goal : Int) ∧ (goal : Int) < (((wk nx fr (x :: q)).2.1.length : Nat) : Int) := by
      show 0 ≤ (goal : Int) ∧ (goal : Int) < ((fr.length : Nat) : Int)
      omega
    have hq0 : decide ((((wk nx fr (x :: q)).2.2.1.length : Nat) : Int) > 0) = true := by
      show decide ((((x :: q).length : Nat) : Int) > 0) = true
      simp
    by_cases hv : List.getD fr goal 0 < 0
    · obtain ⟨a, han, rfl, ha⟩ := hb.que x (by simp)
      obtain ⟨n1, n2⟩ := hnx.2 a han
      obtain ⟨s1, s2⟩ := List.pairwise_cons.1 hb.srt
      have hb0 : Lv n nx st D fr q := ⟨hb.len, hb.par, hb.ini, fun y hy => hb.que y (by simp [hy]), s2, fun v hvn h1 y hy => hb.near v hvn h1 y (by simp [hy])⟩
      have hna : ∀ v, v < n → 0 ≤ List.getD fr v 0 → D v ≤ D a + 1 := fun v hvn h1 => hb.near v hvn h1 (a : Int) (by simp)
      obtain ⟨D1, b1, d1, d2, d3, d4, d5, d6⟩ := lv_fold han (List.getD nx a []) D fr q hb0 ha (fun w hw => ⟨hw, n2 w hw⟩) hna (fun y hy => ⟨s1 y hy, by
        obtain ⟨u, u1, u2, u3⟩ := hb0.que y hy
        rw [u2]
        exact hna u u1 u3⟩)
      have e0 := F34_0_ok k n nx (goal : Int) (a : Int) (goal : Int) (List.getD fr goal 0) true (List.getD nx a []) n2 (by omega) (List.getD nx a []).length k 0 fr q (by omega) (by omega) hlen (by omega)
      rw [List.drop_zero] at e0
      obtain ⟨D', fr', q', e, hh⟩ := F34_1_lv k n nx st goal hnx hg hn hk M m D1 _ _ b1 (fun v hvn h1 => by
        rcases d3 v hvn h1 with g | g
        · rcases hc v hvn g with h2 | h2
          · rcases List.mem_cons.1 h2 with h3 | h3
            · right
              have : v = a := by omega
              subst this
              exact d2
            · left; exact d4 _ h3
          · right
            intro w hw
            obtain ⟨u1, u2⟩ := h2 w hw
            have hwn := (hnx.2 v hvn).2 w hw
            obtain ⟨g1, g2⟩ := d1 w.toNat (by omega) u1
            have := (d1 v hvn g).2
            exact ⟨g1, by omega⟩
        · left; exact g) (by omega) (by omega) (by omega)
      refine ⟨D', fr', q', ?_, hh⟩
      simp only [F34_1]
      rw [hq0, cond_true, if_pos hin]
      rw [decide_eq_true (show List.getD (wk nx fr ((a : Int) :: q)).2.1 (Int.toNat (goal : Int)) 0 < 0 from hv), cond_true]
      rw [if_pos (show (0 : Int) ≤ 0 ∧ (0 : Int) < (((wk nx fr ((a : Int) :: q)).2.2.1.length : Nat) : Int) from (show (0 : Int) ≤ 0 ∧ (0 : Int) < ((((a : Int) :: q).length : Nat) : Int) by simp))]
      rw [if_pos (show (0 : Int) ≤ 1 ∧ (1 : Int) ≤ (((wk nx fr ((a : Int) :: q)).2.2.1.length : Nat) : Int) ∧ (((wk nx fr ((a : Int) :: q)).2.2.1.length : Nat) : Int) ≤ (((wk nx fr ((a : Int) :: q)).2.2.1.length : Nat) : Int) from (show (0 : Int) ≤ 1 ∧ (1 : Int) ≤ ((((a : Int) :: q).length : Nat) : Int) ∧ ((((a : Int) :: q).length : Nat) : Int) ≤ ((((a : Int) :: q).length : Nat) : Int) by rw [List.length_cons]; omega))]
      have hw : List.take (Int.toNat (((wk nx fr ((a : Int) :: q)).2.2.1.length : Nat) : Int) - Int.toNat 1) (List.drop (Int.toNat 1) (wk nx fr ((a : Int) :: q)).2.2.1) = q := by
        show List.take (((a : Int) :: q).length - 1) (List.drop 1 ((a : Int) :: q)) = q
        simp
      rw [hw]
      rw [if_pos (show 0 ≤ List.getD (wk nx fr ((a : Int) :: q)).2.2.1 (Int.toNat 0) 0 ∧ List.getD (wk nx fr ((a : Int) :: q)).2.2.1 (Int.toNat 0) 0 < (((wk nx fr ((a : Int) :: q)).1.1.length : Nat) : Int) from (show 0 ≤ (a : Int) ∧ (a : Int) < ((nx.length : Nat) : Int) by have := hnx.1; omega))]
      show ((F34_0 k k (goal : Int) (a : Int) (goal : Int) (List.getD fr goal 0) true (List.getD nx a []) (((List.getD nx a []).length : Nat) : Int) ((0 : Nat) : Int) (wk nx fr q)).bind fun r11 => (F34_1 k m r11.1.1 r11.2.1).bind some) = _
      rw [e0, Option.bind_some]
      simp only
      rw [e, Option.bind_some]
    · refine ⟨D, fr, (x :: q), ?_, hb, hc, .inl (by omega)⟩
      simp only [F34_1]
      rw [hq0, cond_true, if_pos hin]
      rw [decide_eq_false (show ¬ List.getD (wk nx fr (x :: q)).2.1 (Int.toNat (goal : Int)) 0 < 0 from hv), cond_false]
def Bk (nx : List (List Int)) (st : Nat → Prop) : List Nat → Prop
  | [] => False
  | [v] => st v
  | v :: u :: l => ((v : Nat) : Int) ∈ List.getD nx u [] ∧ Bk nx st (u :: l)
def asI (l : List Nat) : List Int := l.map fun j => ((j : Nat) : Int)
theorem F34_2_lv (k n : Nat) (nx : List (List Int)) (st : Nat → Prop) (D : Nat → Nat) (fr q : List Int) (hb : Lv n nx st D fr q) : ∀ (d v : Nat), v < n → 0 ≤ List.getD fr v 0 → D v = d + 1 → ∃ js : List Nat, js.length = d ∧ Bk nx st (v :: js) ∧ (v :: js).Nodup ∧ (∀ u ∈ v :: js, u < n ∧ D u ≤ d + 1) ∧
    ∀ (m : Nat) (acc : List Int), d < m → acc.length + d ≤ 100000 → F34_2 k m (v : Int) (wk nx fr q) acc = some ((), (wk nx fr q, acc ++ asI js, ()))
  | d, v, hv, h1, h2 => by
    have hlen := hb.len
    have hin : 0 ≤ (v : Int) ∧ (v : Int) < (((wk nx fr q).2.1.length : Nat) : Int) := by
      show 0 ≤ (v : Int) ∧ (v : Int) < ((fr.length : Nat) : Int)
      omega
    rcases hb.par v hv h1 with ⟨p1, p2, p3⟩ | ⟨u, u1, u2, u3, u4, u5, u6⟩
    · obtain rfl : d = 0 := by omega
      refine ⟨[], rfl, p3, by simp, fun u hu => by rw [List.mem_singleton.1 hu]; omega, fun m acc hm ha => ?_⟩
      obtain ⟨m, rfl⟩ : ∃ m', m = m' + 1 := ⟨m - 1, by omega⟩
      have he : (List.getD (wk nx fr q).2.1 (Int.toNat (v : Int)) 0 != (v : Int)) = false := by
        show (List.getD fr v 0 != (v : Int)) = false
        rw [p1]
        exact bne_self_eq_false _
      simp only [F34_2]
      rw [if_pos hin, he, cond_false]
      show _ = some ((), (wk nx fr q, acc ++ [], ()))
      rw [List.append_nil]
    · match d, h2 with
      | 0, h2 =>
        exfalso
        have : D u = 0 := by omega
        rcases hb.par u u1 u4 with ⟨_, p2, _⟩ | ⟨_, _, _, _, _, p5, _⟩
        · omega
        · omega
      | d + 1, h2 =>
        obtain ⟨js, j1, j2, j3, j4, j5⟩ := F34_2_lv k n nx st D fr q hb d u u1 u4 (by omega)
        refine ⟨u :: js, by simp [j1], ⟨u6, j2⟩, ?_, fun x hx => ?_, fun m acc hm ha => ?_⟩
        · refine List.nodup_cons.2 ⟨fun hx => ?_, j3⟩
          have := (j4 v hx).2
          omega
        · rcases List.mem_cons.1 hx with e | e
          · rw [e]; omega
          · have := j4 x e
            omega
        · obtain ⟨m, rfl⟩ : ∃ m', m = m' + 1 := ⟨m - 1, by omega⟩
          have hg : List.getD (wk nx fr q).2.1 (Int.toNat (v : Int)) 0 = (u : Int) := u2
          have hne : (((u : Nat) : Int) != (v : Int)) = true := by
            rw [bne_iff_ne]
            omega
          simp only [F34_2, hg, one_list]
          rw [if_pos hin, hne, cond_true, if_pos hin, if_pos (by rw [List.length_singleton]; omega), if_pos hin, j5 m (acc ++ [((u : Nat) : Int)]) (by omega) (by rw [List.length_append, List.length_singleton]; omega), Option.bind_some, List.append_assoc]
          rfl
theorem F33_1_lv (k n : Nat) (nx : List (List Int)) (t : List Int) (ht : ∀ x ∈ t, 0 ≤ x ∧ x < (n : Int)) (hl : t.length ≤ 1000000) : ∀ (d m i : Nat) (fr : List Int), i + d = t.length → d < m → fr.length = n → (∀ v, v < n → List.getD fr v 0 = if ((v : Nat) : Int) ∈ t.take i then (v : Int) else -1) →
    ∃ fr', F33_1 k m t ((t.length : Nat) : Int) (i : Int) (wk nx fr (t.take i)) = some ((), (wk nx fr' t, ())) ∧ fr'.length = n ∧ ∀ v, v < n → List.getD fr' v 0 = if ((v : Nat) : Int) ∈ t then (v : Int) else -1
  | 0, m, i, fr, hi, hm, h1, h2 => by
    obtain ⟨m, rfl⟩ : ∃ m', m = m' + 1 := ⟨m - 1, by omega⟩
    rw [List.take_of_length_le (by omega)] at h2 ⊢
    refine ⟨fr, ?_, h1, h2⟩
    simp only [F33_1]
    rw [decide_eq_false (by omega), cond_false]
  | d + 1, m, i, fr, hi, hm, h1, h2 => by
    obtain ⟨m, rfl⟩ : ∃ m', m = m' + 1 := ⟨m - 1, by omega⟩
    have hlt : i < t.length := by omega
    have hx := ht _ (List.getElem_mem hlt)
    obtain ⟨u, hu⟩ := Int.eq_ofNat_of_zero_le hx.1
    have tk : t.take (i + 1) = t.take i ++ [(u : Int)] := by rw [List.take_succ_eq_append_getElem hlt, hu]
    have hun : u < n := by omega
    obtain ⟨fr', e, h⟩ := F33_1_lv k n nx t ht hl d m (i + 1) (List.set fr u (u : Int)) (by omega) (by omega) (by rw [List.length_set]; exact h1) (fun v hv => by
      rw [tk]
      by_cases e : u = v
      · subst e
        rw [getD_set_same (by omega), if_pos (by simp)]
      · rw [getD_set_ne e, h2 v hv]
        by_cases g : ((v : Nat) : Int) ∈ t.take i
        · rw [if_pos g, if_pos (List.mem_append_left _ g)]
        · rw [if_neg g, if_neg]
          intro q
          rcases List.mem_append.1 q with q | q
          · exact g q
          · have := List.mem_singleton.1 q
            omega)
    refine ⟨fr', ?_, h⟩
    rw [tk] at e
    have hfr : 0 ≤ (u : Int) ∧ (u : Int) < ((fr.length : Nat) : Int) := by omega
    have k1 : ((t.take i).length + [(u : Int)].length) * (8 * 2) ≤ 281474976710656 ∧ (t.take i).length + [(u : Int)].length ≤ 9223372036854775807 := by rw [List.length_take, List.length_singleton]; omega
    simp only [F33_1, one_list]
    rw [decide_eq_true (show (i : Int) < ((t.length : Nat) : Int) by omega), cond_true, if_pos (inR hlt), show Int.toNat (i : Int) = i from rfl, getD_lt t i _ hlt, hu]
    show (if 0 ≤ (u : Int) ∧ (u : Int) < ((fr.length : Nat) : Int) then if ((t.take i).length + [(u : Int)].length) * (8 * 2) ≤ 281474976710656 ∧ (t.take i).length + [(u : Int)].length ≤ 9223372036854775807 then (F33_1 k m t ((t.length : Nat) : Int) (IntKind.wrap .i64 ((i : Int) + 1)) (wk nx (List.set fr u (u : Int)) (t.take i ++ [(u : Int)]))).bind some else none else none) = _
    rw [if_pos hfr, if_pos k1, wsucc i _ hlt (by omega), e]
    rfl
theorem walks_ok (k n : Nat) (nx : List (List Int)) (t : List Int) (goal : Nat) (hnx : NxP n nx) (ht : ∀ x ∈ t, 0 ≤ x ∧ x < (n : Int)) (htl : t.length ≤ n) (hg : goal < n) (hn : n ≤ 20000) (hk : 10000000 ≤ k) :
    ∃ (w w' : WkT) (l : List Int), F33 k (nx, ()) t = some ((w, ()), ()) ∧ F34 k w (goal : Int) = some ((l, ()), (w', ())) ∧
      ((l = [] ∧ ∀ m, ¬ Wlk nx (fun v => ((v : Nat) : Int) ∈ t) m goal) ∨ ∃ js : List Nat, l = (asI (goal :: js)).reverse ∧ Bk nx (fun v => ((v : Nat) : Int) ∈ t) (goal :: js) ∧ (∀ u ∈ goal :: js, u < n) ∧ js.length < n ∧ ∀ m, Wlk nx (fun v => ((v : Nat) : Int) ∈ t) m goal → js.length ≤ m) := by
  have hst : ∀ v : Nat, ((v : Nat) : Int) ∈ t → v < n := fun v hv => by have := ht _ hv; omega
  obtain ⟨k, rfl⟩ : ∃ k', k = k' + 2 := ⟨k - 2, by omega⟩
  have e0 := F33_0_ok (k + 2) nx t [] n (by omega) n (k + 2) 0 (List.replicate n 0) (by omega) (by omega) (by simp) (fun u hu => by omega)
  have e0 : F33_0 (k + 2) (k + 2) t (n : Int) 0 ((nx, ()), (List.replicate n 0, ([], ()))) = some ((t, ()), (wk nx (List.replicate n (-1)) [], ())) := e0
  obtain ⟨fr0, e1, hf1, hf2⟩ := F33_1_lv (k + 2) n nx t ht (by omega) t.length (k + 2) 0 (List.replicate n (-1)) (by omega) (by omega) (by simp) (fun v hv => by
    rw [List.take_zero, if_neg (by simp), getD_lt _ _ _ (by simpa using hv), List.getElem_replicate])
  rw [show ((0 : Nat) : Int) = 0 from rfl, List.take_zero] at e1
  have e33 : F33 (k + 2) (nx, ()) t = some ((wk nx fr0 t, ()), ()) := by
    unfold F33
    simp only [List.length_replicate]
    rw [hnx.1, if_pos (by omega), Int.toNat_natCast, e0, Option.bind_some]
    simp only
    rw [e1, Option.bind_some]
  have hlv : Lv n nx (fun v => ((v : Nat) : Int) ∈ t) (fun _ => 1) fr0 t := by
    refine ⟨hf1, fun v hv h => ?_, fun v hv h => ?_, fun x hx => ?_, ?_, fun v hv h x hx => by omega⟩
    · rw [hf2 v hv] at h ⊢
      by_cases g : ((v : Nat) : Int) ∈ t
      · rw [if_pos g]; exact .inl ⟨rfl, rfl, g⟩
      · rw [if_neg g] at h; omega
    · rw [hf2 v hv, if_pos h]
      exact ⟨by omega, rfl⟩
    · have hx2 := ht x hx
      obtain ⟨u, rfl⟩ := Int.eq_ofNat_of_zero_le hx2.1
      exact ⟨u, by omega, rfl, by
        have := hf2 u (by omega)
        rw [if_pos hx] at this
        omega⟩
    · exact List.Pairwise.imp (fun _ => Nat.le_refl _) (List.pairwise_of_forall (R := fun _ _ => True) (fun _ _ => trivial))
  have hcl : ClsQ n nx (fun _ => 1) fr0 t := fun v hv h => by
    rw [hf2 v hv] at h
    by_cases g : ((v : Nat) : Int) ∈ t
    · exact .inl g
    · rw [if_neg g] at h; omega
  have hneg := negs_le fr0
  obtain ⟨D, fr, q, e2, hb, hc, ho⟩ := F34_1_lv (k + 2) n nx _ goal hnx hg hn hk (2 * n + n) (k + 2) _ fr0 t hlv hcl (by omega) (by omega) (by omega)
  have hlen := hb.len
  have hin : 0 ≤ (goal : Int) ∧ (goal : Int) < (((wk nx fr q).2.1.length : Nat) : Int) := by
    show 0 ≤ (goal : Int) ∧ (goal : Int) < ((fr.length : Nat) : Int)
    omega
  by_cases hv : List.getD fr goal 0 < 0
  · refine ⟨_, wk nx fr q, [], e33, ?_, .inl ⟨rfl, fun m hw => ?_⟩⟩
    · unfold F34
      rw [e2, Option.bind_some]
      simp only
      rw [if_pos hin, decide_eq_true (show List.getD (wk nx fr q).2.1 (Int.toNat (goal : Int)) 0 < 0 from hv), cond_true]
    · have hq : q = [] := ho.resolve_left (by omega)
      rcases (lv_min hb hc hnx hst m goal hw).2 with ⟨g, _⟩ | ⟨x, hx, _⟩
      · omega
      · rw [hq] at hx; cases hx
  · have hpos : 0 < D goal := by
      rcases hb.par goal hg (by omega) with ⟨_, p, _⟩ | ⟨_, _, _, _, _, p, _⟩ <;> omega
    obtain ⟨js, j1, j2, j3, j4, j5⟩ := F34_2_lv (k + 2) n nx _ D fr q hb (D goal - 1) goal hg (by omega) (by omega)
    have hjl := nd_len n _ j3 (fun v hv => (j4 v hv).1)
    rw [List.length_cons] at hjl
    refine ⟨_, wk nx fr q, (asI (goal :: js)).reverse, e33, ?_, .inr ⟨js, rfl, j2, fun u hu => (j4 u hu).1, by omega, fun m hw => ?_⟩⟩
    · have e3 := j5 (k + 2) [(goal : Int)] (by omega) (by simp; omega)
      have hcl2 : (asI (goal :: js)).length = js.length + 1 := by simp [asI]
      unfold F34
      rw [e2, Option.bind_some]
      simp only [one_list]
      rw [if_pos hin, decide_eq_false (show ¬ List.getD (wk nx fr q).2.1 (Int.toNat (goal : Int)) 0 < 0 from hv), cond_false, e3, Option.bind_some]
      simp only
      rw [show [(goal : Int)] ++ asI js = asI (goal :: js) from rfl, F52_ok (k + 2) _ (by omega) (by omega) hk, Option.bind_some]
      simp only
      rw [if_pos (by simp [asI])]
    · rcases (lv_min hb hc hnx hst m goal hw).2 with ⟨_, g⟩ | ⟨x, hx, g⟩
      · omega
      · have := hb.near goal hg (by omega) x hx
        omega
end Go.Proofs.YtgojfdimbciaiaaE
set_option linter.unusedSimpArgs false
set_option linter.unusedVariables false
set_option maxRecDepth 20000
namespace Go.Proofs.YtgojfdimbciaiaaE
def sumL (w : Int → Nat) : List Int → Nat
  | [] => 0
  | b :: l => w b + sumL w l
def zw (b : Int) : Nat := if b = 0 then 1 else 0
structure Dp (n : Nat) (nx : List (List Int)) (st : Nat → Prop) (d : List Int) : Prop where
  len : d.length = n
  val : ∀ v, v < n → List.getD d v 0 = 0 ∨ ∃ m : Nat, List.getD d v 0 = (m : Int) + 1 ∧ Wlk nx st m v
  ini : ∀ v, v < n → st v → List.getD d v 0 = 1
  bnd : ∀ v, v < n → List.getD d v 0 + (sumL zw d : Int) ≤ (n : Int) + 1
theorem Dp.pos {n : Nat} {nx : List (List Int)} {st : Nat → Prop} {d : List Int} (h : Dp n nx st d) {v : Nat} (hv : v < n) : 0 ≤ List.getD d v 0 := by
  rcases h.val v hv with e | ⟨m, e, _⟩ <;> omega
def StS (n : Nat) (f : List Int) (v : Nat) : Prop := v < n ∧ List.getD f v 0 < 1152921504606846976
end Go.Proofs.YtgojfdimbciaiaaE
