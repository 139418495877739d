/- Plain laws. Conditions: none. -/
import Derived.Test.YtgmmopbpldgpcaaP0
set_option linter.unusedSimpArgs false
set_option linter.unusedVariables false
set_option maxRecDepth 20000
namespace Go.Proofs.YtgmmopbpldgpcaaE
theorem F44_2_ok (k : Nat) (I : InT) (N : Nat) (ss : List SideT) (a : Nat) (L : Live) (hk : 10000000 ≤ k) (hs : ∀ s ∈ ss, SOK s) (hI : ∀ s ∈ ss, InOK I N s) (ha : a < N) (hL : Shp ss L) (hn : ss.length ≤ 1000000) : ∀ (d m i : Nat) (D : Live), i + d = ss.length → d < m → D.length = i →
  F44_2 k m ss I L (a : Int) (i : Int) D = some ((), (D ++ stepL I (ss.drop i) (L.drop i) a, ()))
 | 0, m, i, D, hi, hm, hD => by
  obtain ⟨m, rfl⟩ := pos1 (m := m) (by omega)
  simp only [F44_2]
  rw [decide_eq_false (by omega), cond_false, List.drop_eq_nil_of_le (by omega : ss.length ≤ i)]
  simp [stepL]
 | d + 1, m, i, D, hi, hm, hD => by
  obtain ⟨m, rfl⟩ := pos1 (m := m) (by omega)
  have hlt : i < ss.length := by omega
  have hlL : L.length = ss.length := by have := congrArg List.length hL; simpa using this
  have hlt2 : i < L.length := by omega
  have hso := hs _ (List.getElem_mem hlt)
  have hio := hI _ (List.getElem_mem hlt)
  have hrl : L[i].length = ss[i].1.length := by
   have := congrArg (fun l => l[i]?) hL
   simpa [List.getElem?_map, hlt, hlt2] using this
  have hln := hso.ln
  have hla := hso.la
  have e0 := F44_0_ok k I N ss[i] a ss L (i : Int) D hso hio ha ss[i].1.length k 0 (Nat.zero_add _) (by omega)
  have e1 := F44_1_ok k I N ss[i] a ss L D hso hio ha i hlt2 hrl ss[i].2.2.2.1.length k 0 ((List.range ss[i].1.length).map (endP I ss[i] a)) (Nat.zero_add _) (by omega) (by simp)
  rw [upto_0, show ((0 : Nat) : Int) = 0 from rfl] at e0
  rw [show ((0 : Nat) : Int) = 0 from rfl, List.drop_zero] at e1
  have ih := F44_2_ok k I N ss a L hk hs hI ha hL hn d m (i + 1) (D ++ [stepS I ss[i] a L[i]]) (by omega) (by omega) (by simp [hD])
  have hst : stepL I (ss.drop i) (L.drop i) a = stepS I ss[i] a L[i] :: stepL I (ss.drop (i + 1)) (L.drop (i + 1)) a := by
   rw [show ss.drop i = ss[i] :: ss.drop (i + 1) from List.drop_eq_getElem_cons hlt, show L.drop i = L[i] :: L.drop (i + 1) from List.drop_eq_getElem_cons hlt2]
   rfl
  simp only [F44_2]
  rw [dlt hlt, cond_true, if_pos (inR hlt), tnI i, getD_lt _ _ _ hlt, if_pos (by omega), show Int.toNat ((List.length ss[i].1 : Nat) : Int) = ss[i].1.length from rfl, e0, Option.bind_some]
  simp only
  rw [e1, Option.bind_some]
  simp only
  rw [show (ss[i].2.2.2.1).foldl (arcR I ss[i] a L[i]) ((List.range ss[i].1.length).map (endP I ss[i] a)) = stepS I ss[i] a L[i] from rfl, if_pos (by rw [List.length_singleton]; omega), wsucc i _ hlt (by omega), ih, hst, List.append_assoc]
  rfl
theorem F44_ok (k : Nat) (I : InT) (N : Nat) (ss : List SideT) (a : Nat) (L : Live) (hk : 10000000 ≤ k) (hs : ∀ s ∈ ss, SOK s) (hI : ∀ s ∈ ss, InOK I N s) (ha : a < N) (hL : Shp ss L) (hn : ss.length ≤ 1000000) : F44 k ss I L (a : Int) = some ((stepL I ss L a, ()), ()) := by
 have e := F44_2_ok k I N ss a L hk hs hI ha hL hn ss.length k 0 [] (Nat.zero_add _) (by omega) rfl
 rw [show ((0 : Nat) : Int) = 0 from rfl, List.drop_zero, List.drop_zero, List.nil_append] at e
 unfold F44
 rw [e, Option.bind_some]
def hitP (s : SideT) (r : List Bool) (p : Nat) : Bool := List.getD r p false && decide (List.getD s.2.1 p 0 < INF1)
def holdS (s : SideT) (r : List Bool) : Bool := decide (s.2.2.2.2.1 < INF1) || (List.range s.1.length).any (hitP s r)
def holdL (ss : List SideT) (L : Live) : List Bool := List.zipWith holdS ss L
theorem holdL_len {ss : List SideT} {L : Live} (h : Shp ss L) : (holdL ss L).length = ss.length := by
 have hlL : L.length = ss.length := by have := congrArg List.length h; simpa using this
 simp [holdL, hlL]
theorem range_any_drop (f : Nat → Bool) {n i : Nat} (h : i < n) : ((List.range n).drop i).any f = (f i || ((List.range n).drop (i + 1)).any f) := by
 rw [List.drop_eq_getElem_cons (by simpa using h), List.any_cons, List.getElem_range]
theorem F46_0_ok (k : Nat) (ss : List SideT) (L : Live) (j : Nat) (hj : j < ss.length) (hj2 : j < L.length) (hs : SOK ss[j]) (hr : L[j].length = ss[j].1.length) (acc : List Bool) : ∀ (d m i : Nat) (is : Bool), i + d = ss[j].1.length → d < m →
  F46_0 k m ss L (j : Int) is (i : Int) acc = some ((ss, L, (j : Int), is || ((List.range ss[j].1.length).drop i).any (hitP ss[j] L[j]), ()), (acc, ()))
 | 0, m, i, is, hi, hm => by
  obtain ⟨m, rfl⟩ := pos1 (m := m) (by omega)
  simp only [F46_0]
  rw [if_pos (inR hj2), tnI j, getD_lt _ _ _ hj2, decide_eq_false (by omega), cond_false, List.drop_eq_nil_of_le (by simp; omega)]
  simp
 | d + 1, m, i, is, hi, hm => by
  obtain ⟨m, rfl⟩ := pos1 (m := m) (by omega)
  have hf := hs.lf
  have hln := hs.ln
  have hlt : i < ss[j].1.length := by omega
  have hlt0 : i < L[j].length := by omega
  have hlt2 : i < ss[j].2.1.length := by omega
  have ih := fun is => F46_0_ok k ss L j hj hj2 hs hr acc d m (i + 1) is (by omega) (by omega)
  rw [range_any_drop _ hlt]
  simp only [F46_0]
  rw [if_pos (inR hj2), tnI j, getD_lt _ _ _ hj2, dlt hlt0, cond_true, wsucc i _ hlt (by omega)]
  cases is with
  | true =>
   rw [cond_true, ih true]
   simp
  | false =>
   rw [cond_false, if_pos (inR hj2), if_pos (inR hlt0), tnI i]
   cases h2 : List.getD L[j] i false with
   | false =>
    have : hitP ss[j] L[j] i = false := by unfold hitP; rw [h2, Bool.false_and]
    rw [cond_false, ih false, this, Bool.false_or, Bool.false_or]
    rfl
   | true =>
    have : hitP ss[j] L[j] i = decide (List.getD ss[j].2.1 i 0 < INF1) := by unfold hitP; rw [h2, Bool.true_and]
    rw [cond_true, if_pos (inR hj), getD_lt _ _ _ hj, if_pos (inR hlt2), ih, this, Bool.false_or]
    rfl
theorem F46_1_ok (k : Nat) (ss : List SideT) (L : Live) (hk : 10000000 ≤ k) (hs : ∀ s ∈ ss, SOK s) (hL : Shp ss L) (hn : ss.length ≤ 1000000) : ∀ (d m i : Nat) (D : List Bool), i + d = ss.length → d < m → D.length = i →
  F46_1 k m ss L (i : Int) D = some ((), (D ++ holdL (ss.drop i) (L.drop i), ()))
 | 0, m, i, D, hi, hm, hD => by
  obtain ⟨m, rfl⟩ := pos1 (m := m) (by omega)
  simp only [F46_1]
  rw [decide_eq_false (by omega), cond_false, List.drop_eq_nil_of_le (by omega : ss.length ≤ i)]
  simp [holdL]
 | d + 1, m, i, D, hi, hm, hD => by
  obtain ⟨m, rfl⟩ := pos1 (m := m) (by omega)
  have hlt : i < ss.length := by omega
  have hlL : L.length = ss.length := by have := congrArg List.length hL; simpa using this
  have hlt2 : i < L.length := by omega
  have hso := hs _ (List.getElem_mem hlt)
  have hrl : L[i].length = ss[i].1.length := by
   have := congrArg (fun l => l[i]?) hL
   simpa [List.getElem?_map, hlt, hlt2] using this
  have hln := hso.ln
  have e0 := F46_0_ok k ss L i hlt hlt2 hso hrl D ss[i].1.length k 0 (decide (ss[i].2.2.2.2.1 < INF1)) (Nat.zero_add _) (by omega)
  rw [show ((0 : Nat) : Int) = 0 from rfl, List.drop_zero] at e0
  have ih := F46_1_ok k ss L hk hs hL hn d m (i + 1) (D ++ [holdS ss[i] L[i]]) (by omega) (by omega) (by simp [hD])
  have hst : holdL (ss.drop i) (L.drop i) = holdS ss[i] L[i] :: holdL (ss.drop (i + 1)) (L.drop (i + 1)) := by
   rw [show ss.drop i = ss[i] :: ss.drop (i + 1) from List.drop_eq_getElem_cons hlt, show L.drop i = L[i] :: L.drop (i + 1) from List.drop_eq_getElem_cons hlt2]
   rfl
  simp only [F46_1]
  rw [dlt hlt, cond_true, if_pos (inR hlt), tnI i, getD_lt _ _ _ hlt, e0, Option.bind_some]
  simp only
  rw [show List.set (List.replicate 1 false) 0 (decide (ss[i].2.2.2.2.1 < INF1) || (List.range ss[i].1.length).any (hitP ss[i] L[i])) = [holdS ss[i] L[i]] from rfl, if_pos (by rw [List.length_singleton]; omega), wsucc i _ hlt (by omega), ih, hst, List.append_assoc]
  rfl
theorem F46_ok (k : Nat) (ss : List SideT) (L : Live) (hk : 10000000 ≤ k) (hs : ∀ s ∈ ss, SOK s) (hL : Shp ss L) (hn : ss.length ≤ 1000000) : F46 k ss L = some ((holdL ss L, ()), ()) := by
 have e := F46_1_ok k ss L hk hs hL hn ss.length k 0 [] (Nat.zero_add _) (by omega) rfl
 rw [show ((0 : Nat) : Int) = 0 from rfl, List.drop_zero, List.drop_zero, List.nil_append] at e
 unfold F46
 rw [e, Option.bind_some]
def ix {α : Type} [DecidableEq α] (l : List α) (x : α) : Nat := l.idxOf x
def hasB {α : Type} [DecidableEq α] (l : List α) (x : α) : Bool := decide (x ∈ l)
theorem hasB_t {α : Type} [DecidableEq α] {l : List α} {x : α} (h : x ∈ l) : hasB l x = true := decide_eq_true h
theorem hasB_f {α : Type} [DecidableEq α] {l : List α} {x : α} (h : x ∉ l) : hasB l x = false := decide_eq_false h
theorem ix_cons {α : Type} [DecidableEq α] (y x : α) (l : List α) : ix (y :: l) x = if y = x then 0 else ix l x + 1 := by
 unfold ix
 rw [List.idxOf_cons]
 by_cases e : y = x
 ·rw [if_pos e, show (y == x) = true by simpa using e, cond_true]
 ·rw [if_neg e, show (y == x) = false by simpa using e, cond_false]
theorem ix_no {α : Type} [DecidableEq α] {l : List α} {x : α} (h : x ∉ l) : ix l x = l.length := List.idxOf_eq_length h
theorem ix_lt {α : Type} [DecidableEq α] {l : List α} {x : α} (h : x ∈ l) : ix l x < l.length := List.idxOf_lt_length_iff.2 h
theorem ix_get {α : Type} [DecidableEq α] {l : List α} {x : α} (h : x ∈ l) : l[ix l x]'(ix_lt h) = x := List.getElem_idxOf _
def put1 {α : Type} [DecidableEq α] (l : List α) (x : α) : List α := if x ∈ l then l else l ++ [x]
theorem put1_in {α : Type} [DecidableEq α] {l : List α} {x : α} (h : x ∈ l) : put1 l x = l := if_pos h
theorem put1_no {α : Type} [DecidableEq α] {l : List α} {x : α} (h : x ∉ l) : put1 l x = l ++ [x] := if_neg h
theorem put1_le {α : Type} [DecidableEq α] (l : List α) (x : α) : l.length ≤ (put1 l x).length ∧ (put1 l x).length ≤ l.length + 1 := by
 unfold put1
 split
 ·omega
 ·simp
theorem ix_map {α β : Type} [DecidableEq α] [DecidableEq β] (f : α → β) : ∀ (l : List α) (x : α), (∀ y ∈ l, f y = f x → y = x) → ix (l.map f) (f x) = ix l x
 | [], _, _ => rfl
 | y :: l, x, h => by
  rw [List.map_cons, ix_cons, ix_cons]
  by_cases e : y = x
  ·rw [if_pos e, if_pos (by rw [e])]
  ·have : f y ≠ f x := fun q => e (h y List.mem_cons_self q)
   rw [if_neg e, if_neg this, ix_map f l x fun z hz => h z (List.mem_cons_of_mem _ hz)]
def mapK : Nat → List ByteArray → List (ByteArray × Int)
 | _, [] => []
 | i, k :: ks => (k, (i : Int)) :: mapK (i + 1) ks
theorem mapK_idx (key : ByteArray) : ∀ (ks : List ByteArray) (i : Nat), idxM (mapK i ks) key = if hasB ks key = true then some (ix ks key, ((i + ix ks key : Nat) : Int)) else none
 | [], i => rfl
 | k :: ks, i => by
  rw [mapK, idxM, mapK_idx key ks (i + 1), ix_cons]
  by_cases e : k = key
  ·subst e
   rw [if_pos rfl, if_pos rfl, if_pos (by simp [hasB])]
   rfl
  ·rw [if_neg (fun q => e q.symm), if_neg e]
   have h1 : hasB (k :: ks) key = hasB ks key := by
    unfold hasB
    refine decide_eq_decide.2 ⟨fun q => ?_, List.mem_cons_of_mem _⟩
    rcases List.mem_cons.1 q with q | q
    ·exact absurd q.symm e
    ·exact q
   rw [h1]
   cases h : hasB ks key with
   | false => rfl
   | true =>
    simp only [if_true, Option.map_some]
    rw [show i + 1 + ix ks key = i + (ix ks key + 1) by omega]
theorem mapK_put (key : ByteArray) : ∀ (ks : List ByteArray) (i : Nat), key ∉ ks → putM (mapK i ks) key ((i + ks.length : Nat) : Int) = mapK i (ks ++ [key])
 | [], i, _ => by simp [mapK, putM]
 | k :: ks, i, h => by
  have e : key ≠ k := fun q => h (by rw [q]; exact List.mem_cons_self)
  rw [mapK, putM, if_neg e, List.cons_append, mapK, List.length_cons, show i + (ks.length + 1) = i + 1 + ks.length by omega, mapK_put key ks (i + 1) fun q => h (List.mem_cons_of_mem _ q)]
theorem find_mem {ks : List ByteArray} {key : ByteArray} (h : key ∈ ks) : findM (mapK 0 ks) key = (((ix ks key : Nat) : Int), true) := by
 unfold findM
 rw [mapK_idx, if_pos (hasB_t h), Nat.zero_add]
theorem find_no {ks : List ByteArray} {key : ByteArray} (h : key ∉ ks) : findM (mapK 0 ks) key = (0, false) := by
 unfold findM
 rw [mapK_idx, if_neg (by rw [hasB_f h]; simp)]
section
variable {σ : Type} [DecidableEq σ]
def rowA (step : σ → Nat → σ) (s : σ) : List Nat → List σ → List σ × List Int
 | [], l => (l, [])
 | a :: al, l => ((rowA step s al (put1 l (step s a))).1, ((ix l (step s a) : Nat) : Int) :: (rowA step s al (put1 l (step s a))).2)
theorem rowA_1 (step : σ → Nat → σ) (s : σ) (a : Nat) (al : List Nat) (l : List σ) : (rowA step s (a :: al) l).1 = (rowA step s al (put1 l (step s a))).1 := (rfl).trans rfl
theorem rowA_2 (step : σ → Nat → σ) (s : σ) (a : Nat) (al : List Nat) (l : List σ) : (rowA step s (a :: al) l).2 = ((ix l (step s a) : Nat) : Int) :: (rowA step s al (put1 l (step s a))).2 := (rfl).trans rfl
theorem rowA_le (step : σ → Nat → σ) (s : σ) : ∀ (al : List Nat) (l : List σ), l.length ≤ (rowA step s al l).1.length ∧ (rowA step s al l).1.length ≤ l.length + al.length
 | [], l => by simp [rowA]
 | a :: al, l => by
  have h1 := put1_le l (step s a)
  have h2 := rowA_le step s al (put1 l (step s a))
  simp only [rowA, List.length_cons]
  omega
theorem put1_pre (l : List σ) (x : σ) : ∃ t, put1 l x = l ++ t := by
 unfold put1
 split
 ·exact ⟨[], (List.append_nil _).symm⟩
 ·exact ⟨[x], rfl⟩
theorem rowA_pre (step : σ → Nat → σ) (s : σ) : ∀ (al : List Nat) (l : List σ), ∃ t, (rowA step s al l).1 = l ++ t
 | [], l => ⟨[], (List.append_nil _).symm⟩
 | a :: al, l => by
  obtain ⟨t1, e1⟩ := put1_pre l (step s a)
  obtain ⟨t2, e2⟩ := rowA_pre step s al (put1 l (step s a))
  refine ⟨t1 ++ t2, ?_⟩
  simp only [rowA]
  rw [e2, e1, List.append_assoc]
theorem rowA_row (step : σ → Nat → σ) (s : σ) : ∀ (al : List Nat) (l : List σ), (rowA step s al l).2.length = al.length
 | [], l => rfl
 | a :: al, l => by simp only [rowA, List.length_cons]; rw [rowA_row step s al]
variable (step : σ → Nat → σ) (hold : σ → List Bool) (d0 : σ)
def mkA (B : Int) (N : Nat) : Nat → Nat → List σ → List (List Int) → List Int → List (List Bool) → Option (List σ × List (List Int) × List Int × List (List Bool))
 | 0, _, _, _, _, _ => none
 | f + 1, i, l, nx, ou, se => if i < l.length then (if (l.length : Int) > B then none else
   mkA B N f (i + 1) (rowA step (l.getD i d0) (List.range N) l).1 (nx ++ [(rowA step (l.getD i d0) (List.range N) l).2]) (ou ++ [((ix se (hold (l.getD i d0)) : Nat) : Int)]) (put1 se (hold (l.getD i d0)))) else some (l, nx, ou, se)
end
abbrev BackT := ((List (List Int)) × ((List Int) × Unit))
theorem F54_ok (k : Nat) (l : List Int) (h : l.length ≤ 100000000) : F54 k l = some ((l, ()), ()) := by
 unfold F54
 cases l with
 | nil => rfl
 | cons x l =>
  rw [nz (by simp), cond_false, if_pos (by simp at h ⊢; omega)]
  rfl
theorem F56_ok (k : Nat) (l : List (List Int)) (h : l.length ≤ 100000000) : F56 k l = some ((l, ()), ()) := by
 unfold F56
 cases l with
 | nil => rfl
 | cons x l =>
  rw [nz (by simp), cond_false, if_pos (by simp at h ⊢; omega)]
  rfl
abbrev none4 : ((Int × Unit) × (BackT × Unit)) := (((4 : Int), ()), ((([] : (List (List Int))), (([] : (List Int)), ())), ()))
theorem put1_shp {ss : List SideT} {l : List Live} {x : Live} (h : ∀ y ∈ l, Shp ss y) (hx : Shp ss x) : ∀ y ∈ put1 l x, Shp ss y := by
 unfold put1
 split
 ·exact h
 ·exact all_append h hx
theorem getD_pre {α : Type} {l l' t : List α} {i : Nat} {d : α} (e : l' = l ++ t) (h : i < l.length) : List.getD l' i d = List.getD l i d := by
 rw [e, List.getD_eq_getElem?_getD, List.getD_eq_getElem?_getD, List.getElem?_append_left h]
theorem rowA_shp {ss : List SideT} {I : InT} {s : Live} (hs : Shp ss s) : ∀ (al : List Nat) (l : List Live), (∀ y ∈ l, Shp ss y) → ∀ y ∈ (rowA (stepL I ss) s al l).1, Shp ss y
 | [], l, h => h
 | a :: al, l, h => by
  simp only [rowA]
  exact rowA_shp hs al _ (put1_shp h (stepL_shp hs))
theorem mkA_len {σ : Type} [DecidableEq σ] {step : σ → Nat → σ} {hold : σ → List Bool} {d0 : σ} {B : Int} {N : Nat} : ∀ (f i : Nat) (l : List σ) (nx : List (List Int)) (ou : List Int) (se : List (List Bool)) {q : List σ × List (List Int) × List Int × List (List Bool)}, mkA step hold d0 B N f i l nx ou se = some q → q.2.1.length ≤ nx.length + f ∧ q.2.2.1.length ≤ ou.length + f ∧ q.2.2.2.length ≤ se.length + f
 | 0, i, l, nx, ou, se, q, h => by cases h
 | f + 1, i, l, nx, ou, se, q, h => by
  simp only [mkA] at h
  split at h
  ·split at h
   ·cases h
   ·have := mkA_len f _ _ _ _ _ h
    have h2 := put1_le se (hold (l.getD i d0))
    simp only [List.length_append, List.length_singleton] at this
    omega
  ·injection h with h
   subst h
   simp only
   omega
def zeroL (ss : List SideT) : Live := ss.map fun s => List.replicate s.1.length false
theorem zeroL_shp (ss : List SideT) : Shp ss (zeroL ss) := by simp [Shp, zeroL]
section
variable (k : Nat) (ss : List SideT) (I : InT) (N : Nat) (B : Int)
def outA : Option (List Live × List (List Int) × List Int × List (List Bool)) → (BackT × (List (List Bool)) × Int × Unit)
 | none => ((([] : (List (List Int))), (([] : (List Int)), ())), [], (4 : Int), ())
 | some q => ((q.2.1, (q.2.2.1, ())), q.2.2.2, (0 : Int), ())
end
theorem drop_eq_step {α : Type} {l m : List α} {i : Nat} (hi : i < l.length) (hm : i < m.length) (h : l[i] = m[i]) : l.drop i = m.drop i ↔ l.drop (i + 1) = m.drop (i + 1) := by
 rw [List.drop_eq_getElem_cons hi, List.drop_eq_getElem_cons hm, h]
 constructor
 ·intro e; injection e
 ·intro e; rw [e]
theorem F47_0_ok (k : Nat) (a b : List Bool) (hl : a.length = b.length) (hn : a.length ≤ 1000000000) : ∀ (d m i : Nat), i + d = a.length → d < m → F47_0 k m a b (i : Int) = if a.drop i = b.drop i then some (.inl ((), ())) else some (.inr ((false, ()), ()))
 | 0, m, i, hi, hm => by
  obtain ⟨m, rfl⟩ := pos1 (m := m) (by omega)
  rw [if_pos (by rw [List.drop_eq_nil_of_le (by omega), List.drop_eq_nil_of_le (by omega)])]
  simp only [F47_0]
  rw [decide_eq_false (by omega), cond_false]
 | d + 1, m, i, hi, hm => by
  obtain ⟨m, rfl⟩ := pos1 (m := m) (by omega)
  have hlt : i < a.length := by omega
  have hlt2 : i < b.length := by omega
  have ih := F47_0_ok k a b hl hn d m (i + 1) (by omega) (by omega)
  simp only [F47_0]
  rw [dlt hlt, cond_true, if_pos (inR hlt), if_pos (inR hlt2), tnI i, getD_lt _ _ _ hlt, getD_lt _ _ _ hlt2, wsucc i _ hlt (by omega)]
  by_cases h : a[i] = b[i]
  ·rw [show (!(a[i] == b[i])) = false by simpa using h, cond_false, ih]
   by_cases h2 : a.drop (i + 1) = b.drop (i + 1)
   ·rw [if_pos h2, if_pos ((drop_eq_step hlt hlt2 h).2 h2)]
    rfl
   ·rw [if_neg h2, if_neg fun e => h2 ((drop_eq_step hlt hlt2 h).1 e)]
    rfl
  ·rw [show (!(a[i] == b[i])) = true by simpa using h, cond_true, if_neg fun e => h ?_]
   rw [List.drop_eq_getElem_cons hlt, List.drop_eq_getElem_cons hlt2] at e
   injection e
theorem F47_ok (k : Nat) (a b : List Bool) (hk : 10000000 ≤ k) (hn : a.length ≤ 5000000) : F47 k a b = some ((decide (a = b), ()), ()) := by
 unfold F47
 by_cases hl : a.length = b.length
 ·have e := F47_0_ok k a b hl (by omega) a.length k 0 (Nat.zero_add _) (by omega)
  rw [show ((0 : Nat) : Int) = 0 from rfl, List.drop_zero, List.drop_zero] at e
  rw [show ((((List.length a : Nat) : Int) != ((List.length b : Nat) : Int))) = false by rw [hl]; simp, cond_false, e]
  by_cases h : a = b
  ·rw [if_pos h, decide_eq_true h]; rfl
  ·rw [if_neg h, decide_eq_false h]; rfl
 ·rw [show ((((List.length a : Nat) : Int) != ((List.length b : Nat) : Int))) = true from bne_iff_ne.2 (by omega), cond_true, decide_eq_false fun e => hl (by rw [e])]
theorem F45_0_ok (k : Nat) (a b : Live) (hk : 10000000 ≤ k) (hl : a.length = b.length) (hn : a.length ≤ 1000000) (hr : ∀ r ∈ a, r.length ≤ 5000000) : ∀ (d m i : Nat), i + d = a.length → d < m → F45_0 k m a b (i : Int) = if a.drop i = b.drop i then some (.inl ((), ())) else some (.inr ((false, ()), ()))
 | 0, m, i, hi, hm => by
  obtain ⟨m, rfl⟩ := pos1 (m := m) (by omega)
  rw [if_pos (by rw [List.drop_eq_nil_of_le (by omega), List.drop_eq_nil_of_le (by omega)])]
  simp only [F45_0]
  rw [decide_eq_false (by omega), cond_false]
 | d + 1, m, i, hi, hm => by
  obtain ⟨m, rfl⟩ := pos1 (m := m) (by omega)
  have hlt : i < a.length := by omega
  have hlt2 : i < b.length := by omega
  have ih := F45_0_ok k a b hk hl hn hr d m (i + 1) (by omega) (by omega)
  simp only [F45_0]
  rw [dlt hlt, cond_true, if_pos (inR hlt), if_pos (inR hlt2), tnI i, getD_lt _ _ _ hlt, getD_lt _ _ _ hlt2, F47_ok k _ _ hk (hr _ (List.getElem_mem hlt)), Option.bind_some, wsucc i _ hlt (by omega)]
  simp only
  by_cases h : a[i] = b[i]
  ·rw [decide_eq_true h, Bool.not_true, cond_false, ih]
   by_cases h2 : a.drop (i + 1) = b.drop (i + 1)
   ·rw [if_pos h2, if_pos ((drop_eq_step hlt hlt2 h).2 h2)]
    rfl
   ·rw [if_neg h2, if_neg fun e => h2 ((drop_eq_step hlt hlt2 h).1 e)]
    rfl
  ·rw [decide_eq_false h, Bool.not_false, cond_true, if_neg fun e => h ?_]
   rw [List.drop_eq_getElem_cons hlt, List.drop_eq_getElem_cons hlt2] at e
   injection e
theorem shp_row {ss : List SideT} {L : Live} (h : Shp ss L) (hs : ∀ s ∈ ss, s.1.length ≤ 100000) : ∀ r ∈ L, r.length ≤ 5000000 := fun r hr => by
 have : r.length ∈ L.map List.length := List.mem_map.2 ⟨r, hr, rfl⟩
 rw [h] at this
 obtain ⟨s, hs', e⟩ := List.mem_map.1 this
 have := hs s hs'
 omega
theorem shp_len {ss : List SideT} {L : Live} (h : Shp ss L) : L.length = ss.length := by have := congrArg List.length h; simpa using this
theorem F45_ok (k : Nat) (ss : List SideT) (a b : Live) (hk : 10000000 ≤ k) (hs : ∀ s ∈ ss, SOK s) (hn : ss.length ≤ 1000000) (ha : Shp ss a) (hb : Shp ss b) : F45 k a b = some ((decide (a = b), ()), ()) := by
 have la := shp_len ha
 have lb := shp_len hb
 have e := F45_0_ok k a b hk (by omega) (by omega) (shp_row ha fun s h => (hs s h).ln) a.length k 0 (Nat.zero_add _) (by omega)
 rw [show ((0 : Nat) : Int) = 0 from rfl, List.drop_zero, List.drop_zero] at e
 unfold F45
 rw [e]
 by_cases h : a = b
 ·rw [if_pos h, decide_eq_true h]; rfl
 ·rw [if_neg h, decide_eq_false h]; rfl
theorem ix_first {α : Type} [DecidableEq α] {l : List α} {x : α} {i : Nat} (hi : i < l.length) (h : l[i] = x) (hn : x ∉ l.take i) : ix l x = i := by
 have e : l = l.take i ++ (x :: l.drop (i + 1)) := by rw [← h, ← List.drop_eq_getElem_cons hi, List.take_append_drop]
 unfold ix
 rw [e, List.idxOf_append, if_neg hn, List.idxOf_cons]
 simp
 omega
theorem take_notin {α : Type} {l : List α} {x : α} {i : Nat} (hi : i < l.length) (h : l[i] ≠ x) (hn : x ∉ l.take i) : x ∉ l.take (i + 1) := by
 rw [List.take_succ_eq_append_getElem hi]
 intro hm
 rcases List.mem_append.1 hm with q | q
 ·exact hn q
 ·exact h (List.mem_singleton.1 q).symm
section
variable (k : Nat) (ss : List SideT) (I : InT) (N : Nat) (t2 t3 : Int)
theorem F17_1_ok (hk : 10000000 ≤ k) (hs : ∀ s ∈ ss, SOK s) (hn : ss.length ≤ 1000000) (t16 t18 t53 : Int) (t54 : Bool) (c8 c14 : BackT) (x : Live) (hx : Shp ss x) (l : List Live) (hl : ∀ y ∈ l, Shp ss y) (hll : l.length ≤ 6000000) (se : List (List Bool)) (r : List Int) : ∀ (d m i : Nat), i + d = l.length → d < m → x ∉ l.take i →
  F17_1 k m ss I t2 t3 t16 t18 (i : Int) t53 t54 c8 c14 x l se r = some ((ss, I, t2, t3, t16, t18, ((ix l x : Nat) : Int), t53, t54, ()), (c8, c14, x, l, se, r, ()))
 | 0, m, i, hi, hm, hnot => by
  obtain ⟨m, rfl⟩ := pos1 (m := m) (by omega)
  rw [List.take_of_length_le (by omega)] at hnot
  have := ix_no hnot
  have hil : i = l.length := by omega
  simp only [F17_1]
  rw [decide_eq_false (by omega), cond_false, this, hil]
 | d + 1, m, i, hi, hm, hnot => by
  obtain ⟨m, rfl⟩ := pos1 (m := m) (by omega)
  have hlt : i < l.length := by omega
  simp only [F17_1]
  rw [dlt hlt, cond_true, if_pos (inR hlt), tnI i, getD_lt _ _ _ hlt, F45_ok k ss _ _ hk hs hn (hl _ (List.getElem_mem hlt)) hx, Option.bind_some]
  simp only
  by_cases h : l[i] = x
  ·rw [decide_eq_true h, Bool.not_true, cond_false, ix_first hlt h hnot]
  ·rw [decide_eq_false h, Bool.not_false, cond_true, wsucc i _ hlt (by omega), F17_1_ok hk hs hn t16 t18 t53 t54 c8 c14 x hx l hl hll se r d m (i + 1) (by omega) (by omega) (take_notin hlt h hnot)]
   rfl
theorem F17_3_ok (hk : 10000000 ≤ k) (t16 t53 : Int) (t54 : Bool) (c8 c14 : BackT) (x : List Bool) (l : List Live) (se : List (List Bool)) (hse : ∀ y ∈ se, y.length ≤ 5000000) (hll : se.length ≤ 6000000) (r : List Int) : ∀ (d m i : Nat), i + d = se.length → d < m → x ∉ se.take i →
  F17_3 k m ss I t2 t3 t16 (i : Int) t53 t54 c8 c14 x l se r = some ((ss, I, t2, t3, t16, ((ix se x : Nat) : Int), t53, t54, ()), (c8, c14, x, l, se, r, ()))
 | 0, m, i, hi, hm, hnot => by
  obtain ⟨m, rfl⟩ := pos1 (m := m) (by omega)
  rw [List.take_of_length_le (by omega)] at hnot
  have := ix_no hnot
  have hil : i = se.length := by omega
  simp only [F17_3]
  rw [decide_eq_false (by omega), cond_false, this, hil]
 | d + 1, m, i, hi, hm, hnot => by
  obtain ⟨m, rfl⟩ := pos1 (m := m) (by omega)
  have hlt : i < se.length := by omega
  simp only [F17_3]
  rw [dlt hlt, cond_true, if_pos (inR hlt), tnI i, getD_lt _ _ _ hlt, F47_ok k _ _ hk (hse _ (List.getElem_mem hlt)), Option.bind_some]
  simp only
  by_cases h : se[i] = x
  ·rw [decide_eq_true h, Bool.not_true, cond_false, ix_first hlt h hnot]
  ·rw [decide_eq_false h, Bool.not_false, cond_true, wsucc i _ hlt (by omega), F17_3_ok hk t16 t53 t54 c8 c14 x l se hse hll r d m (i + 1) (by omega) (by omega) (take_notin hlt h hnot)]
   rfl
theorem F17_2_ok (hk : 10000000 ≤ k) (hs : ∀ s ∈ ss, SOK s) (hI : ∀ s ∈ ss, InOK I N s) (hn : ss.length ≤ 1000000) (hN : N ≤ 5000000) (ht2 : t2 ≤ (N : Int)) (ht2' : (N : Int) ≤ t2 ∨ N = 0) (j : Nat) (s : Live) (t53 : Int) (t54 : Bool) (c8 c14 : BackT) (se : List (List Bool)) : ∀ (d m i : Nat) (l : List Live) (r : List Int), i + d = N → d < m → (∀ y ∈ l, Shp ss y) → j < l.length → List.getD l j [] = s → l.length ≤ 100000 + i → r.length = i →
  F17_2 k m ss I t2 t3 (j : Int) (i : Int) t53 t54 c8 c14 l se r = some ((ss, I, t2, t3, (j : Int), t53, t54, ()), (c8, c14, (rowA (stepL I ss) s (List.range' i d) l).1, se, r ++ (rowA (stepL I ss) s (List.range' i d) l).2, ()))
 | 0, m, i, l, r, hi, hm, hl, hj, hsj, hll, hr => by
  obtain ⟨m, rfl⟩ := pos1 (m := m) (by omega)
  simp only [List.range'_zero, rowA, F17_2]
  rw [decide_eq_false (by omega), cond_false, List.append_nil]
 | d + 1, m, i, l, r, hi, hm, hl, hj, hsj, hll, hr => by
  obtain ⟨m, rfl⟩ := pos1 (m := m) (by omega)
  have hlt : i < N := by omega
  have hsS : Shp ss s := by
   rw [← hsj, getD_lt _ _ _ hj]
   exact hl _ (List.getElem_mem hj)
  have hxS : Shp ss (stepL I ss s i) := stepL_shp hsS
  have hle := put1_le l (stepL I ss s i)
  obtain ⟨tl, htl⟩ := put1_pre l (stepL I ss s i)
  have e1 := F17_1_ok k ss I t2 t3 hk hs hn (j : Int) (i : Int) t53 t54 c8 c14 (stepL I ss s i) hxS l hl (by omega) se r l.length k 0 (Nat.zero_add _) (by omega) (by simp)
  rw [show ((0 : Nat) : Int) = 0 from rfl] at e1
  have ih := F17_2_ok hk hs hI hn hN ht2 ht2' j s t53 t54 c8 c14 se d m (i + 1) (put1 l (stepL I ss s i)) (r ++ [((ix l (stepL I ss s i) : Nat) : Int)]) (by omega) (by omega) (put1_shp hl hxS) (by omega) (by rw [getD_pre htl hj]; exact hsj) (by omega) (by simp [hr])
  have hap2 : (List.length l + List.length [stepL I ss s i]) * (24 * 2) ≤ 281474976710656 ∧ List.length l + List.length [stepL I ss s i] ≤ 9223372036854775807 := by rw [List.length_singleton]; omega
  have hap : (List.length r + List.length [((ix l (stepL I ss s i) : Nat) : Int)]) * (8 * 2) ≤ 281474976710656 ∧ List.length r + List.length [((ix l (stepL I ss s i) : Nat) : Int)] ≤ 9223372036854775807 := by rw [List.length_singleton]; omega
  rw [List.range'_succ, rowA_1, rowA_2]
  simp only [F17_2]
  rw [decide_eq_true (show (i : Int) < t2 by omega), cond_true, if_pos (inR hj), tnI j, hsj, F44_ok k I N ss i s hk hs hI hlt hsS hn, Option.bind_some]
  simp only
  rw [e1, Option.bind_some]
  simp only
  rw [show List.set (List.replicate 1 (0 : Int)) 0 ((ix l (stepL I ss s i) : Nat) : Int) = [((ix l (stepL I ss s i) : Nat) : Int)] from rfl, wsucc i _ hlt (by omega)]
  by_cases hx : stepL I ss s i ∈ l
  ·have h1 := ix_lt hx
   rw [put1_in hx] at ih ⊢
   rw [show ((((ix l (stepL I ss s i) : Nat) : Int) == ((List.length l : Nat) : Int))) = false from beq_false_of_ne (by omega), cond_false, if_pos hap, ih, List.append_assoc]
   rfl
  ·have h1 := ix_no hx
   rw [put1_no hx] at ih ⊢
   rw [show ((((ix l (stepL I ss s i) : Nat) : Int) == ((List.length l : Nat) : Int))) = true from by rw [h1]; simp, cond_true, if_pos hap2, if_pos hap, ih, List.append_assoc]
   rfl
theorem F17_4_ok (hk : 10000000 ≤ k) (hs : ∀ s ∈ ss, SOK s) (hI : ∀ s ∈ ss, InOK I N s) (hn : ss.length ≤ 1000000) (hN : N ≤ 5000000) (ht2 : t2 ≤ (N : Int)) (ht2' : (N : Int) ≤ t2 ∨ N = 0) (c8 : BackT) (B : Int) (hB : B = minI t3 100000) : ∀ (f m i : Nat) (l : List Live) (nx : List (List Int)) (ou : List Int) (se : List (List Bool)), B.toNat + 2 ≤ i + f → B.toNat + 2 ≤ i + m → i ≤ B.toNat → i ≤ l.length → (∀ y ∈ l, Shp ss y) → nx.length = i → ou.length = i → se.length ≤ i → (∀ y ∈ se, y.length ≤ 5000000) →
  F17_4 k m ss I t2 t3 (i : Int) c8 (nx, (ou, ())) l se = match mkA (stepL I ss) (holdL ss) [] B N f i l nx ou se with
   | none => some (.inr none4)
   | some q => some (.inl ((), (c8, (q.2.1, (q.2.2.1, ())), q.2.2.2, ())))
 | 0, m, i, l, nx, ou, se, hf, hm, hi, hil, hl, hnx, hou, hse, hsel => by omega
 | f + 1, m, i, l, nx, ou, se, hf, hm, hi, hil, hl, hnx, hou, hse, hsel => by
  obtain ⟨m, rfl⟩ := pos1 (m := m) (by omega)
  have hB2 : B ≤ 100000 ∧ B ≤ t3 ∧ (B = t3 ∨ B = 100000) := by rw [hB]; unfold minI; split <;> omega
  simp only [F17_4, mkA]
  by_cases hlt : i < l.length
  ·rw [if_pos hlt, dlt hlt, cond_true]
   by_cases h1 : ((l.length : Nat) : Int) > t3
   ·rw [decide_eq_true h1, cond_true, if_pos (by omega)]
   ·rw [decide_eq_false h1, cond_false]
    by_cases h2 : ((l.length : Nat) : Int) > 100000
    ·rw [decide_eq_true h2, cond_true, if_pos (by omega)]
    ·rw [decide_eq_false h2, cond_false, if_neg (by omega)]
     have hsi : Shp ss (l.getD i []) := by rw [getD_lt _ _ _ hlt]; exact hl _ (List.getElem_mem hlt)
     have e1 := F17_2_ok k ss I N t2 t3 hk hs hI hn hN ht2 ht2' i (l.getD i []) ((l.length : Nat) : Int) false c8 (nx, (ou, ())) se N k 0 l [] (Nat.zero_add _) (by omega) hl hlt rfl (by omega) rfl
     rw [← List.range_eq_range', List.nil_append, show ((0 : Nat) : Int) = 0 from rfl] at e1
     have hstp := fun y hy => rowA_shp (ss := ss) (I := I) (s := l.getD i []) hsi (List.range N) l hl y hy
     obtain ⟨tl, htl⟩ := rowA_pre (stepL I ss) (l.getD i []) (List.range N) l
     have hle := rowA_le (stepL I ss) (l.getD i []) (List.range N) l
     have hrw := rowA_row (stepL I ss) (l.getD i []) (List.range N) l
     rw [List.length_range] at hrw hle
     generalize hq : rowA (stepL I ss) (l.getD i []) (List.range N) l = q at *
     obtain ⟨l', r'⟩ := q
     simp only at *
     rw [e1, Option.bind_some]
     simp only
     have hlt' : i < l'.length := by omega
     have hg : List.getD l' i [] = l.getD i [] := getD_pre htl hlt
     have hh := holdL_len hsi
     have e3 := F17_3_ok k ss I t2 t3 hk (i : Int) ((l.length : Nat) : Int) false c8 (nx, (ou, ())) (holdL ss (l.getD i [])) l' se hsel (by omega) r' se.length k 0 (Nat.zero_add _) (by omega) (by simp)
     rw [show ((0 : Nat) : Int) = 0 from rfl] at e3
     rw [if_pos (inR hlt'), tnI i, hg, F46_ok k ss _ hk hs hsi hn, Option.bind_some]
     simp only
     rw [e3, Option.bind_some]
     simp only
     have hput := put1_le se (holdL ss (l.getD i []))
     have hiw : IntKind.wrap .i64 ((i : Int) + 1) = ((i + 1 : Nat) : Int) := wsucc i l.length hlt (by omega)
     have ha1 : (List.length nx + List.length [r']) * (24 * 2) ≤ 281474976710656 ∧ List.length nx + List.length [r'] ≤ 9223372036854775807 := by rw [List.length_singleton]; omega
     have ha2 : (List.length ou + List.length [((ix se (holdL ss (l.getD i [])) : Nat) : Int)]) * (8 * 2) ≤ 281474976710656 ∧ List.length ou + List.length [((ix se (holdL ss (l.getD i [])) : Nat) : Int)] ≤ 9223372036854775807 := by rw [List.length_singleton]; omega
     have ha3 : (List.length se + List.length [holdL ss (l.getD i [])]) * (24 * 2) ≤ 281474976710656 ∧ List.length se + List.length [holdL ss (l.getD i [])] ≤ 9223372036854775807 := by rw [List.length_singleton]; omega
     rw [show List.set (List.replicate 1 (0 : Int)) 0 ((ix se (holdL ss (l.getD i [])) : Nat) : Int) = [((ix se (holdL ss (l.getD i [])) : Nat) : Int)] from rfl, hiw]
     have hsel' : ∀ y ∈ put1 se (holdL ss (l.getD i [])), y.length ≤ 5000000 := by
      unfold put1
      split
      ·exact hsel
      ·exact all_append hsel (by omega)
     -- both ways to go on
     have next : ∀ (se' : List (List Bool)), put1 se (holdL ss (l.getD i [])) = se' → (F17_4 k m ss I t2 t3 ((i + 1 : Nat) : Int) c8 (nx ++ [r'], (ou ++ [((ix se (holdL ss (l.getD i [])) : Nat) : Int)], ())) l' se').bind some = match mkA (stepL I ss) (holdL ss) [] B N f (i + 1) l' (nx ++ [r']) (ou ++ [((ix se (holdL ss (l.getD i [])) : Nat) : Int)]) se' with
       | none => some (.inr none4)
       | some q => some (.inl ((), (c8, (q.2.1, (q.2.2.1, ())), q.2.2.2, ()))) := by
      intro se' hse'
      subst hse'
      rw [F17_4_ok hk hs hI hn hN ht2 ht2' c8 B hB f m (i + 1) l' (nx ++ [r']) (ou ++ [((ix se (holdL ss (l.getD i [])) : Nat) : Int)]) (put1 se (holdL ss (l.getD i []))) (by omega) (by omega) (by omega) (by omega) hstp (by simp [hnx]) (by simp [hou]) (by omega) hsel']
      cases mkA (stepL I ss) (holdL ss) [] B N f (i + 1) l' (nx ++ [r']) (ou ++ [((ix se (holdL ss (l.getD i [])) : Nat) : Int)]) (put1 se (holdL ss (l.getD i []))) <;> rfl
     by_cases hx : holdL ss (l.getD i []) ∈ se
     ·have h1 := ix_lt hx
      rw [show ((((ix se (holdL ss (l.getD i [])) : Nat) : Int) == ((List.length se : Nat) : Int))) = false from beq_false_of_ne (by omega), cond_false, if_pos ha1, if_pos ha2]
      have := next se (put1_in hx)
      rw [put1_in hx]
      exact this
     ·have h1 := ix_no hx
      rw [show ((((ix se (holdL ss (l.getD i [])) : Nat) : Int) == ((List.length se : Nat) : Int))) = true from by rw [h1]; simp, cond_true, if_pos ha3, if_pos ha1, if_pos ha2]
      have := next (se ++ [holdL ss (l.getD i [])]) (put1_no hx)
      rw [put1_no hx]
      exact this
  ·rw [if_neg hlt, decide_eq_false (by omega), cond_false]
end
theorem F17_0_ok (k : Nat) (ss : List SideT) (I : InT) (t2 t3 : Int) (c : BackT) (hs : ∀ s ∈ ss, SOK s) (hn : ss.length ≤ 1000000) : ∀ (d m i : Nat), i + d = ss.length → d < m →
  F17_0 k m ss I t2 t3 (i : Int) c (zeroL (ss.take i)) = some ((ss, I, t2, t3, ()), (c, zeroL ss, ()))
 | 0, m, i, hi, hm => by
  obtain ⟨m, rfl⟩ := pos1 (m := m) (by omega)
  simp only [F17_0]
  rw [decide_eq_false (by omega), cond_false, List.take_of_length_le (by omega)]
 | d + 1, m, i, hi, hm => by
  obtain ⟨m, rfl⟩ := pos1 (m := m) (by omega)
  have hlt : i < ss.length := by omega
  have hln := (hs _ (List.getElem_mem hlt)).ln
  have hz : zeroL (ss.take (i + 1)) = zeroL (ss.take i) ++ [List.replicate ss[i].1.length false] := by
   rw [List.take_succ_eq_append_getElem hlt]
   unfold zeroL
   rw [List.map_append]
   rfl
  have hzl : (zeroL (ss.take i)).length = i := by simp [zeroL]; omega
  have k1 : (0 ≤ ((List.length ss[i].1 : Nat) : Int) ∧ ((List.length ss[i].1 : Nat) : Int) < ((List.length ss[i].1 : Nat) : Int) + 1) ∧ ((List.length ss[i].1 : Nat) : Int) ≤ 9223372036854775807 ∧ ((1 : Nat) : Int) * ((List.length ss[i].1 : Nat) : Int) ≤ 281474976710656 := by omega
  have k2 : (List.length (zeroL (ss.take i)) + List.length [List.replicate ss[i].1.length false]) * (24 * 2) ≤ 281474976710656 ∧ List.length (zeroL (ss.take i)) + List.length [List.replicate ss[i].1.length false] ≤ 9223372036854775807 := by rw [List.length_singleton, hzl]; omega
  simp only [F17_0]
  rw [dlt hlt, cond_true, if_pos (inR hlt), tnI i, getD_lt _ _ _ hlt, if_pos k1, show Int.toNat ((List.length ss[i].1 : Nat) : Int) = ss[i].1.length from rfl, if_pos k2, ← hz, wsucc i _ hlt (by omega), F17_0_ok k ss I t2 t3 c hs hn d m (i + 1) (by omega) (by omega)]
  rfl
theorem F17_ok (k : Nat) (ss : List SideT) (I : InT) (N : Nat) (hk : 10000000 ≤ k) (hs : ∀ s ∈ ss, SOK s) (hI : ∀ s ∈ ss, InOK I N s) (hn : ss.length ≤ 1000000) (hN : N ≤ 5000000) (t2 : Int) (ht2 : maxI t2 0 = (N : Int)) (b : Int) :
  F17 k ss I t2 b = some (outA (mkA (stepL I ss) (holdL ss) [] (minI b 100000) N ((minI b 100000).toNat + 2) 0 [zeroL ss] [] [] []), ()) := by
 have hB : minI b 100000 ≤ 100000 := by unfold minI; split <;> omega
 have h2 : t2 ≤ (N : Int) ∧ ((N : Int) ≤ t2 ∨ N = 0) := by unfold maxI at ht2; split at ht2 <;> omega
 have e0 := F17_0_ok k ss I t2 b (([] : (List (List Int))), (([] : (List Int)), ())) hs hn ss.length k 0 (Nat.zero_add _) (by omega)
 rw [show ((0 : Nat) : Int) = 0 from rfl, List.take_zero, show zeroL [] = [] from rfl] at e0
 have e2 := F17_4_ok k ss I N t2 b hk hs hI hn hN h2.1 h2.2 (([] : (List (List Int))), (([] : (List Int)), ())) (minI b 100000) rfl ((minI b 100000).toNat + 2) k 0 [zeroL ss] [] [] [] (by omega) (by omega) (by omega) (Nat.zero_le _) (fun y hy => by rw [List.mem_singleton.1 hy]; exact zeroL_shp ss) rfl rfl (Nat.le_refl _) (fun y hy => by cases hy)
 rw [show ((0 : Nat) : Int) = 0 from rfl] at e2
 unfold F17
 rw [e0, Option.bind_some]
 simp only
 rw [e2]
 cases mkA (stepL I ss) (holdL ss) [] (minI b 100000) N ((minI b 100000).toNat + 2) 0 [zeroL ss] [] [] [] with
 | none => rfl
 | some q => rfl
abbrev WorT := (FileT × ((List Int) × ((List Int) × ((List (List Bool)) × ((List SideT) × ((List SideT) × (Int × Unit)))))))
theorem F38_1_ne (k : Nat) (t0 : List RgT) (p : List Int) (hk : 10000000 ≤ k) (hn : t0.length ≤ 40) (hs : RgL t0) (hp : p.length ≤ 2000000) : ∀ (d m i : Nat) (t8 : Int) (b c s : List Int), i + d = p.length → d < m → b.length = c.length → c.length ≤ i → s.length ≤ i → LetP s.length c →
  ∃ b' c', F38_1 k m t0 t8 (i : Int) p b c s = some ((), (b', (c', ()))) ∧ c.length ≤ c'.length ∧ (t8 < 0 → 0 < d → 0 < c'.length)
 | 0, m, i, t8, b, c, s, hi, hm, hb, hc, hl, hL => by
  obtain ⟨m, rfl⟩ := pos1 (m := m) (by omega)
  refine ⟨b, c, ?_, Nat.le_refl _, fun _ h => by omega⟩
  simp only [F38_1]
  rw [decide_eq_false (by omega), cond_false]
 | d + 1, m, i, t8, b, c, s, hi, hm, hb, hc, hl, hL => by
  obtain ⟨m, rfl⟩ := pos1 (m := m) (by omega)
  have hlt : i < p.length := by omega
  simp only [F38_1]
  rw [dlt hlt, cond_true, if_pos (inR hlt), tnI i, F71_ok k t0 _ hk hn hs, Option.bind_some]
  simp only
  have hv0 := keyF_range (List.getD p i 0) t0 0 (Int.le_refl _)
  generalize keyF (List.getD p i 0) t0 0 = v at hv0 ⊢
  rw [wsucc i _ hlt (by omega)]
  cases hv : (v == t8) with
  | true =>
   have : v = t8 := by simpa using hv
   obtain ⟨b', c', e, h⟩ := F38_1_ne k t0 p hk hn hs hp d m (i + 1) t8 b c s (by omega) (by omega) hb (by omega) (by omega) hL
   exact ⟨b', c', by rw [cond_true, e]; rfl, h.1, fun h0 => by omega⟩
  | false =>
   obtain ⟨j, e, hj⟩ := F38_0_ok k t0 v (i : Int) v p b c s (by omega) s.length k 0 (Nat.zero_add _) (by omega)
   rw [show ((0 : Nat) : Int) = 0 from rfl] at e
   rw [cond_false, e, Option.bind_some]
   simp only [one_list]
   have k1 : (s.length + [v].length) * (8 * 2) ≤ 281474976710656 ∧ s.length + [v].length ≤ 9223372036854775807 := by rw [List.length_singleton]; omega
   have k2 : (b.length + [List.getD p i 0].length) * (8 * 2) ≤ 281474976710656 ∧ b.length + [List.getD p i 0].length ≤ 9223372036854775807 := by rw [List.length_singleton]; omega
   have k3 : (c.length + [(j : Int)].length) * (8 * 2) ≤ 281474976710656 ∧ c.length + [(j : Int)].length ≤ 9223372036854775807 := by rw [List.length_singleton]; omega
   have hb2 : (b ++ [List.getD p i 0]).length = (c ++ [(j : Int)]).length := by simp [hb]
   have hc2 : (c ++ [(j : Int)]).length ≤ i + 1 := by simp; omega
   have hc3 : (c ++ [(j : Int)]).length = c.length + 1 := by simp
   rw [wsucc i _ hlt (by omega), tnI i]
   by_cases he : j = s.length
   ·subst he
    have hs2 : (s ++ [v]).length = s.length + 1 := by simp
    obtain ⟨b', c', e, h⟩ := F38_1_ne k t0 p hk hn hs hp d m (i + 1) v (b ++ [List.getD p i 0]) (c ++ [((s.length : Nat) : Int)]) (s ++ [v]) (by omega) (by omega) hb2 hc2 (by omega) (by
     rw [hs2]; exact hL.add (by omega) (by omega))
    refine ⟨b', c', ?_, by omega, fun _ _ => by omega⟩
    rw [show (((s.length : Nat) : Int) == ((s.length : Nat) : Int)) = true by simp, cond_true, if_pos k1, if_pos (inR hlt), if_pos k2, if_pos k3, e]
    rfl
   ·obtain ⟨b', c', e, h⟩ := F38_1_ne k t0 p hk hn hs hp d m (i + 1) v (b ++ [List.getD p i 0]) (c ++ [(j : Int)]) s (by omega) (by omega) hb2 hc2 (by omega) (hL.add (by omega) (by omega))
    refine ⟨b', c', ?_, by omega, fun _ _ => by omega⟩
    rw [beq_false_of_ne (show ¬ (j : Int) = ((s.length : Nat) : Int) by omega), cond_false, if_pos (inR hlt), if_pos k2, if_pos k3, e]
    rfl
theorem F38_ne (k : Nat) (t0 : List RgT) (hk : 10000000 ≤ k) (hn : t0.length ≤ 40) (hs : RgL t0) : ∃ b c, F38 k t0 = some ((b, (c, ())), ()) ∧ b.length = c.length ∧ c.length ≤ 2000000 ∧ LetP 2000000 c ∧ c ≠ [] := by
 obtain ⟨b0, c0, e0, h1, h2, h3⟩ := F38_ok k t0 hk hn hs
 refine ⟨b0, c0, e0, h1, h2, h3, fun hc => ?_⟩
 obtain ⟨p, e, hp, h0⟩ := F70_ok k t0 hk (by omega) hs
 have hl := risL_len hp
 have hpos : 0 < p.length := List.length_pos_of_mem h0
 obtain ⟨b, c, e2, _, h⟩ := F38_1_ne k t0 p hk hn hs (by omega) p.length k 0 (-1) [] [] [] (Nat.zero_add _) (by omega) rfl (Nat.le_refl _) (Nat.le_refl _) (fun x hx => by cases hx)
 rw [show ((0 : Nat) : Int) = 0 from rfl] at e2
 have e3 : F38 k t0 = some ((b, (c, ())), ()) := by
  unfold F38
  rw [e, Option.bind_some]
  simp only
  rw [e2, Option.bind_some]
 rw [e0] at e3
 simp only [Option.some.injEq, Prod.mk.injEq] at e3
 have := h (by decide) hpos
 rw [← e3.1.2.1, hc] at this
 simp at this
theorem F39_N (k : Nat) (t0 : List RgT) (p q : List Int) (hk : 10000000 ≤ k) (hn : t0.length ≤ 1000) (hs : RgL t0) (hpq : p.length = q.length) (hp : p.length ≤ 2000000) (hL : LetP 2000000 q) : ∃ (M : List (List Bool)) (N : Nat), F39 k t0 p q = some ((M, ()), ()) ∧ F40 k q = some (((N : Int), ()), ()) ∧ N ≤ 2000000 ∧ M.length = t0.length ∧ (∀ r ∈ M, r.length = N) ∧ ∀ x ∈ q, 0 ≤ x ∧ x < (N : Int) := by
 obtain ⟨c, e, h0, h1, h2⟩ := F40_ok k q hk (by omega) hL
 obtain ⟨M, e2, h3, h4⟩ := F39_1_ok k t0 p q c hk hn hs hpq hp e h0 h1 (fun x hx => ⟨(hL x hx).1, h2 x hx⟩) t0.length k 0 [] (Nat.zero_add _) (by omega) rfl (fun r hr => by cases hr)
 refine ⟨M, c.toNat, ?_, by rw [show ((c.toNat : Nat) : Int) = c by omega]; exact e, by omega, h3, fun r hr => h4 r hr, fun x hx => by have := h2 x hx; have := (hL x hx).1; omega⟩
 rw [show ((0 : Nat) : Int) = 0 from rfl] at e2
 unfold F39
 rw [e2, Option.bind_some]
abbrev RulT := (Int × (Int × (RexT × (RexT × Unit))))
def RulP (r : RulT) : Prop := (RexP true 5 r.2.2.1 ∧ RexP false 5 r.2.2.2.1) ∧ (0 ≤ r.1 ∧ r.1 < 3) ∧ 0 ≤ r.2.1 ∧ r.2.1 < 20
theorem w64n (a : Nat) (h : a ≤ 9223372036854775807) : IntKind.wrap .i64 (a : Int) = (a : Int) := w64 _ (by omega) (by omega)
theorem tmR {a n : Int} (h : 0 ≤ a) (hn : 0 < n) : 0 ≤ Int.tmod a n ∧ Int.tmod a n < n := ⟨Int.tmod_nonneg _ h, Int.tmod_lt_of_pos _ hn⟩
theorem tdR {a : Int} (h : 0 ≤ a) (h2 : a < 1073741824) : 0 ≤ Int.tmod (IntKind.wrap .i64 (Int.tdiv a 3)) 20 ∧ Int.tmod (IntKind.wrap .i64 (Int.tdiv a 3)) 20 < 20 := by
 have e : Int.tdiv a 3 = a / 3 := Int.tdiv_eq_ediv_of_nonneg h
 rw [e, w64 _ (by omega) (by omega)]
 exact tmR (by omega) (by decide)
theorem F36_0_ok (k : Nat) (l : List RawT) (ns : List Int) (c6 : FileT) (ds : List DefT) (hk : 20000000 ≤ k) (hl : ∀ r ∈ l, RawH 5 r) (hn : ns.length ≤ 100000000000000) : ∀ (d m j : Nat) (rs : List RulT), j + d = 4 → d < m → rs.length = j → (∀ r ∈ rs, RulP r) → ∃ rs', F36_0 k m l ns ((2 * j : Nat) : Int) c6 (ds, (rs, ())) = some ((), (c6, (ds, (rs', ())), ())) ∧ rs'.length ≤ 4 ∧ ∀ r ∈ rs', RulP r
 | 0, m, j, rs, hj, hm, hr, hp => by
  obtain ⟨m, rfl⟩ := pos1 (m := m) (by omega)
  refine ⟨rs, ?_, by omega, hp⟩
  simp only [F36_0]
  rw [decide_eq_false (show ¬ ((2 * j : Nat) : Int) < 8 by omega), cond_false]
  cases (decide (IntKind.wrap .i64 (((2 * j : Nat) : Int) + 1) < ((List.length l : Nat) : Int))) <;> rfl
 | d + 1, m, j, rs, hj, hm, hr, hp => by
  obtain ⟨m, rfl⟩ := pos1 (m := m) (by omega)
  have hw1 : IntKind.wrap .i64 (((2 * j : Nat) : Int) + 1) = ((2 * j + 1 : Nat) : Int) := by rw [w64 _ (by omega) (by omega)]; omega
  have hw2 : IntKind.wrap .i64 (((2 * j : Nat) : Int) + 2) = ((2 * (j + 1) : Nat) : Int) := by rw [w64 _ (by omega) (by omega)]; omega
  have hw3 : IntKind.wrap .i64 (Int.tdiv ((2 * j : Nat) : Int) 2) = (j : Int) := by
   have : Int.tdiv ((2 * j : Nat) : Int) 2 = (j : Int) := by
    rw [Int.tdiv_eq_ediv_of_nonneg (by omega)]
    omega
   rw [this]
   exact w64n j (by omega)
  simp only [F36_0]
  rw [hw1, hw3]
  by_cases h1 : 2 * j + 1 < l.length
  ·have h0 : 2 * j < l.length := by omega
   obtain ⟨x1, e1, p1⟩ := F68_ok k l[2 * j] false 5 (hl _ (List.getElem_mem h0)) (by omega)
   obtain ⟨x2, e2, p2⟩ := F68_ok k l[2 * j + 1] true 5 (hl _ (List.getElem_mem h1)) (by omega)
   have next : ∀ (u v : Int), (0 ≤ u ∧ u < 3) → (0 ≤ v ∧ v < 20) → ∃ rs', F36_0 k m l ns ((2 * (j + 1) : Nat) : Int) c6 (ds, (rs ++ [(u, (v, (x1, (x2, ()))))], ())) = some ((), (c6, (ds, (rs', ())), ())) ∧ rs'.length ≤ 4 ∧ ∀ r ∈ rs', RulP r := fun u v hu hv =>
    F36_0_ok k l ns c6 ds hk hl hn d m (j + 1) (rs ++ [(u, (v, (x1, (x2, ()))))]) (by omega) (by omega) (by simp [hr]) (all_append hp ⟨⟨p1, p2⟩, hu, hv⟩)
   have ha : ∀ y : RulT, (List.length rs + List.length [y]) * (160 * 2) ≤ 281474976710656 ∧ List.length rs + List.length [y] ≤ 9223372036854775807 := fun y => by rw [List.length_singleton]; omega
   have hset : ∀ y z : RulT, List.set (List.replicate 1 z) 0 y = [y] := fun y z => rfl
   rw [dlt h1, cond_true, decide_eq_true (show ((2 * j : Nat) : Int) < 8 by omega), cond_true]
   by_cases h2 : j < ns.length
   ·obtain ⟨rs', e, h⟩ := next (Int.tmod (List.getD ns j 0 % 1073741824) 3) (Int.tmod (IntKind.wrap .i64 (Int.tdiv (List.getD ns j 0 % 1073741824) 3)) 20) (tmR (Int.emod_nonneg _ (by decide)) (by decide)) (tdR (Int.emod_nonneg _ (by decide)) (Int.emod_lt_of_pos _ (by decide)))
    refine ⟨rs', ?_, h⟩
    rw [dlt h2, cond_true, if_pos (inR h2), tnI j, F67_eq k _ 1073741824 (by decide) (by decide), Option.bind_some]
    simp only
    rw [if_pos (inR h0), if_pos (inR h1), tnI (2 * j), tnI (2 * j + 1), getD_lt _ _ _ h0, getD_lt _ _ _ h1, e1, Option.bind_some]
    simp only
    rw [e2, Option.bind_some]
    simp only
    rw [hset, if_pos (ha _), hw2, e]
    rfl
   ·obtain ⟨rs', e, h⟩ := next (Int.tmod ((2 * j : Nat) : Int) 3) (Int.tmod (IntKind.wrap .i64 (Int.tdiv ((2 * j : Nat) : Int) 3)) 20) (tmR (by omega) (by decide)) (tdR (by omega) (by omega))
    refine ⟨rs', ?_, h⟩
    rw [decide_eq_false (show ¬ (j : Int) < ((List.length ns : Nat) : Int) by omega), cond_false, if_pos (inR h0), if_pos (inR h1), tnI (2 * j), tnI (2 * j + 1), getD_lt _ _ _ h0, getD_lt _ _ _ h1, e1, Option.bind_some]
    simp only
    rw [e2, Option.bind_some]
    simp only
    rw [hset, if_pos (ha _), hw2, e]
    rfl
  ·refine ⟨rs, ?_, by omega, hp⟩
   rw [decide_eq_false (show ¬ ((2 * j + 1 : Nat) : Int) < ((List.length l : Nat) : Int) by omega), cond_false]
theorem F36_ok (k : Nat) (l : List RawT) (ns ds : List Int) (hk : 20000000 ≤ k) (hl : ∀ r ∈ l, RawH 5 r) (hn : ns.length ≤ 100000000000000) : ∃ (dd : List DefT) (rs : List RulT), F36 k l ns ds = some (((dd, (rs, ())), ()), ()) ∧ 4 ≤ dd.length ∧ dd.length ≤ 6 ∧ DefsP dd ∧ rs.length ≤ 4 ∧ ∀ r ∈ rs, RulP r := by
 obtain ⟨dd, e1, h1, h2, h3⟩ := F66_ok k ds (by omega)
 obtain ⟨rs, e2, h4, h5⟩ := F36_0_ok k l ns (([] : List DefT), (([] : List RulT), ())) dd hk hl hn 4 k 0 [] rfl (by omega) rfl (fun r hr => by cases hr)
 refine ⟨dd, rs, ?_, h1, h2, h3, h4, h5⟩
 unfold F36
 rw [e1, Option.bind_some]
 simp only
 rw [show F36_0 k k l ns 0 (([] : List DefT), (([] : List RulT), ())) (dd, (([] : List RulT), ())) = _ from e2, Option.bind_some]
structure SideW (I : InT) (N M : Nat) (s : SideT) : Prop where
 g : ∃ n, n ≤ 120 ∧ SideG n (cB 5) M s
 ok : SOK s
 io : InOK I N s
theorem sideW {I : InT} {N M : Nat} {s : SideT} (hI : I.length = M) (hr : ∀ r ∈ I, r.length = N) {n : Nat} (hn : n ≤ 120) (h : SideG n (cB 5) M s) : SideW I N M s := by
 have h1 := h.ls
 have h2 := h.lf
 have h3 := h.le
 have h4 := srt_len h.srt h.arcs
 have hnn : n * n ≤ 120 * 120 := Nat.mul_le_mul hn hn
 refine ⟨⟨n, hn, h⟩, ⟨by omega, by omega, fun x hx => ?_, by omega, by omega⟩, ⟨fun x hx => ?_, hr⟩⟩
 ·have := h.arcs x hx
  rw [h1]
  exact ⟨this.1, this.2.1⟩
 ·have := h.sets x hx
  rw [hI]
  omega
structure WG (w : WorT) (N M : Nat) : Prop where
 left : ∀ s ∈ w.2.2.2.2.1, SideW w.2.2.2.1 N M s
 right : ∀ s ∈ w.2.2.2.2.2.1, SideW w.2.2.2.1 N M s
 nl : w.2.2.2.2.1.length = w.1.2.1.length
 nr : w.2.2.2.2.2.1.length = w.1.2.1.length
 nrules : w.1.2.1.length ≤ 4
 rules : ∀ r ∈ w.1.2.1, RulP r
 num : w.2.2.2.2.2.2.1 = (N : Int)
 le : N ≤ 2000000
 bc : w.2.1.length = w.2.2.1.length
 cl : w.2.2.1.length ≤ 2000000
 ne : w.2.2.1 ≠ []
 lets : ∀ x ∈ w.2.2.1, 0 ≤ x ∧ x < (N : Int)
 il : w.2.2.2.1.length ≤ 1000000
 ir : ∀ r ∈ w.2.2.2.1, r.length ≤ 5000000
theorem F15_0_ok (k : Nat) (fl : FileT) (cu nm : List Int) (I : InT) (Nv : Int × Unit) (c6 : WorT) (N M : Nat) (hk : 20000000 ≤ k) (hfl : fl.1.length ≤ 1000) (hM : fl.1.length = M) (hI : I.length = M) (hrow : ∀ r ∈ I, r.length = N) (hN : N ≤ 2000000) (hrs : ∀ r ∈ fl.2.1, RulP r) (hrl : fl.2.1.length ≤ 4) : ∀ (d m i : Nat) (A B : List SideT), i + d = fl.2.1.length → d < m → A.length = i → B.length = i → (∀ s ∈ A, SideW I N M s) → (∀ s ∈ B, SideW I N M s) →
  (∃ w, F15_0 k m (i : Int) c6 (fl, (cu, (nm, (I, (A, (B, Nv)))))) = some (.inr ((false, ()), (w, ())))) ∨
  ∃ A' B', F15_0 k m (i : Int) c6 (fl, (cu, (nm, (I, (A, (B, Nv)))))) = some (.inl ((), (c6, (fl, (cu, (nm, (I, (A', (B', Nv)))))), ()))) ∧ A'.length = fl.2.1.length ∧ B'.length = fl.2.1.length ∧ (∀ s ∈ A', SideW I N M s) ∧ ∀ s ∈ B', SideW I N M s
 | 0, m, i, A, B, hi, hm, hA, hB, pA, pB => by
  obtain ⟨m, rfl⟩ := pos1 (m := m) (by omega)
  right
  refine ⟨A, B, ?_, by omega, by omega, pA, pB⟩
  simp only [F15_0]
  rw [decide_eq_false (by omega), cond_false]
 | d + 1, m, i, A, B, hi, hm, hA, hB, pA, pB => by
  obtain ⟨m, rfl⟩ := pos1 (m := m) (by omega)
  have hlt : i < fl.2.1.length := by omega
  obtain ⟨⟨p1, p2⟩, _⟩ := hrs _ (List.getElem_mem hlt)
  have e1 := F41_ok k fl.2.1[i].2.2.1 fl hfl p1 hk
  have e2 := F41_ok k fl.2.1[i].2.2.2.1 fl hfl p2 hk
  have hir : ∀ r ∈ I, r.length ≤ 2000000 := fun r hr => by rw [hrow r hr]; exact hN
  simp only [F15_0]
  rw [dlt hlt, cond_true, if_pos (inR hlt), tnI i, getD_lt _ _ _ hlt, e1, Option.bind_some, if_pos (inR hlt), e2, Option.bind_some]
  by_cases h1 : sizeR 5 fl.2.1[i].2.2.1 > 120
  ·left
   rw [if_pos h1]
   exact ⟨_, rfl⟩
  ·rw [if_neg h1]
   by_cases h2 : sizeR 5 fl.2.1[i].2.2.2.1 > 120
   ·left
    rw [if_pos h2]
    exact ⟨_, rfl⟩
   ·rw [if_neg h2]
    simp only [Bool.not_true, cond_false]
    have g1 := side_G (fnd fl.1) M (fun nm => by have := fnd_range fl.1 nm; rw [hM] at this; exact this) 5 _ (by omega) p1
    have g2 := side_G (fnd fl.1) M (fun nm => by have := fnd_range fl.1 nm; rw [hM] at this; exact this) 5 _ (by omega) p2
    obtain ⟨j1, s1, e3, hj1, hs1⟩ := F42_ok k _ I (by omega) (by omega) g1 (by omega) hir
    obtain ⟨j2, s2, e4, hj2, hs2⟩ := F42_ok k _ I (by omega) (by omega) g2 (by omega) hir
    have w1 : SideW I N M s1 := sideW hI hrow (by omega) hs1
    have w2 : SideW I N M s2 := sideW hI hrow (by omega) hs2
    have hset : ∀ y z : SideT, List.set (List.replicate 1 z) 0 y = [y] := fun y z => rfl
    have ha : ∀ y : SideT, (List.length A + List.length [y]) * (104 * 2) ≤ 281474976710656 ∧ List.length A + List.length [y] ≤ 9223372036854775807 := fun y => by rw [List.length_singleton]; omega
    have hb : ∀ y : SideT, (List.length B + List.length [y]) * (104 * 2) ≤ 281474976710656 ∧ List.length B + List.length [y] ≤ 9223372036854775807 := fun y => by rw [List.length_singleton]; omega
    rw [e3, Option.bind_some]
    simp only
    rw [hset, if_pos (ha _), e4, Option.bind_some]
    simp only
    rw [hset, if_pos (hb _), wsucc i _ hlt (by omega)]
    rcases F15_0_ok k fl cu nm I Nv c6 N M hk hfl hM hI hrow hN hrs hrl d m (i + 1) (A ++ [s1]) (B ++ [s2]) (by omega) (by omega) (by simp [hA]) (by simp [hB]) (all_append pA w1) (all_append pB w2) with ⟨w, e⟩ | ⟨A', B', e, h⟩
    ·left
     exact ⟨w, by rw [e]; rfl⟩
    ·right
     exact ⟨A', B', by rw [e]; rfl, h⟩
theorem F15_ok (k : Nat) (l : List RawT) (ns ds : List Int) (hk : 20000000 ≤ k) (hl : ∀ r ∈ l, RawH 5 r) (hn : ns.length ≤ 100000000000000) : ∃ (w : WorT) (b : Bool), F15 k l ns ds = some ((w, b, ()), ()) ∧ (b = true → ∃ N M, WG w N M) := by
 obtain ⟨dd, rs, e1, h1, h2, h3, h4, h5⟩ := F36_ok k l ns ds hk hl hn
 obtain ⟨sets, e4, h6, h7⟩ := F37_ok k (dd, (rs, ())) (show dd.length ≤ 1000 by omega) h3 hk
 have h6' : sets.length = dd.length := h6
 obtain ⟨bs, cs, e5, g1, g2, g3, g4⟩ := F38_ne k sets (by omega) (by omega) h7
 obtain ⟨I, N, e6, e7, g5, g6, g7, g8⟩ := F39_N k sets bs cs (by omega) (by omega) h7 g1 (by omega) g3
 have e8 := F15_0_ok k (dd, (rs, ())) bs cs I ((N : Int), ()) ((([] : List DefT), (([] : List RulT), ())), (([] : (List Int)), (([] : (List Int)), (([] : (List (List Bool))), (([] : List SideT), (([] : List SideT), ((0 : Int), ()))))))) N dd.length hk (show dd.length ≤ 1000 by omega) rfl (by omega) g7 (by omega) h5 h4 rs.length k 0 [] [] (Nat.zero_add _) (by omega) rfl rfl (fun s hs => by cases hs) (fun s hs => by cases hs)
 rw [show ((0 : Nat) : Int) = 0 from rfl] at e8
 unfold F15
 simp only
 rw [e1, Option.bind_some]
 simp only
 rw [e4, Option.bind_some]
 simp only
 rw [e5, Option.bind_some]
 simp only
 rw [e6, Option.bind_some]
 simp only
 rw [e7, Option.bind_some]
 simp only
 rcases e8 with ⟨w, e8⟩ | ⟨A, B, e8, a1, a2, a3, a4⟩
 ·refine ⟨w, false, ?_, fun q => by cases q⟩
  rw [e8, Option.bind_some]
 ·refine ⟨((dd, (rs, ())), (bs, (cs, (I, (A, (B, ((N : Int), ()))))))), true, ?_, fun _ => ⟨N, dd.length, ⟨a3, a4, a1, a2, h4, h5, rfl, g5, g1, g2, g4, g8, (show I.length ≤ 1000000 by omega), fun r hr => by rw [g7 r hr]; omega⟩⟩⟩
  rw [e8, Option.bind_some]
theorem get_preA {σ : Type} {l l' t : List σ} {i : Nat} {x : σ} (e : l' = l ++ t) (h : l[i]? = some x) : l'[i]? = some x := by
 rw [e, List.getElem?_append_left (List.getElem?_eq_some_iff.1 h).1]
 exact h
section
variable {σ : Type} [DecidableEq σ]
theorem put1_nodup {l : List σ} (h : l.Nodup) (x : σ) : (put1 l x).Nodup := by
 unfold put1
 split
 ·exact h
 ·rename_i hx
  rw [List.nodup_append]
  refine ⟨h, by simp, fun a ha b hb => ?_⟩
  rw [List.mem_singleton.1 hb]
  exact fun e => hx (e ▸ ha)
theorem put1_get (l : List σ) (x : σ) : (put1 l x)[ix l x]? = some x := by
 unfold put1
 split
 ·rename_i hx
  rw [List.getElem?_eq_getElem (ix_lt hx), ix_get hx]
 ·rename_i hx
  rw [ix_no hx]
  simp
theorem rowA_spec (step : σ → Nat → σ) (s : σ) : ∀ (al : List Nat) (l : List σ), l.Nodup → (rowA step s al l).1.Nodup ∧ ∀ (p a : Nat), al[p]? = some a → ∃ t : Nat, (rowA step s al l).2[p]? = some (t : Int) ∧ (rowA step s al l).1[t]? = some (step s a)
 | [], l, h => ⟨h, fun p a e => by simp at e⟩
 | b :: al, l, h => by
  obtain ⟨h1, h2⟩ := rowA_spec step s al (put1 l (step s b)) (put1_nodup h _)
  obtain ⟨t1, e1⟩ := rowA_pre step s al (put1 l (step s b))
  refine ⟨h1, fun p a e => ?_⟩
  cases p with
  | zero =>
   simp only [List.getElem?_cons_zero, Option.some.injEq] at e
   subst e
   exact ⟨ix l (step s b), by rw [rowA_2]; rfl, by rw [rowA_1]; exact get_preA e1 (put1_get l (step s b))⟩
  | succ p =>
   simp only [List.getElem?_cons_succ] at e
   obtain ⟨t, e2, e3⟩ := h2 p a e
   exact ⟨t, by rw [rowA_2]; exact e2, by rw [rowA_1]; exact e3⟩
theorem rowA_sub (step : σ → Nat → σ) (s : σ) {P : σ → Prop} : ∀ (al : List Nat) (l : List σ), (∀ x ∈ l, P x) → (∀ a ∈ al, P (step s a)) → ∀ x ∈ (rowA step s al l).1, P x
 | [], l, h, _ => h
 | b :: al, l, h, h2 => by
  rw [rowA_1]
  refine rowA_sub step s al _ (fun x hx => ?_) fun a ha => h2 a (List.mem_cons_of_mem _ ha)
  unfold put1 at hx
  split at hx
  ·exact h x hx
  ·rcases List.mem_append.1 hx with q | q
   ·exact h x q
   ·rw [List.mem_singleton.1 q]; exact h2 b List.mem_cons_self
variable (step : σ → Nat → σ) (hold : σ → List Bool) (d0 : σ) (N : Nat)
structure Mach (i : Nat) (l : List σ) (nx : List (List Int)) (ou : List Int) (se : List (List Bool)) : Prop where
 nd : l.Nodup
 sd : se.Nodup
 il : i ≤ l.length
 nl : nx.length = i
 ol : ou.length = i
 rows : ∀ j x, j < i → l[j]? = some x → ∃ r, nx[j]? = some r ∧ r.length = N ∧ ∀ a, a < N → ∃ t : Nat, r[a]? = some (t : Int) ∧ l[t]? = some (step x a)
 outs : ∀ j x, j < i → l[j]? = some x → ∃ t : Nat, ou[j]? = some (t : Int) ∧ se[t]? = some (hold x)
 hs : ∀ h ∈ se, ∃ x ∈ l, h = hold x
variable {step hold d0 N}
theorem Mach.next {i : Nat} {l : List σ} {nx : List (List Int)} {ou : List Int} {se : List (List Bool)} (m : Mach step hold N i l nx ou se) (hi : i < l.length) :
  Mach step hold N (i + 1) (rowA step (l.getD i d0) (List.range N) l).1 (nx ++ [(rowA step (l.getD i d0) (List.range N) l).2]) (ou ++ [((ix se (hold (l.getD i d0)) : Nat) : Int)]) (put1 se (hold (l.getD i d0))) := by
 obtain ⟨r1, r2⟩ := rowA_spec step (l.getD i d0) (List.range N) l m.nd
 obtain ⟨t, e⟩ := rowA_pre step (l.getD i d0) (List.range N) l
 have hle := rowA_le step (l.getD i d0) (List.range N) l
 have hrl := rowA_row step (l.getD i d0) (List.range N) l
 rw [List.length_range] at hrl
 have hgi : l[i]? = some (l.getD i d0) := by rw [getD_lt _ _ _ hi, List.getElem?_eq_getElem hi]
 obtain ⟨ts, es⟩ := put1_pre se (hold (l.getD i d0))
 have hlt : ∀ j x, j < i + 1 → (rowA step (l.getD i d0) (List.range N) l).1[j]? = some x → l[j]? = some x := fun j x hj hx => by
  rw [e, List.getElem?_append_left (by omega)] at hx
  exact hx
 refine ⟨r1, put1_nodup m.sd _, by omega, by rw [List.length_append, m.nl]; rfl, by rw [List.length_append, m.ol]; rfl, fun j x hj hx => ?_, fun j x hj hx => ?_, fun h hm => ?_⟩
 ·have hx' := hlt j x hj hx
  by_cases he : j = i
  ·subst he
   rw [hgi] at hx'
   injection hx' with hx'
   refine ⟨(rowA step (l.getD j d0) (List.range N) l).2, by rw [← m.nl]; simp, hrl, fun a ha => ?_⟩
   rw [← hx']
   exact r2 a a (by rw [List.getElem?_range ha])
  ·obtain ⟨r, q1, q2, q3⟩ := m.rows j x (by omega) hx'
   refine ⟨r, get_preA rfl q1, q2, fun a ha => ?_⟩
   obtain ⟨u, q4, q5⟩ := q3 a ha
   exact ⟨u, q4, get_preA e q5⟩
 ·have hx' := hlt j x hj hx
  by_cases he : j = i
  ·subst he
   rw [hgi] at hx'
   injection hx' with hx'
   rw [← hx']
   exact ⟨ix se (hold (l.getD j d0)), by rw [← m.ol]; simp, put1_get se _⟩
  ·obtain ⟨u, q1, q2⟩ := m.outs j x (by omega) hx'
   exact ⟨u, get_preA rfl q1, get_preA es q2⟩
 ·unfold put1 at hm
  have up : ∀ {x : σ}, x ∈ l → x ∈ (rowA step (l.getD i d0) (List.range N) l).1 := fun hx => by rw [e]; exact List.mem_append_left _ hx
  split at hm
  ·obtain ⟨x, hx, q⟩ := m.hs h hm
   exact ⟨x, up hx, q⟩
  ·rcases List.mem_append.1 hm with q | q
   ·obtain ⟨x, hx, q⟩ := m.hs h q
    exact ⟨x, up hx, q⟩
   ·exact ⟨l.getD i d0, up (List.mem_of_getElem? hgi), List.mem_singleton.1 q⟩
theorem mkA_mach {B : Int} {P : σ → Prop} (hP : ∀ x a, P x → a < N → P (step x a)) : ∀ (f i : Nat) (l : List σ) (nx : List (List Int)) (ou : List Int) (se : List (List Bool)) {q : List σ × List (List Int) × List Int × List (List Bool)}, Mach step hold N i l nx ou se → (∀ x ∈ l, P x) → mkA step hold d0 B N f i l nx ou se = some q → Mach step hold N q.1.length q.1 q.2.1 q.2.2.1 q.2.2.2 ∧ (∃ t, q.1 = l ++ t) ∧ (∀ x ∈ q.1, P x) ∧ (i < l.length → (q.1.length : Int) ≤ B)
 | 0, i, l, nx, ou, se, q, m, hp, h => by cases h
 | f + 1, i, l, nx, ou, se, q, m, hp, h => by
  simp only [mkA] at h
  split at h
  ·rename_i hi
   split at h
   ·cases h
   ·rename_i hB
    have hps : P (l.getD i d0) := hp _ (by rw [getD_lt _ _ _ hi]; exact List.getElem_mem hi)
    obtain ⟨t, e⟩ := rowA_pre step (l.getD i d0) (List.range N) l
    obtain ⟨h1, ⟨t2, e2⟩, h3, h4⟩ := mkA_mach hP f _ _ _ _ _ (m.next (d0 := d0) hi) (rowA_sub step (l.getD i d0) (List.range N) l hp fun a ha => hP _ a hps (List.mem_range.1 ha)) h
    have hle := rowA_le step (l.getD i d0) (List.range N) l
    refine ⟨h1, ⟨t ++ t2, by rw [e2, e, List.append_assoc]⟩, h3, fun _ => ?_⟩
    by_cases hc : i + 1 < (rowA step (l.getD i d0) (List.range N) l).1.length
    ·exact h4 hc
    · -- nothing more is there
     cases f with
     | zero => cases h
     | succ f =>
      rw [mkA, if_neg hc] at h
      injection h with h
      rw [← h]
      simp only
      omega
  ·rename_i hi
   injection h with h
   subst h
   simp only
   have : i = l.length := Nat.le_antisymm m.il (by omega)
   refine ⟨by rw [this] at m; exact m, ⟨[], (List.append_nil _).symm⟩, hp, fun q => by omega⟩
theorem mkA_more {B B' : Int} : ∀ (f f' i : Nat) (l : List σ) (nx : List (List Int)) (ou : List Int) (se : List (List Bool)) {q : List σ × List (List Int) × List Int × List (List Bool)}, mkA step hold d0 B N f i l nx ou se = some q → i ≤ l.length → (q.1.length : Int) ≤ B' → q.1.length < i + f' → l.length ≤ q.1.length ∧ mkA step hold d0 B' N f' i l nx ou se = some q
 | 0, f', i, l, nx, ou, se, q, h, hi, hB, hf => by cases h
 | f + 1, 0, i, l, nx, ou, se, q, h, hi, hB, hf => by
  exfalso
  simp only [mkA] at h
  split at h
  ·rename_i hlt
   split at h
   ·cases h
   ·have hle := rowA_le step (l.getD i d0) (List.range N) l
    have := (mkA_more (B' := B') f (q.1.length + 1) _ _ _ _ _ h (by omega) hB (by omega)).1
    omega
  ·injection h with h
   subst h
   simp only at hf
   omega
 | f + 1, f' + 1, i, l, nx, ou, se, q, h, hi, hB, hf => by
  simp only [mkA] at h
  split at h
  ·rename_i hlt
   split at h
   ·cases h
   ·have hle := rowA_le step (l.getD i d0) (List.range N) l
    have ih := mkA_more (B' := B') f f' _ _ _ _ _ h (by omega) hB (by omega)
    refine ⟨by omega, ?_⟩
    simp only [mkA]
    rw [if_pos hlt, if_neg (by omega)]
    exact ih.2
  ·rename_i hlt
   injection h with h
   subst h
   refine ⟨Nat.le_refl _, ?_⟩
   simp only [mkA]
   rw [if_neg hlt]
theorem mkA_less {B B' : Int} : ∀ (f f' i : Nat) (l : List σ) (nx : List (List Int)) (ou : List Int) (se : List (List Bool)) {q : List σ × List (List Int) × List Int × List (List Bool)}, mkA step hold d0 B N f i l nx ou se = some q → i < q.1.length → i ≤ l.length → B' < (q.1.length : Int) → mkA step hold d0 B' N f' i l nx ou se = none
 | 0, f', i, l, nx, ou, se, q, h, _, _, _ => by cases h
 | f + 1, 0, i, l, nx, ou, se, q, h, _, _, _ => rfl
 | f + 1, f' + 1, i, l, nx, ou, se, q, h, hi, hil, hB => by
  simp only [mkA] at h ⊢
  split at h
  ·rename_i hlt
   split at h
   ·cases h
   ·have hle := rowA_le step (l.getD i d0) (List.range N) l
    rw [if_pos hlt]
    split
    ·rfl
    ·rename_i hB'
     by_cases hc : i + 1 < q.1.length
     ·exact mkA_less f f' _ _ _ _ _ h hc (by omega) hB
     ·have := (mkA_more (B' := (q.1.length : Int)) f (q.1.length + 1) _ _ _ _ _ h (by omega) (Int.le_refl _) (by omega)).1
      omega
  ·injection h with h
   subst h
   rename_i hlt
   exact absurd hi hlt
theorem nodup_le : ∀ {l S : List σ}, l.Nodup → (∀ x ∈ l, x ∈ S) → l.length ≤ S.length
 | [], S, _, _ => Nat.zero_le _
 | x :: l, S, h, hs => by
  obtain ⟨h1, h2⟩ := List.nodup_cons.1 h
  have hx := hs x List.mem_cons_self
  have := nodup_le (l := l) (S := S.erase x) h2 fun y hy => (List.mem_erase_of_ne (fun e => h1 (by rw [← e]; exact hy))).2 (hs y (List.mem_cons_of_mem _ hy))
  rw [List.length_erase_of_mem hx] at this
  have := List.length_pos_of_mem hx
  simp only [List.length_cons]
  omega
end
section
variable {σ : Type} {step : σ → Nat → σ} {hold : σ → List Bool} {N : Nat} {l : List σ} {nx : List (List Int)} {ou : List Int} {se : List (List Bool)} {z : σ}
end
abbrev QT := List Live × List (List Int) × List Int × List (List Bool)
def mkM (I : InT) (ss : List SideT) (N : Nat) (b : Int) : Option QT := mkA (stepL I ss) (holdL ss) ([] : Live) (minI b 100000) N ((minI b 100000).toNat + 2) 0 [zeroL ss] [] [] []
theorem maxI_nat (N : Nat) : maxI (N : Int) 0 = (N : Int) := by unfold maxI; split <;> omega
theorem F17_mk (k : Nat) (I : InT) (N M : Nat) (ss : List SideT) (hk : 20000000 ≤ k) (hs : ∀ s ∈ ss, SideW I N M s) (hn : ss.length ≤ 100) (hN : N ≤ 2000000) (b : Int) : F17 k ss I (N : Int) b = some (outA (mkM I ss N b), ()) :=
 F17_ok k ss I N (by omega) (fun s h => (hs s h).ok) (fun s h => (hs s h).io) (by omega) (by omega) (N : Int) (maxI_nat N) b
structure MW (I : InT) (ss : List SideT) (N : Nat) (b : Int) (q : QT) : Prop where
 m : Mach (stepL I ss) (holdL ss) N q.1.length q.1 q.2.1 q.2.2.1 q.2.2.2
 z : q.1[0]? = some (zeroL ss)
 shp : ∀ x ∈ q.1, Shp ss x
 le : (q.1.length : Int) ≤ minI b 100000
theorem mach0 {σ : Type} [DecidableEq σ] {step : σ → Nat → σ} {hold : σ → List Bool} {N : Nat} (z : σ) : Mach step hold N 0 [z] [] [] [] :=
 ⟨by simp, List.nodup_nil, by simp, rfl, rfl, fun j x h => by omega, fun j x h => by omega, fun h hm => by cases hm⟩
theorem mkM_ok {I : InT} {ss : List SideT} {N : Nat} {b : Int} {q : QT} (h : mkM I ss N b = some q) : MW I ss N b q := by
 obtain ⟨h1, ⟨t, h2⟩, h3, h4⟩ := mkA_mach (P := Shp ss) (fun x a hx _ => stepL_shp hx) _ 0 [zeroL ss] [] [] [] (mach0 _) (fun x hx => by rw [List.mem_singleton.1 hx]; exact zeroL_shp ss) h
 exact ⟨h1, by rw [h2]; rfl, h3, h4 (Nat.zero_lt_succ _)⟩
theorem MW.len {I : InT} {ss : List SideT} {N : Nat} {b : Int} {q : QT} (h : MW I ss N b q) : q.1.length ≤ 100000 := by
 have := h.le
 unfold minI at this
 split at this <;> omega
theorem MW.small {I : InT} {ss : List SideT} {N : Nat} {b : Int} {q : QT} (h : MW I ss N b q) (hN : N ≤ 5000000) (hn : ss.length ≤ 5000000) : (∀ r ∈ q.2.1, r.length ≤ 5000000) ∧ q.2.1.length ≤ 1000000 ∧ q.2.2.1.length ≤ 1000000 ∧ q.2.2.2.length ≤ 1000000 ∧ ∀ r ∈ q.2.2.2, r.length = ss.length := by
 have h1 := h.len
 have h2 := h.m.nl
 have h3 := h.m.ol
 have h5 : ∀ r ∈ q.2.2.2, r.length = ss.length := fun r hr => by
  obtain ⟨x, hx, e⟩ := h.m.hs r hr
  rw [e]
  exact holdL_len (h.shp x hx)
 refine ⟨fun r hr => ?_, by omega, by omega, ?_, h5⟩
 ·obtain ⟨i, hi, e⟩ := List.mem_iff_getElem.1 hr
  obtain ⟨r', q1, q2, _⟩ := h.m.rows i _ (by omega) (List.getElem?_eq_getElem (by omega : i < q.1.length))
  rw [List.getElem?_eq_getElem hi, e] at q1
  injection q1 with q1
  rw [q1, q2]
  exact hN
 ·have := nodup_le h.m.sd (S := q.1.map (holdL ss)) fun x hx => by
   obtain ⟨y, hy, e⟩ := h.m.hs x hx
   exact List.mem_map.2 ⟨y, hy, e.symm⟩
  rw [List.length_map] at this
  omega
theorem start9 (k : Nat) (hk : 20000000 ≤ k) (a0 : List RawT) (a1 a2 : List Int) (h1 : a1.length ≤ 100000000000000) : F14 k a0 = some ((false, ()), ()) ∨ F14 k a0 = some ((true, ()), ()) ∧ ((∃ w, F15 k a0 a1 a2 = some ((w, false, ()), ())) ∨ ∃ w N M, F15 k a0 a1 a2 = some ((w, true, ()), ()) ∧ WG w N M) := by
 obtain ⟨b13, e13, h13⟩ := F14_ok k a0 (by omega)
 cases b13 with
 | false => exact .inl e13
 | true =>
  obtain ⟨hl, hraw⟩ := h13 rfl
  obtain ⟨w, b, e14, h14⟩ := F15_ok k a0 a1 a2 hk hraw h1
  cases b with
  | false => exact .inr ⟨e13, .inl ⟨w, e14⟩⟩
  | true =>
   obtain ⟨N, M, hw⟩ := h14 rfl
   exact .inr ⟨e13, .inr ⟨w, N, M, e14, hw⟩⟩
section
variable {σ : Type} {step : σ → Nat → σ} {hold : σ → List Bool} {N : Nat} {l : List σ} {nx : List (List Int)} {ou : List Int} {se : List (List Bool)} {z : σ}
end
end Go.Proofs.YtgmmopbpldgpcaaE
set_option linter.unusedSimpArgs false
set_option linter.unusedVariables false
set_option maxRecDepth 20000
namespace Go.Proofs.YtgmmopbpldgpcaaE
theorem minI_c {a : Int} (h : Cst a) : minI a 1152921504606846976 = a := by
 unfold Cst at h
 unfold minI
 split <;> omega
theorem minI_c' {a : Int} (h : Cst a) : minI 1152921504606846976 a = a := by
 unfold Cst at h
 unfold minI
 split <;> omega
theorem cst_inf : Cst INF1 := ⟨by decide, by decide⟩
theorem cst_min {a b : Int} (ha : Cst a) (hb : Cst b) : Cst (minI a b) := by
 unfold minI
 split
 ·exact hb
 ·exact ha
theorem cst_ad {a b : Int} (ha : Cst a) (hb : Cst b) : Cst (adI a b) := by
 unfold Cst at *
 unfold adI minI
 split <;> omega
theorem F79_ad (k : Nat) (a b : Int) (ha : Cst a) (hb : Cst b) : F79 k a b = some ((adI a b, ()), ()) := by
 unfold F79
 simp only
 rw [minI_c ha, minI_c hb]
 unfold Cst at *
 rw [w64 _ (by omega) (by omega)]
 rfl
theorem F78_0_ok (k : Nat) (l : List Int) (hl : l.length ≤ 1000000000) : ∀ (d m i : Nat) (acc : Int), i + d = l.length → d < m → F78_0 k m acc l (l.length : Int) (i : Int) = some (((l.drop i).foldl minI acc, ()), ())
 | 0, m, i, acc, hi, hm => by
  obtain ⟨m, rfl⟩ := pos1 (m := m) (by omega)
  simp only [F78_0]
  rw [decide_eq_false (by omega), cond_false, List.drop_eq_nil_of_le (by omega)]
  rfl
 | d + 1, m, i, acc, hi, hm => by
  obtain ⟨m, rfl⟩ := pos1 (m := m) (by omega)
  have hlt : i < l.length := by omega
  simp only [F78_0]
  rw [dlt hlt, cond_true, if_pos (inR hlt), tnI i, wsucc i _ hlt (by omega), F78_0_ok k l hl d m (i + 1) _ (by omega) (by omega), getD_lt _ _ _ hlt, List.drop_eq_getElem_cons hlt, List.foldl_cons]
  rfl
theorem F78_ok (k : Nat) (l : List Int) (hl : l.length < k) (h2 : l.length ≤ 1000000000) : F78 k l = some ((l.foldl minI 1152921504606846976, ()), ()) := by
 unfold F78
 have e := F78_0_ok k l h2 l.length k 0 1152921504606846976 (Nat.zero_add _) hl
 rw [show ((0 : Nat) : Int) = 0 from rfl, List.drop_zero] at e
 rw [e, Option.bind_some]
theorem F78_two (k : Nat) (hk : 10 ≤ k) (a b : Int) (ha : Cst a) : F78 k [a, b] = some ((minI a b, ()), ()) := by
 rw [F78_ok k _ (by simp; omega) (by simp), List.foldl_cons, List.foldl_cons, List.foldl_nil, minI_c' ha]
theorem set2 (a b : Int) : List.set (List.set (List.replicate 2 (0 : Int)) 0 a) 1 b = [a, b] := rfl
theorem F77_0_step (k n : Nat) (t5 : Int) (t7 : List Int) (t8 t9 : Int) (acc : List Int) (ha : acc.length ≤ 1000000000000) (j : Nat) (hj : j ≤ 56) : F77_0 k (n + 1) t5 (j : Int) t7 t8 t9 acc = F77_0 k n t5 ((j : Int) - 8) t7 t8 t9 (acc ++ [t5 / (2 : Int) ^ j % 256]) := by
 have h1 : min (Int.toNat (j : Int)) (IntKind.bits .i64) = j := by
  rw [tnI j, show IntKind.bits .i64 = 64 from rfl]
  omega
 simp only [F77_0]
 rw [decide_eq_true (by omega), cond_true, if_pos (by omega), one_list, if_pos (by rw [List.length_singleton]; omega), w64 _ (by omega) (by omega), wu8, h1, Int.fdiv_eq_ediv_of_nonneg _ (Int.le_of_lt (Int.pow_pos (by decide)))]
 cases F77_0 k n t5 ((j : Int) - 8) t7 t8 t9 (acc ++ [t5 / (2 : Int) ^ j % 256]) <;> rfl
theorem F77_0_ok (k n : Nat) (t5 : Int) (t7 : List Int) (t8 t9 : Int) (acc : List Int) (ha : acc.length ≤ 100000000000) : F77_0 k (n + 9) t5 56 t7 t8 t9 acc = some ((t7, t8, t9, ()), (acc ++ be8 t5, ())) := by
 rw [show (56 : Int) = ((56 : Nat) : Int) from rfl, F77_0_step k (n + 8) t5 t7 t8 t9 acc (by omega) 56 (by decide)]
 rw [show ((56 : Nat) : Int) - 8 = ((48 : Nat) : Int) from rfl, F77_0_step k (n + 7) t5 t7 t8 t9 _ (by simp; omega) 48 (by decide)]
 rw [show ((48 : Nat) : Int) - 8 = ((40 : Nat) : Int) from rfl, F77_0_step k (n + 6) t5 t7 t8 t9 _ (by simp; omega) 40 (by decide)]
 rw [show ((40 : Nat) : Int) - 8 = ((32 : Nat) : Int) from rfl, F77_0_step k (n + 5) t5 t7 t8 t9 _ (by simp; omega) 32 (by decide)]
 rw [show ((32 : Nat) : Int) - 8 = ((24 : Nat) : Int) from rfl, F77_0_step k (n + 4) t5 t7 t8 t9 _ (by simp; omega) 24 (by decide)]
 rw [show ((24 : Nat) : Int) - 8 = ((16 : Nat) : Int) from rfl, F77_0_step k (n + 3) t5 t7 t8 t9 _ (by simp; omega) 16 (by decide)]
 rw [show ((16 : Nat) : Int) - 8 = ((8 : Nat) : Int) from rfl, F77_0_step k (n + 2) t5 t7 t8 t9 _ (by simp; omega) 8 (by decide)]
 rw [show ((8 : Nat) : Int) - 8 = ((0 : Nat) : Int) from rfl, F77_0_step k (n + 1) t5 t7 t8 t9 _ (by simp; omega) 0 (by decide)]
 simp only [F77_0]
 rw [decide_eq_false (by omega), cond_false]
 simp only [List.append_assoc, List.singleton_append]
 rw [show (2 : Int) ^ 0 = 1 from rfl, Int.ediv_one]
 rfl
theorem F77_1_ok (k : Nat) (hk : 10000000 ≤ k) (l : List Int) (hl : l.length ≤ 1000000000) : ∀ (d m i : Nat) (acc : List Int), i + d = l.length → d < m → acc.length = 8 * i → F77_1 k m l (l.length : Int) (i : Int) acc = some ((), (acc ++ (l.drop i).flatMap be8, ()))
 | 0, m, i, acc, hi, hm, ha => by
  obtain ⟨m, rfl⟩ := pos1 (m := m) (by omega)
  simp only [F77_1]
  rw [decide_eq_false (by omega), cond_false, List.drop_eq_nil_of_le (by omega)]
  simp
 | d + 1, m, i, acc, hi, hm, ha => by
  obtain ⟨m, rfl⟩ := pos1 (m := m) (by omega)
  have hlt : i < l.length := by omega
  obtain ⟨k', hk'⟩ : ∃ k', k = k' + 9 := ⟨k - 9, by omega⟩
  have e := F77_0_ok k k' l[i] l (l.length : Int) (i : Int) acc (by omega)
  rw [← hk'] at e
  simp only [F77_1]
  rw [dlt hlt, cond_true, if_pos (inR hlt), tnI i, getD_lt _ _ _ hlt, e, Option.bind_some]
  simp only
  rw [wsucc i _ hlt (by omega), F77_1_ok k hk l hl d m (i + 1) _ (by omega) (by omega) (by rw [List.length_append, be8_len]; omega), List.drop_eq_getElem_cons hlt, List.flatMap_cons, List.append_assoc]
  rfl
theorem be8s_len : ∀ l : List Int, (l.flatMap be8).length = 8 * l.length
 | [] => rfl
 | x :: l => by rw [List.flatMap_cons, List.length_append, be8_len, be8s_len l, List.length_cons]; omega
theorem F77_ok (k : Nat) (hk : 10000000 ≤ k) (l : List Int) (hl : l.length ≤ 1000000) : F77 k l = some ((bstr (l.flatMap be8), ()), ()) := by
 have e := F77_1_ok k hk l (by omega) l.length k 0 [] (Nat.zero_add _) (by omega) rfl
 rw [show ((0 : Nat) : Int) = 0 from rfl, List.drop_zero, List.nil_append] at e
 unfold F77
 rw [e, Option.bind_some]
 simp only
 rw [if_pos (by rw [be8s_len]; omega)]
theorem u8_inj {x y : Int} (hx : 0 ≤ x ∧ x ≤ 255) (hy : 0 ≤ y ∧ y ≤ 255) (h : UInt8.ofNat x.toNat = UInt8.ofNat y.toNat) : x = y := by
 have := congrArg UInt8.toNat h
 simp only [UInt8.toNat_ofNat'] at this
 omega
theorem bstr_injB : ∀ {a b : List Int}, IsB a → IsB b → bstr a = bstr b → a = b := by
 intro a b ha hb h
 unfold bstr at h
 have h1 := congrArg (fun x => x.data.toList) h
 simp only at h1
 have key : ∀ (a b : List Int), IsB a → IsB b → a.map (fun n => UInt8.ofNat n.toNat) = b.map (fun n => UInt8.ofNat n.toNat) → a = b := by
  intro a
  induction a with
  | nil => intro b _ _ h; cases b with
   | nil => rfl
   | cons y b => simp at h
  | cons x a ih => intro b ha hb h; cases b with
   | nil => simp at h
   | cons y b =>
    simp only [List.map_cons, List.cons.injEq] at h
    rw [u8_inj (ha x List.mem_cons_self) (hb y List.mem_cons_self) h.1, ih b (fun z hz => ha z (List.mem_cons_of_mem _ hz)) (fun z hz => hb z (List.mem_cons_of_mem _ hz)) h.2]
 exact key a b ha hb (by simpa using h1)
theorem be8s_isB (l : List Int) : IsB (l.flatMap be8) := fun x hx => by
 obtain ⟨y, _, h⟩ := List.mem_flatMap.1 hx
 exact be8_isB y x h
theorem be8s_inj : ∀ {a b : List Int}, (∀ x ∈ a, I64 x) → (∀ x ∈ b, I64 x) → a.flatMap be8 = b.flatMap be8 → a = b
 | [], [], _, _, _ => rfl
 | [], y :: b, _, _, h => by have := congrArg List.length h; rw [be8s_len, be8s_len] at this; simp at this
 | x :: a, [], _, _, h => by have := congrArg List.length h; rw [be8s_len, be8s_len] at this; simp at this
 | x :: a, y :: b, ha, hb, h => by
  rw [List.flatMap_cons, List.flatMap_cons] at h
  obtain ⟨e1, e2⟩ := List.append_inj h (by rw [be8_len, be8_len])
  have e3 : x = y := by rw [← valL_be8 x (ha x List.mem_cons_self), e1, valL_be8 y (hb y List.mem_cons_self)]
  rw [e3, be8s_inj (fun z hz => ha z (List.mem_cons_of_mem _ hz)) (fun z hz => hb z (List.mem_cons_of_mem _ hz)) e2]
abbrev Rows := List (List Int)
def ShW (ss : List SideT) (R : Rows) : Prop := R.map List.length = ss.map (·.1.length) ∧ ∀ r ∈ R, CstL r
abbrev flatW (R : Rows) : List Int := R.flatten
theorem flatW_len {ss : List SideT} {R : Rows} (h : ShW ss R) : (flatW R).length = tot ss := by
 unfold flatW tot
 rw [List.length_flatten, h.1]
theorem flatW_inj : ∀ {ss : List SideT} {A B : Rows}, A.map List.length = ss.map (·.1.length) → B.map List.length = ss.map (·.1.length) → A.flatten = B.flatten → A = B
 | [], [], [], _, _, _ => rfl
 | [], _ :: _, _, h, _, _ => by simp at h
 | [], [], _ :: _, _, h, _ => by simp at h
 | _ :: _, [], _, h, _, _ => by simp at h
 | _ :: _, _ :: _, [], _, h, _ => by simp at h
 | s :: ss, a :: A, b :: B, h1, h2, h => by
  simp only [List.map_cons, List.cons.injEq] at h1 h2
  simp only [List.flatten_cons] at h
  obtain ⟨e1, e2⟩ := List.append_inj h (by omega)
  rw [e1, flatW_inj (ss := ss) h1.2 h2.2 e2]
def keyW (R : Rows) : ByteArray := bstr ((flatW R).flatMap be8)
theorem flatW_I64 {ss : List SideT} {R : Rows} (h : ShW ss R) : ∀ x ∈ flatW R, I64 x := fun x hx => by
 obtain ⟨r, hr, hx⟩ := List.mem_flatten.1 hx
 have := h.2 r hr x hx
 unfold Cst at this
 unfold I64
 omega
theorem keyW_inj {ss : List SideT} {A B : Rows} (h1 : ShW ss A) (h2 : ShW ss B) (h : keyW A = keyW B) : A = B :=
 flatW_inj h1.1 h2.1 (be8s_inj (flatW_I64 h1) (flatW_I64 h2) (bstr_injB (be8s_isB _) (be8s_isB _) h))
abbrev MkW := (((Option (List (ByteArray × Int))) × ((List (List Int)) × Unit)) × ((List SideT) × ((List (List Bool)) × Unit)))
abbrev mkw (mp : List (ByteArray × Int)) (ss : List SideT) (I : InT) (l : List Rows) : MkW := ((some mp, (l.map flatW, ())), (ss, (I, ())))
theorem F48_ok (k : Nat) (hk : 10000000 ≤ k) (ss : List SideT) (I : InT) (l : List Rows) (x : Rows) (hl : l.length ≤ 1000000000) (hs : ∀ y ∈ l, ShW ss y) (hx : ShW ss x) (ht : tot ss ≤ 1000000) :
  F48 k (mkw (mapK 0 (l.map keyW)) ss I l) (flatW x) = some ((((ix l x : Nat) : Int), ()), (mkw (mapK 0 ((put1 l x).map keyW)) ss I (put1 l x), ())) := by
 have hinj : ∀ y ∈ l, keyW y = keyW x → y = x := fun y hy e => keyW_inj (hs y hy) hx e
 have hmem : keyW x ∈ l.map keyW ↔ x ∈ l := by
  constructor
  ·intro hm
   obtain ⟨y, hy, e⟩ := List.mem_map.1 hm
   rw [← hinj y hy e]
   exact hy
  ·exact fun hm => List.mem_map.2 ⟨x, hm, rfl⟩
 unfold F48
 rw [F77_ok k hk _ (by rw [flatW_len hx]; exact ht), Option.bind_some]
 simp only [Option.getD_some, Option.isSome_some, if_true]
 rw [show bstr ((flatW x).flatMap be8) = keyW x from rfl]
 by_cases hx' : x ∈ l
 ·rw [find_mem (hmem.2 hx'), Bool.not_true, cond_false, ix_map keyW l x hinj, put1_in hx']
 ·have hp := mapK_put (keyW x) (l.map keyW) 0 fun q => hx' (hmem.1 q)
  rw [Nat.zero_add, List.length_map] at hp
  rw [find_no fun q => hx' (hmem.1 q), Bool.not_false, cond_true, List.length_map, hp, if_pos (by rw [List.length_singleton]; omega), put1_no hx', ix_no hx']
  simp only [mkw, List.map_append]
  rfl
theorem F49_0_ok (k : Nat) (n : Nat) (hn : n ≤ 100000000) : ∀ (d m i : Nat), i + d = n → d < m → F49_0 k m (n : Int) (i : Int) (List.replicate i INF1 ++ List.replicate d 0) = some ((), (List.replicate n INF1, ()))
 | 0, m, i, hi, hm => by
  obtain ⟨m, rfl⟩ := pos1 (m := m) (by omega)
  simp only [F49_0]
  rw [decide_eq_false (by omega), cond_false, show i = n by omega]
  simp
 | d + 1, m, i, hi, hm => by
  obtain ⟨m, rfl⟩ := pos1 (m := m) (by omega)
  have hlt : i < n := by omega
  have hs : List.set (List.replicate i INF1 ++ List.replicate (d + 1) 0) i (1152921504606846976 : Int) = List.replicate (i + 1) INF1 ++ List.replicate d 0 := by
   rw [List.set_append_right _ _ (by simp), List.length_replicate, Nat.sub_self, List.replicate_succ, List.set_cons_zero, List.replicate_succ', List.append_assoc]
   rfl
  simp only [F49_0]
  rw [dlt hlt, cond_true, if_pos (by simp; omega), tnI i, hs, wsucc i _ hlt (by omega), F49_0_ok k n hn d m (i + 1) (by omega) (by omega)]
  rfl
theorem F49_ok (k : Nat) (n : Nat) (hn : n < k) (h2 : n ≤ 1000000) : F49 k (n : Int) = some ((List.replicate n INF1, ()), ()) := by
 have e := F49_0_ok k n (by omega) n k 0 (Nat.zero_add _) hn
 rw [show ((0 : Nat) : Int) = 0 from rfl, List.replicate_zero, List.nil_append] at e
 unfold F49
 rw [if_pos (by omega), tnI n]
 simp only
 rw [List.length_replicate, e, Option.bind_some]
theorem F50_0_ok (k : Nat) (ss : List SideT) (hn : ss.length ≤ 1000000) (ht : tot ss ≤ 100000000) : ∀ (d m i : Nat), i + d = ss.length → d < m →
  F50_0 k m ((tot (ss.take i) : Nat) : Int) ss (ss.length : Int) (i : Int) = some ((((tot ss : Nat) : Int), ()), ())
 | 0, m, i, hi, hm => by
  obtain ⟨m, rfl⟩ := pos1 (m := m) (by omega)
  simp only [F50_0]
  rw [decide_eq_false (by omega), cond_false, List.take_of_length_le (by omega)]
 | d + 1, m, i, hi, hm => by
  obtain ⟨m, rfl⟩ := pos1 (m := m) (by omega)
  have hlt : i < ss.length := by omega
  have htk : tot (ss.take (i + 1)) = tot (ss.take i) + ss[i].1.length := by
   rw [List.take_succ_eq_append_getElem hlt, tot_app]
   simp [tot]
  have htot : tot ss = tot (ss.take (i + 1)) + tot (ss.drop (i + 1)) := by rw [← tot_app, List.take_append_drop]
  simp only [F50_0]
  rw [dlt hlt, cond_true, if_pos (inR hlt), tnI i, getD_lt _ _ _ hlt, waddN _ _ (by omega), ← htk, wsucc i _ hlt (by omega), F50_0_ok k ss hn ht d m (i + 1) (by omega) (by omega)]
  rfl
theorem F50_ok (k : Nat) (hk : 10000000 ≤ k) (ss : List SideT) (hn : ss.length ≤ 1000000) (ht : tot ss ≤ 100000000) : F50 k ss = some ((((tot ss : Nat) : Int), ()), ()) := by
 have e := F50_0_ok k ss hn ht ss.length k 0 (Nat.zero_add _) (by omega)
 rw [show ((0 : Nat) : Int) = 0 from rfl, List.take_zero, show ((tot ([] : List SideT) : Nat) : Int) = 0 from rfl] at e
 unfold F50
 rw [e, Option.bind_some]
end Go.Proofs.YtgmmopbpldgpcaaE
set_option linter.unusedSimpArgs false
set_option linter.unusedVariables false
set_option maxRecDepth 20000
namespace Go.Proofs.YtgmmopbpldgpcaaE
structure SOC (s : SideT) : Prop where
 ok : SOK s
 cf : CstL s.2.1
 ce : CstL s.2.2.1
 cn : Cst s.2.2.2.2.1
 ca : ∀ x ∈ s.2.2.2.1, Cst x.2.2.1
def arcC (r : List Int) (l : List Int) (x : ArcT) : List Int := List.set l x.2.1.toNat (minI (List.getD l x.2.1.toNat 0) (adI (List.getD r x.1.toNat 0) x.2.2.1))
def farC (s : SideT) (r : List Int) : List Int := s.2.2.2.1.foldl (arcC r) s.2.1
def maskC (I : InT) (s : SideT) (a i : Nat) (l : List Int) : List Int := (List.range l.length).map fun p => if p < i ∧ ofP I s p a = false then INF1 else List.getD l p 0
def stepC (I : InT) (s : SideT) (a : Nat) (r : List Int) : List Int := maskC I s a s.1.length (farC s r)
theorem arcC_len (r l : List Int) (x : ArcT) : (arcC r l x).length = l.length := List.length_set
theorem arcsC_len (r : List Int) : ∀ (xs : List ArcT) (l : List Int), (xs.foldl (arcC r) l).length = l.length
 | [], l => rfl
 | x :: xs, l => by rw [List.foldl_cons, arcsC_len r xs, arcC_len]
theorem maskC_len (I : InT) (s : SideT) (a i : Nat) (l : List Int) : (maskC I s a i l).length = l.length := by simp [maskC]
theorem maskC_0 (I : InT) (s : SideT) (a : Nat) (l : List Int) : maskC I s a 0 l = l := by
 refine List.ext_getElem (by simp [maskC]) fun i h1 h2 => ?_
 simp only [maskC, List.getElem_map, List.getElem_range]
 rw [if_neg (by omega), getD_lt _ _ _ h2]
theorem maskC_no {I : InT} {s : SideT} {a i : Nat} {l : List Int} (h : ofP I s i a = true) : maskC I s a (i + 1) l = maskC I s a i l := by
 refine List.ext_getElem (by simp [maskC]) fun j h1 h2 => ?_
 simp only [maskC, List.getElem_map, List.getElem_range]
 by_cases e : j = i
 ·subst e; rw [h]; simp
 ·have : j < i + 1 ∧ ofP I s j a = false ↔ j < i ∧ ofP I s j a = false := by constructor <;> exact fun ⟨q, w⟩ => ⟨by omega, w⟩
  simp only [this]
theorem maskC_yes {I : InT} {s : SideT} {a i : Nat} {l : List Int} (hi : i < l.length) (h : ofP I s i a = false) : List.set (maskC I s a i l) i INF1 = maskC I s a (i + 1) l := by
 refine List.ext_getElem (by simp [maskC]) fun j h1 h2 => ?_
 rw [List.getElem_set]
 simp only [maskC, List.getElem_map, List.getElem_range]
 by_cases e : i = j
 ·subst e; rw [if_pos rfl, if_pos ⟨by omega, h⟩]
 ·have : j < i + 1 ∧ ofP I s j a = false ↔ j < i ∧ ofP I s j a = false := by constructor <;> exact fun ⟨q, w⟩ => ⟨by omega, w⟩
  rw [if_neg e]
  simp only [this]
theorem cstL_set {l : List Int} (h : CstL l) {x : Int} (hx : Cst x) (i : Nat) : CstL (List.set l i x) := fun y hy => by
 rcases List.mem_or_eq_of_mem_set hy with q | q
 ·exact h y q
 ·rw [q]; exact hx
theorem cstL_getD {l : List Int} (h : CstL l) (i : Nat) : Cst (List.getD l i 0) := by
 by_cases hi : i < l.length
 ·exact h.at_ hi
 ·rw [List.getD_eq_getElem?_getD, List.getElem?_eq_none (by omega)]
  exact ⟨Int.le_refl _, by decide⟩
theorem arcC_cst {r l : List Int} {x : ArcT} (hr : CstL r) (hl : CstL l) (hx : Cst x.2.2.1) : CstL (arcC r l x) := cstL_set hl (cst_min (cstL_getD hl _) (cst_ad (cstL_getD hr _) hx)) _
theorem arcsC_cst {r : List Int} (hr : CstL r) : ∀ (xs : List ArcT) (l : List Int), CstL l → (∀ x ∈ xs, Cst x.2.2.1) → CstL (xs.foldl (arcC r) l)
 | [], l, hl, _ => hl
 | x :: xs, l, hl, h => by
  rw [List.foldl_cons]
  exact arcsC_cst hr xs _ (arcC_cst hr hl (h x List.mem_cons_self)) fun y hy => h y (List.mem_cons_of_mem _ hy)
theorem maskC_cst {I : InT} {s : SideT} {a i : Nat} {l : List Int} (hl : CstL l) : CstL (maskC I s a i l) := fun x hx => by
 obtain ⟨p, _, e⟩ := List.mem_map.1 hx
 rw [← e]
 split
 ·exact cst_inf
 ·exact cstL_getD hl _
theorem farC_len {s : SideT} (hs : SOK s) (r : List Int) : (farC s r).length = s.1.length := by
 unfold farC
 rw [arcsC_len, hs.lf]
theorem farC_cst {s : SideT} (hs : SOC s) {r : List Int} (hr : CstL r) : CstL (farC s r) := arcsC_cst hr _ _ hs.cf hs.ca
theorem stepC_len {I : InT} {s : SideT} (hs : SOK s) (a : Nat) (r : List Int) : (stepC I s a r).length = s.1.length := by
 unfold stepC
 rw [maskC_len, farC_len hs]
theorem stepC_cst {I : InT} {s : SideT} (hs : SOC s) {a : Nat} {r : List Int} (hr : CstL r) : CstL (stepC I s a r) := maskC_cst (farC_cst hs hr)
def stepW (I : InT) (ss : List SideT) (R : Rows) (a : Nat) : Rows := List.zipWith (fun s r => stepC I s a r) ss R
theorem stepW_shw {I : InT} {a : Nat} : ∀ {ss : List SideT} {R : Rows}, (∀ s ∈ ss, SOC s) → ShW ss R → ShW ss (stepW I ss R a)
 | [], [], _, h => h
 | [], _ :: _, _, h => by have := h.1; simp at this
 | _ :: _, [], _, h => by have := h.1; simp at this
 | s :: ss, r :: R, hs, h => by
  obtain ⟨h1, h2⟩ := h
  simp only [List.map_cons, List.cons.injEq] at h1
  obtain ⟨g1, g2⟩ := stepW_shw (I := I) (a := a) (ss := ss) (R := R) (fun x hx => hs x (List.mem_cons_of_mem _ hx)) ⟨h1.2, fun x hx => h2 x (List.mem_cons_of_mem _ hx)⟩
  have hs0 := hs s List.mem_cons_self
  refine ⟨?_, fun x hx => ?_⟩
  ·show List.map List.length (stepC I s a r :: stepW I ss R a) = _
   rw [List.map_cons, List.map_cons, g1, stepC_len hs0.ok]
  ·rcases List.mem_cons.1 hx with q | q
   ·rw [q]; exact stepC_cst hs0 (h2 r List.mem_cons_self)
   ·exact g2 x q
section
variable (k : Nat) (s : SideT) (I : InT) (a : Nat)
theorem F80_ok (st : (Option (List (ByteArray × Int))) × ((List (List Int)) × Unit)) (ms : List SideT) (p : Nat) (hp : p < s.1.length) : F80 k (some (st, (ms, (I, ())))) s (p : Int) (a : Int) = some ((ofP I s p a, ()), ()) := by
 unfold F80 ofP
 rw [if_pos (inR hp), tnI p]
 simp only [Option.getD_some, Option.isSome_some, if_true]
 by_cases h : List.getD s.1 p 0 < 0
 ·rw [decide_eq_true h, cond_true, Bool.true_or]
 ·rw [decide_eq_false h, cond_false, Bool.false_or]
  generalize hv : List.getD s.1 p 0 = v at h ⊢
  by_cases h2 : v < ((List.length I : Nat) : Int)
  ·rw [decide_eq_true h2, cond_true, if_pos ⟨by omega, h2⟩]
   by_cases h3 : (a : Int) < ((List.length (List.getD I v.toNat []) : Nat) : Int)
   ·rw [decide_eq_true h3, cond_true, if_pos ⟨by omega, h2⟩, if_pos ⟨by omega, h3⟩]
    rfl
   ·rw [decide_eq_false h3, cond_false]
    have : List.getD (List.getD I v.toNat []) a false = false := by
     rw [List.getD_eq_getElem?_getD, List.getElem?_eq_none (by omega)]; rfl
    rw [this]
  ·rw [decide_eq_false h2, cond_false]
   have : List.getD I v.toNat [] = [] := by
    rw [List.getD_eq_getElem?_getD, List.getElem?_eq_none (by omega)]; rfl
   rw [this]
   rfl
theorem fillL_mid (b post : List Int) : ∀ (vs pre c : List Int), vs.length = c.length → fillL (pre ++ (c ++ post)) pre.length vs = pre ++ (vs ++ post)
 | [], pre, c, h => by
  cases c with
  | nil => rfl
  | cons x c => simp at h
 | v :: vs, pre, [], h => by simp at h
 | v :: vs, pre, x :: c, h => by
  have ih := fillL_mid b post vs (pre ++ [v]) c (by simpa using h)
  rw [List.length_append, List.length_singleton, List.append_assoc, List.append_assoc] at ih
  rw [fillL, List.set_append_right _ _ (Nat.le_refl _), Nat.sub_self, List.cons_append, List.set_cons_zero]
  exact ih
theorem copyL_mid (vs pre c post : List Int) (h : vs.length = c.length) (n : Nat) (hn : vs.length ≤ n) : copyL (pre ++ (c ++ post)) pre.length n vs = pre ++ (vs ++ post) := by
 unfold copyL
 rw [List.take_of_length_le hn]
 exact fillL_mid [] post vs pre c h
theorem F51_0_ok (hk : 10000000 ≤ k) (hs : SOC s) (M : Option MkW) (r : List Int) (hr : r.length = s.1.length) (hrc : CstL r) (t2 : Int) (t20 : List SideT) (t21 t22 : Int) (preB postB pre post : List Int) (hp : preB.length = pre.length) (hb : pre.length + s.1.length ≤ 1000000000000) : ∀ (d m i : Nat) (row : List Int), i + d = s.2.2.2.1.length → d < m → row.length = s.1.length → CstL row →
  F51_0 k m M (preB ++ (r ++ postB)) t2 (pre.length : Int) t20 t21 t22 s.2.2.2.1 (s.2.2.2.1.length : Int) (i : Int) s (pre ++ (row ++ post)) =
   some ((M, preB ++ (r ++ postB), t2, (pre.length : Int), t20, t21, t22, ()), (s, pre ++ ((s.2.2.2.1.drop i).foldl (arcC r) row ++ post), ()))
 | 0, m, i, row, hi, hm, hrow, hc => by
  obtain ⟨m, rfl⟩ := pos1 (m := m) (by omega)
  simp only [F51_0]
  rw [decide_eq_false (by omega), cond_false, List.drop_eq_nil_of_le (by omega)]
  rfl
 | d + 1, m, i, row, hi, hm, hrow, hc => by
  obtain ⟨m, rfl⟩ := pos1 (m := m) (by omega)
  have hlt : i < s.2.2.2.1.length := by omega
  have hla := hs.ok.la
  have hln := hs.ok.ln
  obtain ⟨⟨f0, f1⟩, g0, g1⟩ := hs.ok.arcs _ (List.getElem_mem hlt)
  have hx := hs.ca _ (List.getElem_mem hlt)
  have ih := fun row' hrow' hc' => F51_0_ok hk hs M r hr hrc t2 t20 t21 t22 preB postB pre post hp hb d m (i + 1) row' (by omega) (by omega) hrow' hc'
  have hdrop : s.2.2.2.1.drop i = s.2.2.2.1[i] :: s.2.2.2.1.drop (i + 1) := List.drop_eq_getElem_cons hlt
  rw [hdrop, List.foldl_cons]
  simp only [F51_0]
  rw [dlt hlt, cond_true, if_pos (inR hlt), tnI i, wsucc i _ hlt (by omega), getD_lt _ _ _ hlt]
  generalize s.2.2.2.1[i] = x at f0 f1 g0 g1 hx ⊢
  obtain ⟨x1, hx1⟩ : ∃ n : Nat, x.1 = (n : Int) := ⟨x.1.toNat, by omega⟩
  obtain ⟨x2, hx2⟩ : ∃ n : Nat, x.2.1 = (n : Int) := ⟨x.2.1.toNat, by omega⟩
  have n1 : x1 < s.1.length := by omega
  have n2 : x2 < s.1.length := by omega
  have hin1 : 0 ≤ ((pre.length + x1 : Nat) : Int) ∧ ((pre.length + x1 : Nat) : Int) < ((List.length (preB ++ (r ++ postB)) : Nat) : Int) := by
   simp only [List.length_append]
   omega
  have hin2 : 0 ≤ ((pre.length + x2 : Nat) : Int) ∧ ((pre.length + x2 : Nat) : Int) < ((List.length (pre ++ (row ++ post)) : Nat) : Int) := by
   simp only [List.length_append]
   omega
  have harc : arcC r row x = List.set row x2 (minI (List.getD row x2 0) (adI (List.getD r x1 0) x.2.2.1)) := by
   unfold arcC
   rw [hx1, hx2]
   rfl
  have h1 : List.getD (preB ++ (r ++ postB)) (pre.length + x1) 0 = List.getD r x1 0 := by rw [← hp, getD_mid _ _ _ _ _ (by omega)]
  rw [hx1, hx2, waddN _ _ (by omega), waddN _ _ (by omega), if_pos hin2, if_pos hin1, tnI (pre.length + x1), tnI (pre.length + x2), h1, F79_ad k _ _ (cstL_getD hrc _) hx, Option.bind_some]
  simp only
  rw [getD_mid _ _ _ _ _ (by omega), set2, F78_two k (by omega) _ _ (cstL_getD hc _), Option.bind_some]
  simp only
  rw [if_pos hin2, set_mid _ _ _ _ _ (by omega), ← harc, ih _ (by rw [arcC_len]; exact hrow) (arcC_cst hrc hc hx)]
  rfl
theorem F51_1_ok (hs : SOK s) (st : (Option (List (ByteArray × Int))) × ((List (List Int)) × Unit)) (ms : List SideT) (t1 : List Int) (t20 : List SideT) (t21 t22 : Int) (pre post : List Int) (hb : pre.length + s.1.length ≤ 1000000000000) (row : List Int) (hrow : row.length = s.1.length) : ∀ (d m i : Nat), i + d = s.1.length → d < m →
  F51_1 k m (some (st, (ms, (I, ())))) t1 (a : Int) (pre.length : Int) t20 t21 t22 (s.1.length : Int) (i : Int) s (pre ++ (maskC I s a i row ++ post)) =
   some ((some (st, (ms, (I, ()))), t1, (a : Int), (pre.length : Int), t20, t21, t22, ()), (s, pre ++ (maskC I s a s.1.length row ++ post), ()))
 | 0, m, i, hi, hm => by
  obtain ⟨m, rfl⟩ := pos1 (m := m) (by omega)
  have : i = s.1.length := by omega
  subst this
  simp only [F51_1]
  rw [decide_eq_false (by omega), cond_false]
 | d + 1, m, i, hi, hm => by
  obtain ⟨m, rfl⟩ := pos1 (m := m) (by omega)
  have hlt : i < s.1.length := by omega
  have hln := hs.ln
  have ih := F51_1_ok hs st ms t1 t20 t21 t22 pre post hb row hrow d m (i + 1) (by omega) (by omega)
  simp only [F51_1]
  rw [dlt hlt, cond_true, F80_ok k s I a st ms i hlt, Option.bind_some, wsucc i _ hlt (by omega)]
  simp only
  cases ho : ofP I s i a with
  | false =>
   have hin : 0 ≤ ((pre.length + i : Nat) : Int) ∧ ((pre.length + i : Nat) : Int) < ((List.length (pre ++ (maskC I s a i row ++ post)) : Nat) : Int) := by
    simp only [List.length_append, maskC_len]
    omega
   rw [Bool.not_false, cond_true, waddN _ _ (by omega), if_pos hin, tnI (pre.length + i), set_mid _ _ _ _ _ (by rw [maskC_len]; omega), show List.set (maskC I s a i row) i (1152921504606846976 : Int) = _ from maskC_yes (by omega) ho, ih]
   rfl
  | true =>
   rw [Bool.not_true, cond_false, ← maskC_no ho, ih]
   rfl
end
theorem F51_2_ok (k : Nat) (st : (Option (List (ByteArray × Int))) × ((List (List Int)) × Unit)) (I : InT) (ss : List SideT) (a : Nat) (R : Rows) (hk : 10000000 ≤ k) (hs : ∀ s ∈ ss, SOC s) (hR : ShW ss R) (hn : ss.length ≤ 1000000) (ht : tot ss ≤ 100000000) : ∀ (d m i : Nat) (D : Rows), i + d = ss.length → d < m → ShW (ss.take i) D →
  F51_2 k m (some (st, (ss, (I, ())))) (flatW R) (a : Int) ((tot (ss.take i) : Nat) : Int) ss (ss.length : Int) (i : Int) (flatW D ++ List.replicate (tot (ss.drop i)) INF1) = some ((), (flatW (D ++ stepW I (ss.drop i) (R.drop i) a), ()))
 | 0, m, i, D, hi, hm, hD => by
  obtain ⟨m, rfl⟩ := pos1 (m := m) (by omega)
  simp only [F51_2]
  rw [decide_eq_false (by omega), cond_false, List.drop_eq_nil_of_le (by omega : ss.length ≤ i)]
  simp [tot, stepW]
 | d + 1, m, i, D, hi, hm, hD => by
  obtain ⟨m, rfl⟩ := pos1 (m := m) (by omega)
  have hlt : i < ss.length := by omega
  have hlL : R.length = ss.length := by have := congrArg List.length hR.1; simpa using this
  have hlt2 : i < R.length := by omega
  have hss : ss.drop i = ss[i] :: ss.drop (i + 1) := List.drop_eq_getElem_cons hlt
  have hLL : R.drop i = R[i] :: R.drop (i + 1) := List.drop_eq_getElem_cons hlt2
  have hso := hs _ (List.getElem_mem hlt)
  have hrl : R[i].length = ss[i].1.length := by
   have := congrArg (fun l => l[i]?) hR.1
   simpa [List.getElem?_map, hlt, hlt2] using this
  have hrc := hR.2 _ (List.getElem_mem hlt2)
  have htk : tot (ss.take (i + 1)) = tot (ss.take i) + ss[i].1.length := by
   rw [List.take_succ_eq_append_getElem hlt, tot_app]
   simp [tot]
  have htd : tot (ss.drop i) = ss[i].1.length + tot (ss.drop (i + 1)) := by rw [hss, tot_cons]
  have htot : tot ss = tot (ss.take i) + tot (ss.drop i) := by rw [← tot_app, List.take_append_drop]
  have hLsplit : flatW R = flatW (R.take i) ++ (R[i] ++ flatW (R.drop (i + 1))) := by
   have h0 : R = R.take i ++ (R[i] :: R.drop (i + 1)) := by rw [← hLL, List.take_append_drop]
   calc flatW R = flatW (R.take i ++ (R[i] :: R.drop (i + 1))) := congrArg flatW h0
    _ = _ := by
     show (R.take i ++ (R[i] :: R.drop (i + 1))).flatten = _
     rw [List.flatten_append, List.flatten_cons]
  have hLt : ShW (ss.take i) (R.take i) := ⟨by rw [List.map_take, List.map_take, hR.1], fun r hr => hR.2 r (List.mem_of_mem_take hr)⟩
  have hpl : (flatW (R.take i)).length = tot (ss.take i) := flatW_len hLt
  have hDl : (flatW D).length = tot (ss.take i) := flatW_len hD
  have hrep : List.replicate (tot (ss.drop i)) INF1 = List.replicate ss[i].1.length INF1 ++ List.replicate (tot (ss.drop (i + 1))) INF1 := by
   rw [htd, ← List.replicate_append_replicate]
  have hln := hso.ok.ln
  have hla := hso.ok.la
  have hlf := hso.ok.lf
  have hcp := copyL_mid ss[i].2.1 (flatW D) (List.replicate ss[i].1.length INF1) (List.replicate (tot (ss.drop (i + 1))) INF1) (by rw [List.length_replicate]; omega) (Int.toNat ((List.length (flatW D ++ (List.replicate ss[i].1.length INF1 ++ List.replicate (tot (ss.drop (i + 1))) INF1)) : Nat) : Int) - (flatW D).length) (by rw [tnI, List.length_append, List.length_append, List.length_replicate]; omega)
  have e0 := F51_0_ok k ss[i] hk hso (some (st, (ss, (I, ())))) R[i] hrl hrc (a : Int) ss (ss.length : Int) (i : Int) (flatW (R.take i)) (flatW (R.drop (i + 1))) (flatW D) (List.replicate (tot (ss.drop (i + 1))) INF1) (by omega) (by omega) ss[i].2.2.2.1.length k 0 ss[i].2.1 (Nat.zero_add _) (by omega) (by omega) hso.cf
  have e1 := F51_1_ok k ss[i] I a hso.ok st ss (flatW R) ss (ss.length : Int) (i : Int) (flatW D) (List.replicate (tot (ss.drop (i + 1))) INF1) (by omega) (farC ss[i] R[i]) (farC_len hso.ok _) ss[i].1.length k 0 (Nat.zero_add _) (by omega)
  rw [show ((0 : Nat) : Int) = 0 from rfl, maskC_0] at e1
  rw [show ((0 : Nat) : Int) = 0 from rfl, List.drop_zero, ← hLsplit] at e0
  have ih := F51_2_ok k st I ss a R hk hs hR hn ht d m (i + 1) (D ++ [stepC I ss[i] a R[i]]) (by omega) (by omega) (by
   refine ⟨?_, fun r hr => ?_⟩
   ·rw [List.take_succ_eq_append_getElem hlt, List.map_append, List.map_append, hD.1]
    simp [stepC_len hso.ok]
   ·rcases List.mem_append.1 hr with q | q
    ·exact hD.2 r q
    ·rw [List.mem_singleton.1 q]; exact stepC_cst hso hrc)
  have hfl : flatW D ++ (maskC I ss[i] a ss[i].1.length (farC ss[i] R[i]) ++ List.replicate (tot (ss.drop (i + 1))) INF1) = flatW (D ++ [stepC I ss[i] a R[i]]) ++ List.replicate (tot (ss.drop (i + 1))) INF1 := by
   simp [flatW, stepC]
  have hst : stepW I (ss.drop i) (R.drop i) a = stepC I ss[i] a R[i] :: stepW I (ss.drop (i + 1)) (R.drop (i + 1)) a := by
   rw [hss, hLL]
   rfl
  simp only [F51_2]
  rw [dlt hlt, cond_true, if_pos (inR hlt), tnI i, getD_lt _ _ _ hlt, hrep, ← hDl, if_pos (by simp only [List.length_append]; omega), tnI (flatW D).length, hcp, e0, Option.bind_some]
  simp only
  rw [show (ss[i].2.2.2.1).foldl (arcC R[i]) ss[i].2.1 = farC ss[i] R[i] from rfl, e1, Option.bind_some]
  simp only
  rw [hDl, waddN _ _ (by omega), ← htk, wsucc i _ hlt (by omega), hfl, ih, hst, List.append_assoc]
  rfl
theorem F51_ok (k : Nat) (st : (Option (List (ByteArray × Int))) × ((List (List Int)) × Unit)) (I : InT) (ss : List SideT) (a : Nat) (R : Rows) (hk : 10000000 ≤ k) (hs : ∀ s ∈ ss, SOC s) (hR : ShW ss R) (hn : ss.length ≤ 1000000) (ht : tot ss ≤ 1000000) :
  F51 k (some (st, (ss, (I, ())))) (flatW R) (a : Int) = some ((flatW (stepW I ss R a), ()), ()) := by
 have hfl := flatW_len hR
 have e := F51_2_ok k st I ss a R hk hs hR hn (by omega) ss.length k 0 [] (Nat.zero_add _) (by omega) ⟨rfl, fun r hr => by cases hr⟩
 rw [show ((0 : Nat) : Int) = 0 from rfl, List.take_zero, List.drop_zero, List.drop_zero, List.nil_append, show ((tot ([] : List SideT) : Nat) : Int) = 0 from rfl, show flatW [] = [] from rfl, List.nil_append] at e
 unfold F51
 rw [hfl, F49_ok k _ (by omega) ht, Option.bind_some]
 simp only [Option.isSome_some, if_true, Option.getD_some]
 rw [e, Option.bind_some]
end Go.Proofs.YtgmmopbpldgpcaaE
set_option linter.unusedSimpArgs false
set_option linter.unusedVariables false
set_option maxRecDepth 20000
namespace Go.Proofs.YtgmmopbpldgpcaaE
section
variable (k : Nat) (I : InT) (N : Nat) (ss : List SideT) (a : Nat) (R : Rows)
end
def endC (s : SideT) (r : List Int) : Int := (List.zipWith adI r s.2.2.1).foldl minI s.2.2.2.2.1
def endsW (ss : List SideT) (R : Rows) : List Int := List.zipWith endC ss R
theorem foldl_min_cst : ∀ (l : List Int) (c : Int), Cst c → CstL l → Cst (l.foldl minI c)
 | [], c, h, _ => h
 | x :: l, c, h, hl => foldl_min_cst l _ (cst_min h (hl x List.mem_cons_self)) fun y hy => hl y (List.mem_cons_of_mem _ hy)
theorem zipAd_cst : ∀ {a b : List Int}, CstL a → CstL b → CstL (List.zipWith adI a b)
 | [], _, _, _ => fun x hx => by simp at hx
 | _ :: _, [], _, _ => fun x hx => by simp at hx
 | x :: a, y :: b, ha, hb => fun z hz => by
  rw [List.zipWith_cons_cons] at hz
  rcases List.mem_cons.1 hz with q | q
  ·rw [q]; exact cst_ad (ha x List.mem_cons_self) (hb y List.mem_cons_self)
  ·exact zipAd_cst (fun z hz => ha z (List.mem_cons_of_mem _ hz)) (fun z hz => hb z (List.mem_cons_of_mem _ hz)) z q
theorem endC_cst {s : SideT} (hs : SOC s) {r : List Int} (hr : CstL r) : Cst (endC s r) := foldl_min_cst _ _ hs.cn (zipAd_cst hr hs.ce)
theorem endsW_len {ss : List SideT} {R : Rows} (h : ShW ss R) : (endsW ss R).length = ss.length := by
 have hlL : R.length = ss.length := by have := congrArg List.length h.1; simpa using this
 simp [endsW, hlL]
theorem zip_drop {f : Int → Int → Int} {a b : List Int} {i : Nat} (h1 : i < a.length) (h2 : i < b.length) : (List.zipWith f a b).drop i = f a[i] b[i] :: (List.zipWith f a b).drop (i + 1) := by
 rw [List.drop_eq_getElem_cons (by rw [List.length_zipWith]; omega), List.getElem_zipWith]
theorem F52_0_ok (k : Nat) (s : SideT) (hs : SOC s) (r : List Int) (hr : r.length = s.1.length) (hrc : CstL r) (t15 : List SideT) (t16 t17 : Int) (pre post : List Int) (D : List Int) (hb : pre.length + s.1.length ≤ 1000000000000) : ∀ (d m i : Nat) (acc : List Int), i + d = s.1.length → d < m → acc.length = i + 1 →
  F52_0 k m (pre ++ (r ++ post)) (pre.length : Int) t15 t16 t17 s.2.2.1 (s.2.2.1.length : Int) (i : Int) s D acc = some ((pre ++ (r ++ post), (pre.length : Int), t15, t16, t17, ()), (s, D, acc ++ (List.zipWith adI r s.2.2.1).drop i, ()))
 | 0, m, i, acc, hi, hm, ha => by
  obtain ⟨m, rfl⟩ := pos1 (m := m) (by omega)
  have hle := hs.ok.le
  simp only [F52_0]
  rw [decide_eq_false (by omega), cond_false, List.drop_eq_nil_of_le (by rw [List.length_zipWith]; omega), List.append_nil]
 | d + 1, m, i, acc, hi, hm, ha => by
  obtain ⟨m, rfl⟩ := pos1 (m := m) (by omega)
  have hle := hs.ok.le
  have hln := hs.ok.ln
  have hlt : i < s.1.length := by omega
  have hlt1 : i < r.length := by omega
  have hlt2 : i < s.2.2.1.length := by omega
  have hin : 0 ≤ ((pre.length + i : Nat) : Int) ∧ ((pre.length + i : Nat) : Int) < ((List.length (pre ++ (r ++ post)) : Nat) : Int) := by
   simp only [List.length_append]
   omega
  simp only [F52_0]
  rw [dlt hlt2, cond_true, if_pos (inR hlt2), waddN _ _ (by omega), if_pos hin, tnI (pre.length + i), tnI i, getD_mid _ _ _ _ _ hlt1, F79_ad k _ _ (cstL_getD hrc _) (cstL_getD hs.ce _), Option.bind_some]
  simp only
  rw [one_list, if_pos (by rw [List.length_singleton]; omega), wsucc i _ hlt (by omega), F52_0_ok k s hs r hr hrc t15 t16 t17 pre post D hb d m (i + 1) _ (by omega) (by omega) (by simp [ha]), zip_drop hlt1 hlt2, getD_lt _ _ _ hlt1, getD_lt _ _ _ hlt2, List.append_assoc]
  rfl
theorem F52_1_ok (k : Nat) (ss : List SideT) (R : Rows) (hk : 10000000 ≤ k) (hs : ∀ s ∈ ss, SOC s) (hR : ShW ss R) (hn : ss.length ≤ 1000000) (ht : tot ss ≤ 100000000) : ∀ (d m i : Nat) (D : List Int), i + d = ss.length → d < m → D.length = i →
  F52_1 k m (flatW R) ((tot (ss.take i) : Nat) : Int) ss (ss.length : Int) (i : Int) D = some ((), (D ++ endsW (ss.drop i) (R.drop i), ()))
 | 0, m, i, D, hi, hm, hD => by
  obtain ⟨m, rfl⟩ := pos1 (m := m) (by omega)
  simp only [F52_1]
  rw [decide_eq_false (by omega), cond_false, List.drop_eq_nil_of_le (by omega : ss.length ≤ i)]
  simp [endsW]
 | d + 1, m, i, D, hi, hm, hD => by
  obtain ⟨m, rfl⟩ := pos1 (m := m) (by omega)
  have hlt : i < ss.length := by omega
  have hlL : R.length = ss.length := by have := congrArg List.length hR.1; simpa using this
  have hlt2 : i < R.length := by omega
  have hso := hs _ (List.getElem_mem hlt)
  have hrl : R[i].length = ss[i].1.length := by
   have := congrArg (fun l => l[i]?) hR.1
   simpa [List.getElem?_map, hlt, hlt2] using this
  have hrc := hR.2 _ (List.getElem_mem hlt2)
  have htk : tot (ss.take (i + 1)) = tot (ss.take i) + ss[i].1.length := by
   rw [List.take_succ_eq_append_getElem hlt, tot_app]
   simp [tot]
  have htot : tot ss = tot (ss.take i) + tot (ss.drop i) := by rw [← tot_app, List.take_append_drop]
  have htd : tot (ss.drop i) = ss[i].1.length + tot (ss.drop (i + 1)) := by rw [List.drop_eq_getElem_cons hlt, tot_cons]
  have hLsplit : flatW R = flatW (R.take i) ++ (R[i] ++ flatW (R.drop (i + 1))) := by
   have h0 : R = R.take i ++ (R[i] :: R.drop (i + 1)) := by rw [← List.drop_eq_getElem_cons hlt2, List.take_append_drop]
   calc flatW R = flatW (R.take i ++ (R[i] :: R.drop (i + 1))) := congrArg flatW h0
    _ = _ := by
     show (R.take i ++ (R[i] :: R.drop (i + 1))).flatten = _
     rw [List.flatten_append, List.flatten_cons]
  have hLt : ShW (ss.take i) (R.take i) := ⟨by rw [List.map_take, List.map_take, hR.1], fun r hr => hR.2 r (List.mem_of_mem_take hr)⟩
  have hpl : (flatW (R.take i)).length = tot (ss.take i) := flatW_len hLt
  have hln := hso.ok.ln
  have hle := hso.ok.le
  have e0 := F52_0_ok k ss[i] hso R[i] hrl hrc ss (ss.length : Int) (i : Int) (flatW (R.take i)) (flatW (R.drop (i + 1))) D (by omega) ss[i].1.length k 0 [ss[i].2.2.2.2.1] (Nat.zero_add _) (by omega) rfl
  rw [show ((0 : Nat) : Int) = 0 from rfl, List.drop_zero, ← hLsplit, hpl] at e0
  have ih := F52_1_ok k ss R hk hs hR hn ht d m (i + 1) (D ++ [endC ss[i] R[i]]) (by omega) (by omega) (by simp [hD])
  have hst : endsW (ss.drop i) (R.drop i) = endC ss[i] R[i] :: endsW (ss.drop (i + 1)) (R.drop (i + 1)) := by
   rw [show ss.drop i = ss[i] :: ss.drop (i + 1) from List.drop_eq_getElem_cons hlt, show R.drop i = R[i] :: R.drop (i + 1) from List.drop_eq_getElem_cons hlt2]
   rfl
  have hll : ([ss[i].2.2.2.2.1] ++ List.zipWith adI R[i] ss[i].2.2.1).length ≤ 100001 := by
   rw [List.length_append, List.length_zipWith, List.length_singleton]
   omega
  simp only [F52_1]
  rw [dlt hlt, cond_true, if_pos (inR hlt), tnI i, getD_lt _ _ _ hlt, one_list, e0, Option.bind_some]
  simp only
  rw [F78_ok k _ (by omega) (by omega), Option.bind_some]
  simp only
  rw [List.singleton_append, List.foldl_cons, minI_c' hso.cn, show (List.zipWith adI R[i] ss[i].2.2.1).foldl minI ss[i].2.2.2.2.1 = endC ss[i] R[i] from rfl, one_list, if_pos (by rw [List.length_singleton]; omega), waddN _ _ (by omega), ← htk, wsucc i _ hlt (by omega), ih, hst, List.append_assoc]
  rfl
theorem F52_ok (k : Nat) (st : (Option (List (ByteArray × Int))) × ((List (List Int)) × Unit)) (I : InT) (ss : List SideT) (R : Rows) (hk : 10000000 ≤ k) (hs : ∀ s ∈ ss, SOC s) (hR : ShW ss R) (hn : ss.length ≤ 1000000) (ht : tot ss ≤ 100000000) :
  F52 k (some (st, (ss, (I, ())))) (flatW R) = some ((endsW ss R, ()), ()) := by
 have e := F52_1_ok k ss R hk hs hR hn ht ss.length k 0 [] (Nat.zero_add _) (by omega) rfl
 rw [show ((0 : Nat) : Int) = 0 from rfl, List.take_zero, List.drop_zero, List.drop_zero, List.nil_append, show ((tot ([] : List SideT) : Nat) : Int) = 0 from rfl] at e
 unfold F52
 simp only [Option.isSome_some, if_true, Option.getD_some]
 rw [e, Option.bind_some]
end Go.Proofs.YtgmmopbpldgpcaaE
set_option linter.unusedSimpArgs false
set_option linter.unusedVariables false
set_option maxRecDepth 20000
namespace Go.Proofs.YtgmmopbpldgpcaaE
def RulC (r : RulT) : Prop := (0 ≤ r.1 ∧ r.1 < 3) ∧ Cst r.2.1
abbrev none3 : List Int := [INF1, INF1, INF1]
def rulV (r : RulT) (e : Int) (v : List Int) : List Int := List.set v r.1.toNat (minI (List.getD v r.1.toNat 0) (adI r.2.1 e))
def emitW : List RulT → List Int → List Bool → List Int → List Int
 | r :: rs, e :: E, b :: set, v => emitW rs E set (if b then rulV r e v else v)
 | _, _, _, v => v
theorem rulV_len (r : RulT) (e : Int) (v : List Int) : (rulV r e v).length = v.length := List.length_set
theorem rulV_cst {r : RulT} {e : Int} {v : List Int} (hr : Cst r.2.1) (he : Cst e) (hv : CstL v) : CstL (rulV r e v) := cstL_set hv (cst_min (cstL_getD hv _) (cst_ad hr he)) _
theorem none3_cst : CstL none3 := fun x hx => by
 simp only [none3, List.mem_cons, List.not_mem_nil, or_false, or_self] at hx
 rw [hx]
 exact cst_inf
theorem emitW_drop {rs : List RulT} {E : List Int} {set : List Bool} {v : List Int} {i : Nat} (h1 : i < rs.length) (h2 : i < E.length) (h3 : i < set.length) : emitW (rs.drop i) (E.drop i) (set.drop i) v = emitW (rs.drop (i + 1)) (E.drop (i + 1)) (set.drop (i + 1)) (if set[i] then rulV rs[i] E[i] v else v) := by
 rw [List.drop_eq_getElem_cons h1, List.drop_eq_getElem_cons h2, List.drop_eq_getElem_cons h3, emitW]
theorem F53_0_ok (k : Nat) (hk : 10 ≤ k) (rs : List RulT) (E : List Int) (set : List Bool) (c6 : List Int) (hr : ∀ r ∈ rs, RulC r) (hE : CstL E) (h1 : E.length = rs.length) (h2 : set.length = rs.length) (hn : rs.length ≤ 1000000) : ∀ (d m i : Nat) (v : List Int), i + d = rs.length → d < m → v.length = 3 → CstL v →
  F53_0 k m E set rs (rs.length : Int) (i : Int) c6 v = some ((), (c6, emitW (rs.drop i) (E.drop i) (set.drop i) v, ()))
 | 0, m, i, v, hi, hm, hv, hc => by
  obtain ⟨m, rfl⟩ := pos1 (m := m) (by omega)
  simp only [F53_0]
  rw [decide_eq_false (by omega), cond_false, List.drop_eq_nil_of_le (by omega : rs.length ≤ i)]
  simp [emitW]
 | d + 1, m, i, v, hi, hm, hv, hc => by
  obtain ⟨m, rfl⟩ := pos1 (m := m) (by omega)
  have hlt : i < rs.length := by omega
  have hlt1 : i < E.length := by omega
  have hlt2 : i < set.length := by omega
  have ih := fun v hv hc => F53_0_ok k hk rs E set c6 hr hE h1 h2 hn d m (i + 1) v (by omega) (by omega) hv hc
  obtain ⟨⟨c0, c1⟩, cc⟩ := hr _ (List.getElem_mem hlt)
  rw [emitW_drop hlt hlt1 hlt2]
  simp only [F53_0]
  rw [dlt hlt, cond_true, if_pos (inR hlt), dlt hlt2, cond_true, if_pos (inR hlt2), tnI i, getD_lt _ _ _ hlt2, getD_lt _ _ _ hlt, wsucc i _ hlt (by omega)]
  cases hb : set[i] with
  | false =>
   rw [cond_false, if_neg (by simp), ih v hv hc]
   rfl
  | true =>
   have hE1 := hE _ (List.getElem_mem hlt1)
   rw [cond_true, dlt hlt1, cond_true, decide_eq_true (show rs[i].1 ≥ 0 from c0), cond_true, decide_eq_true c1, cond_true, if_pos ⟨c0, c1⟩, if_pos (inR hlt1), getD_lt _ _ _ hlt1, F79_ad k _ _ cc hE1, Option.bind_some]
   simp only
   rw [set2, F78_two k hk _ _ (cstL_getD hc _), Option.bind_some]
   simp only
   rw [if_pos ⟨c0, c1⟩, if_pos trivial, show List.set v rs[i].1.toNat (minI (List.getD v rs[i].1.toNat 0) (adI rs[i].2.1 E[i])) = rulV rs[i] E[i] v from rfl, ih _ (by rw [rulV_len]; exact hv) (rulV_cst cc hE1 hc)]
   rfl
theorem F53_ok (k : Nat) (hk : 10000000 ≤ k) (rs : List RulT) (E : List Int) (set : List Bool) (hr : ∀ r ∈ rs, RulC r) (hE : CstL E) (h1 : E.length = rs.length) (h2 : set.length = rs.length) (hn : rs.length ≤ 1000000) : F53 k rs E set = some ((emitW rs E set none3, ()), ()) := by
 have e := F53_0_ok k (by omega) rs E set (List.replicate 3 0) hr hE h1 h2 hn rs.length k 0 none3 (Nat.zero_add _) (by omega) rfl none3_cst
 rw [show ((0 : Nat) : Int) = 0 from rfl, List.drop_zero, List.drop_zero, List.drop_zero] at e
 unfold F53 F63
 rw [Option.bind_some]
 simp only
 rw [show List.set (List.set (List.set (List.replicate 3 (0 : Int)) 0 (1152921504606846976 : Int)) 1 (1152921504606846976 : Int)) 2 (1152921504606846976 : Int) = none3 from rfl, e, Option.bind_some]
section
variable (k : Nat) (rs : List RulT) (ss : List SideT) (R : Rows) (set : List Bool)
end
def emW (rs : List RulT) (ss : List SideT) (sets : List (List Bool)) (R : Rows) : List (List Int) := sets.map fun set => emitW rs (endsW ss R) set none3
theorem endsW_cst : ∀ {ss : List SideT} {R : Rows}, (∀ s ∈ ss, SOC s) → (∀ r ∈ R, CstL r) → CstL (endsW ss R)
 | [], _, _, _ => fun x hx => by simp [endsW] at hx
 | _ :: _, [], _, _ => fun x hx => by simp [endsW] at hx
 | s :: ss, r :: R, hs, hR => fun x hx => by
  have : x = endC s r ∨ x ∈ endsW ss R := List.mem_cons.1 hx
  rcases this with q | q
  ·rw [q]; exact endC_cst (hs s List.mem_cons_self) (hR r List.mem_cons_self)
  ·exact endsW_cst (fun y hy => hs y (List.mem_cons_of_mem _ hy)) (fun y hy => hR y (List.mem_cons_of_mem _ hy)) x q
end Go.Proofs.YtgmmopbpldgpcaaE
set_option linter.unusedSimpArgs false
set_option linter.unusedVariables false
set_option maxRecDepth 20000
namespace Go.Proofs.YtgmmopbpldgpcaaE
abbrev FwdT := ((List (List Int)) × ((List (List (List Int))) × Unit))
abbrev noneD : ((Int × Unit) × (FwdT × Unit)) := (((4 : Int), ()), ((([] : (List (List Int))), (([] : (List (List (List Int)))), ())), ()))
theorem put1_shw {ss : List SideT} {l : List Rows} {x : Rows} (h : ∀ y ∈ l, ShW ss y) (hx : ShW ss x) : ∀ y ∈ put1 l x, ShW ss y := by
 unfold put1
 split
 ·exact h
 ·exact all_append h hx
theorem rowA_shw {ss : List SideT} {I : InT} {s : Rows} (hss : ∀ s ∈ ss, SOC s) (hs : ShW ss s) : ∀ (al : List Nat) (l : List Rows), (∀ y ∈ l, ShW ss y) → ∀ y ∈ (rowA (stepW I ss) s al l).1, ShW ss y
 | [], l, h => h
 | a :: al, l, h => by
  rw [rowA_1]
  exact rowA_shw hss hs al _ (put1_shw h (stepW_shw hss hs))
def infW (ss : List SideT) : Rows := ss.map fun s => List.replicate s.1.length INF1
theorem infW_shw (ss : List SideT) : ShW ss (infW ss) := by
 refine ⟨by simp [infW], fun r hr => ?_⟩
 obtain ⟨s, _, e⟩ := List.mem_map.1 hr
 intro x hx
 rw [← e] at hx
 rw [List.eq_of_mem_replicate hx]
 exact cst_inf
theorem infW_flat : ∀ (ss : List SideT), flatW (infW ss) = List.replicate (tot ss) INF1
 | [] => rfl
 | s :: ss => by
  rw [tot_cons, ← List.replicate_append_replicate, ← infW_flat ss]
  rfl
theorem F55_ok (k : Nat) (l : List (List Int)) (h : l.length ≤ 100000000) : F55 k l = some ((l, ()), ()) := by
 unfold F55
 cases l with
 | nil => rfl
 | cons x l =>
  rw [nz (by simp), cond_false, if_pos (by simp at h ⊢; omega)]
  rfl
theorem F57_ok (k : Nat) (l : List (List (List Int))) (h : l.length ≤ 100000000) : F57 k l = some ((l, ()), ()) := by
 unfold F57
 cases l with
 | nil => rfl
 | cons x l =>
  rw [nz (by simp), cond_false, if_pos (by simp at h ⊢; omega)]
  rfl
abbrev noH : Rows → List Bool := fun _ => []
section
variable (k : Nat) (rs : List RulT) (ss : List SideT) (I : InT) (N : Nat) (B : Int) (sets : List (List Bool))
theorem F19_0_ok (hk : 10000000 ≤ k) (hs : ∀ s ∈ ss, SOC s) (hn : ss.length ≤ 1000000) (ht : tot ss ≤ 1000000) (hN : N ≤ 5000000) (hB : B ≤ 100000) (t3 : Int) (j : Nat) (s : Rows) (c12 c15 : FwdT) : ∀ (d m i : Nat) (l : List Rows) (r : List Int), i + d = N → d < m → (∀ y ∈ l, ShW ss y) → j < l.length → List.getD l j [] = s → (l.length : Int) ≤ B → r.length = i →
  F19_0 k m rs t3 sets B (j : Int) (N : Int) (i : Int) c12 c15 (mkw (mapK 0 (l.map keyW)) ss I l) r =
   if ((rowA (stepW I ss) s (List.range' i d) l).1.length : Int) ≤ B then some (.inl ((rs, t3, sets, B, (j : Int), ()), (c12, c15, mkw (mapK 0 ((rowA (stepW I ss) s (List.range' i d) l).1.map keyW)) ss I (rowA (stepW I ss) s (List.range' i d) l).1, r ++ (rowA (stepW I ss) s (List.range' i d) l).2, ()))) else some (.inr noneD)
 | 0, m, i, l, r, hi, hm, hl, hj, hsj, hlB, hr => by
  obtain ⟨m, rfl⟩ := pos1 (m := m) (by omega)
  simp only [List.range'_zero, rowA]
  rw [if_pos hlB, List.append_nil]
  simp only [F19_0]
  rw [decide_eq_false (by omega), cond_false]
 | d + 1, m, i, l, r, hi, hm, hl, hj, hsj, hlB, hr => by
  obtain ⟨m, rfl⟩ := pos1 (m := m) (by omega)
  have hlt : i < N := by omega
  have hsS : ShW ss s := by
   rw [← hsj, getD_lt _ _ _ hj]
   exact hl _ (List.getElem_mem hj)
  have hxS : ShW ss (stepW I ss s i) := stepW_shw hs hsS
  have e48 := F48_ok k hk ss I l (stepW I ss s i) (by omega) hl hxS ht
  have hle := put1_le l (stepW I ss s i)
  have hj2 : j < (l.map flatW).length := by simpa using hj
  have hgf : List.getD (l.map flatW) j [] = flatW s := by
   rw [getD_lt _ _ _ hj2, List.getElem_map, ← hsj, getD_lt _ _ _ hj]
  have e51 := F51_ok k (some (mapK 0 (l.map keyW)), (l.map flatW, ())) I ss i s hk hs hsS hn ht
  rw [List.range'_succ, rowA_1, rowA_2]
  have hap : (List.length r + List.length [((ix l (stepW I ss s i) : Nat) : Int)]) * (8 * 2) ≤ 281474976710656 ∧ List.length r + List.length [((ix l (stepW I ss s i) : Nat) : Int)] ≤ 9223372036854775807 := by rw [List.length_singleton]; omega
  have hstep : F19_0 k (m + 1) rs t3 sets B (j : Int) (N : Int) (i : Int) c12 c15 (mkw (mapK 0 (l.map keyW)) ss I l) r = if ((put1 l (stepW I ss s i)).length : Int) ≤ B then F19_0 k m rs t3 sets B (j : Int) (N : Int) ((i + 1 : Nat) : Int) c12 c15 (mkw (mapK 0 ((put1 l (stepW I ss s i)).map keyW)) ss I (put1 l (stepW I ss s i))) (r ++ [((ix l (stepW I ss s i) : Nat) : Int)]) else some (.inr noneD) := by
   simp only [F19_0]
   rw [dlt hlt, cond_true, if_pos (inR hj2), tnI j, hgf, e51, Option.bind_some]
   simp only
   rw [e48, Option.bind_some]
   simp only
   rw [show List.set (List.replicate 1 (0 : Int)) 0 ((ix l (stepW I ss s i) : Nat) : Int) = [((ix l (stepW I ss s i) : Nat) : Int)] from rfl, if_pos hap, List.length_map, wsucc i _ hlt (by omega)]
   by_cases hc : ((put1 l (stepW I ss s i)).length : Int) ≤ B
   ·rw [if_pos hc, decide_eq_false (by omega), cond_false]
    cases F19_0 k m rs t3 sets B (j : Int) (N : Int) ((i + 1 : Nat) : Int) c12 c15 (mkw (mapK 0 ((put1 l (stepW I ss s i)).map keyW)) ss I (put1 l (stepW I ss s i))) (r ++ [((ix l (stepW I ss s i) : Nat) : Int)]) <;> rfl
   ·rw [if_neg hc, decide_eq_true (by omega), cond_true]
  rw [hstep]
  by_cases hc : ((put1 l (stepW I ss s i)).length : Int) ≤ B
  ·obtain ⟨tl, htl⟩ := put1_pre l (stepW I ss s i)
   have e2 := F19_0_ok hk hs hn ht hN hB t3 j s c12 c15 d m (i + 1) (put1 l (stepW I ss s i)) (r ++ [((ix l (stepW I ss s i) : Nat) : Int)]) (by omega) (by omega) (put1_shw hl hxS) (by omega) (by rw [getD_pre htl hj]; exact hsj) hc (by simp [hr])
   rw [if_pos hc, e2, List.append_assoc]
   rfl
  ·have h3 := rowA_le (stepW I ss) s (List.range' (i + 1) d) (put1 l (stepW I ss s i))
   rw [if_neg hc, if_neg (by omega)]
theorem F19_1_ok (hk : 10000000 ≤ k) (hr : ∀ r ∈ rs, RulC r) (hrn : rs.length ≤ 1000000) (hset : ∀ s ∈ sets, s.length = rs.length) (hsn : sets.length ≤ 1000000) (t3 t16 : Int) (c12 c15 : FwdT) (c30 : MkW) (E : List Int) (hE : CstL E) (hEl : E.length = rs.length) (nx : List Int) : ∀ (d m i : Nat) (D : List (List Int)), i + d = sets.length → d < m → D.length = i →
  F19_1 k m rs t3 sets B t16 sets (sets.length : Int) (i : Int) c12 c15 c30 E nx D = some ((rs, t3, sets, B, t16, ()), (c12, c15, c30, nx, D ++ (sets.drop i).map (fun set => emitW rs E set none3), ()))
 | 0, m, i, D, hi, hm, hD => by
  obtain ⟨m, rfl⟩ := pos1 (m := m) (by omega)
  simp only [F19_1]
  rw [decide_eq_false (by omega), cond_false, List.drop_eq_nil_of_le (by omega), List.map_nil, List.append_nil]
 | d + 1, m, i, D, hi, hm, hD => by
  obtain ⟨m, rfl⟩ := pos1 (m := m) (by omega)
  have hlt : i < sets.length := by omega
  have hset1 := hset _ (List.getElem_mem hlt)
  simp only [F19_1]
  rw [dlt hlt, cond_true, if_pos (inR hlt), tnI i, getD_lt _ _ _ hlt, F53_ok k hk rs E _ hr hE hEl hset1 hrn, Option.bind_some]
  simp only
  rw [one_list, if_pos (by rw [List.length_singleton]; omega), wsucc i _ hlt (by omega), F19_1_ok hk hr hrn hset hsn t3 t16 c12 c15 c30 E hE hEl nx d m (i + 1) _ (by omega) (by omega) (by simp [hD]), List.drop_eq_getElem_cons hlt, List.map_cons, List.append_assoc]
  rfl
theorem take_pre {σ : Type} {l l' t : List σ} {i : Nat} {d0 : σ} (e : l' = l ++ t) (h : i < l.length) : l'.take (i + 1) = l.take i ++ [l.getD i d0] := by
 rw [e, List.take_append_of_le_length (by omega), List.take_succ_eq_append_getElem h, getD_lt _ _ _ h]
theorem F19_2_ok (hk : 10000000 ≤ k) (hs : ∀ s ∈ ss, SOC s) (hn : ss.length ≤ 1000000) (ht : tot ss ≤ 1000000) (hN : N ≤ 5000000) (hB : B ≤ 100000) (hr : ∀ r ∈ rs, RulC r) (hrl : rs.length = ss.length) (hset : ∀ s ∈ sets, s.length = rs.length) (hsn : sets.length ≤ 1000000) (t3 : Int) (ht3 : maxI t3 0 = (N : Int)) (c12 : FwdT) : ∀ (f m i : Nat) (l : List Rows) (nx : List (List Int)) (ou : List Int) (se : List (List Bool)), B.toNat + 2 ≤ i + f → B.toNat + 2 ≤ i + m → i ≤ B.toNat → i ≤ l.length → (∀ y ∈ l, ShW ss y) → nx.length = i →
  F19_2 k m rs t3 sets B (i : Int) c12 (nx, ((l.take i).map (emW rs ss sets), ())) (mkw (mapK 0 (l.map keyW)) ss I l) = match mkA (stepW I ss) noH [] B N f i l nx ou se with
   | none => some (.inr noneD)
   | some q => some (.inl ((), (c12, (q.2.1, (q.1.map (emW rs ss sets), ())), ())))
 | 0, m, i, l, nx, ou, se, hf, hm, hi, hil, hl, hnx => by omega
 | f + 1, m, i, l, nx, ou, se, hf, hm, hi, hil, hl, hnx => by
  obtain ⟨m, rfl⟩ := pos1 (m := m) (by omega)
  simp only [F19_2, mkA]
  rw [List.length_map]
  by_cases hlt : i < l.length
  ·rw [if_pos hlt, decide_eq_true (by omega), cond_true]
   by_cases hlB : (l.length : Int) > B
   ·rw [if_pos hlB, decide_eq_true hlB, cond_true]
   ·rw [if_neg hlB, decide_eq_false hlB, cond_false, ht3]
    have hBi : (l.length : Int) ≤ B := by omega
    have e1 := F19_0_ok k rs ss I N B sets hk hs hn ht hN hB t3 i (l.getD i []) c12 (nx, ((l.take i).map (emW rs ss sets), ())) N k 0 l [] (Nat.zero_add _) (by omega) hl hlt rfl hBi rfl
    rw [← List.range_eq_range', List.nil_append, show ((0 : Nat) : Int) = 0 from rfl] at e1
    have hsi : ShW ss (l.getD i []) := by rw [getD_lt _ _ _ hlt]; exact hl _ (List.getElem_mem hlt)
    have hstp := fun y hy => rowA_shw (I := I) hs hsi (List.range N) l hl y hy
    obtain ⟨tl, htl⟩ := rowA_pre (stepW I ss) (l.getD i []) (List.range N) l
    have hle := rowA_le (stepW I ss) (l.getD i []) (List.range N) l
    have hrw := rowA_row (stepW I ss) (l.getD i []) (List.range N) l
    rw [List.length_range] at hrw
    generalize hq : rowA (stepW I ss) (l.getD i []) (List.range N) l = q at *
    obtain ⟨l', r'⟩ := q
    simp only at *
    rw [e1]
    by_cases hc : ((l'.length : Nat) : Int) ≤ B
    ·rw [if_pos hc, Option.bind_some]
     simp only
     have hlt' : i < (l'.map flatW).length := by rw [List.length_map]; omega
     have hg : List.getD (l'.map flatW) i [] = flatW (l.getD i []) := by
      have : i < l'.length := by omega
      rw [getD_lt _ _ _ hlt', List.getElem_map, ← getD_lt l' i [] this, getD_pre htl hlt]
     have ih := F19_2_ok hk hs hn ht hN hB hr hrl hset hsn t3 ht3 c12 f m (i + 1) l' (nx ++ [r']) (ou ++ [((ix se (noH (l.getD i [])) : Nat) : Int)]) (put1 se (noH (l.getD i []))) (by omega) (by omega) (by omega) (by omega) hstp (by simp [hnx])
     have hE := endsW_cst hs hsi.2
     have hEl := endsW_len hsi
     have e3 := F19_1_ok k rs B sets hk hr (by omega) hset hsn t3 (i : Int) c12 (nx, ((l.take i).map (emW rs ss sets), ())) (mkw (mapK 0 (l'.map keyW)) ss I l') (endsW ss (l.getD i [])) hE (by omega) r' sets.length k 0 [] (Nat.zero_add _) (by omega) rfl
     rw [show ((0 : Nat) : Int) = 0 from rfl, List.drop_zero, List.nil_append] at e3
     have ha1 : (List.length nx + List.length [r']) * (24 * 2) ≤ 281474976710656 ∧ List.length nx + List.length [r'] ≤ 9223372036854775807 := by rw [List.length_singleton]; omega
     have hml : ((l.take i).map (emW rs ss sets)).length = i := by rw [List.length_map, List.length_take]; omega
     have ha2 : ∀ y : List (List Int), (List.length ((l.take i).map (emW rs ss sets)) + List.length [y]) * (24 * 2) ≤ 281474976710656 ∧ List.length ((l.take i).map (emW rs ss sets)) + List.length [y] ≤ 9223372036854775807 := fun y => by rw [List.length_singleton]; omega
     have hiw : IntKind.wrap .i64 ((i : Int) + 1) = ((i + 1 : Nat) : Int) := wsucc i l.length hlt (by omega)
     have htake : (l'.take (i + 1)).map (emW rs ss sets) = (l.take i).map (emW rs ss sets) ++ [emW rs ss sets (l.getD i [])] := by
      rw [take_pre (d0 := []) htl hlt, List.map_append]
      rfl
     rw [htake] at ih
     rw [if_pos (inR hlt'), tnI i, hg, F52_ok k _ I ss _ hk hs hsi hn (by omega), Option.bind_some]
     simp only
     rw [e3, Option.bind_some]
     simp only
     rw [F54_ok k _ (by omega), Option.bind_some]
     simp only
     rw [if_pos ha1, F55_ok k _ (by rw [List.length_map]; omega), Option.bind_some]
     simp only
     rw [if_pos (ha2 _), hiw, show sets.map (fun set => emitW rs (endsW ss (l.getD i [])) set none3) = emW rs ss sets (l.getD i []) from rfl, ih]
     cases mkA (stepW I ss) noH [] B N f (i + 1) l' (nx ++ [r']) (ou ++ [((ix se (noH (l.getD i [])) : Nat) : Int)]) (put1 se (noH (l.getD i []))) <;> rfl
    ·rw [if_neg hc, Option.bind_some]
     simp only
     obtain ⟨f, rfl⟩ : ∃ f', f = f' + 1 := ⟨f - 1, by omega⟩
     simp only [mkA]
     rw [if_pos (by omega), if_pos (by omega)]
  ·rw [if_neg hlt, decide_eq_false (by omega), cond_false, List.take_of_length_le (by omega)]
abbrev QW := List Rows × List (List Int) × List Int × List (List Bool)
def mkN (b : Int) : Option QW := mkA (stepW I ss) noH [] (minI b 100000) N ((minI b 100000).toNat + 2) 0 [infW ss] [] [] []
def outD : Option QW → (FwdT × Int × Unit)
 | none => ((([] : (List (List Int))), (([] : (List (List (List Int)))), ())), (4 : Int), ())
 | some q => ((q.2.1, (q.1.map (emW rs ss sets), ())), (0 : Int), ())
theorem mkA_llen {σ : Type} [DecidableEq σ] {step : σ → Nat → σ} {hold : σ → List Bool} {d0 : σ} {B : Int} {N : Nat} : ∀ (f i : Nat) (l : List σ) (nx : List (List Int)) (ou : List Int) (se : List (List Bool)) {q : List σ × List (List Int) × List Int × List (List Bool)}, mkA step hold d0 B N f i l nx ou se = some q → i ≤ l.length → q.1.length ≤ i + f
 | 0, i, l, nx, ou, se, q, h, hi => by cases h
 | f + 1, i, l, nx, ou, se, q, h, hi => by
  simp only [mkA] at h
  split at h
  ·split at h
   ·cases h
   ·have hle := rowA_le step (l.getD i d0) (List.range N) l
    have := mkA_llen f _ _ _ _ _ h (by omega)
    omega
  ·injection h with h
   subst h
   simp only
   omega
theorem F19_ok (hk : 10000000 ≤ k) (hs : ∀ s ∈ ss, SOC s) (hn : ss.length ≤ 1000000) (ht : tot ss ≤ 1000000) (hN : N ≤ 5000000) (hr : ∀ r ∈ rs, RulC r) (hrl : rs.length = ss.length) (hset : ∀ s ∈ sets, s.length = rs.length) (hsn : sets.length ≤ 1000000) (t3 : Int) (ht3 : maxI t3 0 = (N : Int)) (b : Int) :
  F19 k rs ss I t3 sets b = some (outD rs ss sets (mkN ss I N b), ()) := by
 have hB : minI b 100000 ≤ 100000 := by unfold minI; split <;> omega
 unfold F19 mkN
 generalize minI b 100000 = B at hB ⊢
 have e48 := F48_ok k hk ss I [] (infW ss) (Nat.zero_le _) (fun y hy => by cases hy) (infW_shw ss) ht
 have hp0 : put1 [] (infW ss) = [infW ss] := rfl
 rw [hp0, infW_flat] at e48
 have e2 := F19_2_ok k rs ss I N B sets hk hs hn ht hN hB hr hrl hset hsn t3 ht3 (([] : (List (List Int))), (([] : (List (List (List Int)))), ())) (B.toNat + 2) k 0 [infW ss] [] [] [] (by omega) (by omega) (by omega) (Nat.zero_le _) (fun y hy => by rw [List.mem_singleton.1 hy]; exact infW_shw ss) rfl
 rw [show ((0 : Nat) : Int) = 0 from rfl, List.take_zero, List.map_nil] at e2
 rw [F50_ok k hk ss hn (by omega), Option.bind_some]
 simp only
 rw [F49_ok k _ (by omega) ht, Option.bind_some]
 simp only
 rw [show F48 k ((some [], ([], ())), (ss, (I, ()))) (List.replicate (tot ss) INF1) = _ from e48, Option.bind_some]
 simp only
 rw [e2]
 cases hq : mkA (stepW I ss) noH [] B N (B.toNat + 2) 0 [infW ss] [] [] [] with
 | none => rfl
 | some q =>
  obtain ⟨l1, l2, l3⟩ := mkA_len _ _ _ _ _ _ hq
  have l4 := mkA_llen _ _ _ _ _ _ hq (Nat.zero_le _)
  simp only [List.length_nil] at l1
  simp only
  rw [Option.bind_some]
  simp only
  rw [F56_ok k _ (by omega), Option.bind_some]
  simp only
  rw [F57_ok k _ (by rw [List.length_map]; omega), Option.bind_some]
  rfl
end
end Go.Proofs.YtgmmopbpldgpcaaE
set_option linter.unusedSimpArgs false
set_option linter.unusedVariables false
set_option maxRecDepth 20000
namespace Go.Proofs.YtgmmopbpldgpcaaE
theorem F13_known (k : Nat) (hk : 200 ≤ k) : F13 k = some ((true, ()), ()) := by
 obtain ⟨k, rfl⟩ : ∃ k', k = k' + 200 := ⟨k - 200, by omega⟩
 kernel_rfl
theorem minI_le {b : Int} (h : b ≤ 100000) : minI b 100000 = b := by unfold minI; split <;> omega
theorem F18_eq10 (k : Nat) (a n : Int) (h0 : 0 < n) (h1 : n ≤ 4611686018427387904) : F18 k a n = some ((a % n, ()), ()) := F67_eq k a n h0 h1
theorem sideW_soc {I : InT} {N M : Nat} {s : SideT} (h : SideW I N M s) : SOC s := by
 obtain ⟨n, hn, g⟩ := h.g
 have hc := cB_range 5 (by omega)
 refine ⟨h.ok, fun x hx => (g.cf x hx).cst (by omega), fun x hx => (g.ce x hx).cst (by omega), g.cn.cst (by omega), fun x hx => ?_⟩
 have := g.arcs x hx
 unfold Cst
 omega
theorem sideW_len {I : InT} {N M : Nat} {s : SideT} (h : SideW I N M s) : s.1.length ≤ 120 := by
 obtain ⟨n, hn, g⟩ := h.g
 have := g.ls
 omega
theorem tot_le {n : Nat} : ∀ {ss : List SideT}, (∀ s ∈ ss, s.1.length ≤ n) → tot ss ≤ n * ss.length
 | [], _ => by simp [tot]
 | s :: ss, h => by
  have h1 := h s List.mem_cons_self
  have h2 := tot_le (ss := ss) fun x hx => h x (List.mem_cons_of_mem _ hx)
  rw [tot_cons, List.length_cons, Nat.mul_succ]
  omega
theorem rulP_c {r : RulT} (h : RulP r) : RulC r := by
 obtain ⟨_, h1, h2⟩ := h
 refine ⟨h1, ?_⟩
 unfold Cst
 omega
structure DW (I : InT) (N : Nat) (rs : List RulT) (ss : List SideT) (sets : List (List Bool)) : Prop where
 hs : ∀ s ∈ ss, SOC s
 hI : ∀ s ∈ ss, InOK I N s
 hn : ss.length ≤ 1000000
 ht : tot ss ≤ 1000000
 hN : N ≤ 5000000
 hr : ∀ r ∈ rs, RulC r
 hrl : rs.length = ss.length
 hset : ∀ s ∈ sets, s.length = rs.length
 hsn : sets.length ≤ 1000000
theorem wg_dw {w : WorT} {N M : Nat} (hw : WG w N M) {sets : List (List Bool)} (hset : ∀ s ∈ sets, s.length = w.1.2.1.length) (hsn : sets.length ≤ 1000000) : DW w.2.2.2.1 N w.1.2.1 w.2.2.2.2.1 sets := by
 have h1 := hw.nl
 have h2 := hw.nrules
 have h3 := hw.le
 have h4 := tot_le (n := 120) fun s hs => sideW_len (hw.left s hs)
 exact ⟨fun s hs => sideW_soc (hw.left s hs), fun s hs => (hw.left s hs).io, by omega, by omega, by omega, fun r hr => rulP_c (hw.rules r hr), by omega, hset, hsn⟩
theorem F19_dw (k : Nat) (hk : 10000000 ≤ k) {I : InT} {N : Nat} {rs : List RulT} {ss : List SideT} {sets : List (List Bool)} (h : DW I N rs ss sets) (b : Int) : F19 k rs ss I (N : Int) sets b = some (outD rs ss sets (mkN ss I N b), ()) :=
 F19_ok k rs ss I N sets hk h.hs h.hn h.ht h.hN h.hr h.hrl h.hset h.hsn (N : Int) (maxI_nat N) b
structure ND (I : InT) (ss : List SideT) (N : Nat) (b : Int) (q : QW) : Prop where
 m : Mach (stepW I ss) noH N q.1.length q.1 q.2.1 q.2.2.1 q.2.2.2
 z : q.1[0]? = some (infW ss)
 shp : ∀ x ∈ q.1, ShW ss x
 le : (q.1.length : Int) ≤ minI b 100000
theorem mkN_ok {I : InT} {ss : List SideT} {N : Nat} {b : Int} {q : QW} (hs : ∀ s ∈ ss, SOC s) (h : mkN ss I N b = some q) : ND I ss N b q := by
 obtain ⟨h1, ⟨t, h2⟩, h3, h4⟩ := mkA_mach (P := ShW ss) (fun x a hx _ => stepW_shw hs hx) _ 0 [infW ss] [] [] [] (mach0 _) (fun x hx => by rw [List.mem_singleton.1 hx]; exact infW_shw ss) h
 exact ⟨h1, by rw [h2]; rfl, h3, h4 (Nat.zero_lt_succ _)⟩
theorem ND.len {I : InT} {ss : List SideT} {N : Nat} {b : Int} {q : QW} (h : ND I ss N b q) : q.1.length ≤ 100000 := by
 have := h.le
 unfold minI at this
 split at this <;> omega
theorem ND.rows {I : InT} {ss : List SideT} {N : Nat} {b : Int} {q : QW} (h : ND I ss N b q) : ∀ r ∈ q.2.1, r.length = N := fun r hr => by
 have h2 := h.m.nl
 obtain ⟨i, hi, e⟩ := List.mem_iff_getElem.1 hr
 obtain ⟨r', q1, q2, _⟩ := h.m.rows i _ (by omega) (List.getElem?_eq_getElem (by omega : i < q.1.length))
 rw [List.getElem?_eq_getElem hi, e] at q1
 injection q1 with q1
 rw [q1, q2]
theorem F16_0_ok (k : Nat) (hk : 10000000 ≤ k) (w : WorT) (N M : Nat) (hw : WG w N M) : ∀ (d m i : Nat), i + d = w.2.2.2.2.1.length → d < m → F16_0 k m (i : Int) w = some (.inl ((), ())) ∨ F16_0 k m (i : Int) w = some (.inr ((false, ()), ()))
 | 0, m, i, hi, hm => by
  obtain ⟨m, rfl⟩ := pos1 (m := m) (by omega)
  left
  simp only [F16_0]
  rw [decide_eq_false (by omega), cond_false]
 | d + 1, m, i, hi, hm => by
  obtain ⟨m, rfl⟩ := pos1 (m := m) (by omega)
  have hlt : i < w.2.2.2.2.1.length := by omega
  have h1 := hw.nl
  have h2 := hw.nrules
  obtain ⟨n, hn, g⟩ := (hw.left _ (List.getElem_mem hlt)).g
  have hla := srt_len g.srt g.arcs
  have hnn : n * n ≤ 120 * 120 := Nat.mul_le_mul hn hn
  obtain ⟨b, e, _⟩ := F43_ok k n w.2.2.2.2.1[i] g.ls (by omega) (fun x hx => by have := g.arcs x hx; omega) (by omega) hk
  have ih := F16_0_ok k hk w N M hw d m (i + 1) (by omega) (by omega)
  simp only [F16_0]
  rw [dlt hlt, cond_true, if_pos (inR hlt), tnI i, getD_lt _ _ _ hlt, e, Option.bind_some]
  simp only
  cases b with
  | true => right; rfl
  | false =>
   rw [cond_false, wsucc i _ hlt (by omega)]
   rcases ih with ih | ih
   ·left; rw [ih]; rfl
   ·right; rw [ih]; rfl
theorem F16_ok (k : Nat) (hk : 10000000 ≤ k) (w : WorT) (N M : Nat) (hw : WG w N M) : F16 k w = some ((true, ()), ()) ∨ F16 k w = some ((false, ()), ()) := by
 have h1 := hw.nl
 have h2 := hw.nrules
 have e := F16_0_ok k hk w N M hw w.2.2.2.2.1.length k 0 (Nat.zero_add _) (by omega)
 rw [show ((0 : Nat) : Int) = 0 from rfl] at e
 unfold F16
 rcases e with e | e
 ·left; rw [e]; rfl
 ·right; rw [e]; rfl
theorem start10 {β : Type} (k : Nat) (hk : 20000000 ≤ k) (a0 : List RawT) (a1 a2 : List Int) (h1 : a1.length ≤ 100000000000000) (yes no : β) (f : ((WorT × Bool × Unit) × Unit) → Option β) (hf : ∀ w N M, F15 k a0 a1 a2 = some ((w, true, ()), ()) → WG w N M → F16 k w = some ((true, ()), ()) → f ((w, true, ()), ()) = some yes) :
  ((F13 k).bind fun r1 => bif (!r1.1.1) then some no else (F14 k a0).bind fun r2 => bif (!r2.1.1) then some yes else (F15 k a0 a1 a2).bind fun r3 => bif (!r3.1.2.1) then some yes else (F16 k r3.1.1).bind fun r8 => bif (!r8.1.1) then some yes else f r3) = some yes := by
 rw [F13_known k (by omega), Option.bind_some]
 simp only [Bool.not_true, cond_false]
 rcases start9 k hk a0 a1 a2 h1 with e | ⟨e, ⟨w, e2⟩ | ⟨w, N, M, e2, hw⟩⟩
 ·rw [e]; rfl
 ·rw [e, Option.bind_some]
  simp only [Bool.not_true, cond_false]
  rw [e2]; rfl
 ·rw [e, Option.bind_some]
  simp only [Bool.not_true, cond_false]
  rw [e2, Option.bind_some]
  simp only [Bool.not_true, cond_false]
  rcases F16_ok k (by omega) w N M hw with e3 | e3
  ·rw [e3, Option.bind_some]
   simp only [Bool.not_true, cond_false]
   exact hf w N M e2 hw e3
  ·rw [e3]; rfl
theorem F17_wg (k : Nat) (hk : 20000000 ≤ k) {w : WorT} {N M : Nat} (hw : WG w N M) (b : Int) : F17 k w.2.2.2.2.2.1 w.2.2.2.1 w.2.2.2.2.2.2.1 b = some (outA (mkM w.2.2.2.1 w.2.2.2.2.2.1 N b), ()) := by
 have h1 := hw.nr
 have h2 := hw.nrules
 have h3 := hw.le
 rw [hw.num]
 exact F17_mk k _ N M _ hk hw.right (by omega) h3 b
theorem mw_dw {w : WorT} {N M : Nat} (hw : WG w N M) {b : Int} {q : QT} (h : MW w.2.2.2.1 w.2.2.2.2.2.1 N b q) : DW w.2.2.2.1 N w.1.2.1 w.2.2.2.2.1 q.2.2.2 := by
 have h1 := hw.nr
 have h2 := hw.nrules
 have h3 := hw.le
 obtain ⟨s1, s2, s3, s4, s5⟩ := h.small (by omega) (by omega)
 exact wg_dw hw (fun s hs => by rw [s5 s hs]; exact h1) s4
end Go.Proofs.YtgmmopbpldgpcaaE

