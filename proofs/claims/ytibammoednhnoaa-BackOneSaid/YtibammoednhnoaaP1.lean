/- Plain laws. Conditions: none. -/
import Derived.Test.YtibammoednhnoaaP0
set_option linter.unusedSimpArgs false
set_option linter.unusedVariables false
set_option maxRecDepth 20000
namespace Go.Proofs.YtibammoednhnoaaE
theorem get_preA {σ : Type} {l l' t : List σ} {i : Nat} {x : σ} (e : l' = l ++ t) (h : l[i]? = some x) : l'[i]? = some x := by
 rw [e, List.getElem?_append_left (List.getElem?_eq_some_iff.1 h).1]
 exact h
theorem nodup_get {σ : Type} {l : List σ} (h : l.Nodup) {i j : Nat} {x : σ} (h1 : l[i]? = some x) (h2 : l[j]? = some x) : i = j := by
 obtain ⟨h3, h4⟩ := List.getElem?_eq_some_iff.1 h1
 obtain ⟨h5, h6⟩ := List.getElem?_eq_some_iff.1 h2
 exact (List.getElem_inj h).1 (h4.trans h6.symm)
section
variable {σ : Type} [DecidableEq σ]
theorem put1_nodup {l : List σ} (h : l.Nodup) (x : σ) : (put1 l x).Nodup := by
 unfold put1
 split
 ·exact h
 ·rename_i hx
  rw [List.nodup_append]
  refine ⟨h, by simp, fun a ha b hb => ?_⟩
  rw [List.mem_singleton.1 hb]
  exact fun e => hx (e ▸ ha)
theorem put1_get (l : List σ) (x : σ) : (put1 l x)[ix l x]? = some x := by
 unfold put1
 split
 ·rename_i hx
  rw [List.getElem?_eq_getElem (ix_lt hx), ix_get hx]
 ·rename_i hx
  rw [ix_no hx]
  simp
theorem ix_of_get {l : List σ} (h : l.Nodup) {i : Nat} {x : σ} (h1 : l[i]? = some x) : ix l x = i := by
 have hm : x ∈ l := List.mem_of_getElem? h1
 refine nodup_get h ?_ h1
 rw [List.getElem?_eq_getElem (ix_lt hm), ix_get hm]
theorem rowA_spec (step : σ → Nat → σ) (s : σ) : ∀ (al : List Nat) (l : List σ), l.Nodup → (rowA step s al l).1.Nodup ∧ ∀ (p a : Nat), al[p]? = some a → ∃ t : Nat, (rowA step s al l).2[p]? = some (t : Int) ∧ (rowA step s al l).1[t]? = some (step s a)
 | [], l, h => ⟨h, fun p a e => by simp at e⟩
 | b :: al, l, h => by
  obtain ⟨h1, h2⟩ := rowA_spec step s al (put1 l (step s b)) (put1_nodup h _)
  obtain ⟨t1, e1⟩ := rowA_pre step s al (put1 l (step s b))
  refine ⟨h1, fun p a e => ?_⟩
  cases p with
  | zero =>
   simp only [List.getElem?_cons_zero, Option.some.injEq] at e
   subst e
   exact ⟨ix l (step s b), by rw [rowA_2]; rfl, by rw [rowA_1]; exact get_preA e1 (put1_get l (step s b))⟩
  | succ p =>
   simp only [List.getElem?_cons_succ] at e
   obtain ⟨t, e2, e3⟩ := h2 p a e
   exact ⟨t, by rw [rowA_2]; exact e2, by rw [rowA_1]; exact e3⟩
theorem rowA_sub (step : σ → Nat → σ) (s : σ) {P : σ → Prop} : ∀ (al : List Nat) (l : List σ), (∀ x ∈ l, P x) → (∀ a ∈ al, P (step s a)) → ∀ x ∈ (rowA step s al l).1, P x
 | [], l, h, _ => h
 | b :: al, l, h, h2 => by
  rw [rowA_1]
  refine rowA_sub step s al _ (fun x hx => ?_) fun a ha => h2 a (List.mem_cons_of_mem _ ha)
  unfold put1 at hx
  split at hx
  ·exact h x hx
  ·rcases List.mem_append.1 hx with q | q
   ·exact h x q
   ·rw [List.mem_singleton.1 q]; exact h2 b List.mem_cons_self
variable (step : σ → Nat → σ) (hold : σ → List Bool) (d0 : σ) (N : Nat)
structure Mach (i : Nat) (l : List σ) (nx : List (List Int)) (ou : List Int) (se : List (List Bool)) : Prop where
 nd : l.Nodup
 sd : se.Nodup
 il : i ≤ l.length
 nl : nx.length = i
 ol : ou.length = i
 rows : ∀ j x, j < i → l[j]? = some x → ∃ r, nx[j]? = some r ∧ r.length = N ∧ ∀ a, a < N → ∃ t : Nat, r[a]? = some (t : Int) ∧ l[t]? = some (step x a)
 outs : ∀ j x, j < i → l[j]? = some x → ∃ t : Nat, ou[j]? = some (t : Int) ∧ se[t]? = some (hold x)
 hs : ∀ h ∈ se, ∃ x ∈ l, h = hold x
variable {step hold d0 N}
theorem Mach.next {i : Nat} {l : List σ} {nx : List (List Int)} {ou : List Int} {se : List (List Bool)} (m : Mach step hold N i l nx ou se) (hi : i < l.length) :
  Mach step hold N (i + 1) (rowA step (l.getD i d0) (List.range N) l).1 (nx ++ [(rowA step (l.getD i d0) (List.range N) l).2]) (ou ++ [((ix se (hold (l.getD i d0)) : Nat) : Int)]) (put1 se (hold (l.getD i d0))) := by
 obtain ⟨r1, r2⟩ := rowA_spec step (l.getD i d0) (List.range N) l m.nd
 obtain ⟨t, e⟩ := rowA_pre step (l.getD i d0) (List.range N) l
 have hle := rowA_le step (l.getD i d0) (List.range N) l
 have hrl := rowA_row step (l.getD i d0) (List.range N) l
 rw [List.length_range] at hrl
 have hgi : l[i]? = some (l.getD i d0) := by rw [getD_lt _ _ _ hi, List.getElem?_eq_getElem hi]
 obtain ⟨ts, es⟩ := put1_pre se (hold (l.getD i d0))
 have hlt : ∀ j x, j < i + 1 → (rowA step (l.getD i d0) (List.range N) l).1[j]? = some x → l[j]? = some x := fun j x hj hx => by
  rw [e, List.getElem?_append_left (by omega)] at hx
  exact hx
 refine ⟨r1, put1_nodup m.sd _, by omega, by rw [List.length_append, m.nl]; rfl, by rw [List.length_append, m.ol]; rfl, fun j x hj hx => ?_, fun j x hj hx => ?_, fun h hm => ?_⟩
 ·have hx' := hlt j x hj hx
  by_cases he : j = i
  ·subst he
   rw [hgi] at hx'
   injection hx' with hx'
   refine ⟨(rowA step (l.getD j d0) (List.range N) l).2, by rw [← m.nl]; simp, hrl, fun a ha => ?_⟩
   rw [← hx']
   exact r2 a a (by rw [List.getElem?_range ha])
  ·obtain ⟨r, q1, q2, q3⟩ := m.rows j x (by omega) hx'
   refine ⟨r, get_preA rfl q1, q2, fun a ha => ?_⟩
   obtain ⟨u, q4, q5⟩ := q3 a ha
   exact ⟨u, q4, get_preA e q5⟩
 ·have hx' := hlt j x hj hx
  by_cases he : j = i
  ·subst he
   rw [hgi] at hx'
   injection hx' with hx'
   rw [← hx']
   exact ⟨ix se (hold (l.getD j d0)), by rw [← m.ol]; simp, put1_get se _⟩
  ·obtain ⟨u, q1, q2⟩ := m.outs j x (by omega) hx'
   exact ⟨u, get_preA rfl q1, get_preA es q2⟩
 ·unfold put1 at hm
  have up : ∀ {x : σ}, x ∈ l → x ∈ (rowA step (l.getD i d0) (List.range N) l).1 := fun hx => by rw [e]; exact List.mem_append_left _ hx
  split at hm
  ·obtain ⟨x, hx, q⟩ := m.hs h hm
   exact ⟨x, up hx, q⟩
  ·rcases List.mem_append.1 hm with q | q
   ·obtain ⟨x, hx, q⟩ := m.hs h q
    exact ⟨x, up hx, q⟩
   ·exact ⟨l.getD i d0, up (List.mem_of_getElem? hgi), List.mem_singleton.1 q⟩
theorem mkA_mach {B : Int} {P : σ → Prop} (hP : ∀ x a, P x → a < N → P (step x a)) : ∀ (f i : Nat) (l : List σ) (nx : List (List Int)) (ou : List Int) (se : List (List Bool)) {q : List σ × List (List Int) × List Int × List (List Bool)}, Mach step hold N i l nx ou se → (∀ x ∈ l, P x) → mkA step hold d0 B N f i l nx ou se = some q → Mach step hold N q.1.length q.1 q.2.1 q.2.2.1 q.2.2.2 ∧ (∃ t, q.1 = l ++ t) ∧ (∀ x ∈ q.1, P x) ∧ (i < l.length → (q.1.length : Int) ≤ B)
 | 0, i, l, nx, ou, se, q, m, hp, h => by cases h
 | f + 1, i, l, nx, ou, se, q, m, hp, h => by
  simp only [mkA] at h
  split at h
  ·rename_i hi
   split at h
   ·cases h
   ·rename_i hB
    have hps : P (l.getD i d0) := hp _ (by rw [getD_lt _ _ _ hi]; exact List.getElem_mem hi)
    obtain ⟨t, e⟩ := rowA_pre step (l.getD i d0) (List.range N) l
    obtain ⟨h1, ⟨t2, e2⟩, h3, h4⟩ := mkA_mach hP f _ _ _ _ _ (m.next (d0 := d0) hi) (rowA_sub step (l.getD i d0) (List.range N) l hp fun a ha => hP _ a hps (List.mem_range.1 ha)) h
    have hle := rowA_le step (l.getD i d0) (List.range N) l
    refine ⟨h1, ⟨t ++ t2, by rw [e2, e, List.append_assoc]⟩, h3, fun _ => ?_⟩
    by_cases hc : i + 1 < (rowA step (l.getD i d0) (List.range N) l).1.length
    ·exact h4 hc
    · -- nothing more is there
     cases f with
     | zero => cases h
     | succ f =>
      rw [mkA, if_neg hc] at h
      injection h with h
      rw [← h]
      simp only
      omega
  ·rename_i hi
   injection h with h
   subst h
   simp only
   have : i = l.length := Nat.le_antisymm m.il (by omega)
   refine ⟨by rw [this] at m; exact m, ⟨[], (List.append_nil _).symm⟩, hp, fun q => by omega⟩
theorem nodup_le : ∀ {l S : List σ}, l.Nodup → (∀ x ∈ l, x ∈ S) → l.length ≤ S.length
 | [], S, _, _ => Nat.zero_le _
 | x :: l, S, h, hs => by
  obtain ⟨h1, h2⟩ := List.nodup_cons.1 h
  have hx := hs x List.mem_cons_self
  have := nodup_le (l := l) (S := S.erase x) h2 fun y hy => (List.mem_erase_of_ne (fun e => h1 (by rw [← e]; exact hy))).2 (hs y (List.mem_cons_of_mem _ hy))
  rw [List.length_erase_of_mem hx] at this
  have := List.length_pos_of_mem hx
  simp only [List.length_cons]
  omega
theorem mkA_closed {B : Int} (S : List σ) (hS : ∀ x ∈ S, ∀ a, a < N → step x a ∈ S) (hB : (S.length : Int) ≤ B) : ∀ (f i : Nat) (l : List σ) (nx : List (List Int)) (ou : List Int) (se : List (List Bool)), Mach step hold N i l nx ou se → (∀ x ∈ l, x ∈ S) → S.length < i + f → ∃ q, mkA step hold d0 B N f i l nx ou se = some q ∧ q.1.length ≤ S.length
 | 0, i, l, nx, ou, se, m, hl, hf => by
  have := nodup_le m.nd hl
  have := m.il
  omega
 | f + 1, i, l, nx, ou, se, m, hl, hf => by
  have hle := nodup_le m.nd hl
  simp only [mkA]
  by_cases hi : i < l.length
  ·rw [if_pos hi, if_neg (by omega)]
   have hps : l.getD i d0 ∈ S := hl _ (by rw [getD_lt _ _ _ hi]; exact List.getElem_mem hi)
   exact mkA_closed S hS hB f _ _ _ _ _ (m.next (d0 := d0) hi) (rowA_sub step (l.getD i d0) (List.range N) l hl fun a ha => hS _ hps a (List.mem_range.1 ha)) (by omega)
  ·rw [if_neg hi]
   exact ⟨_, rfl, hle⟩
def stR (step : σ → Nat → σ) (z : σ) : List Nat → σ
 | [] => z
 | a :: t => step (stR step z t) a
end
end Go.Proofs.YtibammoednhnoaaE
set_option linter.unusedSimpArgs false
set_option linter.unusedVariables false
set_option maxRecDepth 20000
namespace Go.Proofs.YtibammoednhnoaaE
section
variable {σ : Type} {step : σ → Nat → σ} {hold : σ → List Bool} {N : Nat} {l : List σ} {nx : List (List Int)} {ou : List Int} {se : List (List Bool)} {z : σ}
def outV (step : σ → Nat → σ) (hold : σ → List Bool) (se : List (List Bool)) (z : σ) (x : List Nat) (i : Nat) : Int := ((ix se (hold (stR step z (x.drop i))) : Nat) : Int)
def outL (step : σ → Nat → σ) (hold : σ → List Bool) (se : List (List Bool)) (z : σ) (x : List Nat) : List Int := (List.range (x.length + 1)).map (outV step hold se z x)
theorem outL_len (x : List Nat) : (outL step hold se z x).length = x.length + 1 := by simp [outL]
theorem outL_get (x : List Nat) {i : Nat} (hi : i ≤ x.length) : List.getD (outL step hold se z x) i 0 = outV step hold se z x i := by
 rw [getD_lt _ _ _ (by rw [outL_len]; omega)]
 simp [outL]
def fromL (f : Nat → Int) (n i : Nat) : List Int := (List.range n).map fun j => if i ≤ j then f j else 0
theorem fromL_len (f : Nat → Int) (n i : Nat) : (fromL f n i).length = n := by simp [fromL]
theorem fromL_n (f : Nat → Int) (n : Nat) : fromL f n n = List.replicate n 0 := by
 refine List.ext_getElem (by simp [fromL]) fun j h1 h2 => ?_
 have : j < n := by simpa [fromL] using h1
 simp [fromL, Nat.not_le.2 this]
theorem fromL_0 (f : Nat → Int) (n : Nat) : fromL f n 0 = (List.range n).map f := by simp [fromL]
theorem fromL_set (f : Nat → Int) (n i : Nat) : List.set (fromL f n (i + 1)) i (f i) = fromL f n i := by
 refine List.ext_getElem (by simp [fromL]) fun j h1 h2 => ?_
 rw [List.getElem_set]
 simp only [fromL, List.getElem_map, List.getElem_range]
 split
 ·rename_i e; subst e; simp
 ·rename_i e
  by_cases q : i ≤ j
  ·rw [if_pos (by omega), if_pos q]
  ·rw [if_neg (by omega), if_neg q]
theorem getDN {x : List Nat} {i : Nat} (h : i < x.length) : List.getD (x.map fun n : Nat => (n : Int)) i 0 = ((x[i] : Nat) : Int) := by
 rw [getD_lt _ _ _ (by simpa using h), List.getElem_map]
theorem F22_0_ok (k : Nat) (m : Mach step hold N l.length l nx ou se) (hl : l.length ≤ 1000000) (x : List Nat) (hx : ∀ a ∈ x, a < N) (hxl : x.length ≤ 1000000) : ∀ (i mm t : Nat), i < mm → i ≤ x.length → l[t]? = some (stR step z (x.drop i)) →
  F22_0 k mm (x.map fun n : Nat => (n : Int)) (t : Int) (i : Int) (nx, (ou, ())) (fromL (outV step hold se z x) (x.length + 1) (i + 1)) = some ((), (outL step hold se z x, ()))
 | i, mm, t, hm, hi, ht => by
  obtain ⟨mm, rfl⟩ : ∃ m', mm = m' + 1 := ⟨mm - 1, by omega⟩
  have htl : t < l.length := (List.getElem?_eq_some_iff.1 ht).1
  obtain ⟨o, e1, e2⟩ := m.outs t _ htl ht
  obtain ⟨r, e3, e4, e5⟩ := m.rows t _ htl ht
  have hol := m.ol
  have hnl := m.nl
  have ho : List.getD ou t 0 = (o : Int) := by rw [List.getD_eq_getElem?_getD, e1]; rfl
  have hov : ((o : Nat) : Int) = outV step hold se z x i := by
   unfold outV
   rw [ix_of_get m.sd e2]
  have hto : t < ou.length := by omega
  have htn : t < nx.length := by omega
  have hc : i < (fromL (outV step hold se z x) (x.length + 1) (i + 1)).length := by rw [fromL_len]; omega
  simp only [F22_0]
  rw [decide_eq_true (show (t : Int) ≥ 0 by omega), cond_true, dlt hto, cond_true, if_pos (inR hto), if_pos (inR hc), tnI i, tnI t, ho, hov, fromL_set]
  cases i with
  | zero =>
   rw [show (((0 : Nat) : Int) == 0) = true from rfl, cond_true, fromL_0]
   rfl
  | succ i =>
   have hlt : i < x.length := by omega
   have hlt' : i < (x.map fun n : Nat => (n : Int)).length := by simpa using hlt
   have ha : x[i] < N := hx _ (List.getElem_mem hlt)
   obtain ⟨u, e6, e7⟩ := e5 x[i] ha
   have har : x[i] < r.length := by omega
   have hw : IntKind.wrap .i64 (((i + 1 : Nat) : Int) - 1) = (i : Int) := by rw [w64 _ (by omega) (by omega)]; omega
   have hnr : List.getD nx t [] = r := by rw [List.getD_eq_getElem?_getD, e3]; rfl
   have hru : List.getD r x[i] 0 = (u : Int) := by rw [List.getD_eq_getElem?_getD, e6]; rfl
   have hst : l[u]? = some (stR step z (x.drop i)) := by
    rw [e7, List.drop_eq_getElem_cons hlt]
    rfl
   have ih := F22_0_ok k m hl x hx hxl i mm u (by omega) (by omega) hst
   rw [show (((i + 1 : Nat) : Int) == 0) = false from beq_false_of_ne (by omega), cond_false]
   rw [dlt htn, cond_true, hw, if_pos (inR hlt'), tnI i, getDN hlt, decide_eq_true (show ((x[i] : Nat) : Int) ≥ 0 by omega), cond_true, if_pos (inR hlt'), if_pos (inR htn), hnr, dlt har, cond_true, if_pos (inR htn), if_pos (inR hlt'), if_pos (inR har), tnI (x[i]), hru, ih]
   rfl
theorem F22_ok (k : Nat) (hk : 10000000 ≤ k) (m : Mach step hold N l.length l nx ou se) (hl : l.length ≤ 1000000) (hz : l[0]? = some z) (x : List Nat) (hx : ∀ a ∈ x, a < N) (hxl : x.length ≤ 1000000) : F22 k (nx, (ou, ())) (x.map fun n : Nat => (n : Int)) = some ((outL step hold se z x, ()), ()) := by
 have e := F22_0_ok k m hl x hx hxl x.length k 0 (by omega) (Nat.le_refl _) (by rw [List.drop_length]; exact hz)
 rw [fromL_n, show ((0 : Nat) : Int) = 0 from rfl] at e
 unfold F22
 have hw : IntKind.wrap .i64 (((List.length (x.map fun n : Nat => (n : Int)) : Nat) : Int) + 1) = ((x.length + 1 : Nat) : Int) := by rw [w64 _ (by simp; omega) (by simp; omega)]; simp
 rw [hw, if_pos (by omega), List.length_map, tnI (x.length + 1), e, Option.bind_some]
end
end Go.Proofs.YtibammoednhnoaaE
set_option linter.unusedSimpArgs false
set_option linter.unusedVariables false
set_option maxRecDepth 20000
namespace Go.Proofs.YtibammoednhnoaaE
abbrev QT := List Live × List (List Int) × List Int × List (List Bool)
def mkM (I : InT) (ss : List SideT) (N : Nat) (b : Int) : Option QT := mkA (stepL I ss) (holdL ss) ([] : Live) (minI b 100000) N ((minI b 100000).toNat + 2) 0 [zeroL ss] [] [] []
theorem tot_le {ss : List SideT} (h : ∀ s ∈ ss, s.1.length ≤ 100000) : tot ss ≤ ss.length * 100000 := by
 induction ss with
 | nil => simp [tot]
 | cons s ss ih =>
  rw [tot_cons, List.length_cons]
  have := h s List.mem_cons_self
  have := ih fun x hx => h x (List.mem_cons_of_mem _ hx)
  omega
theorem maxI_nat (N : Nat) : maxI (N : Int) 0 = (N : Int) := by unfold maxI; split <;> omega
theorem F16_mk (k : Nat) (I : InT) (N M : Nat) (ss : List SideT) (hk : 20000000 ≤ k) (hs : ∀ s ∈ ss, SideW I N M s) (hn : ss.length ≤ 100) (hN : N ≤ 2000000) (b : Int) : F16 k ss I (N : Int) b = some (outA (mkM I ss N b), ()) := by
 have := tot_le fun s h => (hs s h).ok.ln
 exact F16_ok k ss I N (by omega) (fun s h => (hs s h).ok) (by omega) (by omega) (by omega) (N : Int) (maxI_nat N) b
structure MW (I : InT) (ss : List SideT) (N : Nat) (b : Int) (q : QT) : Prop where
 m : Mach (stepL I ss) (holdL ss) N q.1.length q.1 q.2.1 q.2.2.1 q.2.2.2
 z : q.1[0]? = some (zeroL ss)
 shp : ∀ x ∈ q.1, Shp ss x
 le : (q.1.length : Int) ≤ minI b 100000
theorem mach0 {σ : Type} [DecidableEq σ] {step : σ → Nat → σ} {hold : σ → List Bool} {N : Nat} (z : σ) : Mach step hold N 0 [z] [] [] [] :=
 ⟨by simp, List.nodup_nil, by simp, rfl, rfl, fun j x h => by omega, fun j x h => by omega, fun h hm => by cases hm⟩
theorem mkM_ok {I : InT} {ss : List SideT} {N : Nat} {b : Int} {q : QT} (h : mkM I ss N b = some q) : MW I ss N b q := by
 obtain ⟨h1, ⟨t, h2⟩, h3, h4⟩ := mkA_mach (P := Shp ss) (fun x a hx _ => stepL_shp hx) _ 0 [zeroL ss] [] [] [] (mach0 _) (fun x hx => by rw [List.mem_singleton.1 hx]; exact zeroL_shp ss) h
 exact ⟨h1, by rw [h2]; rfl, h3, h4 (Nat.zero_lt_succ _)⟩
theorem MW.len {I : InT} {ss : List SideT} {N : Nat} {b : Int} {q : QT} (h : MW I ss N b q) : q.1.length ≤ 100000 := by
 have := h.le
 unfold minI at this
 split at this <;> omega
theorem lets_nat {l names : List Int} {N : Nat} (h : ∀ x ∈ l, x ∈ names) (hn : ∀ x ∈ names, 0 ≤ x ∧ x < (N : Int)) : ∃ x : List Nat, l = x.map (fun n : Nat => (n : Int)) ∧ ∀ a ∈ x, a < N := by
 refine ⟨l.map Int.toNat, ?_, fun a ha => ?_⟩
 ·rw [List.map_map]
  refine (List.map_id l).symm.trans (List.map_congr_left fun a ha => ?_)
  have := (hn a (h a ha)).1
  show a = ((a.toNat : Nat) : Int)
  omega
 ·obtain ⟨y, hy, e⟩ := List.mem_map.1 ha
  have := hn y (h y hy)
  omega
end Go.Proofs.YtibammoednhnoaaE
set_option linter.unusedSimpArgs false
set_option linter.unusedVariables false
set_option maxRecDepth 20000
namespace Go.Proofs.YtibammoednhnoaaE
theorem start9 (k : Nat) (hk : 20000000 ≤ k) (a0 : List RawT) (a1 a2 : List Int) (h1 : a1.length ≤ 100000000000000) : F13 k a0 = some ((false, ()), ()) ∨ F13 k a0 = some ((true, ()), ()) ∧ ((∃ w, F14 k a0 a1 a2 = some ((w, false, ()), ())) ∨ ∃ w N M, F14 k a0 a1 a2 = some ((w, true, ()), ()) ∧ WG w N M) := by
 obtain ⟨b13, e13, h13⟩ := F13_ok k a0 (by omega)
 cases b13 with
 | false => exact .inl e13
 | true =>
  obtain ⟨hl, hraw⟩ := h13 rfl
  obtain ⟨w, b, e14, h14⟩ := F14_ok k a0 a1 a2 hk hraw h1
  cases b with
  | false => exact .inr ⟨e13, .inl ⟨w, e14⟩⟩
  | true =>
   obtain ⟨N, M, hw⟩ := h14 rfl
   exact .inr ⟨e13, .inr ⟨w, N, M, e14, hw⟩⟩
theorem letters_ok (k : Nat) (hk : 20000000 ≤ k) (w : WorT) (N M : Nat) (hw : WG w N M) (ts : List Int) (n : Nat) (hn : n ≤ 1000) (ha : ts.length ≤ 100000000000000) : ∃ (t : List Int) (x : List Nat), F21 k ts (n : Int) = some ((t, ()), ()) ∧ F20 k w t = some ((x.map (fun n : Nat => (n : Int)), ()), ()) ∧ x.length ≤ n ∧ ∀ a ∈ x, a < N := by
 obtain ⟨t, e1, h1⟩ := F21_ok k ts n hn (by omega) ha
 obtain ⟨l, e2, h2, h3⟩ := F20_ok k t w (by omega) (by omega) (by have := hw.bc; have := hw.cl; omega) hw.bc hw.ne
 obtain ⟨x, hx, hxN⟩ := lets_nat h3 hw.lets
 have hxl : x.length = l.length := by rw [hx]; simp
 exact ⟨t, x, e1, by rw [e2, hx], by omega, hxN⟩
section
variable {σ : Type} {step : σ → Nat → σ} {hold : σ → List Bool} {N : Nat} {l : List σ} {nx : List (List Int)} {ou : List Int} {se : List (List Bool)} {z : σ}
theorem mach_run (m : Mach step hold N l.length l nx ou se) (hz : l[0]? = some z) : ∀ (x : List Nat), (∀ a ∈ x, a < N) → ∃ t : Nat, l[t]? = some (stR step z x)
 | [], _ => ⟨0, hz⟩
 | a :: x, h => by
  obtain ⟨t, e⟩ := mach_run m hz x fun b hb => h b (List.mem_cons_of_mem _ hb)
  obtain ⟨r, _, _, h3⟩ := m.rows t _ (List.getElem?_eq_some_iff.1 e).1 e
  obtain ⟨u, _, e2⟩ := h3 a (h a List.mem_cons_self)
  exact ⟨u, e2⟩
theorem out_ok (m : Mach step hold N l.length l nx ou se) (hz : l[0]? = some z) (x : List Nat) (hx : ∀ a ∈ x, a < N) : ix se (hold (stR step z x)) < se.length ∧ List.getD se (ix se (hold (stR step z x))) [] = hold (stR step z x) := by
 obtain ⟨t, e⟩ := mach_run m hz x hx
 obtain ⟨u, _, e2⟩ := m.outs t _ (List.getElem?_eq_some_iff.1 e).1 e
 have hm : hold (stR step z x) ∈ se := List.mem_of_getElem? e2
 exact ⟨ix_lt hm, by rw [getD_lt _ _ _ (ix_lt hm), ix_get hm]⟩
end
theorem stR_shp {I : InT} {ss : List SideT} : ∀ (x : List Nat), Shp ss (stR (stepL I ss) (zeroL ss) x)
 | [] => zeroL_shp ss
 | a :: x => stepL_shp (stR_shp x)
end Go.Proofs.YtibammoednhnoaaE

