/- Plain laws. Conditions: none. -/
import Derived.Test.YtibammoednhnoaaP0
set_option linter.unusedSimpArgs false
set_option linter.unusedVariables false
set_option maxRecDepth 20000
namespace Go.Proofs.YtibammoednhnoaaE
theorem get_preA {σ : Type} {l l' t : List σ} {i : Nat} {x : σ} (e : l' = l ++ t) (h : l[i]? = some x) : l'[i]? = some x := by
 rw [e, List.getElem?_append_left (List.getElem?_eq_some_iff.1 h).1]
 exact h
section
variable {σ : Type} [DecidableEq σ]
theorem put1_nodup {l : List σ} (h : l.Nodup) (x : σ) : (put1 l x).Nodup := by
 unfold put1
 split
 ·exact h
 ·rename_i hx
  rw [List.nodup_append]
  refine ⟨h, by simp, fun a ha b hb => ?_⟩
  rw [List.mem_singleton.1 hb]
  exact fun e => hx (e ▸ ha)
theorem put1_get (l : List σ) (x : σ) : (put1 l x)[ix l x]? = some x := by
 unfold put1
 split
 ·rename_i hx
  rw [List.getElem?_eq_getElem (ix_lt hx), ix_get hx]
 ·rename_i hx
  rw [ix_no hx]
  simp
theorem rowA_spec (step : σ → Nat → σ) (s : σ) : ∀ (al : List Nat) (l : List σ), l.Nodup → (rowA step s al l).1.Nodup ∧ ∀ (p a : Nat), al[p]? = some a → ∃ t : Nat, (rowA step s al l).2[p]? = some (t : Int) ∧ (rowA step s al l).1[t]? = some (step s a)
 | [], l, h => ⟨h, fun p a e => by simp at e⟩
 | b :: al, l, h => by
  obtain ⟨h1, h2⟩ := rowA_spec step s al (put1 l (step s b)) (put1_nodup h _)
  obtain ⟨t1, e1⟩ := rowA_pre step s al (put1 l (step s b))
  refine ⟨h1, fun p a e => ?_⟩
  cases p with
  | zero =>
   simp only [List.getElem?_cons_zero, Option.some.injEq] at e
   subst e
   exact ⟨ix l (step s b), by rw [rowA_2]; rfl, by rw [rowA_1]; exact get_preA e1 (put1_get l (step s b))⟩
  | succ p =>
   simp only [List.getElem?_cons_succ] at e
   obtain ⟨t, e2, e3⟩ := h2 p a e
   exact ⟨t, by rw [rowA_2]; exact e2, by rw [rowA_1]; exact e3⟩
theorem rowA_sub (step : σ → Nat → σ) (s : σ) {P : σ → Prop} : ∀ (al : List Nat) (l : List σ), (∀ x ∈ l, P x) → (∀ a ∈ al, P (step s a)) → ∀ x ∈ (rowA step s al l).1, P x
 | [], l, h, _ => h
 | b :: al, l, h, h2 => by
  rw [rowA_1]
  refine rowA_sub step s al _ (fun x hx => ?_) fun a ha => h2 a (List.mem_cons_of_mem _ ha)
  unfold put1 at hx
  split at hx
  ·exact h x hx
  ·rcases List.mem_append.1 hx with q | q
   ·exact h x q
   ·rw [List.mem_singleton.1 q]; exact h2 b List.mem_cons_self
variable (step : σ → Nat → σ) (hold : σ → List Bool) (d0 : σ) (N : Nat)
structure Mach (i : Nat) (l : List σ) (nx : List (List Int)) (ou : List Int) (se : List (List Bool)) : Prop where
 nd : l.Nodup
 sd : se.Nodup
 il : i ≤ l.length
 nl : nx.length = i
 ol : ou.length = i
 rows : ∀ j x, j < i → l[j]? = some x → ∃ r, nx[j]? = some r ∧ r.length = N ∧ ∀ a, a < N → ∃ t : Nat, r[a]? = some (t : Int) ∧ l[t]? = some (step x a)
 outs : ∀ j x, j < i → l[j]? = some x → ∃ t : Nat, ou[j]? = some (t : Int) ∧ se[t]? = some (hold x)
 hs : ∀ h ∈ se, ∃ x ∈ l, h = hold x
variable {step hold d0 N}
theorem Mach.next {i : Nat} {l : List σ} {nx : List (List Int)} {ou : List Int} {se : List (List Bool)} (m : Mach step hold N i l nx ou se) (hi : i < l.length) :
  Mach step hold N (i + 1) (rowA step (l.getD i d0) (List.range N) l).1 (nx ++ [(rowA step (l.getD i d0) (List.range N) l).2]) (ou ++ [((ix se (hold (l.getD i d0)) : Nat) : Int)]) (put1 se (hold (l.getD i d0))) := by
 obtain ⟨r1, r2⟩ := rowA_spec step (l.getD i d0) (List.range N) l m.nd
 obtain ⟨t, e⟩ := rowA_pre step (l.getD i d0) (List.range N) l
 have hle := rowA_le step (l.getD i d0) (List.range N) l
 have hrl := rowA_row step (l.getD i d0) (List.range N) l
 rw [List.length_range] at hrl
 have hgi : l[i]? = some (l.getD i d0) := by rw [getD_lt _ _ _ hi, List.getElem?_eq_getElem hi]
 obtain ⟨ts, es⟩ := put1_pre se (hold (l.getD i d0))
 have hlt : ∀ j x, j < i + 1 → (rowA step (l.getD i d0) (List.range N) l).1[j]? = some x → l[j]? = some x := fun j x hj hx => by
  rw [e, List.getElem?_append_left (by omega)] at hx
  exact hx
 refine ⟨r1, put1_nodup m.sd _, by omega, by rw [List.length_append, m.nl]; rfl, by rw [List.length_append, m.ol]; rfl, fun j x hj hx => ?_, fun j x hj hx => ?_, fun h hm => ?_⟩
 ·have hx' := hlt j x hj hx
  by_cases he : j = i
  ·subst he
   rw [hgi] at hx'
   injection hx' with hx'
   refine ⟨(rowA step (l.getD j d0) (List.range N) l).2, by rw [← m.nl]; simp, hrl, fun a ha => ?_⟩
   rw [← hx']
   exact r2 a a (by rw [List.getElem?_range ha])
  ·obtain ⟨r, q1, q2, q3⟩ := m.rows j x (by omega) hx'
   refine ⟨r, get_preA rfl q1, q2, fun a ha => ?_⟩
   obtain ⟨u, q4, q5⟩ := q3 a ha
   exact ⟨u, q4, get_preA e q5⟩
 ·have hx' := hlt j x hj hx
  by_cases he : j = i
  ·subst he
   rw [hgi] at hx'
   injection hx' with hx'
   rw [← hx']
   exact ⟨ix se (hold (l.getD j d0)), by rw [← m.ol]; simp, put1_get se _⟩
  ·obtain ⟨u, q1, q2⟩ := m.outs j x (by omega) hx'
   exact ⟨u, get_preA rfl q1, get_preA es q2⟩
 ·unfold put1 at hm
  have up : ∀ {x : σ}, x ∈ l → x ∈ (rowA step (l.getD i d0) (List.range N) l).1 := fun hx => by rw [e]; exact List.mem_append_left _ hx
  split at hm
  ·obtain ⟨x, hx, q⟩ := m.hs h hm
   exact ⟨x, up hx, q⟩
  ·rcases List.mem_append.1 hm with q | q
   ·obtain ⟨x, hx, q⟩ := m.hs h q
    exact ⟨x, up hx, q⟩
   ·exact ⟨l.getD i d0, up (List.mem_of_getElem? hgi), List.mem_singleton.1 q⟩
theorem mkA_mach {B : Int} {P : σ → Prop} (hP : ∀ x a, P x → a < N → P (step x a)) : ∀ (f i : Nat) (l : List σ) (nx : List (List Int)) (ou : List Int) (se : List (List Bool)) {q : List σ × List (List Int) × List Int × List (List Bool)}, Mach step hold N i l nx ou se → (∀ x ∈ l, P x) → mkA step hold d0 B N f i l nx ou se = some q → Mach step hold N q.1.length q.1 q.2.1 q.2.2.1 q.2.2.2 ∧ (∃ t, q.1 = l ++ t) ∧ (∀ x ∈ q.1, P x) ∧ (i < l.length → (q.1.length : Int) ≤ B)
 | 0, i, l, nx, ou, se, q, m, hp, h => by cases h
 | f + 1, i, l, nx, ou, se, q, m, hp, h => by
  simp only [mkA] at h
  split at h
  ·rename_i hi
   split at h
   ·cases h
   ·rename_i hB
    have hps : P (l.getD i d0) := hp _ (by rw [getD_lt _ _ _ hi]; exact List.getElem_mem hi)
    obtain ⟨t, e⟩ := rowA_pre step (l.getD i d0) (List.range N) l
    obtain ⟨h1, ⟨t2, e2⟩, h3, h4⟩ := mkA_mach hP f _ _ _ _ _ (m.next (d0 := d0) hi) (rowA_sub step (l.getD i d0) (List.range N) l hp fun a ha => hP _ a hps (List.mem_range.1 ha)) h
    have hle := rowA_le step (l.getD i d0) (List.range N) l
    refine ⟨h1, ⟨t ++ t2, by rw [e2, e, List.append_assoc]⟩, h3, fun _ => ?_⟩
    by_cases hc : i + 1 < (rowA step (l.getD i d0) (List.range N) l).1.length
    ·exact h4 hc
    · -- nothing more is there
     cases f with
     | zero => cases h
     | succ f =>
      rw [mkA, if_neg hc] at h
      injection h with h
      rw [← h]
      simp only
      omega
  ·rename_i hi
   injection h with h
   subst h
   simp only
   have : i = l.length := Nat.le_antisymm m.il (by omega)
   refine ⟨by rw [this] at m; exact m, ⟨[], (List.append_nil _).symm⟩, hp, fun q => by omega⟩
theorem nodup_le : ∀ {l S : List σ}, l.Nodup → (∀ x ∈ l, x ∈ S) → l.length ≤ S.length
 | [], S, _, _ => Nat.zero_le _
 | x :: l, S, h, hs => by
  obtain ⟨h1, h2⟩ := List.nodup_cons.1 h
  have hx := hs x List.mem_cons_self
  have := nodup_le (l := l) (S := S.erase x) h2 fun y hy => (List.mem_erase_of_ne (fun e => h1 (by rw [← e]; exact hy))).2 (hs y (List.mem_cons_of_mem _ hy))
  rw [List.length_erase_of_mem hx] at this
  have := List.length_pos_of_mem hx
  simp only [List.length_cons]
  omega
theorem rowA_map {τ : Type} [DecidableEq τ] {step2 : τ → Nat → τ} {φ : σ → τ} {P : σ → Prop} (hinj : ∀ x y, P x → P y → φ x = φ y → x = y) {s : σ} : ∀ (al : List Nat) (l : List σ), (∀ a ∈ al, step2 (φ s) a = φ (step s a) ∧ P (step s a)) → (∀ x ∈ l, P x) → rowA step2 (φ s) al (l.map φ) = ((rowA step s al l).1.map φ, (rowA step s al l).2)
 | [], l, _, _ => rfl
 | b :: al, l, ha, hl => by
  obtain ⟨e, hb⟩ := ha b List.mem_cons_self
  have hi : ∀ y ∈ l, φ y = φ (step s b) → y = step s b := fun y hy e => hinj y _ (hl y hy) hb e
  have ih := rowA_map hinj (s := s) al (put1 l (step s b)) (fun a h => ha a (List.mem_cons_of_mem _ h)) (fun x hx => by
   unfold put1 at hx
   split at hx
   ·exact hl x hx
   ·rcases List.mem_append.1 hx with q | q
    ·exact hl x q
    ·rw [List.mem_singleton.1 q]; exact hb)
  refine Prod.ext ?_ ?_
  ·rw [rowA_1, e, ← put1_map φ l _ hi, ih, rowA_1]
  ·show (rowA step2 (φ s) (b :: al) (l.map φ)).2 = (rowA step s (b :: al) l).2
   rw [rowA_2, rowA_2, e, ← put1_map φ l _ hi, ih, ix_map φ l _ hi]
theorem mkA_map {τ : Type} [DecidableEq τ] {step2 : τ → Nat → τ} {hold2 : τ → List Bool} {e0 : τ} {B : Int} {φ : σ → τ} {ψ : List Bool → List Bool} {P : σ → Prop} (hinj : ∀ x y, P x → P y → φ x = φ y → x = y) (hψ : ∀ x y, ψ x = ψ y → x = y)
  (hstep : ∀ x a, P x → a < N → step2 (φ x) a = φ (step x a) ∧ P (step x a)) (hhold : ∀ x, P x → hold2 (φ x) = ψ (hold x)) : ∀ (f i : Nat) (l : List σ) (nx : List (List Int)) (ou : List Int) (se : List (List Bool)), (∀ x ∈ l, P x) →
  mkA step2 hold2 e0 B N f i (l.map φ) nx ou (se.map ψ) = (mkA step hold d0 B N f i l nx ou se).map fun q => (q.1.map φ, q.2.1, q.2.2.1, q.2.2.2.map ψ)
 | 0, i, l, nx, ou, se, hl => rfl
 | f + 1, i, l, nx, ou, se, hl => by
  simp only [mkA]
  rw [List.length_map]
  by_cases hi : i < l.length
  ·rw [if_pos hi, if_pos hi]
   by_cases hB : (l.length : Int) > B
   ·rw [if_pos hB, if_pos hB]
    rfl
   ·have hps : P (l.getD i d0) := hl _ (by rw [getD_lt _ _ _ hi]; exact List.getElem_mem hi)
    have hg : List.getD (l.map φ) i e0 = φ (l.getD i d0) := by
     rw [getD_lt _ _ _ (by simpa using hi), List.getElem_map, getD_lt _ _ _ hi]
    have hr := rowA_map (step := step) (step2 := step2) hinj (s := l.getD i d0) (List.range N) l (fun a ha => hstep _ a hps (List.mem_range.1 ha)) hl
    rw [if_neg hB, if_neg hB, hg, hr, hhold _ hps, ix_map ψ se _ (fun y _ e => hψ _ _ e), ← put1_map ψ se _ (fun y _ e => hψ _ _ e)]
    exact mkA_map hinj hψ hstep hhold f (i + 1) _ _ _ _ (rowA_sub step (l.getD i d0) (List.range N) l hl fun a ha => (hstep _ a hps (List.mem_range.1 ha)).2)
  ·rw [if_neg hi, if_neg hi]
   rfl
end
end Go.Proofs.YtibammoednhnoaaE
set_option linter.unusedSimpArgs false
set_option linter.unusedVariables false
set_option maxRecDepth 20000
namespace Go.Proofs.YtibammoednhnoaaE
abbrev QT := List Live × List (List Int) × List Int × List (List Bool)
def mkM (I : InT) (ss : List SideT) (N : Nat) (b : Int) : Option QT := mkA (stepL I ss) (holdL ss) ([] : Live) (minI b 100000) N ((minI b 100000).toNat + 2) 0 [zeroL ss] [] [] []
theorem tot_le {ss : List SideT} (h : ∀ s ∈ ss, s.1.length ≤ 100000) : tot ss ≤ ss.length * 100000 := by
 induction ss with
 | nil => simp [tot]
 | cons s ss ih =>
  rw [tot_cons, List.length_cons]
  have := h s List.mem_cons_self
  have := ih fun x hx => h x (List.mem_cons_of_mem _ hx)
  omega
theorem maxI_nat (N : Nat) : maxI (N : Int) 0 = (N : Int) := by unfold maxI; split <;> omega
theorem F16_mk (k : Nat) (I : InT) (N M : Nat) (ss : List SideT) (hk : 20000000 ≤ k) (hs : ∀ s ∈ ss, SideW I N M s) (hn : ss.length ≤ 100) (hN : N ≤ 2000000) (b : Int) : F16 k ss I (N : Int) b = some (outA (mkM I ss N b), ()) := by
 have := tot_le fun s h => (hs s h).ok.ln
 exact F16_ok k ss I N (by omega) (fun s h => (hs s h).ok) (by omega) (by omega) (by omega) (N : Int) (maxI_nat N) b
structure MW (I : InT) (ss : List SideT) (N : Nat) (b : Int) (q : QT) : Prop where
 m : Mach (stepL I ss) (holdL ss) N q.1.length q.1 q.2.1 q.2.2.1 q.2.2.2
 z : q.1[0]? = some (zeroL ss)
 shp : ∀ x ∈ q.1, Shp ss x
 le : (q.1.length : Int) ≤ minI b 100000
theorem mach0 {σ : Type} [DecidableEq σ] {step : σ → Nat → σ} {hold : σ → List Bool} {N : Nat} (z : σ) : Mach step hold N 0 [z] [] [] [] :=
 ⟨by simp, List.nodup_nil, by simp, rfl, rfl, fun j x h => by omega, fun j x h => by omega, fun h hm => by cases hm⟩
theorem mkM_ok {I : InT} {ss : List SideT} {N : Nat} {b : Int} {q : QT} (h : mkM I ss N b = some q) : MW I ss N b q := by
 obtain ⟨h1, ⟨t, h2⟩, h3, h4⟩ := mkA_mach (P := Shp ss) (fun x a hx _ => stepL_shp hx) _ 0 [zeroL ss] [] [] [] (mach0 _) (fun x hx => by rw [List.mem_singleton.1 hx]; exact zeroL_shp ss) h
 exact ⟨h1, by rw [h2]; rfl, h3, h4 (Nat.zero_lt_succ _)⟩
theorem MW.len {I : InT} {ss : List SideT} {N : Nat} {b : Int} {q : QT} (h : MW I ss N b q) : q.1.length ≤ 100000 := by
 have := h.le
 unfold minI at this
 split at this <;> omega
theorem F18_0_self (k : Nat) (c : BackT) (j : Nat) (hj : j < c.1.length) (hr : c.1[j].length ≤ 5000000) : ∀ (d m i : Nat), i + d = c.1[j].length → d < m → F18_0 k m (j : Int) (i : Int) c c = some (.inl (((j : Int), ()), (c, c, ())))
 | 0, m, i, hi, hm => by
  obtain ⟨m, rfl⟩ := pos1 (m := m) (by omega)
  simp only [F18_0]
  rw [if_pos (inR hj), tnI j, getD_lt _ _ _ hj, decide_eq_false (by omega), cond_false]
 | d + 1, m, i, hi, hm => by
  obtain ⟨m, rfl⟩ := pos1 (m := m) (by omega)
  have hlt : i < c.1[j].length := by omega
  simp only [F18_0]
  rw [if_pos (inR hj), tnI j, getD_lt _ _ _ hj, dlt hlt, cond_true, if_pos (inR hj), if_pos (inR hlt), if_pos (inR hj), if_pos (inR hlt)]
  simp only [bne_self_eq_false, cond_false]
  rw [wsucc i _ hlt (by omega), F18_0_self k c j hj hr d m (i + 1) (by omega) (by omega)]
  rfl
theorem F18_1_self (k : Nat) (c : BackT) (hk : 10000000 ≤ k) (hl : c.1.length ≤ 1000000) (hr : ∀ r ∈ c.1, r.length ≤ 5000000) : ∀ (d m i : Nat), i + d = c.1.length → d < m → F18_1 k m (i : Int) c c = some (.inl ((), (c, c, ())))
 | 0, m, i, hi, hm => by
  obtain ⟨m, rfl⟩ := pos1 (m := m) (by omega)
  simp only [F18_1]
  rw [decide_eq_false (by omega), cond_false]
 | d + 1, m, i, hi, hm => by
  obtain ⟨m, rfl⟩ := pos1 (m := m) (by omega)
  have hlt : i < c.1.length := by omega
  have hri := hr _ (List.getElem_mem hlt)
  have e := F18_0_self k c i hlt hri c.1[i].length k 0 (Nat.zero_add _) (by omega)
  rw [show ((0 : Nat) : Int) = 0 from rfl] at e
  simp only [F18_1]
  rw [dlt hlt, cond_true, if_pos (inR hlt), if_pos (inR hlt)]
  simp only [bne_self_eq_false, cond_false]
  rw [e, Option.bind_some]
  simp only
  rw [wsucc i _ hlt (by omega), F18_1_self k c hk hl hr d m (i + 1) (by omega) (by omega)]
  rfl
theorem F18_2_self (k : Nat) (c : BackT) (hl : c.2.1.length ≤ 1000000) : ∀ (d m i : Nat), i + d = c.2.1.length → d < m → F18_2 k m (i : Int) c c = some (.inl ((), ()))
 | 0, m, i, hi, hm => by
  obtain ⟨m, rfl⟩ := pos1 (m := m) (by omega)
  simp only [F18_2]
  rw [decide_eq_false (by omega), cond_false]
 | d + 1, m, i, hi, hm => by
  obtain ⟨m, rfl⟩ := pos1 (m := m) (by omega)
  have hlt : i < c.2.1.length := by omega
  simp only [F18_2]
  rw [dlt hlt, cond_true, if_pos (inR hlt), if_pos (inR hlt)]
  simp only [bne_self_eq_false, cond_false]
  rw [wsucc i _ hlt (by omega), F18_2_self k c hl d m (i + 1) (by omega) (by omega)]
  rfl
theorem F18_self (k : Nat) (c : BackT) (hk : 10000000 ≤ k) (hl : c.1.length ≤ 1000000) (hr : ∀ r ∈ c.1, r.length ≤ 5000000) (hl2 : c.2.1.length ≤ 1000000) : F18 k c c = some ((true, ()), ()) := by
 have e := F18_1_self k c hk hl hr c.1.length k 0 (Nat.zero_add _) (by omega)
 have e2 := F18_2_self k c hl2 c.2.1.length k 0 (Nat.zero_add _) (by omega)
 rw [show ((0 : Nat) : Int) = 0 from rfl] at e e2
 unfold F18
 simp only [bne_self_eq_false, cond_false]
 rw [e, Option.bind_some]
 simp only
 rw [e2, Option.bind_some]
theorem MW.small {I : InT} {ss : List SideT} {N : Nat} {b : Int} {q : QT} (h : MW I ss N b q) (hN : N ≤ 5000000) (hn : ss.length ≤ 5000000) : (∀ r ∈ q.2.1, r.length ≤ 5000000) ∧ q.2.1.length ≤ 1000000 ∧ q.2.2.1.length ≤ 1000000 ∧ q.2.2.2.length ≤ 1000000 ∧ ∀ r ∈ q.2.2.2, r.length = ss.length := by
 have h1 := h.len
 have h2 := h.m.nl
 have h3 := h.m.ol
 have h5 : ∀ r ∈ q.2.2.2, r.length = ss.length := fun r hr => by
  obtain ⟨x, hx, e⟩ := h.m.hs r hr
  rw [e]
  exact holdL_len (h.shp x hx)
 refine ⟨fun r hr => ?_, by omega, by omega, ?_, h5⟩
 ·obtain ⟨i, hi, e⟩ := List.mem_iff_getElem.1 hr
  obtain ⟨r', q1, q2, _⟩ := h.m.rows i _ (by omega) (List.getElem?_eq_getElem (by omega : i < q.1.length))
  rw [List.getElem?_eq_getElem hi, e] at q1
  injection q1 with q1
  rw [q1, q2]
  exact hN
 ·have := nodup_le h.m.sd (S := q.1.map (holdL ss)) fun x hx => by
   obtain ⟨y, hy, e⟩ := h.m.hs x hx
   exact List.mem_map.2 ⟨y, hy, e.symm⟩
  rw [List.length_map] at this
  omega
end Go.Proofs.YtibammoednhnoaaE
set_option linter.unusedSimpArgs false
set_option linter.unusedVariables false
set_option maxRecDepth 20000
namespace Go.Proofs.YtibammoednhnoaaE
theorem start9 (k : Nat) (hk : 20000000 ≤ k) (a0 : List RawT) (a1 a2 : List Int) (h1 : a1.length ≤ 100000000000000) : F13 k a0 = some ((false, ()), ()) ∨ F13 k a0 = some ((true, ()), ()) ∧ ((∃ w, F14 k a0 a1 a2 = some ((w, false, ()), ())) ∨ ∃ w N M, F14 k a0 a1 a2 = some ((w, true, ()), ()) ∧ WG w N M) := by
 obtain ⟨b13, e13, h13⟩ := F13_ok k a0 (by omega)
 cases b13 with
 | false => exact .inl e13
 | true =>
  obtain ⟨hl, hraw⟩ := h13 rfl
  obtain ⟨w, b, e14, h14⟩ := F14_ok k a0 a1 a2 hk hraw h1
  cases b with
  | false => exact .inr ⟨e13, .inl ⟨w, e14⟩⟩
  | true =>
   obtain ⟨N, M, hw⟩ := h14 rfl
   exact .inr ⟨e13, .inr ⟨w, N, M, e14, hw⟩⟩
section
variable {σ : Type} {step : σ → Nat → σ} {hold : σ → List Bool} {N : Nat} {l : List σ} {nx : List (List Int)} {ou : List Int} {se : List (List Bool)} {z : σ}
end
end Go.Proofs.YtibammoednhnoaaE

