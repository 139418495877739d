/- The engine, part 12: the operation that stores. Conditions: none. -/
import Derived.Test.YtibammoednhnoaaE11
set_option linter.unusedVariables false
set_option linter.unusedSimpArgs false
namespace Go.Proofs.YtibammoednhnoaaE
open Kd
variable {α : Type}

theorem thru_put {K2 : Kd} (p : List Sel) : ∀ (p' : List Sel) {K : Kd} {m : MC K2 K}, mkC K2 K p = some m → (div p p' = true ∨ beg p p' = true) → thru K p' = true → thru m.K' p' = true := by
 induction p with
 | nil =>
  intro p' K m h hd ht
  cases p' with
  | nil => cases K <;> simp [thru] at ht
  | cons s' p' => simp [div, beg] at hd
 | cons s p ih =>
  intro p' K m h hd ht
  cases p' with
  | nil => cases K <;> simp [thru] at ht
  | cons s' p' =>
   cases s with
   | fst =>
    cases K with
    | pair a b =>
     simp only [mkC] at h
     split at h
     ·rename_i m0 hm
      injection h with h
      subst h
      cases s' with
      | fst => exact ih p' hm (by simpa [div, beg] using hd) ht
      | snd => exact ht
      | idx j => simp [thru] at ht
     ·cases h
    | _ => simp [mkC] at h
   | snd =>
    cases K with
    | pair a b =>
     simp only [mkC] at h
     split at h
     ·rename_i m0 hm
      injection h with h
      subst h
      cases s' with
      | snd => exact ih p' hm (by simpa [div, beg] using hd) ht
      | fst => exact ht
      | idx j => simp [thru] at ht
     ·cases h
    | _ => simp [mkC] at h
   | idx i =>
    cases K with
    | arr n e =>
     simp only [mkC] at h
     split at h
     ·rename_i m0 hm
      split at h
      ·injection h with h
       subst h
       exact ht
      ·cases h
     ·cases h
    | sl o t e hole =>
     cases o with
     | false => simp [mkC] at h
     | true =>
      cases hole with
      | none =>
       simp only [mkC] at h
       split at h
       ·split at h
        ·injection h with h
         subst h
         exact ht
        ·cases h
       ·cases h
      | some j =>
       cases p with
       | cons _ _ => simp [mkC] at h
       | nil =>
        simp only [mkC] at h
        split at h
        ·injection h with h
         subst h
         cases s' <;> simp_all [thru]
        ·cases h
    | _ => simp [mkC] at h

def isSl : Option Kd → Bool
 | some (.sl _ _ _ _) => true
 | _ => false
def keepS (id : Nat) (p : List Sel) (K : Kd) : SV → Bool
 | .ptr i p' => i != id || div p p' || beg p p'
 | .at i p' => i != id || div p p' || (beg p p' && decide (p'.length < p.length) && isSl (sub K p'))
 | .slc i p' _ _ => i != id || div p p' || (beg p p' && decide (p'.length < p.length))
 | _ => true
def keepA (id : Nat) (p : List Sel) (K : Kd) : AV → Bool
 | .one v => keepS id p K v
 | .tup l => l.all (keepS id p K)

theorem keepS_is {Γ : HF} {rcs : List (Nat × RC)} {h0 : HF} {id : Nat} {r : RC} {p : List Sel} {K2 : Kd} {m : MC K2 r.K} {y : K2.T} {zy : K2.Z} {v : SV} {u : Value}
  (st : Star Γ rcs h0) (hr : look rcs id = some r) (hm : mkC K2 r.K p = some m) (hs : m.K1.size = K2.size) (hval : m.c.valid r.x)
  (hk : keepS id p r.K v = true) (hi : v.is Γ rcs u) : v.is Γ (updL rcs id ⟨r.box, m.K', m.c.put r.x y, m.c.putZ r.x r.z zy⟩) u := by
 have hl := look_updL (u := (⟨r.box, m.K', m.c.put r.x y, m.c.putZ r.x r.z zy⟩ : RC)) r hr
 obtain ⟨h1, _, _, _, o1⟩ := star_take st hr
 obtain ⟨h2, _, o2⟩ := rc_own o1
 cases v with
 | val K x => exact hi
 | eptr K x => exact hi
 | nilS => exact hi
 | nilP => exact hi
 | bnd f K x => exact hi
 | clo f caps =>
  obtain ⟨vs, e, hlen, hall⟩ := hi
  refine ⟨vs, e, hlen, fun j id' hj => ?_⟩
  obtain ⟨r0, b, t, hr0, hb, hv⟩ := hall j id' hj
  by_cases hii : id' = id
  ·subst hii
   rw [hr] at hr0
   injection hr0 with hr0
   subst hr0
   exact ⟨⟨r.box, m.K', m.c.put r.x y, m.c.putZ r.x r.z zy⟩, b, t, by rw [hl, if_pos rfl], hb, hv⟩
  ·exact ⟨r0, b, t, by rw [hl, if_neg hii]; exact hr0, hb, hv⟩
 | ptr i p' =>
  obtain ⟨r0, q, hr0, hp, hb, e⟩ := hi
  by_cases hii : i = id
  ·subst hii
   rw [hr] at hr0
   injection hr0 with hr0
   subst hr0
   have hd : div p p' = true ∨ beg p p' = true := by simpa [keepS] using hk
   obtain ⟨q', hq', l⟩ := pl_put p p' hm hs hd r.x y r.z zy _ q h2 o2 hval hp
   refine ⟨⟨r.box, m.K', m.c.put r.x y, m.c.putZ r.x r.z zy⟩, q', by rw [hl, if_pos rfl], hq', fun e => thru_put p p' hm hd (hb e), ?_⟩
   rw [l.a]; exact e
  ·exact ⟨r0, q, by rw [hl, if_neg hii]; exact hr0, hp, hb, e⟩
 | «at» i p' =>
  obtain ⟨r0, q, hr0, hp, e⟩ := hi
  by_cases hii : i = id
  ·subst hii
   rw [hr] at hr0
   injection hr0 with hr0
   subst hr0
   have hd : div p p' = true ∨ (beg p p' = true ∧ p'.length < p.length) ∧ isSl (sub r.K p') = true := by simpa [keepS] using hk
   obtain ⟨q', hq', l⟩ := pl_put p p' hm hs (hd.imp id (fun q => q.1.1)) r.x y r.z zy _ q h2 o2 hval hp
   refine ⟨⟨r.box, m.K', m.c.put r.x y, m.c.putZ r.x r.z zy⟩, q', by rw [hl, if_pos rfl], hq', ?_⟩
   rcases hd with hd | ⟨⟨hd, hlt⟩, hsl⟩
   ·rw [l.div hd]; exact e
   ·rw [pl_sub p' _ _ _ _ hp] at hsl
    obtain ⟨qK, qx, qz, qa⟩ := q
    cases qK <;> simp only [isSl, Bool.false_eq_true] at hsl
    obtain ⟨hole', x', z', rfl, e1, e2⟩ := l.hdr hd hlt _ _ _ _ _ _ _ rfl
    rw [e]
    simp only [toV, single, cells, e1, e2]
  ·exact ⟨r0, q, by rw [hl, if_neg hii]; exact hr0, hp, e⟩
 | slc i p' off len =>
  obtain ⟨r0, t, e, hole, x', z', qa, hr0, hp, hle, hv⟩ := hi
  by_cases hii : i = id
  ·subst hii
   rw [hr] at hr0
   injection hr0 with hr0
   subst hr0
   have hd : div p p' = true ∨ (beg p p' = true ∧ p'.length < p.length) := by simpa [keepS] using hk
   obtain ⟨q', hq', l⟩ := pl_put p p' hm hs (hd.imp id (fun q => q.1)) r.x y r.z zy _ _ h2 o2 hval hp
   rcases hd with hd | ⟨hd, hlt⟩
   ·rw [l.div hd] at hq'
    exact ⟨⟨r.box, m.K', m.c.put r.x y, m.c.putZ r.x r.z zy⟩, t, e, hole, x', z', qa, by rw [hl, if_pos rfl], hq', hle, hv⟩
   ·obtain ⟨hole', x2, z2, rfl, e1, e2⟩ := l.hdr hd hlt _ _ _ _ _ _ _ rfl
    exact ⟨⟨r.box, m.K', m.c.put r.x y, m.c.putZ r.x r.z zy⟩, t, e, hole', x2, z2, qa, by rw [hl, if_pos rfl], hq', by rw [e2]; exact hle, by rw [e1]; exact hv⟩
  ·exact ⟨r0, t, e, hole, x', z', qa, by rw [hl, if_neg hii]; exact hr0, hp, hle, hv⟩
theorem keepA_is {Γ : HF} {rcs : List (Nat × RC)} {h0 : HF} {id : Nat} {r : RC} {p : List Sel} {K2 : Kd} {m : MC K2 r.K} {y : K2.T} {zy : K2.Z} {v : AV} {u : Value}
  (st : Star Γ rcs h0) (hr : look rcs id = some r) (hm : mkC K2 r.K p = some m) (hs : m.K1.size = K2.size) (hval : m.c.valid r.x)
  (hk : keepA id p r.K v = true) (hi : v.is Γ rcs u) : v.is Γ (updL rcs id ⟨r.box, m.K', m.c.put r.x y, m.c.putZ r.x r.z zy⟩) u := by
 cases v with
 | one v => exact keepS_is st hr hm hs hval hk hi
 | tup l =>
  obtain ⟨vs, e, hl, hall⟩ := hi
  refine ⟨vs, e, hl, fun i s hs' => ?_⟩
  obtain ⟨u', hu, h'⟩ := hall i s hs'
  exact ⟨u', hu, keepS_is st hr hm hs hval (List.all_eq_true.1 hk s (List.mem_of_getElem? hs')) h'⟩

theorem cells_thru {Γ : HF} {K2 : Kd} (p : List Sel) : ∀ {K : Kd} {m : MC K2 K}, mkC K2 K p = some m → thru K p = true → ∀ (x : K.T) (y : K2.T) (z : K.Z) (zy : K2.Z) (h : HF), K.Own Γ x z h → m.K'.cells (m.c.put x y) (m.c.putZ x z zy) = K.cells x z ∧ single m.K' = single K := by
 induction p with
 | nil => intro K m h ht; cases K <;> simp [thru] at ht
 | cons s p ih =>
  intro K m h ht x y z zy hh ho
  cases s with
  | fst =>
   cases K with
   | pair a b =>
    simp only [mkC] at h
    split at h
    ·rename_i m0 hm
     injection h with h
     subst h
     obtain ⟨h1, h2, _, _, o1, _⟩ := ho
     have := (ih hm ht x.1 y z.1 zy h1 o1).1
     exact ⟨by simp only [Chg.put, Chg.putZ, Kd.cells, this], rfl⟩
    ·cases h
   | _ => simp [mkC] at h
  | snd =>
   cases K with
   | pair a b =>
    simp only [mkC] at h
    split at h
    ·rename_i m0 hm
     injection h with h
     subst h
     obtain ⟨h1, h2, _, _, _, o2⟩ := ho
     have := (ih hm ht x.2 y z.2 zy h2 o2).1
     exact ⟨by simp only [Chg.put, Chg.putZ, Kd.cells, this], rfl⟩
    ·cases h
   | _ => simp [mkC] at h
  | idx i =>
   cases K with
   | arr n e =>
    simp only [mkC] at h
    split at h
    ·rename_i m0 hm
     split at h
     ·rename_i he
      injection h with h
      subst h
      obtain ⟨K1, K', c, cond, dec⟩ := m0
      simp only at he
      subst he
      refine ⟨?_, rfl⟩
      simp only [Chg.put, Chg.putZ, Kd.cells, castC_rfl]
      have key : ∀ l : List Nat, (∀ j ∈ l, j < n) → l.flatMap (fun j => K'.cells (List.getD (List.set x i (c.put (List.getD x i K'.dft) y)) j K'.dft) (if j = i then c.putZ (List.getD x i K'.dft) (z i) zy else z j)) = l.flatMap fun j => K'.cells (List.getD x j K'.dft) (z j) := by
       intro l
       induction l with
       | nil => intro _; rfl
       | cons j l ihl =>
        intro hl
        have hjn := hl j List.mem_cons_self
        rw [List.flatMap_cons, List.flatMap_cons, ihl fun k hk => hl k (List.mem_cons_of_mem _ hk)]
        congr 1
        by_cases hji : j = i
        ·subst hji
         obtain ⟨hx, he⟩ := ho
         obtain ⟨_, hi', _, _, oi, _⟩ := Each.take hjn he
         have h1 := (ih hm ht (List.getD x j K'.dft) y (z j) zy hi' oi).1
         rw [if_pos rfl, getD_set_self (by rw [hx]; exact hjn)]
         exact h1
        ·rw [if_neg hji, getD_set_ne' (Ne.symm hji)]
      exact key _ fun j hj => List.mem_range.1 hj
     ·cases h
    ·cases h
   | sl o t e hole =>
    cases o with
    | false => simp [mkC] at h
    | true =>
     cases hole with
     | none =>
      simp only [mkC] at h
      split at h
      ·split at h
       ·rename_i he
        injection h with h
        subst h
        refine ⟨?_, rfl⟩
        simp only [Chg.put, Chg.putZ, Kd.cells, List.length_set]
       ·cases h
      ·cases h
     | some j =>
      cases p with
      | cons _ _ => simp [mkC] at h
      | nil =>
       simp only [mkC] at h
       split at h
       ·rename_i he
        subst he
        injection h with h
        subst h
        refine ⟨?_, rfl⟩
        simp only [castF_rfl, Chg.put, Chg.putZ, Kd.cells, List.length_set]
       ·cases h
   | _ => simp [mkC] at h
theorem place_has {Γ : HF} {r : RC} {h : HF} (ho : r.Own Γ h) {p : List Sel} {q : At} (hp : pl r.K r.x r.z p ((r.box.getD (0, 0)).1, 0) = some q) (hb : r.box = none → thru r.K p = true) : h.has q.a.1 := by
 cases hbx : r.box with
 | none =>
  have o2 : r.K.Own Γ r.x r.z h := by simpa [RC.Own, hbx] using ho
  obtain ⟨c, t, hc, l⟩ := lie_pl p _ _ _ _ _ #[] 0 o2 hp (.inl (hb hbx))
  rcases hc with ⟨_, hc⟩ | ⟨hc, _⟩
  ·unfold HF.has; rw [hc]; simp
  ·rw [hb hbx] at hc; cases hc
 | some bt =>
  obtain ⟨b, t0⟩ := bt
  simp only [RC.Own, hbx] at ho
  obtain ⟨c0, h2, d2, rfl, o2, hl⟩ := ho
  have hl' : Lie c0 0 (r.K.cells r.x r.z) := fun j hj => by rw [← hl]; simp
  rw [hbx] at hp
  obtain ⟨c, t, hc, l⟩ := lie_pl p _ _ _ _ _ c0 t0 o2 hp (.inr hl')
  rcases hc with ⟨_, hc⟩ | ⟨_, e1, _⟩
  ·exact HF.has_un.2 (.inr (by unfold HF.has; rw [hc]; simp))
  ·simp only [Option.getD_some] at e1
   rw [e1]
   exact HF.has_un.2 (.inl (HF.has_one.2 rfl))
theorem box_has {Γ : HF} {r : RC} {h : HF} (ho : r.Own Γ h) {b : Nat} {t : TypeId} (hb : r.box = some (b, t)) : h.has b := by
 simp only [RC.Own, hb] at ho
 obtain ⟨c0, h2, d2, rfl, _⟩ := ho
 exact HF.has_un.2 (.inl (HF.has_one.2 rfl))
theorem star_two {Γ : HF} : ∀ {rcs : List (Nat × RC)} {h : HF} {i j : Nat} {r r' : RC}, Star Γ rcs h → look rcs i = some r → look rcs j = some r' → i ≠ j → ∃ h1 h2, HF.dj h1 h2 ∧ r.Own Γ h1 ∧ r'.Own Γ h2
 | (k, r0) :: l, h, i, j, r, r', ⟨g1, g2, d, e, o, st⟩, hi, hj, hne => by
  simp only [look] at hi hj
  by_cases hki : k = i
  ·subst hki
   simp only [beq_self_eq_true, if_true, Option.some.injEq] at hi
   subst hi
   rw [if_neg (by simpa using hne)] at hj
   obtain ⟨h1, hr, d1, rfl, o1⟩ := star_take st hj
   exact ⟨g1, h1, (HF.dj_un.1 d).1, o, o1⟩
  ·rw [if_neg (by simpa using hki)] at hi
   by_cases hkj : k = j
   ·subst hkj
    simp only [beq_self_eq_true, if_true, Option.some.injEq] at hj
    subst hj
    obtain ⟨h1, hr, d1, rfl, o1⟩ := star_take st hi
    exact ⟨h1, g1, (HF.dj_un.1 d).1.symm, o1, o⟩
   ·rw [if_neg (by simpa using hkj)] at hj
    exact star_two st hi hj hne
def Off (F : Fr) (ids : List Nat) (rcs0 : List (Nat × RC)) : Prop := ∀ e ∈ F.B, ∃ id, e.id = some id ∧ id ∉ ids ∧ ∃ r t, look rcs0 id = some r ∧ r.box = some (e.b, t)
def OffP (F : Fr) (id : Nat) (th : Bool) (rcs0 : List (Nat × RC)) : Prop := ∀ e ∈ F.B, ∃ id', e.id = some id' ∧ (id' ≠ id ∨ th = true) ∧ ∃ r t, look rcs0 id' = some r ∧ r.box = some (e.b, t)

theorem Good.write {F : Fr} {s : St} {a : Act} {w : World} {Γ : HF} {rcs rcs0 : List (Nat × RC)} {h h0 hn : HF} (g : Good F s a w Γ rcs h)
  (hh : h = h0.un hn) (dn : HF.dj h0 hn) (st : Star Γ rcs0 h0) (nd : (rcs0.map (·.1)).Nodup) {id : Nat} {r : RC} {p : List Sel} {q : At} {K2 : Kd} {m : MC K2 r.K} {y : K2.T} {zy : K2.Z}
  (hr : look rcs0 id = some r) (hp : pl r.K r.x r.z p ((r.box.getD (0, 0)).1, 0) = some q) (hb : r.box = none → thru r.K p = true) (hm : mkC K2 r.K p = some m) (hc : m.cond) (hs : m.K1.size = K2.size) (hy : K2.Own Γ y zy hn)
  {tm : List (Nat × AV)} (htm : ∀ t av, (t, av) ∈ tm → keepA id p r.K av = true ∧ ∃ v, a.tmps[t]? = some v ∧ av.is Γ rcs0 v)
  (hB : OffP F id (thru r.K p) rcs0) (hsubL : ∀ n r, look rcs0 n = some r → look rcs n = some r) :
  R F ⟨tm, updL (rcs0.map fun r => (r.1, r.2.ck)) id ⟨r.ck.box, m.K', m.c.put r.x y⟩⟩ a (w.setCells q.a.1 q.a.2 (K2.cells y zy)) := by
 subst hh
 obtain ⟨h', st', mem', sub', has'⟩ := write_star st nd dn g.mem hr hp hb hm hc hs hy
 obtain ⟨_, hval, _⟩ := mkC_spec p hm r.x r.z _ q hp hc
 obtain ⟨e1, e2, e3, e4, e5⟩ := setCells_same q.a.1 (K2.cells y zy) q.a.2 w
 refine ⟨Γ, updL rcs0 id ⟨r.box, m.K', m.c.put r.x y, m.c.putZ r.x r.z zy⟩, h', ?_, ?_, st', mem', ?_, ?_, g.defers, g.tsz, ?_, ?_, ?_, ?_, g.ro, g.ro0, ?_, ?_, ?_, g.sg, ?_, ?_⟩
 ·exact updL_map rcs0 id (⟨r.box, m.K', m.c.put r.x y, m.c.putZ r.x r.z zy⟩ : RC) RC.ck
 ·rw [updL_keys]; exact nd
 ·exact MemR.upd g.memR fun e => HF.dj_iff.1 g.dj _ e has'
 ·exact HF.dj_iff.2 fun b hb1 hb2 => HF.dj_iff.1 g.dj b hb1 (sub' b hb2)
 ·intro t av hm'
  obtain ⟨hk, v, hv, hi⟩ := htm t av hm'
  exact ⟨v, hv, keepA_is st hr hm hs hval hk hi⟩
 ·rw [e5]; exact g.size
 ·intro b hb1 hb2
  have hne : b ≠ q.a.1 := fun e => by
   subst e
   rcases g.own _ has' with f | f
   ·exact hb2 f
   ·omega
  rw [heap_setCells_ne _ _ _ _ _ hne]
  exact g.keep b hb1 hb2
 ·exact fun b hb' => g.own b (sub' b hb')
 ·rw [e1]; exact g.os
 ·rw [e2]; exact g.tape
 ·rw [e4]; exact g.output
 ·intro e he
  obtain ⟨id', hid, hn, r', t', hr', hbx⟩ := hB e he
  have hbn : e.b ≠ q.a.1 := fun f => by
   by_cases hne : id' = id
   ·subst hne
    rw [hr] at hr'
    injection hr' with hr'
    subst hr'
    have hth : thru r.K p = true := hn.resolve_left fun q => q rfl
    obtain ⟨h1, _, _, _, o1⟩ := star_take st hr
    simp only [RC.Own, hbx] at o1
    obtain ⟨c0, h2, d2, _, o2, _⟩ := o1
    obtain ⟨c, t, hc', _⟩ := lie_pl p _ _ _ _ _ #[] 0 o2 hp (.inl hth)
    rcases hc' with ⟨_, hc'⟩ | ⟨hc', _⟩
    ·exact HF.dj_iff.1 d2 e.b (HF.has_one.2 rfl) (by unfold HF.has; rw [f, hc']; simp)
    ·rw [hth] at hc'; cases hc'
   ·obtain ⟨h1, h2, d, o1, o2⟩ := star_two st hr' hr hne
    have f1 := box_has o1 hbx
    rw [f] at f1
    exact HF.dj_iff.1 d _ f1 (place_has o2 hp hb)
  refine ⟨⟨?_, by rw [e5]; exact (g.bx e he).1.2⟩, fun id2 hid2 => ?_⟩
  ·rw [heap_setCells_ne _ _ _ _ _ hbn]
   exact (g.bx e he).1.1
  ·rw [hid] at hid2
   injection hid2 with hid2
   subst hid2
   by_cases hne : id' = id
   ·subst hne
    rw [hr] at hr'
    injection hr' with hr'
    subst hr'
    exact ⟨⟨r.box, m.K', m.c.put r.x y, m.c.putZ r.x r.z zy⟩, t', by rw [look_updL r hr, if_pos rfl], hbx⟩
   ·exact ⟨r', t', by rw [look_updL r hr, if_neg hne]; exact hr', hbx⟩
 ·intro m' hm' r' hr'
  rw [look_updL r hr] at hr'
  by_cases hid : m'.1 = id
  ·rw [if_pos hid] at hr'
   injection hr' with hr'
   subst hr'
   rw [← g.md m' hm' r (hsubL _ _ (hid ▸ hr))]
   unfold RC.head
   cases hbx : r.box with
   | some bt => rfl
   | none =>
    simp only
    obtain ⟨h1, _, _, _, o1⟩ := star_take st hr
    have o2 : r.K.Own Γ r.x r.z h1 := by simpa [RC.Own, hbx] using o1
    obtain ⟨c1, c2⟩ := cells_thru p hm (hb hbx) r.x y r.z zy h1 o2
    unfold toV
    rw [c1, c2]
  ·rw [if_neg hid] at hr'
   exact g.md m' hm' r' (hsubL _ _ hr')
end Go.Proofs.YtibammoednhnoaaE

