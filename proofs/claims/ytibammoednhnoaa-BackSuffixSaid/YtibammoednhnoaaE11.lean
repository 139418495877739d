/- The engine, part 11: stores. Conditions: none. -/
import Derived.Test.YtibammoednhnoaaE10
set_option linter.unusedVariables false
set_option linter.unusedSimpArgs false
namespace Go.Proofs.YtibammoednhnoaaE
open Kd
variable {α : Type}

structure MC (K2 K : Kd) where
 K1 : Kd
 K' : Kd
 c : Chg K1 K2 K K'
 cond : Prop
 dec : Decidable cond
instance {K2 K : Kd} (m : MC K2 K) : Decidable m.cond := m.dec
def castC {K1 K2 e e' : Kd} (h : e' = e) (c : Chg K1 K2 e e') : Chg K1 K2 e e := by subst h; exact c
def castF {K2 e : Kd} (t : TypeId) (j : Nat) (h : K2 = e) : Chg .un K2 (.sl true t e (some j)) (.sl true t e none) := by subst h; exact .fill j rfl
theorem castF_rfl {K2 : Kd} (t : TypeId) (j : Nat) : castF (K2 := K2) t j rfl = .fill j rfl := rfl
theorem castC_rfl {K1 K2 e : Kd} (c : Chg K1 K2 e e) : castC rfl c = c := rfl
def mkC (K2 : Kd) : (K : Kd) → List Sel → Option (MC K2 K)
 | K, [] => some ⟨K, K2, .nil, True, inferInstance⟩
 | .pair a b, .fst :: p => match mkC K2 a p with
  | some m => some ⟨m.K1, .pair m.K' b, .fst m.c, m.cond, m.dec⟩
  | none => none
 | .pair a b, .snd :: p => match mkC K2 b p with
  | some m => some ⟨m.K1, .pair a m.K', .snd m.c, m.cond, m.dec⟩
  | none => none
 | .arr n e, .idx i :: p => match mkC K2 e p with
  | some m => if h : m.K' = e then some ⟨m.K1, .arr n e, .idx i (castC h m.c), m.cond, m.dec⟩ else none
  | none => none
 | .sl true t e none, .idx i :: p => match mkC K2 e p with
  | some m => if h : m.K' = e then some ⟨m.K1, .sl true t e none, .sidx i (castC h m.c), m.cond, m.dec⟩ else none
  | none => none
 | .sl true t e (some j), [.idx i] => if h : K2 = e then some ⟨.un, .sl true t e none, castF t j h, i = j, inferInstance⟩ else none
 | _, _ :: _ => none

theorem mkC_spec {K2 : Kd} : ∀ (p : List Sel) {K : Kd} {m : MC K2 K}, mkC K2 K p = some m → ∀ (x : K.T) (z : K.Z) (a : Nat × Nat) (q : At), pl K x z p a = some q → m.cond → m.c.writes = true ∧ m.c.valid x ∧ m.c.loc x z a = q.a ∧ m.K1 = q.K
 | [], K, m, h, x, z, a, q, hp, hc => by
  simp only [mkC, Option.some.injEq] at h
  subst h
  simp only [pl, Option.some.injEq] at hp
  subst hp
  exact ⟨rfl, trivial, rfl, rfl⟩
 | .fst :: p, .pair k b, m, h, x, z, a, q, hp, hc => by
  simp only [mkC] at h
  split at h
  ·rename_i m0 hm
   injection h with h
   subst h
   exact mkC_spec p hm x.1 z.1 a q hp hc
  ·cases h
 | .snd :: p, .pair k b, m, h, x, z, a, q, hp, hc => by
  simp only [mkC] at h
  split at h
  ·rename_i m0 hm
   injection h with h
   subst h
   exact mkC_spec p hm x.2 z.2 _ q hp hc
  ·cases h
 | .idx i :: p, .arr n e, m, h, x, z, a, q, hp, hc => by
  simp only [mkC] at h
  split at h
  ·rename_i m0 hm
   split at h
   ·rename_i he
    injection h with h
    subst h
    simp only [pl] at hp
    split at hp
    ·rename_i hi
     obtain ⟨K1, K', c, cond, dec⟩ := m0
     simp only at he
     subst he
     obtain ⟨h1, h2, h3⟩ := mkC_spec p hm _ _ _ q hp hc
     exact ⟨h1, ⟨hi, h2⟩, h3⟩
    ·cases hp
   ·cases h
  ·cases h
 | .idx i :: p, .sl true t e none, m, h, x, z, a, q, hp, hc => by
  simp only [mkC] at h
  split at h
  ·rename_i m0 hm
   split at h
   ·rename_i he
    injection h with h
    subst h
    obtain ⟨zo, zf⟩ := z
    cases zo with
    | none => simp only [pl] at hp; cases hp
    | some y =>
     simp only [pl] at hp
     split at hp
     ·rename_i hi
      obtain ⟨K1, K', c, cond, dec⟩ := m0
      simp only at he
      subst he
      obtain ⟨h1, h2, h3⟩ := mkC_spec p hm _ _ _ q hp hc
      exact ⟨h1, ⟨hi, by simp, h2⟩, h3⟩
     ·cases hp
   ·cases h
  ·cases h
 | [.idx i], .sl true t e (some j), m, h, x, z, a, q, hp, hc => by
  simp only [mkC] at h
  split at h
  ·rename_i he
   subst he
   injection h with h
   subst h
   simp only at hc
   subst hc
   obtain ⟨zo, zf⟩ := z
   cases zo with
   | none => simp only [pl] at hp; cases hp
   | some y =>
    simp only [pl] at hp
    split at hp
    ·rename_i hi
     injection hp with hp
     subst hp
     exact ⟨rfl, hi.1, rfl, rfl⟩
    ·cases hp
  ·cases h

def div : List Sel → List Sel → Bool
 | .fst :: _, .snd :: _ => true
 | .snd :: _, .fst :: _ => true
 | .fst :: p, .fst :: q => div p q
 | .snd :: p, .snd :: q => div p q
 | .idx _ :: p, .idx _ :: q => div p q
 | _, _ => false
def beg : List Sel → List Sel → Bool
 | _, [] => true
 | .fst :: p, .fst :: q => beg p q
 | .snd :: p, .snd :: q => beg p q
 | .idx _ :: p, .idx _ :: q => beg p q
 | _, _ => false

def sameHdr (q q' : At) : Prop := ∀ o t e hole x z a, q = ⟨.sl o t e hole, x, z, a⟩ → ∃ hole' x' z', q' = ⟨.sl o t e hole', x', z', a⟩ ∧ z'.1 = z.1 ∧ List.length x' = List.length x
theorem sameHdr.refl (q : At) : sameHdr q q := fun o t e hole x z a h => ⟨hole, x, z, h, rfl, rfl⟩

structure Left (p p' : List Sel) (q q' : At) : Prop where
 a : q'.a = q.a
 div : div p p' = true → q' = q
 hdr : beg p p' = true → p'.length < p.length → sameHdr q q'
theorem Left.fst {p p' : List Sel} {q q' : At} (l : Left p p' q q') : Left (.fst :: p) (.fst :: p') q q' := ⟨l.a, fun h => l.div h, fun h k => l.hdr h (by simpa using k)⟩
theorem Left.snd {p p' : List Sel} {q q' : At} (l : Left p p' q q') : Left (.snd :: p) (.snd :: p') q q' := ⟨l.a, fun h => l.div h, fun h k => l.hdr h (by simpa using k)⟩
theorem Left.idx {p p' : List Sel} {q q' : At} {i j : Nat} (l : Left p p' q q') : Left (.idx i :: p) (.idx j :: p') q q' := ⟨l.a, fun h => l.div h, fun h k => l.hdr h (by simpa using k)⟩
theorem Left.same {p p' : List Sel} {q : At} : Left p p' q q := ⟨rfl, fun _ => rfl, fun _ _ => sameHdr.refl q⟩

theorem pl_put {Γ : HF} {K2 : Kd} (p : List Sel) : ∀ (p' : List Sel) {K : Kd} {m : MC K2 K}, mkC K2 K p = some m → m.K1.size = K2.size → (div p p' = true ∨ beg p p' = true) → ∀ (x : K.T) (y : K2.T) (z : K.Z) (zy : K2.Z) (a : Nat × Nat) (q : At) (h : HF), K.Own Γ x z h → m.c.valid x → pl K x z p' a = some q →
  ∃ q', pl m.K' (m.c.put x y) (m.c.putZ x z zy) p' a = some q' ∧ Left p p' q q' := by
 induction p with
 | nil =>
  intro p' K m h hs hd x y z zy a q hh ho hv hp
  simp only [mkC, Option.some.injEq] at h
  subst h
  cases p' with
  | nil =>
   simp only [pl, Option.some.injEq] at hp
   subst hp
   exact ⟨⟨K2, y, zy, a⟩, by simp only [pl, Chg.put, Chg.putZ], rfl, fun h => by simp [div] at h, fun _ h => by simp at h⟩
  | cons s' p' => simp [div, beg] at hd
 | cons s p ih =>
  intro p' K m h hs hd x y z zy a q hh ho hv hp
  cases p' with
  | nil =>
   simp only [pl, Option.some.injEq] at hp
   subst hp
   refine ⟨⟨m.K', m.c.put x y, m.c.putZ x z zy, a⟩, by simp only [pl], rfl, fun h => by cases s <;> simp [div] at h, fun _ _ => ?_⟩
   intro o t e hole x0 z0 a0 hq
   injection hq with h1 h2 h3 h4
   subst h1; subst h4
   obtain rfl := eq_of_heq h2
   obtain rfl := eq_of_heq h3
   cases s with
   | fst => simp [mkC] at h
   | snd => simp [mkC] at h
   | idx i =>
    cases o with
    | false => simp [mkC] at h
    | true =>
     cases hole with
     | none =>
      simp only [mkC] at h
      split at h
      ·rename_i m0 hm
       split at h
       ·rename_i he
        injection h with h
        subst h
        obtain ⟨K1, K', c, cond, dec⟩ := m0
        simp only at he
        subst he
        exact ⟨none, _, _, rfl, rfl, List.length_set⟩
       ·cases h
      ·cases h
     | some j =>
      cases p with
      | cons _ _ => simp [mkC] at h
      | nil =>
       simp only [mkC] at h
       split at h
       ·rename_i he
        subst he
        injection h with h
        subst h
        exact ⟨none, _, _, rfl, rfl, List.length_set⟩
       ·cases h
  | cons s' p' =>
   cases s with
   | fst =>
    cases K with
    | pair k b =>
     simp only [mkC] at h
     split at h
     ·rename_i m0 hm
      injection h with h
      subst h
      cases s' with
      | fst =>
       obtain ⟨h1, h2, _, _, o1, o2⟩ := ho
       obtain ⟨q', e, l⟩ := ih p' hm hs (by simpa [div, beg] using hd) x.1 y z.1 zy a q h1 o1 hv hp
       exact ⟨q', e, l.fst⟩
      | snd =>
       simp only [pl] at hp ⊢
       rw [← Chg.size_eq hs m0.c]
       exact ⟨q, hp, Left.same⟩
      | idx j => simp [pl] at hp
     ·cases h
    | _ => simp [mkC] at h
   | snd =>
    cases K with
    | pair k b =>
     simp only [mkC] at h
     split at h
     ·rename_i m0 hm
      injection h with h
      subst h
      cases s' with
      | snd =>
       obtain ⟨h1, h2, _, _, o1, o2⟩ := ho
       obtain ⟨q', e, l⟩ := ih p' hm hs (by simpa [div, beg] using hd) x.2 y z.2 zy _ q h2 o2 hv hp
       exact ⟨q', e, l.snd⟩
      | fst => exact ⟨q, hp, Left.same⟩
      | idx j => simp [pl] at hp
     ·cases h
    | _ => simp [mkC] at h
   | idx i =>
    cases s' with
    | fst => simp [div, beg] at hd
    | snd => simp [div, beg] at hd
    | idx j =>
     cases K with
     | arr n e =>
      simp only [mkC] at h
      split at h
      ·rename_i m0 hm
       split at h
       ·rename_i he
        injection h with h
        subst h
        obtain ⟨K1, K', c, cond, dec⟩ := m0
        simp only at he
        subst he
        simp only [pl] at hp ⊢
        split at hp
        ·rename_i hj
         rw [if_pos hj]
         simp only [Chg.put, Chg.putZ, castC_rfl]
         by_cases hij : j = i
         ·subst hij
          rw [if_pos rfl, getD_set_self (by rw [ho.1]; exact hj)]
          obtain ⟨_, hi', _, _, oi, _⟩ := Each.take hj ho.2
          obtain ⟨q', e, l⟩ := ih p' hm hs (by simpa [div, beg] using hd) _ y _ zy _ q hi' oi hv.2 hp
          exact ⟨q', e, l.idx⟩
         ·rw [if_neg hij, getD_set_ne' (Ne.symm hij)]
          exact ⟨q, hp, Left.same⟩
        ·cases hp
       ·cases h
      ·cases h
     | sl o t e hole =>
      cases o with
      | false => simp [mkC] at h
      | true =>
       obtain ⟨zo, zf⟩ := z
       cases hole with
       | none =>
        simp only [mkC] at h
        split at h
        ·rename_i m0 hm
         split at h
         ·rename_i he
          injection h with h
          subst h
          obtain ⟨K1, K', c, cond, dec⟩ := m0
          simp only at he
          subst he
          cases zo with
          | none => simp only [pl] at hp; cases hp
          | some yy =>
           simp only [pl] at hp ⊢
           split at hp
           ·rename_i hj
            simp only [Chg.put, Chg.putZ, castC_rfl, List.length_set]
            rw [if_pos hj]
            by_cases hij : j = i
            ·subst hij
             rw [if_pos rfl, getD_set_self hj]
             obtain ⟨cc, h2, _, _, _, _, he, _⟩ := ho
             obtain ⟨_, hi', _, _, oi, _⟩ := Each.take hj he
             rw [if_neg (by simp)] at oi
             obtain ⟨q', e, l⟩ := ih p' hm hs (by simpa [div, beg] using hd) _ y _ zy _ q hi' oi hv.2.2 hp
             exact ⟨q', e, l.idx⟩
            ·rw [if_neg hij, getD_set_ne' (Ne.symm hij)]
             exact ⟨q, hp, Left.same⟩
           ·cases hp
         ·cases h
        ·cases h
       | some j0 =>
        cases p with
        | cons _ _ => simp [mkC] at h
        | nil =>
         cases p' with
         | cons _ _ => simp [div, beg] at hd
         | nil =>
          simp only [mkC] at h
          split at h
          ·rename_i he
           subst he
           injection h with h
           subst h
           cases zo with
           | none => simp only [pl] at hp; cases hp
           | some yy =>
            simp only [pl] at hp ⊢
            split at hp
            ·rename_i hj
             injection hp with hp
             subst hp
             refine ⟨⟨K2, List.getD (List.set x j0 y) j K2.dft, if j = j0 then zy else zf j, (yy.1, yy.2.1 + j * K2.size)⟩, ?_, rfl, fun h => by simp [div] at h, fun _ h => by simp at h⟩
             simp only [castF_rfl, Chg.put, Chg.putZ, List.length_set]
             rw [if_pos hj.1]
            ·cases hp
          ·cases h
     | _ => simp [mkC] at h

def updL {α : Type} : List (Nat × α) → Nat → α → List (Nat × α)
 | [], _, _ => []
 | (k, v) :: l, n, u => if k == n then (k, u) :: l else (k, v) :: updL l n u
theorem updL_keys {α : Type} (l : List (Nat × α)) (n : Nat) (u : α) : (updL l n u).map (·.1) = l.map (·.1) := by
 induction l with
 | nil => rfl
 | cons x l ih =>
  simp only [updL]
  split
  ·rfl
  ·simp only [List.map_cons, ih]
theorem updL_map {α β : Type} (l : List (Nat × α)) (n : Nat) (u : α) (f : α → β) : (updL l n u).map (fun x => (x.1, f x.2)) = updL (l.map fun x => (x.1, f x.2)) n (f u) := by
 induction l with
 | nil => rfl
 | cons x l ih =>
  simp only [updL, List.map_cons]
  split
  ·rfl
  ·simp only [List.map_cons, ih]
theorem look_updL {α : Type} {l : List (Nat × α)} {n : Nat} {u : α} (v : α) (h : look l n = some v) (k : Nat) : look (updL l n u) k = if k = n then some u else look l k := by
 induction l with
 | nil => cases h
 | cons x l ih =>
  obtain ⟨j, y⟩ := x
  simp only [look] at h
  simp only [updL]
  by_cases hj : j = n
  ·subst hj
   simp only [beq_self_eq_true, if_true, look]
   by_cases hk : k = j
   ·subst hk; simp
   ·rw [if_neg hk, if_neg (by simp; exact fun e => hk e.symm), if_neg (by simp; exact fun e => hk e.symm)]
  ·rw [if_neg (by simpa using hj)] at h
   rw [if_neg (by simpa using hj)]
   simp only [look]
   by_cases hk : k = j
   ·subst hk; rw [if_neg hj]; simp
   ·have hjk : (j == k) = false := by simp; exact fun e => hk e.symm
    simp only [hjk, Bool.false_eq_true, if_false]
    exact ih h
theorem look_del {α : Type} (l : List (Nat × α)) {n k : Nat} (h : k ≠ n) : look (del l n) k = look l k := by
 induction l with
 | nil => rfl
 | cons x l ih =>
  obtain ⟨j, y⟩ := x
  simp only [del, List.filter_cons]
  by_cases hj : j = n
  ·subst hj
   simp only [bne_self_eq_false, Bool.false_eq_true, if_false, look]
   rw [if_neg (by simp; exact fun e => h e.symm)]
   exact ih
  ·rw [if_pos (by simpa using hj)]
   simp only [look]
   split
   ·rfl
   ·exact ih
theorem del_none {α : Type} {l : List (Nat × α)} {n : Nat} (h : n ∉ l.map (·.1)) : del l n = l := by
 refine List.filter_eq_self.2 fun x hx => ?_
 simp only [bne_iff_ne, ne_eq]
 exact fun e => h (e ▸ List.mem_map_of_mem hx)
theorem star_upd {Γ : HF} : ∀ {rcs : List (Nat × RC)} {h : HF} {id : Nat} {r : RC}, Star Γ rcs h → look rcs id = some r → (rcs.map (·.1)).Nodup →
  ∃ h1 hr, HF.dj h1 hr ∧ h = h1.un hr ∧ r.Own Γ h1 ∧ (∀ r' h1', HF.dj h1' hr → r'.Own Γ h1' → Star Γ (updL rcs id r') (h1'.un hr)) ∧ Star Γ (del rcs id) hr
 | (k, r0) :: l, h, id, r, ⟨g1, g2, d, e, o, st⟩, hl, nd => by
  simp only [look] at hl
  rw [List.map_cons, List.nodup_cons] at nd
  by_cases hk : k = id
  ·subst hk
   simp only [beq_self_eq_true, if_true, Option.some.injEq] at hl
   subst hl
   refine ⟨g1, g2, d, e, o, ?_, ?_⟩
   ·intro r' h1' d' o'
    simp only [updL, beq_self_eq_true, if_true]
    exact ⟨h1', g2, d', rfl, o', st⟩
   ·simp only [del, List.filter_cons, bne_self_eq_false, Bool.false_eq_true, if_false]
    have := del_none nd.1
    unfold del at this
    rw [this]
    exact st
  ·rw [if_neg (by simpa using hk)] at hl
   obtain ⟨h1, hr, d1, rfl, o1, put, dl⟩ := star_upd st hl nd.2
   subst e
   obtain ⟨d2, d3⟩ := HF.dj_un.1 d
   refine ⟨h1, g1.un hr, HF.dj_un.2 ⟨d2.symm, d1⟩, ?_, o1, ?_, ?_⟩
   ·rw [← HF.un_assoc, ← HF.un_assoc, HF.un_comm d2]
   ·intro r' h1' d' o'
    obtain ⟨d4, d5⟩ := HF.dj_un.1 d'
    simp only [updL]
    rw [if_neg (by simpa using hk)]
    refine ⟨g1, h1'.un hr, HF.dj_un.2 ⟨d4.symm, d3⟩, ?_, o, put r' h1' d5 o'⟩
    rw [← HF.un_assoc, ← HF.un_assoc, HF.un_comm d4]
   ·simp only [del, List.filter_cons]
    rw [if_pos (by simpa using hk)]
    exact ⟨g1, hr, d3, rfl, o, dl⟩

theorem Mem.mono {h h' : HF} {w : World} (m : Mem h w) (s : ∀ b v, h' b = some v → h b = some v) : Mem h' w := fun b x e => m b x (s b _ e)
theorem un_left {g h : HF} {b : Nat} {v : Blk} (e : g b = some v) : (g.un h) b = some v := by simp [HF.un, e]
theorem un_mono {g g' h h' : HF} (d : HF.dj g h) (s1 : ∀ b v, g' b = some v → g b = some v) (s2 : ∀ b v, h' b = some v → h b = some v) : ∀ b v, (g'.un h') b = some v → (g.un h) b = some v := by
 intro b v e
 simp only [HF.un] at e
 cases hg : g' b with
 | some x => rw [hg] at e; simp at e; subst e; exact un_left (s1 b _ hg)
 | none => rw [hg] at e; simp at e; exact un_right d (s2 b _ e)

theorem not_has {h : HF} {w : World} (m : Mem h w) (n : Nat) : ¬ h.has (w.heap.size + n) := by
 intro hh
 cases e : h (w.heap.size + n) with
 | none => exact hh e
 | some x =>
  obtain ⟨o, q⟩ := (m _ x e).r.some
  rw [Array.getElem?_eq_none (by omega)] at q
  cases q
theorem loc_thru : ∀ (p : List Sel) {K : Kd} (x : K.T) (z : K.Z) (a a' : Nat × Nat) (q : At), thru K p = true → pl K x z p a = some q → pl K x z p a' = some q := by
 intro p K x z a a' q ht hp
 fun_induction pl K x z p a generalizing a' <;> simp_all [thru, pl]

theorem write_star {Γ : HF} {rcs : List (Nat × RC)} {h0 hn : HF} {w : World} {id : Nat} {r : RC} {p : List Sel} {q : At} {K2 : Kd} {m : MC K2 r.K} {y : K2.T} {zy : K2.Z}
  (st : Star Γ rcs h0) (nd : (rcs.map (·.1)).Nodup) (dn : HF.dj h0 hn) (mem : Mem (h0.un hn) w) (hr : look rcs id = some r)
  (hp : pl r.K r.x r.z p ((r.box.getD (0, 0)).1, 0) = some q) (hb : r.box = none → thru r.K p = true) (hm : mkC K2 r.K p = some m) (hc : m.cond) (hs : m.K1.size = K2.size) (hy : K2.Own Γ y zy hn) :
  ∃ h', Star Γ (updL rcs id ⟨r.box, m.K', m.c.put r.x y, m.c.putZ r.x r.z zy⟩) h' ∧ Mem h' (w.setCells q.a.1 q.a.2 (K2.cells y zy)) ∧ (∀ b, h'.has b → (h0.un hn).has b) ∧ (h0.un hn).has q.a.1 := by
 obtain ⟨h1, hR, d1, rfl, o1, put, _⟩ := star_upd st hr nd
 obtain ⟨dn1, dnR⟩ := HF.un_dj.1 dn
 cases hbx : r.box with
 | none =>
  have o2 : r.K.Own Γ r.x r.z h1 := by simpa [RC.Own, hbx] using o1
  have hth := hb hbx
  have hp' := loc_thru p _ _ _ (w.heap.size, 0) _ hth hp
  have hnb : ¬ h1.has w.heap.size := fun e => not_has mem 0 (HF.has_un.2 (.inl (HF.has_un.2 (.inl e))))
  obtain ⟨hw, hv, hloc, _⟩ := mkC_spec p hm r.x r.z _ q hp' hc
  obtain ⟨hr', ho', s⟩ := chg_own hs m.c r.x r.z h1 w.heap.size 0 (r.K.cells r.x r.z).toArray 0 hw hv o2 (fun j hj => by simp) hnb
  obtain ⟨_, _, hqh, _⟩ := lie_pl p _ _ _ _ _ #[] 0 o2 hp (.inl hth)
  have hqh1 : h1.has q.a.1 := by
   rcases hqh with ⟨_, e⟩ | ⟨e, _⟩
   ·unfold HF.has; rw [e]; simp
   ·rw [hth] at e; cases e
  obtain ⟨sd, rfl, sown, sat, slie, sput⟩ := s
  rw [hloc] at sat slie sput
  obtain ⟨d7, d8⟩ := HF.un_dj.1 dn1
  obtain ⟨e3, e4⟩ := HF.un_dj.1 d1
  have hqr : hr'.has q.a.1 := by
   rcases sat with ⟨e, _⟩ | ⟨_, e⟩
   ·rw [e] at hqh1; exact absurd hqh1 hnb
   ·exact e
  have hdn : HF.dj (HF.one w.heap.size (r.K.cells r.x r.z).toArray 0) hn := HF.dj_iff.2 fun bb hbb hh => by
   rw [HF.has_one] at hbb
   subst hbb
   exact not_has mem 0 (HF.has_un.2 (.inr hh))
  obtain ⟨p1, p2⟩ := sput y zy hn hy (HF.un_dj.2 ⟨hdn, d7⟩)
  have hqR : ¬ hR.has q.a.1 := fun f => HF.dj_iff.1 e3 _ hqr f
  have hqn : ¬ hn.has q.a.1 := fun f => HF.dj_iff.1 d7 _ hqr f
  refine ⟨((hr'.upd q.a.1 q.a.2 (K2.cells y zy)).un hn).un hR, put _ _ ?_ ?_, ?_, ?_, ?_⟩
  ·exact HF.un_dj.2 ⟨HF.upd_dj.2 e3, dnR.symm⟩
  ·simpa only [RC.Own] using p1
  ·have hm' := Mem.upd (b := q.a.1) (off := q.a.2) (vs := K2.cells y zy) mem
   refine Mem.mono hm' ?_
   rw [HF.upd_un, HF.upd_un, HF.upd_un, HF.upd_not hqR, HF.upd_not hqn]
   intro bb v e
   simp only [HF.un] at e ⊢
   cases e1_ : (hr'.upd q.a.1 q.a.2 (K2.cells y zy)) bb with
   | some x => simp only [e1_] at e ⊢; simpa using e
   | none =>
    simp only [e1_, Option.none_or] at e ⊢
    cases e3' : hn bb with
    | some x =>
     simp only [e3'] at e ⊢
     have q1 : hR bb = none := by rcases dnR bb with q | q; exact q; rw [e3'] at q; cases q
     have q2 : (ho'.upd q.a.1 q.a.2 (K2.cells y zy)) bb = none := by
      have := (HF.upd_dj (b := q.a.1) (off := q.a.2) (vs := K2.cells y zy)).2 d8
      rcases this bb with q | q; exact q; rw [e3'] at q; cases q
     rw [q1, q2]
     simpa using e
    | none =>
     simp only [e3'] at e ⊢
     simp only [Option.none_or] at e
     have q2 : (ho'.upd q.a.1 q.a.2 (K2.cells y zy)) bb = none := by
      have := (HF.upd_dj (b := q.a.1) (off := q.a.2) (vs := K2.cells y zy)).2 e4
      rcases this bb with q | q; exact q; rw [e] at q; cases q
     rw [q2, e]
     rfl
  ·intro bb hbb
   simp only [HF.has_un, HF.upd_has] at hbb ⊢
   rcases hbb with (e | e) | e
   ·exact .inl (.inl (.inl e))
   ·exact .inr e
   ·exact .inl (.inr e)
  ·simp only [HF.has_un]
   exact .inl (.inl (.inl hqr))
 | some bt =>
  obtain ⟨b, t0⟩ := bt
  simp only [RC.Own, hbx] at o1
  obtain ⟨c0, h2, d2, rfl, o2, hl⟩ := o1
  have hl' : Lie c0 0 (r.K.cells r.x r.z) := fun j hj => by rw [← hl]; simp
  rw [hbx] at hp
  simp only [Option.getD_some] at hp
  obtain ⟨hw, hv, hloc, _⟩ := mkC_spec p hm r.x r.z (b, 0) q hp hc
  have hb2 : ¬ h2.has b := fun e => HF.dj_iff.1 d2 b (HF.has_one.2 rfl) e
  obtain ⟨hr', ho', s⟩ := chg_own hs m.c r.x r.z h2 b 0 c0 t0 hw hv o2 hl' hb2
  obtain ⟨sd, rfl, sown, sat, slie, sput⟩ := s
  rw [hloc] at sat slie sput
  obtain ⟨d3, d4⟩ := HF.dj_un.1 d2
  obtain ⟨d5, d6⟩ := HF.un_dj.1 dn1
  obtain ⟨d7, d8⟩ := HF.un_dj.1 d6
  obtain ⟨e1, e2⟩ := HF.un_dj.1 d1
  obtain ⟨e3, e4⟩ := HF.un_dj.1 e2
  obtain ⟨p1, p2⟩ := sput y zy hn hy (HF.un_dj.2 ⟨d5, d7⟩)
  have hone : (HF.one b c0 t0).upd q.a.1 q.a.2 (K2.cells y zy) = HF.one b (wrIf b c0 q.a (K2.cells y zy)) t0 := one_upd
  have hqR : ¬ hR.has q.a.1 := by
   rcases sat with ⟨e, _⟩ | ⟨_, e⟩
   ·rw [e]; exact fun f => HF.dj_iff.1 e1 b (HF.has_one.2 rfl) f
   ·exact fun f => HF.dj_iff.1 e3 _ e f
  have hqn : ¬ hn.has q.a.1 := by
   rcases sat with ⟨e, _⟩ | ⟨_, e⟩
   ·rw [e]; exact fun f => HF.dj_iff.1 d5 b (HF.has_one.2 rfl) f
   ·exact fun f => HF.dj_iff.1 d7 _ e f
  refine ⟨((HF.one b (wrIf b c0 q.a (K2.cells y zy)) t0).un ((hr'.upd q.a.1 q.a.2 (K2.cells y zy)).un hn)).un hR, put _ _ ?_ ?_, ?_, ?_, ?_⟩
  ·refine HF.un_dj.2 ⟨?_, HF.un_dj.2 ⟨HF.upd_dj.2 e3, dnR.symm⟩⟩
   rw [← hone]; exact HF.upd_dj.2 e1
  ·simp only [RC.Own]
   refine ⟨_, _, ?_, rfl, p1, ?_⟩
   ·rw [← hone]
    exact HF.dj_un.2 ⟨HF.upd_dj.2 (HF.dj_upd.2 d3), HF.upd_dj.2 d5⟩
   ·have hsz : c0.size = (m.K'.cells (m.c.put r.x y) (m.c.putZ r.x r.z zy)).length := by
     rw [cells_length, ← Chg.size_eq hs m.c, ← cells_length r.K r.x r.z, ← hl]; simp
    refine List.ext_getElem? fun j => ?_
    rcases Nat.lt_or_ge j (m.K'.cells (m.c.put r.x y) (m.c.putZ r.x r.z zy)).length with hj | hj
    ·have := p2 j hj
     rw [Nat.zero_add] at this
     rw [← this]; simp
    ·rw [List.getElem?_eq_none hj, List.getElem?_eq_none (by simp [wrIf_size]; omega)]
  ·have hm' := Mem.upd (b := q.a.1) (off := q.a.2) (vs := K2.cells y zy) mem
   refine Mem.mono hm' ?_
   rw [HF.upd_un, HF.upd_un, HF.upd_un, HF.upd_un, hone, HF.upd_not hqR, HF.upd_not hqn]
   intro bb v e
   simp only [HF.un] at e ⊢
   cases e1_ : (HF.one b (wrIf b c0 q.a (K2.cells y zy)) t0) bb with
   | some x => simp only [e1_] at e ⊢; simpa using e
   | none =>
    simp only [e1_, Option.none_or] at e ⊢
    cases e1_ : (hr'.upd q.a.1 q.a.2 (K2.cells y zy)) bb with
    | some x => simp only [e1_] at e ⊢; simpa using e
    | none =>
     simp only [e1_, Option.none_or] at e ⊢
     cases e3' : hn bb with
     | some x =>
      simp only [e3'] at e ⊢
      have q1 : hR bb = none := by rcases dnR bb with q | q; exact q; rw [e3'] at q; cases q
      have q2 : (ho'.upd q.a.1 q.a.2 (K2.cells y zy)) bb = none := by
       have := (HF.upd_dj (b := q.a.1) (off := q.a.2) (vs := K2.cells y zy)).2 d8
       rcases this bb with q | q; exact q; rw [e3'] at q; cases q
      rw [q1, q2]
      simpa using e
     | none =>
      simp only [e3'] at e ⊢
      simp only [Option.none_or] at e
      have q2 : (ho'.upd q.a.1 q.a.2 (K2.cells y zy)) bb = none := by
       have := (HF.upd_dj (b := q.a.1) (off := q.a.2) (vs := K2.cells y zy)).2 e4
       rcases this bb with q | q; exact q; rw [e] at q; cases q
      rw [q2, e]
      rfl
  ·intro bb hbb
   simp only [HF.has_un, HF.upd_has, HF.has_one] at hbb ⊢
   rcases hbb with (e | e | e) | e
   ·exact .inl (.inl (.inl e))
   ·exact .inl (.inl (.inr (.inl e)))
   ·exact .inr e
   ·exact .inl (.inr e)
  ·simp only [HF.has_un, HF.has_one]
   rcases sat with ⟨e, _⟩ | ⟨_, e⟩
   ·exact .inl (.inl (.inl e))
   ·exact .inl (.inl (.inr (.inl e)))
end Go.Proofs.YtibammoednhnoaaE

