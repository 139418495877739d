/- The engine, part 18b: a part of a value is taken out, to be put back. Conditions: none. -/
import Derived.Test.YtibammoednhnoaaE18
set_option linter.unusedVariables false
set_option linter.unusedSimpArgs false
namespace Go.Proofs.YtibammoednhnoaaE
open Kd
variable {α : Type}

structure TC (K : Kd) where
 t : TypeId
 e : Kd
 K' : Kd
 c : Tk (.sl true t e none) K K'
def tkC : (K : Kd) → List Sel → Option (TC K)
 | .sl true t e none, [] => some ⟨t, e, .un, .nil⟩
 | .pair a b, .fst :: p => match tkC a p with
  | some m => some ⟨m.t, m.e, .pair m.K' b, .fst m.c⟩
  | none => none
 | .pair a b, .snd :: p => match tkC b p with
  | some m => some ⟨m.t, m.e, .pair a m.K', .snd m.c⟩
  | none => none
 | .sl true t (.sl true t' e none) none, [.idx i] => some ⟨t', e, .sl true t (.sl true t' e none) (some i), .take i⟩
 | _, _ => none
theorem tkC_idx {i : Nat} {p : List Sel} {K : Kd} {m : TC K} (h : tkC K (.idx i :: p) = some m) (Q : (p : List Sel) → (K : Kd) → TC K → Prop) (hq : ∀ t t' e, Q [] (.sl true t (.sl true t' e none) none) ⟨t', e, .sl true t (.sl true t' e none) (some i), .take i⟩) : Q p K m := by
 cases K with
 | sl o t e hole =>
  cases o with
  | false => simp [tkC] at h
  | true =>
   cases hole with
   | some j => cases p <;> simp [tkC] at h
   | none =>
    cases p with
    | cons _ _ => simp [tkC] at h
    | nil =>
     cases e with
     | sl o' t' e' hole' =>
      cases o' with
      | false => simp [tkC] at h
      | true =>
       cases hole' with
       | some j => simp [tkC] at h
       | none =>
        simp only [tkC, Option.some.injEq] at h
        subst h
        exact hq t t' e'
     | _ => simp [tkC] at h
 | _ => simp [tkC] at h
theorem tkC_pl : ∀ (p : List Sel) {K : Kd} {m : TC K}, tkC K p = some m → ∀ (x : K.T) (z : K.Z) (a : Nat × Nat) (q : At), pl K x z p a = some q → m.c.valid x ∧ ∃ a', q = ⟨.sl true m.t m.e none, m.c.get x, m.c.getZ z, a'⟩
 | [], K, m, h, x, z, a, q, hp => by
  cases K with
  | sl o t e hole =>
   cases o with
   | false => simp [tkC] at h
   | true =>
    cases hole with
    | some j => simp [tkC] at h
    | none =>
     simp only [tkC, Option.some.injEq] at h
     subst h
     simp only [pl, Option.some.injEq] at hp
     subst hp
     exact ⟨trivial, a, rfl⟩
  | _ => simp [tkC] at h
 | .fst :: p, K, m, h, x, z, a, q, hp => by
  cases K with
  | pair k b =>
   simp only [tkC] at h
   split at h
   ·rename_i m0 hm
    injection h with h
    subst h
    exact tkC_pl p hm x.1 z.1 a q hp
   ·cases h
  | _ => simp [tkC] at h
 | .snd :: p, K, m, h, x, z, a, q, hp => by
  cases K with
  | pair k b =>
   simp only [tkC] at h
   split at h
   ·rename_i m0 hm
    injection h with h
    subst h
    exact tkC_pl p hm x.2 z.2 _ q hp
   ·cases h
  | _ => simp [tkC] at h
 | .idx i :: p, K, m, h, x, z, a, q, hp => by
  refine tkC_idx h (fun p K m => ∀ (x : K.T) (z : K.Z) (q : At), pl K x z (.idx i :: p) a = some q → m.c.valid x ∧ ∃ a', q = ⟨.sl true m.t m.e none, m.c.get x, m.c.getZ z, a'⟩) ?_ x z q hp
  intro t t' e x z q hp
  simp only [pl] at hp
  split at hp
  ·rename_i b o c hz
   split at hp
   ·rename_i hlt
    injection hp with hp
    subst hp
    exact ⟨hlt, _, rfl⟩
   ·cases hp
  ·cases hp
theorem Tk.size_eq {K1 : Kd} (hs : K1.size = 1) : ∀ {K K' : Kd}, Tk K1 K K' → K'.size = K.size
 | _, _, .nil => by rw [hs]; rfl
 | _, _, .fst c => by simp only [Kd.size, c.size_eq hs]
 | _, _, .snd c => by simp only [Kd.size, c.size_eq hs]
 | _, _, .take i => rfl
theorem tkC_single : ∀ (p : List Sel) {K : Kd} {m : TC K}, tkC K p = some m → single m.K' = single K := by
 intro p K m h
 cases p with
 | nil =>
  cases K with
  | sl o t e hole =>
   cases o with
   | false => simp [tkC] at h
   | true =>
    cases hole with
    | some j => simp [tkC] at h
    | none =>
     simp only [tkC, Option.some.injEq] at h
     subst h
     rfl
  | _ => simp [tkC] at h
 | cons s p =>
  cases s with
  | fst =>
   cases K with
   | pair k b =>
    simp only [tkC] at h
    split at h
    ·injection h with h; subst h; rfl
    ·cases h
   | _ => simp [tkC] at h
  | snd =>
   cases K with
   | pair k b =>
    simp only [tkC] at h
    split at h
    ·injection h with h; subst h; rfl
    ·cases h
   | _ => simp [tkC] at h
  | idx i => exact tkC_idx h (fun p K m => single m.K' = single K) fun _ _ _ => rfl
theorem thru_tk (p : List Sel) : ∀ (p' : List Sel) {K : Kd} {m : TC K}, tkC K p = some m → (div p p' = true ∨ beg p p' = true) → thru K p' = true → thru m.K' p' = true := by
 induction p with
 | nil =>
  intro p' K m h hd ht
  cases p' with
  | nil => cases K <;> simp [thru] at ht
  | cons s' p' => simp [div, beg] at hd
 | cons s p ih =>
  intro p' K m h hd ht
  cases p' with
  | nil => cases K <;> simp [thru] at ht
  | cons s' p' =>
   cases s with
   | fst =>
    cases K with
    | pair a b =>
     simp only [tkC] at h
     split at h
     ·rename_i m0 hm
      injection h with h
      subst h
      cases s' with
      | fst => exact ih p' hm (by simpa [div, beg] using hd) ht
      | snd => exact ht
      | idx j => simp [thru] at ht
     ·cases h
    | _ => simp [tkC] at h
   | snd =>
    cases K with
    | pair a b =>
     simp only [tkC] at h
     split at h
     ·rename_i m0 hm
      injection h with h
      subst h
      cases s' with
      | snd => exact ih p' hm (by simpa [div, beg] using hd) ht
      | fst => exact ht
      | idx j => simp [thru] at ht
     ·cases h
    | _ => simp [tkC] at h
   | idx i =>
    refine tkC_idx h (fun p K m => thru K (s' :: p') = true → thru m.K' (s' :: p') = true) ?_ ht
    intro t t' e ht
    cases s' <;> simp_all [thru]
theorem pl_tk (p : List Sel) : ∀ (p' : List Sel) {K : Kd} {m : TC K}, tkC K p = some m → (div p p' = true ∨ beg p p' = true) → ∀ (x : K.T) (z : K.Z) (a : Nat × Nat) (q : At), pl K x z p' a = some q →
  ∃ q', pl m.K' (m.c.rest x) (m.c.restZ x z) p' a = some q' ∧ Left p p' q q' := by
 induction p with
 | nil =>
  intro p' K m h hd x z a q hp
  cases p' with
  | nil =>
   simp only [pl, Option.some.injEq] at hp
   subst hp
   exact ⟨⟨m.K', m.c.rest x, m.c.restZ x z, a⟩, by simp only [pl], rfl, fun h => by simp [div] at h, fun _ h => by simp at h⟩
  | cons s' p' => simp [div, beg] at hd
 | cons s p ih =>
  intro p' K m h hd x z a q hp
  cases p' with
  | nil =>
   simp only [pl, Option.some.injEq] at hp
   subst hp
   refine ⟨⟨m.K', m.c.rest x, m.c.restZ x z, a⟩, by simp only [pl], rfl, fun h => by cases s <;> simp [div] at h, fun _ _ => ?_⟩
   intro o t e hole x0 z0 a0 hq
   injection hq with h1 h2 h3 h4
   subst h1; subst h4
   obtain rfl := eq_of_heq h2
   obtain rfl := eq_of_heq h3
   cases s with
   | fst => simp [tkC] at h
   | snd => simp [tkC] at h
   | idx i =>
    have key := tkC_idx h (fun p K m => ∀ o t e hole, ∀ (hK : K = .sl o t e hole), ∀ (x : (Kd.sl o t e hole).T) (z : (Kd.sl o t e hole).Z), ∃ hole' x' z', (⟨m.K', m.c.rest (hK ▸ x), m.c.restZ (hK ▸ x) (hK ▸ z), a⟩ : At) = ⟨.sl o t e hole', x', z', a⟩ ∧ z'.1 = z.1 ∧ List.length x' = List.length x) (fun t1 t2 e1 o t e hole hK x z => by
     injection hK with q1 q2 q3 q4
     subst q1; subst q2; subst q3; subst q4
     exact ⟨some i, _, _, rfl, rfl, rfl⟩)
    exact key o t e hole rfl x z
  | cons s' p' =>
   cases s with
   | fst =>
    cases K with
    | pair k b =>
     simp only [tkC] at h
     split at h
     ·rename_i m0 hm
      injection h with h
      subst h
      cases s' with
      | fst =>
       obtain ⟨q', e, l⟩ := ih p' hm (by simpa [div, beg] using hd) x.1 z.1 a q hp
       exact ⟨q', e, l.fst⟩
      | snd =>
       simp only [pl] at hp ⊢
       rw [Tk.size_eq rfl m0.c]
       exact ⟨q, hp, Left.same⟩
      | idx j => simp [pl] at hp
     ·cases h
    | _ => simp [tkC] at h
   | snd =>
    cases K with
    | pair k b =>
     simp only [tkC] at h
     split at h
     ·rename_i m0 hm
      injection h with h
      subst h
      cases s' with
      | snd =>
       obtain ⟨q', e, l⟩ := ih p' hm (by simpa [div, beg] using hd) x.2 z.2 _ q hp
       exact ⟨q', e, l.snd⟩
      | fst => exact ⟨q, hp, Left.same⟩
      | idx j => simp [pl] at hp
     ·cases h
    | _ => simp [tkC] at h
   | idx i =>
    refine tkC_idx h (fun p K m => (div (.idx i :: p) (s' :: p') = true ∨ beg (.idx i :: p) (s' :: p') = true) → ∀ (x : K.T) (z : K.Z), pl K x z (s' :: p') a = some q → ∃ q', pl m.K' (m.c.rest x) (m.c.restZ x z) (s' :: p') a = some q' ∧ Left (.idx i :: p) (s' :: p') q q') ?_ hd x z hp
    intro t1 t2 e1 hd x z hp
    cases s' with
    | fst => simp [div, beg] at hd
    | snd => simp [div, beg] at hd
    | idx j =>
     cases p' with
     | cons s2 p2 => simp [div, beg] at hd
     | nil =>
      simp only [pl] at hp
      obtain ⟨zo, zf⟩ := z
      split at hp
      ·rename_i b o c hz
       simp only at hz
       subst hz
       split at hp
       ·rename_i hlt
        injection hp with hp
        subst hp
        have hc : j < List.length x ∧ (Kd.sl true t2 e1 none).size = 1 := ⟨hlt, rfl⟩
        exact ⟨_, if_pos hc, rfl, fun h => by simp [div] at h, fun _ h => by simp at h⟩
       ·cases hp
      ·cases hp

theorem toV_eq {K K' : Kd} {l l' : List Value} (e : l = l') (s : single K = single K') : toV K l = toV K' l' := by
 unfold toV
 rw [e, s]
theorem rc_tk {Γ : HF} {r : RC} {h1 : HF} {p : List Sel} {m : TC r.K} (o : r.Own Γ h1) (hv : m.c.valid r.x) :
  ∃ hA hB, HF.dj hA hB ∧ h1 = hA.un hB ∧ (⟨r.box, m.K', m.c.rest r.x, m.c.restZ r.x r.z⟩ : RC).Own Γ hA ∧ (Kd.sl true m.t m.e none).Own Γ (m.c.get r.x) (m.c.getZ r.z) hB ∧ m.K'.cells (m.c.rest r.x) (m.c.restZ r.x r.z) = r.K.cells r.x r.z := by
 obtain ⟨rb, K, x, z⟩ := r
 cases rb with
 | none =>
  have o' : K.Own Γ x z h1 := o
  obtain ⟨hr, ho, d, e, o1, o2, ec⟩ := tk_own rfl m.c x z h1 hv o'
  exact ⟨hr, ho, d, e, o2, o1, ec⟩
 | some bt =>
  obtain ⟨c, h2, d, rfl, o', hc⟩ := o
  obtain ⟨hr, ho, d1, rfl, o1, o2, ec⟩ := tk_own rfl m.c x z h2 hv o'
  obtain ⟨d2, d3⟩ := HF.dj_un.1 d
  refine ⟨(HF.one bt.1 c bt.2).un hr, ho, HF.un_dj.2 ⟨d3, d1⟩, (HF.un_assoc _ _ _).symm, ⟨c, hr, d2, rfl, o2, hc.trans ec.symm⟩, o1, ec⟩

theorem look_of_mem {β : Type} {l : List (Nat × β)} (nd : (l.map (·.1)).Nodup) {n : Nat} {v : β} (h : (n, v) ∈ l) : look l n = some v := by
 induction l with
 | nil => cases h
 | cons x l ih =>
  obtain ⟨k, u⟩ := x
  rw [List.map_cons, List.nodup_cons] at nd
  simp only [look]
  rcases List.mem_cons.1 h with e | e
  ·injection e with e1 e2; subst e1; subst e2; simp
  ·have : k ≠ n := fun q => nd.1 (List.mem_map.2 ⟨_, e, q.symm⟩)
   rw [if_neg (by simpa using this)]
   exact ih nd.2 e
theorem look_mapC (rcs : List (Nat × RC)) (id : Nat) : look (rcs.map fun r => (r.1, r.2.ck)) id = (look rcs id).map RC.ck := by
 induction rcs with
 | nil => rfl
 | cons x l ih => simp only [List.map_cons, look]; split <;> first | rfl | exact ih
def detach (s : St) (id : Nat) (p : List Sel) (new : Nat) : Option (Kd × St) := match look s.ck id with
 | some c => match tkC c.K p with
  | some m => if (look s.ck new).isNone then some (c.K, ⟨s.tm.filter fun y => keepA id p c.K y.2, (new, ⟨none, .sl true m.t m.e none, m.c.get c.x⟩) :: updL s.ck id ⟨c.box, m.K', m.c.rest c.x⟩⟩) else none
  | none => none
 | none => none
theorem detach_core {F : Fr} {s s' : St} {a : Act} {w : World} {Γ : HF} {rcs : List (Nat × RC)} {h : HF} (g : Good F s a w Γ rcs h) {id : Nat} {p : List Sel} {new : Nat} {Kc : Kd} (hd : detach s id p new = some (Kc, s')) (hnew : 1000000 ≤ new)
  {r : RC} {q : At} (hr : look rcs id = some r) (hp : pl r.K r.x r.z p ((r.box.getD (0, 0)).1, 0) = some q) : ∃ rcs' rn, Good F s' a w Γ rcs' h ∧ (look rcs' new = some rn ∧ rn.box = none ∧ ∃ a', q = ⟨rn.K, rn.x, rn.z, a'⟩) ∧ (∀ v u, keepS id p Kc v = true → v.is Γ rcs u → v.is Γ rcs' u) ∧ ∀ ids, Off F ids rcs → Off F ids rcs' := by
 unfold detach at hd
 split at hd
 ·rename_i c hc
  split at hd
  ·rename_i m hm
   split at hd
   ·rename_i hn
    injection hd with hd
    injection hd with hK hd
    subst hK; subst hd
    have hcr : c = r.ck := by
     have := hc
     rw [← g.ck, look_mapC, hr] at this
     simpa using this.symm
    subst hcr
    have hm' : tkC r.K p = some m := hm
    obtain ⟨hval, a', hq⟩ := tkC_pl p hm' r.x r.z _ q hp
    obtain ⟨h1, hR, d, e, o, put, dl⟩ := star_upd g.star hr g.nodup
    obtain ⟨hA, hB, dAB, e1, oA, oB, ec⟩ := rc_tk (p := p) (m := m) o hval
    subst e1
    have hnl : look rcs new = none := by
     have : look s.ck new = none := by simpa using hn
     rw [← g.ck, look_mapC] at this
     simpa using this
    have hne : new ≠ id := fun f => by rw [f, hr] at hnl; cases hnl
    obtain ⟨d1, d2⟩ := HF.un_dj.1 d
    have hlk := look_updL (u := (⟨r.box, m.K', m.c.rest r.x, m.c.restZ r.x r.z⟩ : RC)) r hr
    have hkeys : (updL rcs id ⟨r.box, m.K', m.c.rest r.x, m.c.restZ r.x r.z⟩).map (·.1) = rcs.map (·.1) := updL_keys _ _ _
    have hlk2 : ∀ k, k ≠ new → look ((new, (⟨none, .sl true m.t m.e none, m.c.get r.x, m.c.getZ r.z⟩ : RC)) :: updL rcs id ⟨r.box, m.K', m.c.rest r.x, m.c.restZ r.x r.z⟩) k = if k = id then some ⟨r.box, m.K', m.c.rest r.x, m.c.restZ r.x r.z⟩ else look rcs k := fun k hk => by
     rw [look, if_neg (by simpa using Ne.symm hk), hlk]
    have hself : ∀ (k : Nat) (r0 : RC), look rcs k = some r0 → k ≠ new := fun k r0 h f => by rw [f, hnl] at h; cases h
    -- what is told stays
    have keep : ∀ v u, keepS id p r.K v = true → v.is Γ rcs u → v.is Γ ((new, (⟨none, .sl true m.t m.e none, m.c.get r.x, m.c.getZ r.z⟩ : RC)) :: updL rcs id ⟨r.box, m.K', m.c.rest r.x, m.c.restZ r.x r.z⟩) u := by
     intro v u hk hi
     cases v with
     | val K x => exact hi
     | eptr K x => exact hi
     | nilS => exact hi
     | nilP => exact hi
     | bnd f K x => exact hi
     | clo f caps =>
      obtain ⟨vs, e, hlen, hall⟩ := hi
      refine ⟨vs, e, hlen, fun j id' hj => ?_⟩
      obtain ⟨r0, b, t, hr0, hb, hv⟩ := hall j id' hj
      rw [hlk2 _ (hself _ _ hr0)]
      by_cases hii : id' = id
      ·subst hii
       rw [hr] at hr0
       injection hr0 with hr0
       subst hr0
       exact ⟨_, b, t, if_pos rfl, hb, hv⟩
      ·exact ⟨r0, b, t, by rw [if_neg hii]; exact hr0, hb, hv⟩
     | ptr i p' =>
      obtain ⟨r0, q, hr0, hp, hb, e⟩ := hi
      have hq2 := hlk2 _ (hself _ _ hr0)
      by_cases hii : i = id
      ·subst hii
       rw [hr] at hr0
       injection hr0 with hr0
       subst hr0
       have hd : div p p' = true ∨ beg p p' = true := by simpa [keepS] using hk
       obtain ⟨q', hq', l⟩ := pl_tk p p' hm' hd r.x r.z _ q hp
       refine ⟨_, q', hq2.trans (if_pos rfl), hq', fun e => thru_tk p p' hm' hd (hb e), ?_⟩
       rw [l.a]; exact e
      ·exact ⟨r0, q, (hq2.trans (if_neg hii)).trans hr0, hp, hb, e⟩
     | «at» i p' =>
      obtain ⟨r0, q, hr0, hp, e⟩ := hi
      have hq2 := hlk2 _ (hself _ _ hr0)
      by_cases hii : i = id
      ·subst hii
       rw [hr] at hr0
       injection hr0 with hr0
       subst hr0
       have hd : div p p' = true ∨ (beg p p' = true ∧ p'.length < p.length) ∧ isSl (sub r.K p') = true := by simpa [keepS] using hk
       obtain ⟨q', hq', l⟩ := pl_tk p p' hm' (hd.imp id (fun q => q.1.1)) r.x r.z _ q hp
       refine ⟨_, q', hq2.trans (if_pos rfl), hq', ?_⟩
       rcases hd with hd | ⟨⟨hd, hlt⟩, hsl⟩
       ·rw [l.div hd]; exact e
       ·rw [pl_sub p' _ _ _ _ hp] at hsl
        obtain ⟨qK, qx, qz, qa⟩ := q
        cases qK <;> simp only [isSl, Bool.false_eq_true] at hsl
        obtain ⟨hole', x', z', rfl, e1, e2⟩ := l.hdr hd hlt _ _ _ _ _ _ _ rfl
        rw [e]
        simp only [toV, single, cells, e1, e2]
      ·exact ⟨r0, q, (hq2.trans (if_neg hii)).trans hr0, hp, e⟩
     | slc i p' off len =>
      obtain ⟨r0, t, e, hole, x', z', qa, hr0, hp, hle, hv⟩ := hi
      have hq2 := hlk2 _ (hself _ _ hr0)
      by_cases hii : i = id
      ·subst hii
       rw [hr] at hr0
       injection hr0 with hr0
       subst hr0
       have hd : div p p' = true ∨ (beg p p' = true ∧ p'.length < p.length) := by simpa [keepS] using hk
       obtain ⟨q', hq', l⟩ := pl_tk p p' hm' (hd.imp id (fun q => q.1)) r.x r.z _ _ hp
       rcases hd with hd | ⟨hd, hlt⟩
       ·rw [l.div hd] at hq'
        exact ⟨_, t, e, hole, x', z', qa, hq2.trans (if_pos rfl), hq', hle, hv⟩
       ·obtain ⟨hole', x2, z2, rfl, e1, e2⟩ := l.hdr hd hlt _ _ _ _ _ _ _ rfl
        exact ⟨_, t, e, hole', x2, z2, qa, hq2.trans (if_pos rfl), hq', by rw [e2]; exact hle, by rw [e1]; exact hv⟩
      ·exact ⟨r0, t, e, hole, x', z', qa, (hq2.trans (if_neg hii)).trans hr0, hp, hle, hv⟩
    have keepAv : ∀ v u, keepA id p r.K v = true → v.is Γ rcs u → v.is Γ ((new, (⟨none, .sl true m.t m.e none, m.c.get r.x, m.c.getZ r.z⟩ : RC)) :: updL rcs id ⟨r.box, m.K', m.c.rest r.x, m.c.restZ r.x r.z⟩) u := by
     intro v u hk hi
     cases v with
     | one v => exact keep v u hk hi
     | tup l =>
      obtain ⟨vs, e, hl, hall⟩ := hi
      refine ⟨vs, e, hl, fun i s hs' => ?_⟩
      obtain ⟨u', hu, h'⟩ := hall i s hs'
      exact ⟨u', hu, keep s u' (List.all_eq_true.1 hk s (List.mem_of_getElem? hs')) h'⟩
    refine ⟨_, ⟨none, .sl true m.t m.e none, m.c.get r.x, m.c.getZ r.z⟩, ⟨?_, ?_, ?_, g.mem, g.memR, g.dj, g.defers, g.tsz, ?_, g.size, g.keep, g.own, g.ro, g.ro0, g.os, g.tape, g.output, g.sg, ?_, ?_⟩, ?_, keep, ?_⟩
    ·rw [List.map_cons, updL_map rcs id (⟨r.box, m.K', m.c.rest r.x, m.c.restZ r.x r.z⟩ : RC) RC.ck, g.ck]
     rfl
    ·rw [List.map_cons, List.nodup_cons, hkeys]
     refine ⟨fun hmem => ?_, g.nodup⟩
     obtain ⟨y, hy, hy2⟩ := List.mem_map.1 hmem
     have := look_of_mem g.nodup hy
     rw [hy2, hnl] at this
     cases this
    ·rw [e]
     refine ⟨hB, hA.un hR, HF.dj_un.2 ⟨dAB.symm, d2⟩, ?_, oB, put _ hA d1 oA⟩
     rw [← HF.un_assoc, HF.un_comm dAB.symm]
    ·intro t av hmem
     obtain ⟨m1, m2⟩ := List.mem_filter.1 hmem
     obtain ⟨v, hv, hi⟩ := g.tm t av m1
     exact ⟨v, hv, keepAv av v m2 hi⟩
    ·intro e0 he
     obtain ⟨b1, b2⟩ := g.bx e0 he
     refine ⟨b1, fun id2 hid2 => ?_⟩
     obtain ⟨r2, t2, hr2, hb2⟩ := b2 id2 hid2
     rw [hlk2 _ (hself _ _ hr2)]
     by_cases hii : id2 = id
     ·subst hii
      rw [hr] at hr2
      injection hr2 with hr2
      subst hr2
      exact ⟨_, t2, if_pos rfl, hb2⟩
     ·exact ⟨r2, t2, by rw [if_neg hii]; exact hr2, hb2⟩
    ·intro m0 hm0 r2 hr2
     have hmn : m0.1 ≠ new := fun f => by
      have := (F.hM m0 hm0).2
      omega
     rw [hlk2 _ hmn] at hr2
     by_cases hii : m0.1 = id
     ·rw [if_pos hii] at hr2
      injection hr2 with hr2
      subst hr2
      rw [← g.md m0 hm0 r (hii ▸ hr)]
      unfold RC.head
      cases hbx : r.box with
      | some bt => rfl
      | none =>
       exact toV_eq ec (tkC_single p hm')
     ·rw [if_neg hii] at hr2
      exact g.md m0 hm0 r2 hr2
    ·exact ⟨if_pos (beq_self_eq_true new), rfl, a', hq⟩
    ·intro ids hO e0 he
     obtain ⟨id2, hid2, hni, r2, t2, hr2, hb2⟩ := hO e0 he
     refine ⟨id2, hid2, hni, ?_⟩
     rw [hlk2 _ (hself _ _ hr2)]
     by_cases hii : id2 = id
     ·subst hii
      rw [hr] at hr2
      injection hr2 with hr2
      subst hr2
      exact ⟨_, t2, if_pos rfl, hb2⟩
     ·exact ⟨r2, t2, by rw [if_neg hii]; exact hr2, hb2⟩
   ·cases hd
  ·cases hd
 ·cases hd
theorem detach_ok {F : Fr} {s s' : St} {a : Act} {w : World} {Γ : HF} {rcs : List (Nat × RC)} {h : HF} (g : Good F s a w Γ rcs h) {id : Nat} {p : List Sel} {new : Nat} {Kc : Kd} (hd : detach s id p new = some (Kc, s')) (hnew : 1000000 ≤ new)
  {u : Value} (hu : (SV.at id p).is Γ rcs u) : ∃ rcs', Good F s' a w Γ rcs' h ∧ (SV.at new []).is Γ rcs' u ∧ (∀ v u, keepS id p Kc v = true → v.is Γ rcs u → v.is Γ rcs' u) ∧ ∀ ids, Off F ids rcs → Off F ids rcs' := by
 obtain ⟨r, q, hr, hp, hv⟩ := hu
 obtain ⟨rcs', rn, g', ⟨h1, h2, a', h3⟩, h4, h5⟩ := detach_core g hd hnew hr hp
 exact ⟨rcs', g', ⟨rn, ⟨rn.K, rn.x, rn.z, ((rn.box.getD (0, 0)).1, 0)⟩, h1, by simp only [pl], by rw [hv, h3]⟩, h4, h5⟩
theorem detach_win {F : Fr} {s s' : St} {a : Act} {w : World} {Γ : HF} {rcs : List (Nat × RC)} {h : HF} (g : Good F s a w Γ rcs h) {id : Nat} {p : List Sel} {new : Nat} {Kc : Kd} (hd : detach s id p new = some (Kc, s')) (hnew : 1000000 ≤ new)
  {off len : Nat} {u : Value} (hu : (SV.slc id p off len).is Γ rcs u) : ∃ rcs', Good F s' a w Γ rcs' h ∧ (SV.slc new [] off len).is Γ rcs' u := by
 obtain ⟨r, t, e, hole, x', z', qa, hr, hp, hle, hv⟩ := hu
 obtain ⟨rcs', rn, g', ⟨h1, h2, a', h3⟩, h4, h5⟩ := detach_core g hd hnew hr hp
 injection h3 with q1 q2 q3 q4
 obtain ⟨rb, rK, rx, rz⟩ := rn
 simp only at q1 q2 q3 h2
 subst q1; subst h2
 obtain rfl := eq_of_heq q2
 obtain rfl := eq_of_heq q3
 exact ⟨rcs', g', ⟨none, .sl true t e hole, x', z'⟩, t, e, hole, x', z', _, h1, rfl, hle, hv⟩
end Go.Proofs.YtibammoednhnoaaE

