/- The engine, part 32e: a map is written. Conditions: none. -/
import Derived.Test.YtibammoednhnoaaE32d
set_option linter.unusedVariables false
set_option linter.unusedSimpArgs false
namespace Go.Proofs.YtibammoednhnoaaE
open Kd
variable {α : Type}

inductive MPl : Kd → Type where
 | nil (t : TypeId) (k : IntKind) : MPl (.mp true t k)
 | fst {a b : Kd} (c : MPl a) : MPl (.pair a b)
 | snd {a b : Kd} (c : MPl b) : MPl (.pair a b)
namespace MPl
def get : {K : Kd} → MPl K → K.T → Option (List (ByteArray × Int))
 | _, .nil _ _, x => x
 | _, .fst c, x => c.get x.1
 | _, .snd c, x => c.get x.2
def put : {K : Kd} → MPl K → K.T → List (ByteArray × Int) → K.T
 | _, .nil _ _, _, l => (some l : Option (List (ByteArray × Int)))
 | _, .fst c, x, l => (c.put x.1 l, x.2)
 | _, .snd c, x, l => (x.1, c.put x.2 l)
def blk : {K : Kd} → MPl K → K.Z → Nat
 | _, .nil _ _, z => z
 | _, .fst c, z => c.blk z.1
 | _, .snd c, z => c.blk z.2
def kind : {K : Kd} → MPl K → IntKind
 | _, .nil _ k => k
 | _, .fst c => c.kind
 | _, .snd c => c.kind
def ty : {K : Kd} → MPl K → TypeId
 | _, .nil t _ => t
 | _, .fst c => c.ty
 | _, .snd c => c.ty
def path : {K : Kd} → MPl K → List Sel
 | _, .nil _ _ => []
 | _, .fst c => .fst :: c.path
 | _, .snd c => .snd :: c.path
end MPl
def mkMP : (K : Kd) → List Sel → Option (MPl K)
 | .mp true t k, [] => some (.nil t k)
 | .pair a b, .fst :: p => (mkMP a p).map .fst
 | .pair a b, .snd :: p => (mkMP b p).map .snd
 | _, _ => none
theorem mkMP_path : ∀ {K : Kd} {p : List Sel} {m : MPl K}, mkMP K p = some m → m.path = p
 | .mp true t k, [], m, h => by injection h with h; subst h; rfl
 | .pair a b, .fst :: p, m, h => by
  obtain ⟨c, hc, rfl⟩ := Option.map_eq_some_iff.1 h
  show .fst :: c.path = _
  rw [mkMP_path hc]
 | .pair a b, .snd :: p, m, h => by
  obtain ⟨c, hc, rfl⟩ := Option.map_eq_some_iff.1 h
  show .snd :: c.path = _
  rw [mkMP_path hc]
theorem mp_pl : ∀ {K : Kd} (m : MPl K) (x : K.T) (z : K.Z) (a : Nat × Nat), ∃ a', pl K x z m.path a = some ⟨.mp true m.ty m.kind, m.get x, m.blk z, a'⟩
 | _, .nil t k, x, z, a => ⟨a, rfl⟩
 | _, .fst c, x, z, a => by
  obtain ⟨a', e⟩ := mp_pl c x.1 z.1 a
  exact ⟨a', e⟩
 | .pair ka _, .snd c, x, z, a => by
  obtain ⟨a', e⟩ := mp_pl c x.2 z.2 (a.1, a.2 + ka.size)
  exact ⟨a', e⟩
theorem mp_cells : ∀ {K : Kd} (m : MPl K) (x : K.T) (z : K.Z) {l : List (ByteArray × Int)} (l' : List (ByteArray × Int)), m.get x = some l → K.cells (m.put x l') z = K.cells x z
 | _, .nil t k, x, z, l, l', h => by
  have h' : x = some l := h
  subst h'
  rfl
 | .pair a b, .fst c, x, z, l, l', h => by
  show a.cells (c.put x.1 l') z.1 ++ b.cells x.2 z.2 = a.cells x.1 z.1 ++ b.cells x.2 z.2
  rw [mp_cells c x.1 z.1 l' h]
 | .pair a b, .snd c, x, z, l, l', h => by
  show a.cells x.1 z.1 ++ b.cells (c.put x.2 l') z.2 = a.cells x.1 z.1 ++ b.cells x.2 z.2
  rw [mp_cells c x.2 z.2 l' h]
theorem mp_own {Γ : HF} : ∀ {K : Kd} (m : MPl K) (x : K.T) (z : K.Z) (h : HF) {l : List (ByteArray × Int)}, m.get x = some l → K.Own Γ x z h →
  ∃ hr es clk, HF.dj hr (HF.onem (m.blk z) es clk) ∧ h = hr.un (HF.onem (m.blk z) es clk) ∧ EntsP m.kind l es ∧ ∀ l' es' clk', EntsP m.kind l' es' → K.Own Γ (m.put x l') z (hr.un (HF.onem (m.blk z) es' clk'))
 | _, .nil t k, x, z, h, l, hg, o => by
  have hg' : x = some l := hg
  subst hg'
  obtain ⟨es, clk, e1, e2⟩ := o
  exact ⟨HF.emp, es, clk, HF.emp_dj _, by rw [HF.emp_un]; exact e1, e2, fun l' es' clk' he => ⟨es', clk', by rw [HF.emp_un]; rfl, he⟩⟩
 | .pair a b, .fst c, x, z, h, l, hg, o => by
  obtain ⟨h1, h2, d, rfl, oa, ob⟩ := o
  obtain ⟨hr, es, clk, d1, rfl, he, f⟩ := mp_own c x.1 z.1 h1 hg oa
  obtain ⟨d2, d3⟩ := HF.un_dj.1 d
  have d3' : ∀ es' clk', HF.dj (HF.onem (c.blk z.1) es' clk') h2 := fun es' clk' => HF.dj_iff.2 fun b' hb hx => HF.dj_iff.1 d3 b' (HF.has_onem.2 (HF.has_onem.1 hb)) hx
  have d1' : ∀ es' clk', HF.dj hr (HF.onem (c.blk z.1) es' clk') := fun es' clk' => HF.dj_iff.2 fun b' hb hx => HF.dj_iff.1 d1 b' hb (HF.has_onem.2 (HF.has_onem.1 hx))
  refine ⟨hr.un h2, es, clk, HF.un_dj.2 ⟨d1, (d3).symm⟩, ?_, he, fun l' es' clk' he' => ?_⟩
  ·show (hr.un (HF.onem (c.blk z.1) es clk)).un h2 = (hr.un h2).un (HF.onem (c.blk z.1) es clk)
   rw [HF.un_assoc, HF.un_comm d3, ← HF.un_assoc]
  ·refine ⟨hr.un (HF.onem (c.blk z.1) es' clk'), h2, HF.un_dj.2 ⟨d2, d3' es' clk'⟩, ?_, f l' es' clk' he', ob⟩
   show (hr.un h2).un (HF.onem (c.blk z.1) es' clk') = (hr.un (HF.onem (c.blk z.1) es' clk')).un h2
   rw [HF.un_assoc, HF.un_assoc, HF.un_comm (d3' es' clk')]
 | .pair a b, .snd c, x, z, h, l, hg, o => by
  obtain ⟨h1, h2, d, rfl, oa, ob⟩ := o
  obtain ⟨hr, es, clk, d1, rfl, he, f⟩ := mp_own c x.2 z.2 h2 hg ob
  obtain ⟨d2, d3⟩ := HF.dj_un.1 d
  have d3' : ∀ es' clk', HF.dj h1 (HF.onem (c.blk z.2) es' clk') := fun es' clk' => HF.dj_iff.2 fun b' hb hx => HF.dj_iff.1 d3 b' hb (HF.has_onem.2 (HF.has_onem.1 hx))
  refine ⟨h1.un hr, es, clk, HF.un_dj.2 ⟨d3, d1⟩, ?_, he, fun l' es' clk' he' => ?_⟩
  ·exact (HF.un_assoc _ _ _).symm
  ·exact ⟨h1, hr.un (HF.onem (c.blk z.2) es' clk'), HF.dj_un.2 ⟨d2, d3' es' clk'⟩, HF.un_assoc _ _ _, oa, f l' es' clk' he'⟩
theorem mp_put_pl : ∀ {K : Kd} (m : MPl K) (x : K.T) (z : K.Z) {l : List (ByteArray × Int)} (l' : List (ByteArray × Int)), m.get x = some l → ∀ (p : List Sel) (a : Nat × Nat) (q : At), pl K x z p a = some q → ∃ x', pl K (m.put x l') z p a = some ⟨q.K, x', q.z, q.a⟩ ∧ q.K.cells x' q.z = q.K.cells q.x q.z
 | K, m, x, z, l, l', hg, [], a, q, hp => by
  have hp' : some (⟨K, x, z, a⟩ : At) = some q := by cases K <;> exact hp
  injection hp' with hp'
  subst hp'
  exact ⟨m.put x l', by cases K <;> rfl, mp_cells m x z l' hg⟩
 | _, .nil t k, x, z, l, l', hg, s :: p, a, q, hp => by
  have hn : pl (.mp true t k) x z (s :: p) a = none := by cases s <;> rfl
  rw [hn] at hp
  cases hp
 | .pair ka kb, .fst c, x, z, l, l', hg, .fst :: p, a, q, hp => mp_put_pl c x.1 z.1 l' hg p a q hp
 | .pair ka kb, .fst c, x, z, l, l', hg, .snd :: p, a, q, hp => ⟨q.x, hp, rfl⟩
 | .pair ka kb, .snd c, x, z, l, l', hg, .fst :: p, a, q, hp => ⟨q.x, hp, rfl⟩
 | .pair ka kb, .snd c, x, z, l, l', hg, .snd :: p, a, q, hp => mp_put_pl c x.2 z.2 l' hg p (a.1, a.2 + ka.size) q hp
 | .pair ka kb, .fst c, x, z, l, l', hg, .idx i :: p, a, q, hp => by cases hp
 | .pair ka kb, .snd c, x, z, l, l', hg, .idx i :: p, a, q, hp => by cases hp
def keepM (id : Nat) : SV → Bool
 | .slc i _ _ _ => i != id
 | _ => true
def keepMA (id : Nat) : AV → Bool
 | .one v => keepM id v
 | .tup l => l.all (keepM id)
theorem keepM_is {Γ : HF} {rcs : List (Nat × RC)} {id : Nat} {r : RC} {m : MPl r.K} {l l' : List (ByteArray × Int)} (hg : m.get r.x = some l) (hr : look rcs id = some r) {v : SV} {u : Value} (hk : keepM id v = true) (hi : v.is Γ rcs u) :
  v.is Γ (updL rcs id ⟨r.box, r.K, m.put r.x l', r.z⟩) u := by
 have hl := look_updL (u := (⟨r.box, r.K, m.put r.x l', r.z⟩ : RC)) r hr
 cases v with
 | val K x => exact hi
 | eptr K x => exact hi
 | nilS => exact hi
 | nilP => exact hi
 | bnd f K x => exact hi
 | ptr i p =>
  obtain ⟨r0, q, h1, h2, h3, h4⟩ := hi
  by_cases hid : i = id
  ·subst hid
   rw [hr] at h1
   injection h1 with h1
   subst h1
   obtain ⟨x', e1, e2⟩ := mp_put_pl m r.x r.z l' hg p _ q h2
   exact ⟨(⟨r.box, r.K, m.put r.x l', r.z⟩ : RC), ⟨q.K, x', q.z, q.a⟩, by rw [hl, if_pos rfl], e1, h3, h4⟩
  ·exact ⟨r0, q, by rw [hl, if_neg hid]; exact h1, h2, h3, h4⟩
 | «at» i p =>
  obtain ⟨r0, q, h1, h2, h4⟩ := hi
  by_cases hid : i = id
  ·subst hid
   rw [hr] at h1
   injection h1 with h1
   subst h1
   obtain ⟨x', e1, e2⟩ := mp_put_pl m r.x r.z l' hg p _ q h2
   exact ⟨(⟨r.box, r.K, m.put r.x l', r.z⟩ : RC), ⟨q.K, x', q.z, q.a⟩, by rw [hl, if_pos rfl], e1, by rw [h4]; show _ = toV q.K (q.K.cells x' q.z); rw [e2]⟩
  ·exact ⟨r0, q, by rw [hl, if_neg hid]; exact h1, h2, h4⟩
 | slc i p off len =>
  obtain ⟨r0, t, e, hole, x', z', a', h1, h2⟩ := hi
  have hid : i ≠ id := by simpa [keepM] using hk
  exact ⟨r0, t, e, hole, x', z', a', by rw [hl, if_neg hid]; exact h1, h2⟩
 | clo f caps =>
  obtain ⟨vs, h1, h2, h3⟩ := hi
  refine ⟨vs, h1, h2, fun i j hj => ?_⟩
  obtain ⟨r0, b, t, e1, e2, e3⟩ := h3 i j hj
  by_cases hid : j = id
  ·subst hid
   rw [hr] at e1
   injection e1 with e1
   subst e1
   exact ⟨(⟨r.box, r.K, m.put r.x l', r.z⟩ : RC), b, t, by rw [hl, if_pos rfl], e2, e3⟩
  ·exact ⟨r0, b, t, by rw [hl, if_neg hid]; exact e1, e2, e3⟩
theorem keepMA_is {Γ : HF} {rcs : List (Nat × RC)} {id : Nat} {r : RC} {m : MPl r.K} {l l' : List (ByteArray × Int)} (hg : m.get r.x = some l) (hr : look rcs id = some r) {v : AV} {u : Value} (hk : keepMA id v = true) (hi : v.is Γ rcs u) :
  v.is Γ (updL rcs id ⟨r.box, r.K, m.put r.x l', r.z⟩) u := by
 cases v with
 | one s => exact keepM_is hg hr hk hi
 | tup l0 =>
  obtain ⟨vs, h1, h2, h3⟩ := hi
  refine ⟨vs, h1, h2, fun i s hs => ?_⟩
  obtain ⟨u', e1, e2⟩ := h3 i s hs
  exact ⟨u', e1, keepM_is hg hr (List.all_eq_true.1 hk s (List.mem_of_getElem? hs)) e2⟩
theorem rc_mp {Γ : HF} {r : RC} {h1 : HF} {m : MPl r.K} {l : List (ByteArray × Int)} (hg : m.get r.x = some l) (o : r.Own Γ h1) :
  ∃ hr es clk, HF.dj hr (HF.onem (m.blk r.z) es clk) ∧ h1 = hr.un (HF.onem (m.blk r.z) es clk) ∧ EntsP m.kind l es ∧ (∀ l' es' clk', EntsP m.kind l' es' → (⟨r.box, r.K, m.put r.x l', r.z⟩ : RC).Own Γ (hr.un (HF.onem (m.blk r.z) es' clk'))) := by
 obtain ⟨rb, K, x, z⟩ := r
 cases rb with
 | none =>
  obtain ⟨hr, es, clk, d, e, he, f⟩ := mp_own m x z h1 hg o
  exact ⟨hr, es, clk, d, e, he, f⟩
 | some bt =>
  obtain ⟨b, t⟩ := bt
  obtain ⟨c, h2, d, rfl, o', hc⟩ := o
  obtain ⟨hr, es, clk, d1, rfl, he, f⟩ := mp_own m x z h2 hg o'
  obtain ⟨d2, d3⟩ := HF.dj_un.1 d
  have d3' : ∀ es' clk', HF.dj (HF.one b c t) (HF.onem (m.blk z) es' clk') := fun es' clk' => HF.dj_iff.2 fun b' hb hx => HF.dj_iff.1 d3 b' hb (HF.has_onem.2 (HF.has_onem.1 hx))
  refine ⟨(HF.one b c t).un hr, es, clk, HF.un_dj.2 ⟨d3, d1⟩, (HF.un_assoc _ _ _).symm, he, fun l' es' clk' he' => ?_⟩
  exact ⟨c, hr.un (HF.onem (m.blk z) es' clk'), HF.dj_un.2 ⟨d2, d3' es' clk'⟩, HF.un_assoc _ _ _, f l' es' clk' he', by
   show c.toList = K.cells (m.put x l') z
   rw [mp_cells m x z l' hg]
   exact hc⟩
def World.setMap (w : World) (b : Nat) (es : Array MapEntry) (clk : Nat) : World := { w with heap := w.heap.setIfInBounds b (.map es clk) }
theorem Good.mapPut {F : Fr} {s : St} {a : Act} {w : World} {Γ : HF} {rcs : List (Nat × RC)} {h : HF} (g : Good F s a w Γ rcs h) {id : Nat} {r : RC} {m : MPl r.K} {l l' : List (ByteArray × Int)} {es' : Array MapEntry} {clk' : Nat}
  (hr : look rcs id = some r) (hg : m.get r.x = some l) (he : EntsP m.kind l' es') {tm : List (Nat × AV)} (htm : ∀ t av, (t, av) ∈ tm → keepMA id av = true ∧ (t, av) ∈ s.tm) (hB : Off F [id] rcs) :
  R F ⟨tm, updL s.ck id ⟨r.ck.box, r.K, m.put r.x l'⟩⟩ a (World.setMap w (m.blk r.z) es' clk') := by
 obtain ⟨h1, hR, d1, hh, o1, put, _⟩ := star_upd g.star hr g.nodup
 obtain ⟨hq, es, clk, d2, rfl, _, f⟩ := rc_mp hg o1
 have d2' : HF.dj hq (HF.onem (m.blk r.z) es' clk') := HF.dj_iff.2 fun b hb hx => HF.dj_iff.1 d2 b hb (HF.has_onem.2 (HF.has_onem.1 hx))
 obtain ⟨dq, dm⟩ := HF.un_dj.1 d1
 have dm' : HF.dj (HF.onem (m.blk r.z) es' clk') hR := HF.dj_iff.2 fun b hb hx => HF.dj_iff.1 dm b (HF.has_onem.2 (HF.has_onem.1 hb)) hx
 have d1' : HF.dj (hq.un (HF.onem (m.blk r.z) es' clk')) hR := HF.un_dj.2 ⟨dq, dm'⟩
 have hasb : h.has (m.blk r.z) := by
  rw [hh]
  exact HF.has_un.2 (.inl (HF.has_un.2 (.inr (HF.has_onem.2 rfl))))
 have hb0 : h (m.blk r.z) = some (.mp es clk) := by
  have h0 : (hq.un (HF.onem (m.blk r.z) es clk)) (m.blk r.z) = some (.mp es clk) := un_right d2 (by simp [HF.onem])
  rw [hh]
  exact un_left h0
 have hw : w.heap[m.blk r.z]? = some (.map es clk) := g.mem _ _ hb0
 have hlt : m.blk r.z < w.heap.size := g.mem.lt hasb
 have same : ∀ b, b ≠ m.blk r.z → (World.setMap w (m.blk r.z) es' clk').heap[b]? = w.heap[b]? := fun b hb => by
  show (w.heap.setIfInBounds (m.blk r.z) _)[b]? = _
  rw [Array.getElem?_setIfInBounds_ne (Ne.symm hb)]
 have here : (World.setMap w (m.blk r.z) es' clk').heap[m.blk r.z]? = some (.map es' clk') := by
  show (w.heap.setIfInBounds (m.blk r.z) _)[m.blk r.z]? = _
  simp [hlt]
 have hsize : (World.setMap w (m.blk r.z) es' clk').heap.size = w.heap.size := by
  show (w.heap.setIfInBounds (m.blk r.z) _).size = _
  simp
 obtain ⟨m12, mR⟩ := (Mem.un d1).1 (hh ▸ g.mem)
 obtain ⟨mq, _⟩ := (Mem.un d2).1 m12
 have keepm : ∀ (h0 : HF), ¬ h0.has (m.blk r.z) → Mem h0 w → Mem h0 (World.setMap w (m.blk r.z) es' clk') := fun h0 hn mm b x e => by
  refine (mm b x e).same (same b fun q => hn ?_)
  subst q
  unfold HF.has
  rw [e]
  simp
 have nq : ¬ hq.has (m.blk r.z) := fun q => HF.dj_iff.1 d2 _ q (HF.has_onem.2 rfl)
 have nR : ¬ hR.has (m.blk r.z) := fun q => HF.dj_iff.1 dm _ (HF.has_onem.2 rfl) q
 have sub' : ∀ b, ((hq.un (HF.onem (m.blk r.z) es' clk')).un hR).has b → h.has b := fun b hb => by
  rw [hh]
  rcases HF.has_un.1 hb with q | q
  ·rcases HF.has_un.1 q with q | q
   ·exact HF.has_un.2 (.inl (HF.has_un.2 (.inl q)))
   ·exact HF.has_un.2 (.inl (HF.has_un.2 (.inr (HF.has_onem.2 (HF.has_onem.1 q)))))
  ·exact HF.has_un.2 (.inr q)
 refine ⟨Γ, updL rcs id ⟨r.box, r.K, m.put r.x l', r.z⟩, (hq.un (HF.onem (m.blk r.z) es' clk')).un hR, ?_, ?_, put _ _ d1' (f l' es' clk' he), ?_, ?_, ?_, g.defers, g.tsz, ?_, ?_, ?_, ?_, g.ro, g.ro0, g.os, g.tape, g.output, g.sg, ?_, ?_⟩
 ·rw [← g.ck]
  exact updL_map rcs id (⟨r.box, r.K, m.put r.x l', r.z⟩ : RC) RC.ck
 ·rw [updL_keys]; exact g.nodup
 ·exact (Mem.un d1').2 ⟨(Mem.un d2').2 ⟨keepm hq nq mq, Mem.onem.2 here⟩, keepm hR nR mR⟩
 ·intro b x e
  refine (g.memR b x e).same (same b fun q => ?_)
  subst q
  exact HF.dj_iff.1 g.dj _ (by unfold HF.has; rw [e]; simp) hasb
 ·exact HF.dj_iff.2 fun b hb1 hb2 => HF.dj_iff.1 g.dj b hb1 (sub' b hb2)
 ·intro t av hm'
  obtain ⟨hk, hin⟩ := htm t av hm'
  obtain ⟨v, hv, hi⟩ := g.tm t av hin
  exact ⟨v, hv, keepMA_is hg hr hk hi⟩
 ·rw [hsize]; exact g.size
 ·intro b hb1 hb2
  have hne : b ≠ m.blk r.z := fun e => by
   subst e
   rcases g.own _ hasb with q | q
   ·exact hb2 q
   ·omega
  rw [same b hne]
  exact g.keep b hb1 hb2
 ·exact fun b hb' => g.own b (sub' b hb')
 ·intro e he'
  obtain ⟨id', hid, hn, r', t', hr', hbx⟩ := hB e he'
  have hne : id' ≠ id := by simpa using hn
  have hbn : e.b ≠ m.blk r.z := fun q => by
   obtain ⟨h2, _, d, o, o2⟩ := star_two g.star hr' hr hne
   have f1 := box_has o hbx
   rw [q] at f1
   obtain ⟨hq2, es2, clk2, d3, e3, _, _⟩ := rc_mp hg o2
   exact HF.dj_iff.1 d _ f1 (by rw [e3]; exact HF.has_un.2 (.inr (HF.has_onem.2 rfl)))
  refine ⟨⟨?_, by rw [hsize]; exact (g.bx e he').1.2⟩, fun id2 hid2 => ?_⟩
  ·rw [same _ hbn]
   exact (g.bx e he').1.1
  ·rw [hid] at hid2
   injection hid2 with hid2
   subst hid2
   exact ⟨r', t', by rw [look_updL r hr, if_neg hne]; exact hr', hbx⟩
 ·intro m' hm' r' hr'
  rw [look_updL r hr] at hr'
  by_cases hid : m'.1 = id
  ·rw [if_pos hid] at hr'
   injection hr' with hr'
   subst hr'
   rw [← g.md m' hm' r (hid ▸ hr)]
   unfold RC.head
   cases hbx : r.box with
   | some bt => rfl
   | none =>
    show toV r.K (r.K.cells (m.put r.x l') r.z) = toV r.K (r.K.cells r.x r.z)
    rw [mp_cells m r.x r.z l' hg]
  ·rw [if_neg hid] at hr'
   exact g.md m' hm' r' hr'
end Go.Proofs.YtibammoednhnoaaE

