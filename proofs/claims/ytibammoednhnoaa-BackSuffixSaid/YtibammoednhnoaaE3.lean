/- The engine, part 3: places in values (typed paths), what lies there, what a write there makes of the value. Conditions: none. -/
import Derived.Test.YtibammoednhnoaaE2
set_option linter.unusedVariables false
set_option linter.unusedSimpArgs false
namespace Go.Proofs.YtibammoednhnoaaE
open Kd

inductive Chg (K1 K2 : Kd) : Kd → Kd → Type where
 | nil : Chg K1 K2 K1 K2
 | fst {a a' b : Kd} (c : Chg K1 K2 a a') : Chg K1 K2 (.pair a b) (.pair a' b)
 | snd {a b b' : Kd} (c : Chg K1 K2 b b') : Chg K1 K2 (.pair a b) (.pair a b')
 | idx {n : Nat} {e : Kd} (i : Nat) (c : Chg K1 K2 e e) : Chg K1 K2 (.arr n e) (.arr n e)
 | sidx {t : TypeId} {e : Kd} {h : Option Nat} (i : Nat) (c : Chg K1 K2 e e) : Chg K1 K2 (.sl true t e h) (.sl true t e h)
 | take {t : TypeId} (i : Nat) (hk : K2 = .un) : Chg K1 K2 (.sl true t K1 none) (.sl true t K1 (some i))
 | fill {t : TypeId} (i : Nat) (hk : K1 = .un) : Chg K1 K2 (.sl true t K2 (some i)) (.sl true t K2 none)

namespace Chg
variable {K1 K2 : Kd}
def get : {K K' : Kd} → Chg K1 K2 K K' → K.T → K1.T
 | _, _, .nil, x => x
 | _, _, .fst c, x => c.get x.1
 | _, _, .snd c, x => c.get x.2
 | .arr _ e, _, .idx i c, x => c.get (x.getD i e.dft)
 | .sl _ _ e _, _, .sidx i c, x => c.get (x.getD i e.dft)
 | _, _, .take i _, x => x.getD i K1.dft
 | _, _, .fill i hk, _ => hk ▸ ()
def getZ : {K K' : Kd} → Chg K1 K2 K K' → K.T → K.Z → K1.Z
 | _, _, .nil, _, z => z
 | _, _, .fst c, x, z => c.getZ x.1 z.1
 | _, _, .snd c, x, z => c.getZ x.2 z.2
 | .arr _ e, _, .idx i c, x, z => c.getZ (x.getD i e.dft) (z i)
 | .sl _ _ e _, _, .sidx i c, x, z => c.getZ (x.getD i e.dft) (z.2 i)
 | _, _, .take i _, _, z => z.2 i
 | _, _, .fill i hk, x, z => hk ▸ ((K2.cells (x.getD i K2.dft) (z.2 i)).getD 0 undef)
def put : {K K' : Kd} → Chg K1 K2 K K' → K.T → K2.T → K'.T
 | _, _, .nil, _, y => y
 | _, _, .fst c, x, y => (c.put x.1 y, x.2)
 | _, _, .snd c, x, y => (x.1, c.put x.2 y)
 | .arr _ e, _, .idx i c, x, y => x.set i (c.put (x.getD i e.dft) y)
 | .sl _ _ e _, _, .sidx i c, x, y => x.set i (c.put (x.getD i e.dft) y)
 | _, _, .take _ _, x, _ => x
 | _, _, .fill i _, x, y => x.set i y
def putZ : {K K' : Kd} → Chg K1 K2 K K' → K.T → K.Z → K2.Z → K'.Z
 | _, _, .nil, _, _, w => w
 | _, _, .fst c, x, z, w => (c.putZ x.1 z.1 w, z.2)
 | _, _, .snd c, x, z, w => (z.1, c.putZ x.2 z.2 w)
 | .arr _ e, _, .idx i c, x, z, w => fun j => if j = i then c.putZ (x.getD i e.dft) (z i) w else z j
 | .sl _ _ e _, _, .sidx i c, x, z, w => (z.1, fun j => if j = i then c.putZ (x.getD i e.dft) (z.2 i) w else z.2 j)
 | _, _, .take _ _, _, z, _ => z
 | _, _, .fill i _, _, z, w => (z.1, fun j => if j = i then w else z.2 j)
def valid : {K K' : Kd} → Chg K1 K2 K K' → K.T → Prop
 | _, _, .nil, _ => True
 | _, _, .fst c, x => c.valid x.1
 | _, _, .snd c, x => c.valid x.2
 | .arr n e, _, .idx i c, x => i < n ∧ c.valid (x.getD i e.dft)
 | .sl _ _ e h, _, .sidx i c, x => i < x.length ∧ h ≠ some i ∧ c.valid (x.getD i e.dft)
 | _, _, .take i _, x => i < x.length
 | _, _, .fill i _, x => i < x.length
def loc : {K K' : Kd} → Chg K1 K2 K K' → K.T → K.Z → Nat × Nat → Nat × Nat
 | _, _, .nil, _, _, a => a
 | _, _, .fst c, x, z, a => c.loc x.1 z.1 a
 | .pair k _, _, .snd c, x, z, a => c.loc x.2 z.2 (a.1, a.2 + k.size)
 | .arr _ e, _, .idx i c, x, z, a => c.loc (x.getD i e.dft) (z i) (a.1, a.2 + i * e.size)
 | .sl _ _ e _, _, .sidx i c, x, z, a => match z.1 with
  | some (b, o, _) => c.loc (x.getD i e.dft) (z.2 i) (b, o + i * e.size)
  | none => a
 | _, _, .take i _, _, z, a => match z.1 with
  | some (b, o, _) => (b, o + i * K1.size)
  | none => a
 | _, _, .fill i _, _, z, a => match z.1 with
  | some (b, o, _) => (b, o + i * K2.size)
  | none => a
theorem size_eq (hs : K1.size = K2.size) : {K K' : Kd} → Chg K1 K2 K K' → K.size = K'.size
 | _, _, .nil => hs
 | _, _, .fst c => by simp [Kd.size, size_eq hs c]
 | _, _, .snd c => by simp [Kd.size, size_eq hs c]
 | _, _, .idx _ _ => rfl
 | _, _, .sidx _ _ => rfl
 | _, _, .take _ _ => rfl
 | _, _, .fill _ _ => rfl
end Chg

theorem getD_set_self {α : Type} {l : List α} {i : Nat} {v d : α} (h : i < l.length) : (l.set i v).getD i d = v := by
 simp [List.getD_eq_getElem?_getD, h]
theorem getD_set_ne' {α : Type} {l : List α} {i j : Nat} {v d : α} (h : i ≠ j) : (l.set i v).getD j d = l.getD j d := by
 simp [List.getD_eq_getElem?_getD, List.getElem?_set_ne h]

def wrIf (b0 : Nat) (c0 : Array Value) (at_ : Nat × Nat) (vs : List Value) : Array Value := if at_.1 = b0 then wr c0 at_.2 vs else c0
theorem wrIf_pos {b0 : Nat} {c0 : Array Value} {at_ : Nat × Nat} {vs : List Value} (h : at_.1 = b0) : wrIf b0 c0 at_ vs = wr c0 at_.2 vs := if_pos h
theorem wrIf_neg {b0 : Nat} {c0 : Array Value} {at_ : Nat × Nat} {vs : List Value} (h : at_.1 ≠ b0) : wrIf b0 c0 at_ vs = c0 := if_neg h
theorem lie_ite {b0 : Nat} {c0 : Array Value} {at_ : Nat × Nat} {vs : List Value} {o : Nat} {cs : List Value} (h1 : at_.1 = b0 → Lie (wr c0 at_.2 vs) o cs) (h2 : at_.1 ≠ b0 → Lie c0 o cs) : Lie (wrIf b0 c0 at_ vs) o cs := by
 by_cases h : at_.1 = b0
 ·rw [wrIf_pos h]; exact h1 h
 ·rw [wrIf_neg h]; exact h2 h
structure Spot (Γ : HF) {K1 K2 K K' : Kd} (c : Chg K1 K2 K K') (x : K.T) (z : K.Z) (h : HF) (b0 o0 : Nat) (c0 : Array Value) (t0 : TypeId) (hr ho : HF) : Prop where
 dj : HF.dj hr ho
 eq : h = hr.un ho
 own : K1.Own Γ (c.get x) (c.getZ x z) ho
 at_ : (c.loc x z (b0, o0)).1 = b0 ∧ o0 ≤ (c.loc x z (b0, o0)).2 ∧ (c.loc x z (b0, o0)).2 + K1.size ≤ o0 + K.size ∨ (c.loc x z (b0, o0)).1 ≠ b0 ∧ hr.has (c.loc x z (b0, o0)).1
 lie : ∃ cb tb, (HF.un (HF.one b0 c0 t0) hr) (c.loc x z (b0, o0)).1 = some (.cel cb tb) ∧ Lie cb (c.loc x z (b0, o0)).2 (K1.cells (c.get x) (c.getZ x z))
 put : ∀ y zy hn, K2.Own Γ y zy hn → HF.dj (HF.un (HF.one b0 c0 t0) hr) hn →
  K'.Own Γ (c.put x y) (c.putZ x z zy) ((hr.upd (c.loc x z (b0, o0)).1 (c.loc x z (b0, o0)).2 (K2.cells y zy)).un hn) ∧
  Lie (wrIf b0 c0 (c.loc x z (b0, o0)) (K2.cells y zy)) o0 (K'.cells (c.put x y) (c.putZ x z zy))

theorem one_self {b : Nat} {c : Array Value} {t : TypeId} {g : HF} : (HF.un (HF.one b c t) g) b = some (.cel c t) := by simp [HF.un, HF.one]

section
variable {Γ : HF} {K1 K2 : Kd}
theorem spot_nil (hs : K1.size = K2.size) (x : K1.T) (z : K1.Z) (h : HF) (b0 o0 : Nat) (c0 : Array Value) (t0 : TypeId)
  (ho : K1.Own Γ x z h) (hl : Lie c0 o0 (K1.cells x z)) : Spot Γ (.nil : Chg K1 K2 K1 K2) x z h b0 o0 c0 t0 HF.emp h where
 dj := HF.emp_dj _
 eq := (HF.emp_un h).symm
 own := by simpa only [Chg.get, Chg.getZ] using ho
 at_ := by simp [Chg.loc]
 lie := by simp only [Chg.loc, Chg.get, Chg.getZ]; exact ⟨c0, t0, one_self, hl⟩
 put := by
  simp only [Chg.loc, Chg.put, Chg.putZ]
  intro y zy hn hy hd
  constructor
  ·rw [HF.upd_not (by simp [HF.has, HF.emp]), HF.emp_un]
   exact hy
  ·rw [wrIf_pos (at_ := (b0, o0)) rfl]
   refine Lie.wr_self ?_
   rw [cells_length, ← hs]
   rcases Nat.eq_zero_or_pos K1.size with e | e
   ·exact .inl e
   ·refine .inr ?_
    have := hl.fits (by rw [cells_length]; exact e)
    rwa [cells_length] at this

theorem spot_fst (hs : K1.size = K2.size) {a a' b : Kd} (c : Chg K1 K2 a a') (x : (Kd.pair a b).T) (z : (Kd.pair a b).Z) (h1 h2 : HF) (b0 o0 : Nat) (c0 : Array Value) (t0 : TypeId) {hr ho : HF}
  (d : HF.dj h1 h2) (ob : b.Own Γ x.2 z.2 h2) (hl : Lie c0 o0 ((Kd.pair a b).cells x z)) (hb : ¬ h2.has b0)
  (s : Spot Γ c x.1 z.1 h1 b0 o0 c0 t0 hr ho) : Spot Γ (.fst c : Chg K1 K2 (.pair a b) (.pair a' b)) x z (h1.un h2) b0 o0 c0 t0 (hr.un h2) ho := by
 obtain ⟨dj, rfl, own, at_, lie, put⟩ := s
 obtain ⟨d1, d2⟩ := HF.un_dj.1 d
 have hl2 := Lie.right (a := a.cells x.1 z.1) (b := b.cells x.2 z.2) hl
 rw [cells_length] at hl2
 refine ⟨HF.un_dj.2 ⟨dj, d2.symm⟩, ?_, by simpa only [Chg.get, Chg.getZ] using own, ?_, ?_, ?_⟩
 ·rw [HF.un_assoc, HF.un_assoc, HF.un_comm d2]
 ·simp only [Chg.loc]
  rcases at_ with ⟨e, f, g⟩ | ⟨e, f⟩
  ·exact .inl ⟨e, f, by simp only [Kd.size]; omega⟩
  ·exact .inr ⟨e, HF.has_un.2 (.inl f)⟩
 ·simp only [Chg.loc, Chg.get, Chg.getZ]
  obtain ⟨cb, tb, e, hh⟩ := lie
  exact ⟨cb, tb, by rw [← HF.un_assoc]; simp only [HF.un] at e ⊢; rw [e]; rfl, hh⟩
 ·simp only [Chg.loc, Chg.put, Chg.putZ]
  intro y zy hn hy hd
  rw [← HF.un_assoc] at hd
  obtain ⟨hd1, hd2⟩ := HF.un_dj.1 hd
  obtain ⟨p1, p2⟩ := put y zy hn hy hd1
  have hnb : ¬ h2.has (c.loc x.1 z.1 (b0, o0)).1 := by
   rcases at_ with ⟨e, _⟩ | ⟨_, f⟩
   ·rw [e]; exact hb
   ·exact HF.dj_iff.1 d1 _ f
  constructor
  ·refine ⟨_, h2, ?_, ?_, p1, ob⟩
   ·exact HF.un_dj.2 ⟨HF.upd_dj.2 d1, hd2.symm⟩
   ·rw [HF.upd_un, HF.upd_not hnb, HF.un_assoc, HF.un_assoc, HF.un_comm hd2]
  ·refine Lie.append p2 ?_
   rw [cells_length, ← Chg.size_eq hs c]
   refine lie_ite (fun e => ?_) (fun e => ?_)
   ·refine Lie.wr_other hl2 (.inr ?_)
    rw [cells_length, ← hs]
    rcases at_ with ⟨_, f, g⟩ | ⟨f, _⟩
    ·exact g
    ·exact absurd e f
   ·exact hl2

theorem spot_snd (hs : K1.size = K2.size) {a b b' : Kd} (c : Chg K1 K2 b b') (x : (Kd.pair a b).T) (z : (Kd.pair a b).Z) (h1 h2 : HF) (b0 o0 : Nat) (c0 : Array Value) (t0 : TypeId) {hr ho : HF}
  (d : HF.dj h1 h2) (oa : a.Own Γ x.1 z.1 h1) (hl : Lie c0 o0 ((Kd.pair a b).cells x z)) (hb : ¬ h1.has b0)
  (s : Spot Γ c x.2 z.2 h2 b0 (o0 + a.size) c0 t0 hr ho) : Spot Γ (.snd c : Chg K1 K2 (.pair a b) (.pair a b')) x z (h1.un h2) b0 o0 c0 t0 (h1.un hr) ho := by
 obtain ⟨dj, rfl, own, at_, lie, put⟩ := s
 obtain ⟨d1, d2⟩ := HF.dj_un.1 d
 have hl1 := Lie.left (a := a.cells x.1 z.1) (b := b.cells x.2 z.2) hl
 refine ⟨HF.un_dj.2 ⟨d2, dj⟩, (HF.un_assoc _ _ _).symm, by simpa only [Chg.get, Chg.getZ] using own, ?_, ?_, ?_⟩
 ·simp only [Chg.loc]
  rcases at_ with ⟨e, f, g⟩ | ⟨e, f⟩
  ·exact .inl ⟨e, by omega, by simp only [Kd.size]; omega⟩
  ·exact .inr ⟨e, HF.has_un.2 (.inr f)⟩
 ·simp only [Chg.loc, Chg.get, Chg.getZ]
  obtain ⟨cb, tb, e, hh⟩ := lie
  refine ⟨cb, tb, ?_, hh⟩
  have hnb : ¬ h1.has (c.loc x.2 z.2 (b0, o0 + a.size)).1 := by
   rcases at_ with ⟨e, _⟩ | ⟨_, f⟩
   ·rw [e]; exact hb
   ·exact fun q => HF.dj_iff.1 d1 _ q f
  have : h1 (c.loc x.2 z.2 (b0, o0 + a.size)).1 = none := by simpa [HF.has] using hnb
  simp only [HF.un, this, Option.none_or] at e ⊢
  exact e
 ·simp only [Chg.loc, Chg.put, Chg.putZ]
  intro y zy hn hy hd
  obtain ⟨hd0, hd12⟩ := HF.un_dj.1 hd
  obtain ⟨hd1, hd2⟩ := HF.un_dj.1 hd12
  obtain ⟨p1, p2⟩ := put y zy hn hy (HF.un_dj.2 ⟨hd0, hd2⟩)
  have hnb : ¬ h1.has (c.loc x.2 z.2 (b0, o0 + a.size)).1 := by
   rcases at_ with ⟨e, _⟩ | ⟨_, f⟩
   ·rw [e]; exact hb
   ·exact fun q => HF.dj_iff.1 d1 _ q f
  constructor
  ·refine ⟨h1, _, ?_, ?_, oa, p1⟩
   ·exact HF.dj_un.2 ⟨HF.dj_upd.2 d1, hd1⟩
   ·rw [HF.upd_un, HF.upd_not hnb, HF.un_assoc]
  ·refine Lie.append ?_ (by rw [cells_length]; exact p2)
   refine lie_ite (fun e => ?_) (fun e => ?_)
   ·refine Lie.wr_other hl1 (.inl ?_)
    rw [cells_length]
    rcases at_ with ⟨_, f, g⟩ | ⟨f, _⟩
    ·exact f
    ·exact absurd e f
   ·exact hl1

theorem each_put {Γ : HF} {K1 K2 e : Kd} {c : Chg K1 K2 e e} {x : e.T} {z : e.Z} {hi : HF} {b0 o0 : Nat} {c0 : Array Value} {t0 : TypeId} {hr ho : HF}
  (s : Spot Γ c x z hi b0 o0 c0 t0 hr ho) {n i : Nat} {p q : Nat → HF → Prop} {hR : HF} (dR : HF.dj hR hi) (hb : ¬ hR.has b0)
  (put : ∀ (q : Nat → HF → Prop) (f : HF → HF) (_ : ∀ j, j < n → j ≠ i → ∀ k, p j k → (∀ b, k.has b → hR.has b) → q j (f k)) (_ : ∀ a b, f (a.un b) = (f a).un (f b)) (_ : f HF.emp = HF.emp) (_ : ∀ a b, HF.dj a b → HF.dj (f a) (f b))
    (hn : HF), HF.dj (f hR) hn → q i hn → Each q n ((f hR).un hn))
  (y : K2.T) (zy : K2.Z) (hn : HF) (hy : K2.Own Γ y zy hn) (hd : HF.dj (HF.un (HF.one b0 c0 t0) (hR.un hr)) hn)
  (hq : ∀ j, j < n → j ≠ i → ∀ k, p j k → q j k)
  (hqi : ∀ k, e.Own Γ (c.put x y) (c.putZ x z zy) k → q i k) :
  Each q n (((hR.un hr).upd (c.loc x z (b0, o0)).1 (c.loc x z (b0, o0)).2 (K2.cells y zy)).un hn) := by
 obtain ⟨dj, rfl, own, at_, lie, put'⟩ := s
 obtain ⟨d1, d2⟩ := HF.dj_un.1 dR
 obtain ⟨hd0, hd12⟩ := HF.un_dj.1 hd
 obtain ⟨hd1, hd2⟩ := HF.un_dj.1 hd12
 obtain ⟨p1, _⟩ := put' y zy hn hy (HF.un_dj.2 ⟨hd0, hd2⟩)
 have hnb : ¬ hR.has (c.loc x z (b0, o0)).1 := by
  rcases at_ with ⟨e, _⟩ | ⟨_, f⟩
  ·rw [e]; exact hb
  ·exact fun q => HF.dj_iff.1 d1 _ q f
 have := put q (fun k => k.upd (c.loc x z (b0, o0)).1 (c.loc x z (b0, o0)).2 (K2.cells y zy))
  (fun j hj hji k pk hk => by
   have : ¬ k.has (c.loc x z (b0, o0)).1 := fun hh => hnb (hk _ hh)
   simp only [HF.upd_not this]
   exact hq j hj hji k pk)
  (fun a b => HF.upd_un) (HF.upd_not (by simp [HF.has, HF.emp])) (fun a b d => HF.upd_dj.2 (HF.dj_upd.2 d))
  ((hr.upd (c.loc x z (b0, o0)).1 (c.loc x z (b0, o0)).2 (K2.cells y zy)).un hn)
  (HF.upd_dj.2 (HF.dj_un.2 ⟨HF.dj_upd.2 d1, hd1⟩)) (hqi _ p1)
 rw [HF.upd_un, HF.un_assoc]
 exact this

theorem spot_idx {Γ : HF} {K1 K2 : Kd} (hs : K1.size = K2.size) {n : Nat} {e : Kd} (i : Nat) (hi : i < n) (c : Chg K1 K2 e e) (x : (Kd.arr n e).T) (z : (Kd.arr n e).Z) (h : HF) (b0 o0 : Nat) (c0 : Array Value) (t0 : TypeId)
  (ho : (Kd.arr n e).Own Γ x z h) (hl : Lie c0 o0 ((Kd.arr n e).cells x z)) (hb : ¬ h.has b0)
  (sub : ∀ h', e.Own Γ (x.getD i e.dft) (z i) h' → Lie c0 (o0 + i * e.size) (e.cells (x.getD i e.dft) (z i)) → ¬ h'.has b0 → ∃ hr ho, Spot Γ c (x.getD i e.dft) (z i) h' b0 (o0 + i * e.size) c0 t0 hr ho) :
  ∃ hr ho, Spot Γ (.idx i c : Chg K1 K2 (.arr n e) (.arr n e)) x z h b0 o0 c0 t0 hr ho := by
 obtain ⟨hx, he⟩ := ho
 obtain ⟨hR, hi', dR, rfl, oi, put⟩ := Each.take hi he
 have hlf := (lie_flat (c := c0) (o := o0) (n := n) (s := e.size) (f := fun i => e.cells (x.getD i e.dft) (z i)) (fun i => cells_length e _ _)).1 hl
 obtain ⟨hr, ho, s⟩ := sub hi' oi (hlf i hi) (fun hh => hb (HF.has_un.2 (.inr hh)))
 have hbR : ¬ hR.has b0 := fun hh => hb (HF.has_un.2 (.inl hh))
 have s' := s
 obtain ⟨dj, rfl, own, at_, lie, put'⟩ := s
 obtain ⟨d1, d2⟩ := HF.dj_un.1 dR
 have hmul : i * e.size + e.size ≤ n * e.size := by
  have := Nat.mul_le_mul_right e.size (Nat.succ_le_of_lt hi)
  rw [Nat.succ_mul] at this
  exact this
 refine ⟨hR.un hr, ho, HF.un_dj.2 ⟨d2, dj⟩, (HF.un_assoc _ _ _).symm, by simpa only [Chg.get, Chg.getZ] using own, ?_, ?_, ?_⟩
 ·simp only [Chg.loc]
  rcases at_ with ⟨e1, f, g⟩ | ⟨e1, f⟩
  ·exact .inl ⟨e1, by omega, by simp only [Kd.size]; omega⟩
  ·exact .inr ⟨e1, HF.has_un.2 (.inr f)⟩
 ·simp only [Chg.loc, Chg.get, Chg.getZ]
  obtain ⟨cb, tb, e1, hh⟩ := lie
  refine ⟨cb, tb, ?_, hh⟩
  have hnb : ¬ hR.has (c.loc (x.getD i e.dft) (z i) (b0, o0 + i * e.size)).1 := by
   rcases at_ with ⟨e, _⟩ | ⟨_, f⟩
   ·rw [e]; exact hbR
   ·exact fun q => HF.dj_iff.1 d1 _ q f
  have : hR (c.loc (x.getD i e.dft) (z i) (b0, o0 + i * e.size)).1 = none := by simpa [HF.has] using hnb
  simp only [HF.un, this, Option.none_or] at e1 ⊢
  exact e1
 ·simp only [Chg.loc, Chg.put, Chg.putZ]
  intro y zy hn hy hd
  obtain ⟨_, p2⟩ := put' y zy hn hy (by
   obtain ⟨a, b⟩ := HF.un_dj.1 hd
   exact HF.un_dj.2 ⟨a, (HF.un_dj.1 b).2⟩)
  have hix : i < x.length := by rw [hx]; exact hi
  constructor
  ·refine ⟨by rw [List.length_set]; exact hx, ?_⟩
   refine each_put (c := c) s' dR hbR put y zy hn hy hd ?_ ?_
   ·intro j hj hji k pk
    dsimp only
    rw [if_neg hji, getD_set_ne' (Ne.symm hji)]
    exact pk
   ·intro k hk
    dsimp only
    rw [if_pos rfl, getD_set_self hix]
    exact hk
  ·refine (lie_flat (s := e.size) (fun i => cells_length e _ _)).2 ?_
   intro j hj
   by_cases hji : j = i
   ·subst hji
    rw [if_pos rfl, getD_set_self hix]
    exact p2
   ·skip
    rw [if_neg hji, getD_set_ne' (Ne.symm hji)]
    refine lie_ite (fun e1 => ?_) (fun e1 => hlf j hj)
    refine Lie.wr_other (hlf j hj) ?_
    rw [cells_length, cells_length, ← hs]
    rcases at_ with ⟨_, f, g⟩ | ⟨f, _⟩
    ·rcases Nat.lt_or_ge j i with q | q
     ·have := Nat.mul_le_mul_right e.size (Nat.succ_le_of_lt q)
      rw [Nat.succ_mul] at this
      exact .inl (by omega)
     ·have := Nat.mul_le_mul_right e.size (Nat.succ_le_of_lt (show i < j by omega))
      rw [Nat.succ_mul] at this
      exact .inr (by omega)
    ·exact absurd e1 f
end

theorem one_upd {b : Nat} {c : Array Value} {t : TypeId} {l : Nat × Nat} {vs : List Value} : (HF.one b c t).upd l.1 l.2 vs = HF.one b (wrIf b c l vs) t := by
 by_cases h : l.1 = b
 ·rw [wrIf_pos h, h, HF.upd_one]
 ·rw [wrIf_neg h, HF.upd_not]
  rw [HF.has_one]
  exact h
theorem wrIf_size {b : Nat} {c : Array Value} {l : Nat × Nat} {vs : List Value} : (wrIf b c l vs).size = c.size := by
 unfold wrIf
 split
 ·exact wr_size _ _ _
 ·rfl

theorem spot_sidx {Γ : HF} {K1 K2 : Kd} (hs : K1.size = K2.size) {t : TypeId} {e : Kd} {hole : Option Nat} (i : Nat) (c : Chg K1 K2 e e) (x : List e.T) (zo : Option (Nat × Nat × Nat)) (zf : Nat → e.Z) (h : HF) (b0 o0 : Nat) (c0 : Array Value) (t0 : TypeId)
  (hi : i < x.length) (hh : hole ≠ some i) (ho : (Kd.sl true t e hole).Own Γ x (zo, zf) h) (hl : Lie c0 o0 ((Kd.sl true t e hole).cells x (zo, zf))) (hb : ¬ h.has b0)
  (sub : ∀ b o c1 h', e.Own Γ (x.getD i e.dft) (zf i) h' → Lie c1 o (e.cells (x.getD i e.dft) (zf i)) → ¬ h'.has b → ∃ hr ho, Spot Γ c (x.getD i e.dft) (zf i) h' b o c1 t hr ho) :
  ∃ hr ho, Spot Γ (.sidx i c : Chg K1 K2 (.sl true t e hole) (.sl true t e hole)) x (zo, zf) h b0 o0 c0 t0 hr ho := by
 cases zo with
 | none => obtain ⟨hx, _⟩ := ho; rw [hx] at hi; simp at hi
 | some q =>
 obtain ⟨b, off, cap⟩ := q
 obtain ⟨cc, h2, hle, hcap, hfit, hlies, he, hd0⟩ := ho
 simp only [if_true] at hd0
 obtain ⟨hd0, rfl⟩ := hd0
 obtain ⟨hR, hi', dR, rfl, oi, put⟩ := Each.take hi he
 rw [if_neg hh] at oi
 obtain ⟨dbR, dbi⟩ := HF.dj_un.1 hd0
 have hbi : ¬ hi'.has b := fun q => HF.dj_iff.1 dbi b (HF.has_one.2 rfl) q
 have hbR : ¬ hR.has b := fun q => HF.dj_iff.1 dbR b (HF.has_one.2 rfl) q
 obtain ⟨hr, ho, s⟩ := sub b (off + i * e.size) cc hi' oi (hlies i hi) hbi
 have s' := s
 obtain ⟨dj, rfl, own, at_, lie, put'⟩ := s
 obtain ⟨d1, d2⟩ := HF.dj_un.1 dR
 obtain ⟨e1, e2⟩ := HF.dj_un.1 dbi
 have hne : (c.loc (x.getD i e.dft) (zf i) (b, off + i * e.size)).1 ≠ b0 := by
  intro hq
  refine hb ?_
  rw [← hq]
  rcases at_ with ⟨g, _⟩ | ⟨_, g⟩
  ·rw [g]; exact HF.has_un.2 (.inl (HF.has_one.2 rfl))
  ·exact HF.has_un.2 (.inr (HF.has_un.2 (.inr (HF.has_un.2 (.inl g)))))
 have hnR : ¬ hR.has (c.loc (x.getD i e.dft) (zf i) (b, off + i * e.size)).1 := by
  rcases at_ with ⟨g, _⟩ | ⟨_, g⟩
  ·rw [g]; exact hbR
  ·exact fun q => HF.dj_iff.1 d1 _ q g
 refine ⟨(HF.one b cc t).un (hR.un hr), ho, ?_, ?_, by simpa only [Chg.get, Chg.getZ] using own, ?_, ?_, ?_⟩
 ·exact HF.un_dj.2 ⟨e2, HF.un_dj.2 ⟨d2, dj⟩⟩
 ·simp only [HF.un_assoc]
 ·simp only [Chg.loc]
  refine .inr ⟨hne, ?_⟩
  rcases at_ with ⟨g, _⟩ | ⟨_, g⟩
  ·rw [g]; exact HF.has_un.2 (.inl (HF.has_one.2 rfl))
  ·exact HF.has_un.2 (.inr (HF.has_un.2 (.inr g)))
 ·simp only [Chg.loc, Chg.get, Chg.getZ]
  obtain ⟨cb, tb, e3, hh⟩ := lie
  refine ⟨cb, tb, ?_, hh⟩
  have h1 : hR (c.loc (x.getD i e.dft) (zf i) (b, off + i * e.size)).1 = none := by simpa [HF.has] using hnR
  have h2 : (HF.one b0 c0 t0) (c.loc (x.getD i e.dft) (zf i) (b, off + i * e.size)).1 = none := if_neg hne
  simp only [HF.un, h1, h2, Option.none_or] at e3 ⊢
  exact e3
 ·simp only [Chg.loc, Chg.put, Chg.putZ]
  intro y zy hn hy hd
  obtain ⟨hdz, hdy⟩ := HF.un_dj.1 hd
  obtain ⟨hdb, hdR⟩ := HF.un_dj.1 hdy
  obtain ⟨_, p2⟩ := put' y zy hn hy (HF.un_dj.2 ⟨hdb, (HF.un_dj.1 hdR).2⟩)
  constructor
  ·refine ⟨wrIf b cc (c.loc (x.getD i e.dft) (zf i) (b, off + i * e.size)) (K2.cells y zy), ((hR.un hr).upd (c.loc (x.getD i e.dft) (zf i) (b, off + i * e.size)).1 (c.loc (x.getD i e.dft) (zf i) (b, off + i * e.size)).2 (K2.cells y zy)).un hn, ?_, hcap, by rw [wrIf_size]; exact hfit, ?_, ?_, ?_⟩
   ·rw [List.length_set]; exact hle
   ·intro j hj
    rw [List.length_set] at hj
    by_cases hji : j = i
    ·subst hji
     try dsimp only
     rw [if_pos rfl, getD_set_self hi]
     exact p2
    ·try dsimp only
     rw [if_neg hji, getD_set_ne' (Ne.symm hji)]
     refine lie_ite (fun g1 => ?_) (fun _ => hlies j hj)
     refine Lie.wr_other (hlies j hj) ?_
     rw [cells_length, cells_length, ← hs]
     rcases at_ with ⟨_, f, g⟩ | ⟨f, _⟩
     ·rcases Nat.lt_or_ge j i with q | q
      ·have := Nat.mul_le_mul_right e.size (Nat.succ_le_of_lt q)
       rw [Nat.succ_mul] at this
       exact .inl (by omega)
      ·have := Nat.mul_le_mul_right e.size (Nat.succ_le_of_lt (show i < j by omega))
       rw [Nat.succ_mul] at this
       exact .inr (by omega)
     ·exact absurd g1 f
   ·rw [List.length_set]
    refine each_put (c := c) s' dR hbR put y zy hn hy (HF.un_dj.2 ⟨hdb, hdR⟩) ?_ ?_
    ·intro j hj hji k pk
     try dsimp only
     rw [if_neg hji, getD_set_ne' (Ne.symm hji)]
     exact pk
    ·intro k hk
     try dsimp only
     rw [if_neg hh, if_pos rfl, getD_set_self hi]
     exact hk
   ·simp only [if_true]
    have hone := one_upd (b := b) (c := cc) (t := t) (l := c.loc (x.getD i e.dft) (zf i) (b, off + i * e.size)) (vs := K2.cells y zy)
    have d3 : HF.dj (HF.one b cc t) (hR.un hr) := HF.dj_un.2 ⟨dbR, e1⟩
    refine ⟨?_, ?_⟩
    ·rw [← hone]
     exact HF.dj_un.2 ⟨HF.upd_dj.2 (HF.dj_upd.2 d3), HF.upd_dj.2 hdb⟩
    ·rw [← hone, HF.upd_un, HF.un_assoc]
  ·rw [wrIf_neg hne]
   simp only [Kd.cells, List.length_set] at hl ⊢
   exact hl

theorem getElem?_zero_getD {α : Type} {l : List α} (h : 0 < l.length) (d : α) : l[0]? = some (l.getD 0 d) := by
 cases l with
 | nil => simp at h
 | cons a l => rfl
theorem spot_take {Γ : HF} {K1 K2 : Kd} (hs : K1.size = K2.size) {t : TypeId} (i : Nat) (hk : K2 = .un) (x : List K1.T) (zo : Option (Nat × Nat × Nat)) (zf : Nat → K1.Z) (h : HF) (b0 o0 : Nat) (c0 : Array Value) (t0 : TypeId)
  (hi : i < x.length) (ho : (Kd.sl true t K1 none).Own Γ x (zo, zf) h) :
  ∃ hr ho b off cap cc, zo = some (b, off, cap) ∧ HF.dj hr ho ∧ h = hr.un ho ∧ K1.Own Γ (x.getD i K1.dft) (zf i) ho ∧ hr.has b ∧ hr b = some (.cel cc t) ∧ Lie cc (off + i * K1.size) (K1.cells (x.getD i K1.dft) (zf i)) ∧
   (Kd.sl true t K1 (some i)).Own Γ x (zo, zf) hr := by
 cases zo with
 | none => obtain ⟨hx, _⟩ := ho; rw [hx] at hi; simp at hi
 | some q =>
 obtain ⟨b, off, cap⟩ := q
 obtain ⟨cc, h2, hle, hcap, hfit, hlies, he, hd0⟩ := ho
 simp only [if_true] at hd0
 obtain ⟨hd0, rfl⟩ := hd0
 obtain ⟨hR, hi', dR, rfl, oi, put⟩ := Each.take hi he
 rw [if_neg (by simp)] at oi
 obtain ⟨dbR, dbi⟩ := HF.dj_un.1 hd0
 refine ⟨(HF.one b cc t).un hR, hi', b, off, cap, cc, rfl, HF.un_dj.2 ⟨dbi, dR⟩, (HF.un_assoc _ _ _).symm, oi, HF.has_un.2 (.inl (HF.has_one.2 rfl)), one_self, hlies i hi, cc, hR, hle, hcap, hfit, hlies, ?_, ?_⟩
 ·have := put (fun j hj => if some i = some j then hj = HF.emp else K1.Own Γ (x.getD j K1.dft) (zf j) hj) id (fun j hj hji k pk _ => by
   rw [if_neg (by simp)] at pk
   rw [if_neg (by simp; exact fun q => hji q.symm)]
   exact pk) (fun _ _ => rfl) rfl (fun _ _ d => d) HF.emp (HF.dj_emp _) (by rw [if_pos rfl])
  simpa only [id, HF.un_emp] using this
 ·simp only [if_true]
  exact ⟨dbR, trivial⟩

theorem spot_fill {Γ : HF} {K1 K2 : Kd} (hs : K1.size = K2.size) {t : TypeId} (i : Nat) (hk : K1 = .un) (x : List K2.T) (zo : Option (Nat × Nat × Nat)) (zf : Nat → K2.Z) (h : HF) (b0 o0 : Nat) (c0 : Array Value) (t0 : TypeId)
  (hi : i < x.length) (ho : (Kd.sl true t K2 (some i)).Own Γ x (zo, zf) h) (hl : Lie c0 o0 ((Kd.sl true t K2 (some i)).cells x (zo, zf))) (hb : ¬ h.has b0) :
  Spot Γ (.fill i hk : Chg K1 K2 (.sl true t K2 (some i)) (.sl true t K2 none)) x (zo, zf) h b0 o0 c0 t0 h HF.emp := by
 subst hk
 cases zo with
 | none => obtain ⟨hx, _⟩ := ho; rw [hx] at hi; simp at hi
 | some q =>
 obtain ⟨b, off, cap⟩ := q
 obtain ⟨cc, h2, hle, hcap, hfit, hlies, he, hd0⟩ := ho
 simp only [if_true] at hd0
 obtain ⟨hd0, rfl⟩ := hd0
 have hs1 : K2.size = 1 := hs.symm
 have hbe : b ≠ b0 := fun q => hb (HF.has_un.2 (.inl (HF.has_one.2 q.symm)))
 have hb2 : ¬ h2.has b := fun q => HF.dj_iff.1 hd0 b (HF.has_one.2 rfl) q
 refine ⟨HF.dj_emp _, (HF.un_emp _).symm, rfl, ?_, ?_, ?_⟩
 ·simp only [Chg.loc]
  exact .inr ⟨hbe, HF.has_un.2 (.inl (HF.has_one.2 rfl))⟩
 ·simp only [Chg.loc, Chg.get, Chg.getZ]
  refine ⟨cc, t, ?_, ?_⟩
  ·simp [HF.un, HF.one, hbe]
  ·intro j hj
   simp only [Kd.cells, List.length_singleton] at hj
   obtain rfl : j = 0 := by omega
   have := hlies i hi 0 (by rw [cells_length, hs1]; omega)
   rw [this]
   exact getElem?_zero_getD (by rw [cells_length, hs1]; omega) undef
 ·simp only [Chg.loc, Chg.put, Chg.putZ]
  intro y zy hn hy hd
  obtain ⟨hdz, hdy⟩ := HF.un_dj.1 hd
  obtain ⟨hdb, hd2⟩ := HF.un_dj.1 hdy
  constructor
  ·refine ⟨wrIf b cc (b, off + i * K2.size) (K2.cells y zy), h2.un hn, ?_, hcap, by rw [wrIf_size]; exact hfit, ?_, ?_, ?_⟩
   ·rw [List.length_set]; exact hle
   ·intro j hj
    rw [List.length_set] at hj
    rw [wrIf_pos (at_ := (b, off + i * K2.size)) rfl]
    by_cases hji : j = i
    ·subst hji
     try dsimp only
     rw [if_pos rfl, getD_set_self hi]
     refine Lie.wr_self (.inr ?_)
     rw [cells_length]
     have := (hlies j hi).fits (by rw [cells_length, hs1]; omega)
     rwa [cells_length] at this
    ·try dsimp only
     rw [if_neg hji, getD_set_ne' (Ne.symm hji)]
     refine Lie.wr_other (hlies j hj) ?_
     rw [cells_length, cells_length, hs1]
     omega
   ·rw [List.length_set]
    obtain ⟨hR, hi', dR, rfl, oi, put⟩ := Each.take hi he
    rw [if_pos rfl] at oi
    subst oi
    rw [HF.un_emp] at hd2 ⊢
    exact put (fun j hj => if none = some j then hj = HF.emp else K2.Own Γ ((x.set i y).getD j K2.dft) (if j = i then zy else zf j) hj) id (fun j hj hji k pk _ => by
     try dsimp only at pk ⊢
     rw [if_neg (by simp; exact fun q => hji q.symm)] at pk
     rw [if_neg (by simp), if_neg hji, getD_set_ne' (Ne.symm hji)]
     exact pk) (fun _ _ => rfl) rfl (fun _ _ d => d) hn hd2 (by
      try dsimp only
      rw [if_neg (by simp), if_pos rfl, getD_set_self hi]
      exact hy)
   ·simp only [if_true]
    rw [wrIf_pos (at_ := (b, off + i * K2.size)) rfl]
    refine ⟨?_, ?_⟩
    ·refine HF.dj_un.2 ⟨?_, ?_⟩
     ·rw [← HF.upd_one]; exact HF.upd_dj.2 hd0
     ·rw [← HF.upd_one]; exact HF.upd_dj.2 hdb
    ·rw [HF.upd_un, HF.upd_one, HF.upd_not hb2, HF.un_assoc]
  ·rw [wrIf_neg hbe]
   simp only [Kd.cells, List.length_set] at hl ⊢
   exact hl

def Chg.writes {K1 K2 : Kd} : {K K' : Kd} → Chg K1 K2 K K' → Bool
 | _, _, .nil => true
 | _, _, .fst c => c.writes
 | _, _, .snd c => c.writes
 | _, _, .idx _ c => c.writes
 | _, _, .sidx _ c => c.writes
 | _, _, .take _ _ => false
 | _, _, .fill _ _ => true

theorem chg_own {Γ : HF} {K1 K2 : Kd} (hs : K1.size = K2.size) {K K' : Kd} (c : Chg K1 K2 K K') : ∀ (x : K.T) (z : K.Z) (h : HF) (b0 o0 : Nat) (c0 : Array Value) (t0 : TypeId),
  c.writes = true → c.valid x → K.Own Γ x z h → Lie c0 o0 (K.cells x z) → ¬ h.has b0 → ∃ hr ho, Spot Γ c x z h b0 o0 c0 t0 hr ho := by
 induction c with
 | nil => intro x z h b0 o0 c0 t0 hw hv ho hl hb; exact ⟨_, _, spot_nil hs x z h b0 o0 c0 t0 ho hl⟩
 | @fst a a' b c ih =>
  intro x z h b0 o0 c0 t0 hw hv ho hl hb
  obtain ⟨h1, h2, d, rfl, oa, ob⟩ := ho
  have hl1 := Lie.left (a := a.cells x.1 z.1) (b := b.cells x.2 z.2) hl
  obtain ⟨hr, hq, s⟩ := ih x.1 z.1 h1 b0 o0 c0 t0 hw hv oa hl1 (fun hh => hb (HF.has_un.2 (.inl hh)))
  exact ⟨_, _, spot_fst hs c x z h1 h2 b0 o0 c0 t0 d ob hl (fun hh => hb (HF.has_un.2 (.inr hh))) s⟩
 | @snd a b b' c ih =>
  intro x z h b0 o0 c0 t0 hw hv ho hl hb
  obtain ⟨h1, h2, d, rfl, oa, ob⟩ := ho
  have hl2 := Lie.right (a := a.cells x.1 z.1) (b := b.cells x.2 z.2) hl
  rw [cells_length] at hl2
  obtain ⟨hr, hq, s⟩ := ih x.2 z.2 h2 b0 (o0 + a.size) c0 t0 hw hv ob hl2 (fun hh => hb (HF.has_un.2 (.inr hh)))
  exact ⟨_, _, spot_snd hs c x z h1 h2 b0 o0 c0 t0 d oa hl (fun hh => hb (HF.has_un.2 (.inl hh))) s⟩
 | @idx n e i c ih =>
  intro x z h b0 o0 c0 t0 hw hv ho hl hb
  exact spot_idx hs i hv.1 c x z h b0 o0 c0 t0 ho hl hb (fun h' o1 l1 b1 => ih _ _ h' b0 _ c0 t0 hw hv.2 o1 l1 b1)
 | @sidx t e hole i c ih =>
  intro x z h b0 o0 c0 t0 hw hv ho hl hb
  exact spot_sidx hs i c x z.1 z.2 h b0 o0 c0 t0 hv.1 hv.2.1 ho hl hb (fun b o c1 h' o1 l1 b1 => ih _ _ h' b o c1 t hw hv.2.2 o1 l1 b1)
 | take i hk => intro x z h b0 o0 c0 t0 hw; cases hw
 | fill i hk => intro x z h b0 o0 c0 t0 hw hv ho hl hb; exact ⟨_, _, spot_fill hs i hk x z.1 z.2 h b0 o0 c0 t0 hv ho hl hb⟩

inductive Tk (K1 : Kd) : Kd → Kd → Type where
 | nil : Tk K1 K1 .un
 | fst {a a' b : Kd} (c : Tk K1 a a') : Tk K1 (.pair a b) (.pair a' b)
 | snd {a b b' : Kd} (c : Tk K1 b b') : Tk K1 (.pair a b) (.pair a b')
 | take {t : TypeId} (i : Nat) : Tk K1 (.sl true t K1 none) (.sl true t K1 (some i))
namespace Tk
variable {K1 : Kd}
def get : {K K' : Kd} → Tk K1 K K' → K.T → K1.T
 | _, _, .nil, x => x
 | _, _, .fst c, x => c.get x.1
 | _, _, .snd c, x => c.get x.2
 | _, _, .take i, x => x.getD i K1.dft
def getZ : {K K' : Kd} → Tk K1 K K' → K.Z → K1.Z
 | _, _, .nil, z => z
 | _, _, .fst c, z => c.getZ z.1
 | _, _, .snd c, z => c.getZ z.2
 | _, _, .take i, z => z.2 i
def rest : {K K' : Kd} → Tk K1 K K' → K.T → K'.T
 | _, _, .nil, _ => ()
 | _, _, .fst c, x => (c.rest x.1, x.2)
 | _, _, .snd c, x => (x.1, c.rest x.2)
 | _, _, .take _, x => x
def restZ : {K K' : Kd} → Tk K1 K K' → K.T → K.Z → K'.Z
 | _, _, .nil, x, z => (K1.cells x z).getD 0 undef
 | _, _, .fst c, x, z => (c.restZ x.1 z.1, z.2)
 | _, _, .snd c, x, z => (z.1, c.restZ x.2 z.2)
 | _, _, .take _, _, z => z
def valid : {K K' : Kd} → Tk K1 K K' → K.T → Prop
 | _, _, .nil, _ => True
 | _, _, .fst c, x => c.valid x.1
 | _, _, .snd c, x => c.valid x.2
 | _, _, .take i, x => i < x.length
end Tk
theorem tk_own {Γ : HF} {K1 : Kd} (hs : K1.size = 1) {K K' : Kd} (c : Tk K1 K K') : ∀ (x : K.T) (z : K.Z) (h : HF), c.valid x → K.Own Γ x z h →
  ∃ hr ho, HF.dj hr ho ∧ h = hr.un ho ∧ K1.Own Γ (c.get x) (c.getZ z) ho ∧ K'.Own Γ (c.rest x) (c.restZ x z) hr ∧ K'.cells (c.rest x) (c.restZ x z) = K.cells x z := by
 induction c with
 | nil =>
  intro x z h hv ho
  refine ⟨HF.emp, h, HF.emp_dj _, (HF.emp_un _).symm, by simpa only [Tk.get, Tk.getZ] using ho, rfl, ?_⟩
  simp only [Tk.rest, Tk.restZ, Kd.cells]
  have hl := cells_length K1 x z
  rw [hs] at hl
  match hc : K1.cells x z, hl with
  | [v], _ => rfl
 | @fst a a' b c ih =>
  intro x z h hv ho
  obtain ⟨h1, h2, d, rfl, oa, ob⟩ := ho
  obtain ⟨hr, hq, d1, rfl, o1, o2, ec⟩ := ih x.1 z.1 h1 hv oa
  obtain ⟨d2, d3⟩ := HF.un_dj.1 d
  refine ⟨hr.un h2, hq, HF.un_dj.2 ⟨d1, d3.symm⟩, ?_, by simpa only [Tk.get, Tk.getZ] using o1, ⟨hr, h2, d2, rfl, o2, ob⟩, ?_⟩
  ·rw [HF.un_assoc, HF.un_assoc, HF.un_comm d3]
  ·simp only [Tk.rest, Tk.restZ, Kd.cells, ec]
 | @snd a b b' c ih =>
  intro x z h hv ho
  obtain ⟨h1, h2, d, rfl, oa, ob⟩ := ho
  obtain ⟨hr, hq, d1, rfl, o1, o2, ec⟩ := ih x.2 z.2 h2 hv ob
  obtain ⟨d2, d3⟩ := HF.dj_un.1 d
  refine ⟨h1.un hr, hq, HF.un_dj.2 ⟨d3, d1⟩, (HF.un_assoc _ _ _).symm, by simpa only [Tk.get, Tk.getZ] using o1, ⟨h1, hr, d2, rfl, oa, o2⟩, ?_⟩
  simp only [Tk.rest, Tk.restZ, Kd.cells, ec]
 | @take t i =>
  intro x z h hv ho
  obtain ⟨hr, hq, b, off, cap, cc, e1, d1, e2, o1, _, _, _, o2⟩ := spot_take (K2 := .un) (by rw [hs]; rfl) i rfl x z.1 z.2 h 0 0 #[] 0 hv ho
  exact ⟨hr, hq, d1, e2, o1, o2, rfl⟩
end Go.Proofs.YtibammoednhnoaaE

