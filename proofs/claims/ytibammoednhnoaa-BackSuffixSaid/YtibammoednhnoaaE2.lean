/- The engine, part 2: places in a value, and what a write at a place does. Conditions: none. -/
import Derived.Test.YtibammoednhnoaaE1
import Derived.Laws.IdiomCopy
set_option linter.unusedVariables false
set_option linter.unusedSimpArgs false
namespace Go.Proofs.YtibammoednhnoaaE

def wr (c : Array Value) : Nat → List Value → Array Value
 | _, [] => c
 | o, v :: vs => wr (c.setIfInBounds o v) (o + 1) vs
theorem wr_size : ∀ (vs : List Value) (c : Array Value) (o : Nat), (wr c o vs).size = c.size
 | [], _, _ => rfl
 | v :: vs, c, o => by rw [wr, wr_size vs]; simp
theorem wr_out : ∀ (vs : List Value) (c : Array Value) (o k : Nat), k < o ∨ o + vs.length ≤ k → (wr c o vs)[k]? = c[k]?
 | [], _, _, _, _ => rfl
 | v :: vs, c, o, k, h => by
  rw [wr, wr_out vs _ _ _ (by simp at h; omega), Array.getElem?_setIfInBounds_ne (by simp at h; omega)]
theorem wr_in : ∀ (vs : List Value) (c : Array Value) (o j : Nat), j < vs.length → o + vs.length ≤ c.size → (wr c o vs)[o + j]? = vs[j]?
 | v :: vs, c, o, j, hj, hs => by
  rw [wr]
  rcases j with _ | j
  ·rw [wr_out vs _ _ _ (by omega)]
   simp only [List.length_cons] at hs
   simp [Array.getElem?_setIfInBounds_self, show o < c.size from by omega]
  ·have := wr_in vs (c.setIfInBounds o v) (o + 1) j (by simpa using hj) (by simp at hs ⊢; omega)
   rw [show o + (j + 1) = o + 1 + j from by omega, this]
   simp

theorem Lie.left {c : Array Value} {o : Nat} {a b : List Value} (h : Lie c o (a ++ b)) : Lie c o a := fun j hj => by
 rw [h j (by simp; omega), List.getElem?_append_left hj]
theorem Lie.right {c : Array Value} {o : Nat} {a b : List Value} (h : Lie c o (a ++ b)) : Lie c (o + a.length) b := fun j hj => by
 rw [Nat.add_assoc, h (a.length + j) (by simp; omega), List.getElem?_append_right (by omega)]
 simp
theorem Lie.append {c : Array Value} {o : Nat} {a b : List Value} (h : Lie c o a) (k : Lie c (o + a.length) b) : Lie c o (a ++ b) := fun j hj => by
 rcases Nat.lt_or_ge j a.length with h' | h'
 ·rw [h j h', List.getElem?_append_left h']
 ·rw [List.getElem?_append_right h', ← k (j - a.length) (by simp at hj; omega)]
  congr 1
  omega
theorem Lie.fits {c : Array Value} {o : Nat} {cs : List Value} (h : Lie c o cs) (hp : 0 < cs.length) : o + cs.length ≤ c.size := by
 have := h (cs.length - 1) (by omega)
 rw [List.getElem?_eq_getElem (by omega)] at this
 have := (Array.getElem?_eq_some_iff.1 this).1
 omega
theorem Lie.wr_self {c : Array Value} {o : Nat} {vs : List Value} (h : vs.length = 0 ∨ o + vs.length ≤ c.size) : Lie (wr c o vs) o vs := fun j hj => wr_in vs c o j hj (by omega)
theorem Lie.wr_other {c : Array Value} {o o' : Nat} {cs vs : List Value} (h : Lie c o cs) (hd : o + cs.length ≤ o' ∨ o' + vs.length ≤ o) : Lie (wr c o' vs) o cs := fun j hj => by
 rw [wr_out _ _ _ _ (by omega), h j hj]
theorem lie_flat {c : Array Value} {o n s : Nat} {f : Nat → List Value} (hs : ∀ i, (f i).length = s) : Lie c o ((List.range n).flatMap f) ↔ ∀ i, i < n → Lie c (o + i * s) (f i) := by
 induction n with
 | zero => simp [Lie]
 | succ n ih =>
  have hl : ((List.range n).flatMap f).length = n * s := by rw [Kd.length_flatMap_const _ _ s (fun i _ => hs i), List.length_range]
  rw [List.range_succ, List.flatMap_append]
  simp only [List.flatMap_cons, List.flatMap_nil, List.append_nil]
  constructor
  ·intro h i hi
   rcases Nat.lt_or_ge i n with h' | h'
   ·exact ih.1 h.left i h'
   ·obtain rfl : i = n := by omega
    have := h.right
    rwa [hl] at this
  ·intro h
   refine Lie.append (ih.2 fun i hi => h i (by omega)) ?_
   rw [hl]
   exact h n (by omega)

namespace HF
def wrB (off : Nat) (vs : List Value) : Blk → Blk
 | .cel c t => .cel (wr c off vs) t
 | .mp es clk => .mp es clk
def upd (g : HF) (b off : Nat) (vs : List Value) : HF := fun k => if k = b then (g k).map (wrB off vs) else g k
theorem upd_has {g : HF} {b off k : Nat} {vs : List Value} : (g.upd b off vs).has k ↔ g.has k := by
 by_cases h : k = b
 ·simp only [upd, has, h, if_true]; cases g b <;> simp
 ·simp only [upd, has, h, if_false]
theorem upd_dj {g h : HF} {b off : Nat} {vs : List Value} : dj (g.upd b off vs) h ↔ dj g h := by
 rw [dj_iff, dj_iff]; simp only [upd_has]
theorem dj_upd {g h : HF} {b off : Nat} {vs : List Value} : dj h (g.upd b off vs) ↔ dj h g := by
 rw [dj_iff, dj_iff]; simp only [upd_has]
theorem upd_un {g h : HF} {b off : Nat} {vs : List Value} : (g.un h).upd b off vs = (g.upd b off vs).un (h.upd b off vs) := by
 funext k
 by_cases e : k = b
 ·simp only [upd, un, e, if_true]; cases g b <;> simp
 ·simp only [upd, un, e, if_false]
theorem upd_not {g : HF} {b off : Nat} {vs : List Value} (h : ¬ g.has b) : g.upd b off vs = g := by
 funext k
 unfold upd
 split
 ·rename_i e
  subst e
  unfold has at h
  simp at h
  simp [h]
 ·rfl
theorem upd_one {b off : Nat} {vs : List Value} {c : Array Value} {t : TypeId} : (one b c t).upd b off vs = one b (wr c off vs) t := by
 funext k
 unfold upd one
 by_cases h : k = b <;> simp [h, wrB]
end HF

theorem heap_setCells (b : Nat) : ∀ (vs : List Value) (o : Nat) (w : World) (c : Array Value) (t : TypeId) (f : Nat × Nat), w.heap[b]? = some (.cells c t f) → (w.setCells b o vs).heap[b]? = some (.cells (wr c o vs) t f)
 | [], _, _, _, _, _, h => h
 | v :: vs, o, w, c, t, f, h => by
  rw [World.setCells, wr]
  refine heap_setCells b vs (o + 1) _ _ t f ?_
  simp [World.setCell, Array.getElem?_modify, h]
theorem heap_setCells_ne (b : Nat) : ∀ (vs : List Value) (o : Nat) (w : World) (k : Nat), k ≠ b → (w.setCells b o vs).heap[k]? = w.heap[k]?
 | [], _, _, _, _ => rfl
 | v :: vs, o, w, k, h => by
  rw [World.setCells, heap_setCells_ne b vs (o + 1) _ k h]
  simp [World.setCell, Array.getElem?_modify, Ne.symm h]
theorem setCells_same (b : Nat) : ∀ (vs : List Value) (o : Nat) (w : World), (w.setCells b o vs).os = w.os ∧ (w.setCells b o vs).tape = w.tape ∧ (w.setCells b o vs).drawn = w.drawn ∧ (w.setCells b o vs).output = w.output ∧ (w.setCells b o vs).heap.size = w.heap.size
 | [], _, _ => ⟨rfl, rfl, rfl, rfl, rfl⟩
 | v :: vs, o, w => by
  rw [World.setCells]
  obtain ⟨a, b', c, d, e⟩ := setCells_same b vs (o + 1) (w.setCell ⟨b, o, none⟩ v)
  exact ⟨a, b', c, d, by rw [e]; simp⟩
theorem heap_setCells_map (b : Nat) : ∀ (vs : List Value) (o : Nat) (w : World) (es : Array MapEntry) (clk : Nat), w.heap[b]? = some (.map es clk) → (w.setCells b o vs).heap[b]? = some (.map es clk)
 | [], _, _, _, _, h => h
 | v :: vs, o, w, es, clk, h => by
  rw [World.setCells]
  refine heap_setCells_map b vs (o + 1) _ es clk ?_
  simp [World.setCell, Array.getElem?_modify, h]
theorem Mem.upd {h : HF} {w : World} {b off : Nat} {vs : List Value} (m : Mem h w) : Mem (h.upd b off vs) (w.setCells b off vs) := by
 intro k y e
 by_cases hk : k = b
 ·subst hk
  simp only [HF.upd, if_true] at e
  cases hh : h k with
  | none => rw [hh] at e; cases e
  | some x =>
   rw [hh] at e
   injection e with e
   have mm := m k x hh
   cases x with
   | cel c0 t0 =>
    subst e
    obtain ⟨lo, hi, h1, h2⟩ := mm
    exact ⟨lo, hi, heap_setCells k vs off w c0 t0 _ h1, by rw [wr_size]; exact h2⟩
   | mp es clk =>
    subst e
    exact heap_setCells_map k vs off w es clk mm
 ·simp only [HF.upd, hk, if_false] at e
  have mm := m k y e
  have hn := heap_setCells_ne b vs off w k hk
  cases y with
  | cel c t =>
   obtain ⟨lo, hi, h1, h2⟩ := mm
   exact ⟨lo, hi, by rw [hn, h1], h2⟩
  | mp es clk => exact hn.trans mm
theorem MemR.upd {h : HF} {w : World} {b off : Nat} {vs : List Value} (m : MemR h w) (hb : ¬ h.has b) : MemR h (w.setCells b off vs) := by
 intro k y e
 have hk : k ≠ b := fun hk => hb (by subst hk; unfold HF.has; simp [e])
 have mm := m k y e
 have hn := heap_setCells_ne b vs off w k hk
 cases y with
 | cel c t =>
  obtain ⟨f, h1⟩ := mm
  exact ⟨f, by rw [hn, h1]⟩
 | mp es clk => exact hn.trans mm

namespace Kd
theorem Each.congr {p q : Nat → HF → Prop} : ∀ {n : Nat} {h : HF}, (∀ i, i < n → ∀ h, p i h → q i h) → Each p n h → Each q n h
 | 0, _, _, e => e
 | n + 1, _, hpq, ⟨h1, h2, d, e, e1, p2⟩ => ⟨h1, h2, d, e, Each.congr (fun i hi => hpq i (by omega)) e1, hpq n (by omega) _ p2⟩
theorem Each.take {p : Nat → HF → Prop} : ∀ {n : Nat} {h : HF} {i : Nat}, i < n → Each p n h →
  ∃ hr hi, HF.dj hr hi ∧ h = hr.un hi ∧ p i hi ∧
   ∀ (q : Nat → HF → Prop) (f : HF → HF) (hq : ∀ j, j < n → j ≠ i → ∀ k, p j k → (∀ b, k.has b → hr.has b) → q j (f k)) (hfu : ∀ a b, f (a.un b) = (f a).un (f b)) (hfe : f HF.emp = HF.emp) (hfd : ∀ a b, HF.dj a b → HF.dj (f a) (f b))
    (hn : HF), HF.dj (f hr) hn → q i hn → Each q n ((f hr).un hn)
 | n + 1, h, i, hi, ⟨h1, h2, d, e, e1, p2⟩ => by
  rcases Nat.lt_or_ge i n with h' | h'
  ·obtain ⟨hr, hh, d1, e2, pi, put⟩ := Each.take h' e1
   subst e2; subst e
   obtain ⟨da, db⟩ := HF.un_dj.1 d
   refine ⟨hr.un h2, hh, HF.un_dj.2 ⟨d1, db.symm⟩, ?_, pi, ?_⟩
   ·rw [HF.un_assoc, HF.un_assoc, HF.un_comm db]
   ·intro q f hq hfu hfe hfd hn dn qi
    rw [hfu] at dn ⊢
    obtain ⟨dn1, dn2⟩ := HF.un_dj.1 dn
    refine ⟨(f hr).un hn, f h2, HF.un_dj.2 ⟨hfd _ _ da, dn2.symm⟩, ?_, put q f (fun j hj hji k pk hk => hq j (by omega) hji k pk (fun b hb => HF.has_un.2 (.inl (hk b hb)))) hfu hfe hfd hn dn1 qi, hq n (by omega) (by omega) h2 p2 (fun b hb => HF.has_un.2 (.inr hb))⟩
    rw [HF.un_assoc, HF.un_assoc, HF.un_comm dn2]
  ·obtain rfl : i = n := by omega
   subst e
   refine ⟨h1, h2, d, rfl, p2, ?_⟩
   intro q f hq hfu hfe hfd hn dn qi
   have key : ∀ (m : Nat), m ≤ i → ∀ g, (∀ b, g.has b → h1.has b) → Each p m g → Each q m (f g) := by
    intro m
    induction m with
    | zero => intro _ g _ hg; exact (show f g = HF.emp by rw [show g = HF.emp from hg, hfe])
    | succ m ih =>
     rintro hm g hsub ⟨g1, g2, dg, rfl, eg, pg⟩
     exact ⟨f g1, f g2, hfd _ _ dg, hfu _ _, ih (by omega) g1 (fun b hb => hsub b (HF.has_un.2 (.inl hb))) eg, hq m (by omega) (by omega) g2 pg (fun b hb => hsub b (HF.has_un.2 (.inr hb)))⟩
   exact ⟨f h1, hn, dn, rfl, key i (Nat.le_refl _) h1 (fun _ h => h) e1, qi⟩
end Kd
end Go.Proofs.YtibammoednhnoaaE

