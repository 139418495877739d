/- The engine, part 25: a value that the frame owns, seen as one that is only read. Conditions: none. -/
import Derived.Test.YtibammoednhnoaaE24
set_option linter.unusedVariables false
set_option linter.unusedSimpArgs false
namespace Go.Proofs.YtibammoednhnoaaE
open Kd
variable {α : Type}

namespace Kd
def shr : Kd → Kd
 | .pair a b => .pair (shr a) (shr b)
 | .arr n e => .arr n (shr e)
 | .sl _ t e h => .sl false t (shr e) h
 | .mp _ t k => .mp false t k
 | K => K
def noHole : Kd → Bool
 | .pair a b => noHole a && noHole b
 | .arr _ e => noHole e
 | .sl _ _ e h => h.isNone && noHole e
 | .tree _ e => e.free
 | .tl _ e => e.free
 | .ep e => e.free
 | _ => true
theorem shr_T : ∀ (K : Kd), (shr K).T = K.T
 | .int _ => rfl
 | .bool => rfl
 | .str => rfl
 | .un => rfl
 | .unit => rfl
 | .tree _ _ => rfl
 | .tl _ _ => rfl
 | .mp _ _ _ => rfl
 | .ep _ => rfl
 | .pair a b => by show ((shr a).T × (shr b).T) = (a.T × b.T); rw [shr_T a, shr_T b]
 | .arr n e => by show List (shr e).T = List e.T; rw [shr_T e]
 | .sl o t e h => by show List (shr e).T = List e.T; rw [shr_T e]
theorem shr_Z : ∀ (K : Kd), (shr K).Z = K.Z
 | .int _ => rfl
 | .bool => rfl
 | .str => rfl
 | .un => rfl
 | .unit => rfl
 | .tree _ _ => rfl
 | .tl _ _ => rfl
 | .mp _ _ _ => rfl
 | .ep _ => rfl
 | .pair a b => by show ((shr a).Z × (shr b).Z) = (a.Z × b.Z); rw [shr_Z a, shr_Z b]
 | .arr n e => by show (Nat → (shr e).Z) = (Nat → e.Z); rw [shr_Z e]
 | .sl o t e h => by show (Option (Nat × Nat × Nat) × (Nat → (shr e).Z)) = (Option (Nat × Nat × Nat) × (Nat → e.Z)); rw [shr_Z e]
theorem shr_size : ∀ (K : Kd), (shr K).size = K.size
 | .int _ => rfl
 | .bool => rfl
 | .str => rfl
 | .un => rfl
 | .unit => rfl
 | .tree _ _ => rfl
 | .tl _ _ => rfl
 | .mp _ _ _ => rfl
 | .ep _ => rfl
 | .pair a b => by simp only [shr, size, shr_size a, shr_size b]
 | .arr n e => by simp only [shr, size, shr_size e]
 | .sl o t e h => rfl
theorem shr_free : ∀ (K : Kd), noHole K = true → (shr K).free = true
 | .int _, _ => rfl
 | .bool, _ => rfl
 | .str, _ => rfl
 | .un, _ => rfl
 | .unit, _ => rfl
 | .tree _ e, h => h
 | .tl _ e, h => h
 | .mp _ _ _, _ => rfl
 | .ep e, h => h
 | .pair a b, h => by
  simp only [noHole, Bool.and_eq_true] at h
  simp only [shr, free, shr_free a h.1, shr_free b h.2, Bool.and_self]
 | .arr n e, h => by simpa only [shr, free] using shr_free e h
 | .sl o t e hh, h => by
  simp only [noHole, Bool.and_eq_true] at h
  simp [shr, free, shr_free e h.2, h.1]
theorem shr_single (K : Kd) : single (shr K) = single K := by cases K <;> rfl
theorem heq_prod {A A' B B' : Type} (hA : A = A') (hB : B = B') {x : A × B} {x' : A' × B'} (h : HEq x x') : HEq x.1 x'.1 ∧ HEq x.2 x'.2 := by
 subst hA; subst hB
 obtain rfl := eq_of_heq h
 exact ⟨.rfl, .rfl⟩
theorem heq_mk {A A' B B' : Type} (hA : A = A') (hB : B = B') {x : A} {x' : A'} {y : B} {y' : B'} (h1 : HEq x x') (h2 : HEq y y') : HEq (x, y) (x', y') := by
 subst hA; subst hB
 obtain rfl := eq_of_heq h1
 obtain rfl := eq_of_heq h2
 exact .rfl
theorem heq_list {A A' : Type} (hA : A = A') {l : List A} {l' : List A'} (h : HEq l l') : l.length = l'.length ∧ ∀ i (d : A) (d' : A'), HEq d d' → HEq (l.getD i d) (l'.getD i d') := by
 subst hA
 obtain rfl := eq_of_heq h
 exact ⟨rfl, fun i d d' e => by obtain rfl := eq_of_heq e; exact .rfl⟩
theorem heq_nil {A A' : Type} (hA : A = A') : HEq ([] : List A) ([] : List A') := by subst hA; exact .rfl
theorem heq_fun {A A' : Type} (hA : A = A') {f : Nat → A} {f' : Nat → A'} (h : HEq f f') (i : Nat) : HEq (f i) (f' i) := by
 subst hA
 obtain rfl := eq_of_heq h
 exact .rfl
theorem heq_win {A A' : Type} (hA : A = A') {l : List A} {l' : List A'} (h : HEq l l') (off n : Nat) : HEq ((l.drop off).take n) ((l'.drop off).take n) := by
 subst hA
 obtain rfl := eq_of_heq h
 exact .rfl
theorem shr_dft : ∀ (K : Kd), HEq (shr K).dft K.dft
 | .int _ => .rfl
 | .bool => .rfl
 | .str => .rfl
 | .un => .rfl
 | .unit => .rfl
 | .tree _ _ => .rfl
 | .tl _ _ => .rfl
 | .mp _ _ _ => .rfl
 | .ep _ => .rfl
 | .pair a b => heq_mk (shr_T a) (shr_T b) (shr_dft a) (shr_dft b)
 | .arr n e => heq_nil (shr_T e)
 | .sl o t e h => heq_nil (shr_T e)
end Kd

theorem un_has_of {g h G : HF} (hG : ∀ b v, (g b = some v ∨ h b = some v) → G b = some v) {h1 : HF} (s : ∀ b v, h1 b = some v → h b = some v) : ∀ b v, (g b = some v ∨ h1 b = some v) → G b = some v := fun b v e => hG b v (e.imp id (s b v))
theorem own_shr {Γ G : HF} : ∀ (K : Kd) (x : K.T) (z : K.Z) (h : HF), noHole K = true → K.Own Γ x z h → (∀ b v, (Γ b = some v ∨ h b = some v) → G b = some v) →
  ∀ (x' : (shr K).T) (z' : (shr K).Z), HEq x' x → HEq z' z → (shr K).Own G x' z' HF.emp ∧ (shr K).cells x' z' = K.cells x z
 | .int k, x, z, h, _, o, hG, x', z', hx, hz => by obtain rfl := eq_of_heq hx; exact ⟨⟨rfl, o.2⟩, rfl⟩
 | .bool, x, z, h, _, o, hG, x', z', hx, hz => by obtain rfl := eq_of_heq hx; exact ⟨rfl, rfl⟩
 | .str, x, z, h, _, o, hG, x', z', hx, hz => by obtain rfl := eq_of_heq hx; exact ⟨⟨rfl, o.2⟩, rfl⟩
 | .un, x, z, h, _, o, hG, x', z', hx, hz => by obtain rfl := eq_of_heq hz; exact ⟨rfl, rfl⟩
 | .unit, x, z, h, _, o, hG, x', z', hx, hz => ⟨rfl, rfl⟩
 | .tree t e, x, z, h, _, o, hG, x', z', hx, hz => by
  obtain rfl := eq_of_heq hx
  obtain rfl := eq_of_heq hz
  have oo := own_mono (K := .tree t e) (fun b v q => hG b v (.inl q)) o
  have e' := oo.1
  subst e'
  exact ⟨oo, rfl⟩
 | .ep e, x, z, h, _, oo, hG, x', z', hx, hz => by
  obtain rfl := eq_of_heq hx
  obtain rfl := eq_of_heq hz
  have o2 := own_mono (K := .ep e) (fun b v q => hG b v (.inl q)) oo
  have e' := o2.1
  subst e'
  exact ⟨o2, rfl⟩
 | .mp o t k, x, z, h, _, oo, hG, x', z', hx, hz => by
  obtain rfl := eq_of_heq hx
  obtain rfl := eq_of_heq hz
  cases x' with
  | none => exact ⟨rfl, rfl⟩
  | some l =>
   obtain ⟨es, clk, e, he⟩ := oo
   refine ⟨⟨es, clk, ⟨hG _ _ ?_, rfl⟩, he⟩, rfl⟩
   cases o with
   | true =>
    have e' : h = HF.onem _ es clk := e
    exact .inr (by rw [e']; exact if_pos rfl)
   | false => exact .inl e.1
 | .tl t e, x, z, h, _, o, hG, x', z', hx, hz => by
  obtain rfl := eq_of_heq hx
  obtain rfl := eq_of_heq hz
  have oo := own_mono (K := .tl t e) (fun b v q => hG b v (.inl q)) o
  have e' := oo.1
  subst e'
  exact ⟨oo, rfl⟩
 | .pair a b, x, z, h, hn, o, hG, x', z', hx, hz => by
  simp only [noHole, Bool.and_eq_true] at hn
  obtain ⟨h1, h2, d, rfl, o1, o2⟩ := o
  obtain ⟨hx1, hx2⟩ := heq_prod (shr_T a) (shr_T b) hx
  obtain ⟨hz1, hz2⟩ := heq_prod (shr_Z a) (shr_Z b) hz
  obtain ⟨p1, q1⟩ := own_shr a x.1 z.1 h1 hn.1 o1 (un_has_of hG fun b v e => un_left e) x'.1 z'.1 hx1 hz1
  obtain ⟨p2, q2⟩ := own_shr b x.2 z.2 h2 hn.2 o2 (un_has_of hG fun b v e => un_right d e) x'.2 z'.2 hx2 hz2
  exact ⟨⟨HF.emp, HF.emp, HF.dj_emp _, (HF.un_emp _).symm, p1, p2⟩, by show (shr a).cells x'.1 z'.1 ++ (shr b).cells x'.2 z'.2 = _; rw [q1, q2]; rfl⟩
 | .arr n e, x, z, h, hn, o, hG, x', z', hx, hz => by
  obtain ⟨ho, he⟩ := o
  obtain ⟨hl, hd⟩ := heq_list (shr_T e) hx
  have key : ∀ i, i < n → (shr e).Own G (List.getD x' i (shr e).dft) (z' i) HF.emp ∧ (shr e).cells (List.getD x' i (shr e).dft) (z' i) = e.cells (List.getD x i e.dft) (z i) := by
   intro i hi
   obtain ⟨hr, hi', d, eh, oi, _⟩ := Each.take hi he
   exact own_shr e _ _ hi' hn oi (un_has_of hG fun b v q => by rw [eh]; exact un_right d q) _ _ (hd i _ _ (shr_dft e)) (heq_fun (shr_Z e) hz i)
  refine ⟨⟨hl.trans ho, each_emp fun i hi => (key i hi).1⟩, ?_⟩
  show ((List.range n).flatMap fun i => (shr e).cells (List.getD x' i (shr e).dft) (z' i)) = (List.range n).flatMap fun i => e.cells (List.getD x i e.dft) (z i)
  have : ∀ l : List Nat, (∀ i ∈ l, i < n) → (l.flatMap fun i => (shr e).cells (List.getD x' i (shr e).dft) (z' i)) = l.flatMap fun i => e.cells (List.getD x i e.dft) (z i) := by
   intro l
   induction l with
   | nil => intro _; rfl
   | cons i l ih => intro hl; rw [List.flatMap_cons, List.flatMap_cons, ih fun j hj => hl j (List.mem_cons_of_mem _ hj), (key i (hl i List.mem_cons_self)).2]
  exact this _ fun i hi => List.mem_range.1 hi
 | .sl own t e hole, x, z, h, hn, o, hG, x', z', hx, hz => by
  simp only [noHole, Bool.and_eq_true, Option.isNone_iff_eq_none] at hn
  obtain ⟨rfl, hn⟩ := hn
  obtain ⟨hl, hd⟩ := heq_list (shr_T e) hx
  obtain ⟨zo, zf⟩ := z
  obtain ⟨zo', zf'⟩ := z'
  have hz' : zo' = zo ∧ HEq zf' zf := by
   have := heq_prod (A := Option (Nat × Nat × Nat)) rfl (show (Nat → (shr e).Z) = (Nat → e.Z) by rw [shr_Z e]) hz
   exact ⟨eq_of_heq this.1, this.2⟩
  obtain ⟨rfl, hz'⟩ := hz'
  have hcells : (shr (.sl own t e none)).cells x' (zo', zf') = (Kd.sl own t e none).cells x (zo', zf) := by
   show [hdr zo' (List.length x')] = [hdr zo' (List.length x)]
   rw [show List.length x' = List.length x from hl]
  refine ⟨?_, hcells⟩
  cases zo' with
  | none =>
   obtain ⟨hx0, _⟩ := o
   have hx0' : List.length x = 0 := by rw [show x = [] from hx0]; rfl
   have : List.length x' = 0 := (show List.length x' = List.length x from hl).trans hx0'
   exact ⟨List.eq_nil_of_length_eq_zero this, rfl⟩
  | some q =>
   obtain ⟨b, off, cap⟩ := q
   obtain ⟨c, h2, h1, h3, h4, hls, he, hdd⟩ := o
   have hl' : List.length x' = List.length x := hl
   have hsub : (∀ b v, h2 b = some v → h b = some v) ∧ ∃ t', G b = some (.cel c t') := by
    cases own with
    | true =>
     simp only [if_true] at hdd
     obtain ⟨hdd, rfl⟩ := hdd
     exact ⟨fun b v e => un_right hdd e, t, hG b _ (.inr one_self)⟩
    | false =>
     simp only [Bool.false_eq_true, if_false] at hdd
     obtain ⟨⟨t', hdd⟩, rfl⟩ := hdd
     exact ⟨fun b v e => e, t', hG b _ (.inl hdd)⟩
   have key : ∀ i, i < List.length x → (shr e).Own G (List.getD x' i (shr e).dft) (zf' i) HF.emp ∧ (shr e).cells (List.getD x' i (shr e).dft) (zf' i) = e.cells (List.getD x i e.dft) (zf i) := by
    intro i hi
    obtain ⟨hr, hi', d, eh, oi, _⟩ := Each.take hi he
    rw [if_neg (by simp)] at oi
    exact own_shr e _ _ hi' hn oi (un_has_of hG fun b v q => hsub.1 b v (by rw [eh]; exact un_right d q)) _ _ (hd i _ _ (shr_dft e)) (heq_fun (shr_Z e) hz' i)
   refine ⟨c, HF.emp, by rw [hl']; exact h1, h3, by rw [shr_size]; exact h4, ?_, ?_, ?_⟩
   ·intro i hi
    rw [hl'] at hi
    rw [(key i hi).2, shr_size]
    exact hls i hi
   ·rw [hl']
    refine each_emp fun i hi => ?_
    rw [if_neg (by simp)]
    exact (key i hi).1
   ·simp only [Bool.false_eq_true, if_false]
    exact ⟨hsub.2, trivial⟩
def castK {K K' : Kd} (h : K = K') (x : K.T) : K'.T := h ▸ x
def castS {K K' : Kd} (h : shr K = K') (x : K.T) : K'.T := castK h (cast (shr_T K).symm x)
theorem castS_heq {K : Kd} (x : K.T) : HEq (castS (K := K) rfl x) x := by
 unfold castS castK
 exact cast_heq _ _
end Go.Proofs.YtibammoednhnoaaE

