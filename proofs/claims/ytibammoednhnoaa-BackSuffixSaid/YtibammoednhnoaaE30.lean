/- The engine, part 30: a call. Conditions: none. -/
import Derived.Test.YtibammoednhnoaaE29
set_option linter.unusedVariables false
set_option linter.unusedSimpArgs false
namespace Go.Proofs.YtibammoednhnoaaE
open Kd
variable {α : Type}

namespace Kd
def noSh : Kd → Bool
 | .pair a b => noSh a && noSh b
 | .arr _ e => noSh e
 | .sl o _ e _ => o && noSh e
 | .tree _ _ => false
 | .tl _ _ => false
 | .mp o _ _ => o
 | .ep _ => false
 | _ => true
end Kd
theorem own_indep {Γ Γ' : HF} : ∀ {K : Kd} {x : K.T} {z : K.Z} {h : HF}, noSh K = true → K.Own Γ x z h → K.Own Γ' x z h
 | .int _, _, _, _, _, o => o
 | .bool, _, _, _, _, o => o
 | .str, _, _, _, _, o => o
 | .un, _, _, _, _, o => o
 | .unit, _, _, _, _, o => o
 | .mp _ _ _, none, _, _, _, o => o
 | .mp true _ _, some _, _, _, _, o => o
 | .mp false _ _, some _, _, _, n, _ => by cases n
 | .pair a b, x, z, h, n, o => by
  simp only [noSh, Bool.and_eq_true] at n
  obtain ⟨h1, h2, d, e, o1, o2⟩ := o
  exact ⟨h1, h2, d, e, own_indep n.1 o1, own_indep n.2 o2⟩
 | .arr m e, x, z, h, n, o => ⟨o.1, Each.congr (fun i _ h' p => own_indep (K := e) n p) o.2⟩
 | .sl own t e hole, x, z, h, n, o => by
  simp only [noSh, Bool.and_eq_true] at n
  obtain ⟨rfl, n⟩ := n
  obtain ⟨zo, zf⟩ := z
  cases zo with
  | none => exact o
  | some q =>
   obtain ⟨b, off, cap⟩ := q
   obtain ⟨c, h2, h1, h3, h4, hl, he, hd⟩ := o
   refine ⟨c, h2, h1, h3, h4, hl, Each.congr (fun i _ h' p => ?_) he, hd⟩
   split
   ·rename_i hh; rw [if_pos hh] at p; exact p
   ·rename_i hh; rw [if_neg hh] at p; exact own_indep (K := e) n p
theorem rc_indep {Γ Γ' : HF} {r : RC} {h : HF} (n : noSh r.K = true) (o : r.Own Γ h) : r.Own Γ' h := by
 obtain ⟨rb, rK, rx, rz⟩ := r
 cases rb with
 | some bt =>
  obtain ⟨c, h2, d, e, o, hl⟩ := o
  exact ⟨c, h2, d, e, own_indep n o, hl⟩
 | none => exact own_indep (K := rK) (x := rx) (z := rz) n o
theorem star_indep {Γ Γ' : HF} : ∀ {l : List (Nat × RC)} {h : HF}, (∀ x ∈ l, noSh x.2.K = true) → Star Γ l h → Star Γ' l h
 | [], _, _, o => o
 | r :: l, h, n, ⟨h1, h2, d, e, o, st⟩ => ⟨h1, h2, d, e, rc_indep (n r List.mem_cons_self) o, star_indep (fun x hx => n x (List.mem_cons_of_mem _ hx)) st⟩
theorem star_some {Γ : HF} : ∀ {l l' : List (Nat × RC)} {h : HF}, (l'.map (·.2)).Sublist (l.map (·.2)) → Star Γ l h → ∃ h', Star Γ l' h' ∧ ∀ b v, h' b = some v → h b = some v
 | [], l', h, s, o => by
  have : l' = [] := by
   cases l' with
   | nil => rfl
   | cons a l => simp at s
  subst this
  exact ⟨h, o, fun _ _ e => e⟩
 | r :: l, l', h, s, ⟨h1, h2, d, e, o, st⟩ => by
  rw [List.map_cons] at s
  cases hl : l' with
  | nil => exact ⟨HF.emp, rfl, fun b v q => by simp [HF.emp] at q⟩
  | cons r' m =>
   rw [hl, List.map_cons] at s
   rcases List.sublist_cons_iff.1 s with s1 | ⟨m', e1, s1⟩
   ·obtain ⟨h', st', sb⟩ := star_some (l' := r' :: m) (by simpa using s1) st
    exact ⟨h', st', fun b v q => by rw [e]; exact un_right d (sb b v q)⟩
   ·rw [List.cons.injEq] at e1
    obtain ⟨e2, e3⟩ := e1
    subst e3
    obtain ⟨h', st', sb⟩ := star_some (l' := m) s1 st
    refine ⟨h1.un h', ⟨h1, h', HF.dj_iff.2 fun b hb hx => HF.dj_iff.1 d b hb (has_sub sb b hx), rfl, by rw [e2]; exact o, st'⟩, ?_⟩
    rw [e]
    exact un_mono d (fun _ _ q => q) sb

def rid (d j : Nat) : Nat := 1000000 + d * 16 + j
def packA : List SV → AV
 | [v] => .one v
 | l => .tup l
def resSV (d : Nat) : Nat → (rs : List Rs) → RT rs → (List SV → List (Nat × Ck) → Tr α) → Tr α
 | _, [], _, k => k [] []
 | j, .val K :: rs, x, k => resSV d (j + 1) rs x.2 fun l c => k (.val K x.1 :: l) c
 | j, .own K :: rs, x, k => resSV d (j + 1) rs x.2 fun l c => k (.at (rid d j) [] :: l) ((rid d j, ⟨none, K, x.1⟩) :: c)
 | j, .ownN K :: rs, x, k => .split (nonNilB K x.1) (resSV d (j + 1) rs x.2 fun l c => k (.at (rid d j) [] :: l) ((rid d j, ⟨none, K, x.1⟩) :: c)) (resSV d (j + 1) rs x.2 fun l c => k (.nilS :: l) c)
 | j, .box t K :: rs, x, k => resSV d (j + 1) rs x.2 fun l c => k (.ptr (rid d j) [] :: l) ((rid d j, ⟨some t, K, x.1⟩) :: c)
theorem nonNilB_nil {K : Kd} {x : K.T} {v : Value} (h : nonNilB K x = false) (hn : nilOK K x v) : v = .slice none 0 0 := by
 cases K with
 | sl o t e hole =>
  refine hn ?_
  have : List.isEmpty x = true := by simpa [nonNilB] using h
  simpa using this
 | _ => cases h
theorem resSV_ok {Γ : HF} {d : Nat} {Kp : α → Prop} : ∀ (rs : List Rs) (j : Nat) (x : RT rs) (vs : List Value) (lR : List (Nat × RC)) {k : List SV → List (Nat × Ck) → Tr α}, ResIs Γ rs x vs lR → (resSV d j rs x k).sat Kp →
  ∃ (l : List SV) (rcl : List (Nat × RC)), (k l (rcl.map fun y => (y.1, y.2.ck))).sat Kp ∧ (rcl.map (·.2)).Sublist (lR.map (·.2)) ∧ l.length = vs.length ∧
   ∀ RF, (∀ y ∈ rcl, look RF y.1 = some y.2) → ∀ (i : Nat) (s : SV), l[i]? = some s → ∃ u, vs[i]? = some u ∧ s.is Γ RF u := by
 intro rs
 induction rs with
 | nil =>
  intro j x vs lR k h hs
  obtain ⟨rfl, rfl⟩ := h
  exact ⟨[], [], hs, List.Sublist.refl _, rfl, fun RF _ i s hi => by simp at hi⟩
 | cons r rs ih =>
  intro j x vs lR k h hs
  have ext : ∀ {v : Value} {vs' : List Value} {l : List SV} {s0 : SV} {RF : List (Nat × RC)}, s0.is Γ RF v → (∀ (i : Nat) (s : SV), l[i]? = some s → ∃ u, vs'[i]? = some u ∧ s.is Γ RF u) → ∀ (i : Nat) (s : SV), (s0 :: l)[i]? = some s → ∃ u, (v :: vs')[i]? = some u ∧ s.is Γ RF u := by
   intro v vs' l s0 RF h0 hall i s hi
   cases i with
   | zero =>
    simp only [List.getElem?_cons_zero, Option.some.injEq] at hi
    subst hi
    exact ⟨v, rfl, h0⟩
   | succ i => exact hall i s (by simpa using hi)
  have own : ∀ (K : Kd) (x1 : K.T) (x2 : RT rs) (v : Value) (vs' : List Value) (z : K.Z) (l' : List (Nat × RC)), lR = (0, ⟨none, K, x1, z⟩) :: l' → v = toV K (K.cells x1 z) → ResIs Γ rs x2 vs' l' →
    (resSV d (j + 1) rs x2 fun l c => k (.at (rid d j) [] :: l) ((rid d j, ⟨none, K, x1⟩) :: c)).sat Kp →
    ∃ (l : List SV) (rcl : List (Nat × RC)), (k l (rcl.map fun y => (y.1, y.2.ck))).sat Kp ∧ (rcl.map (·.2)).Sublist (lR.map (·.2)) ∧ l.length = (v :: vs').length ∧
     ∀ RF, (∀ y ∈ rcl, look RF y.1 = some y.2) → ∀ (i : Nat) (s : SV), l[i]? = some s → ∃ u, (v :: vs')[i]? = some u ∧ s.is Γ RF u := by
   intro K x1 x2 v vs' z l' hl hv hr hs
   obtain ⟨l, rcl, f1, f2, f3, f4⟩ := ih (j + 1) x2 vs' l' hr hs
   refine ⟨.at (rid d j) [] :: l, (rid d j, ⟨none, K, x1, z⟩) :: rcl, f1, ?_, by simp [f3], fun RF hRF => ?_⟩
   ·rw [hl, List.map_cons, List.map_cons]
    exact List.Sublist.cons_cons _ f2
   ·exact ext ⟨_, ⟨K, x1, z, (0, 0)⟩, hRF _ List.mem_cons_self, by simp [pl], hv⟩ (f4 RF fun y hy => hRF y (List.mem_cons_of_mem _ hy))
  cases r with
  | val K =>
   obtain ⟨v, vs', rfl, hv, hr⟩ := h
   obtain ⟨l, rcl, f1, f2, f3, f4⟩ := ih (j + 1) x.2 vs' lR hr hs
   exact ⟨.val K x.1 :: l, rcl, f1, f2, by simp [f3], fun RF hRF => ext hv (f4 RF hRF)⟩
  | own K =>
   obtain ⟨v, vs', z, l', rfl, hl, hv, hr⟩ := h
   exact own K x.1 x.2 v vs' z l' hl hv hr hs
  | ownN K =>
   obtain ⟨v, vs', z, l', rfl, hl, hv, hn, hr⟩ := h
   simp only [resSV, Tr.sat] at hs
   cases hb : nonNilB K x.1 with
   | true => exact own K x.1 x.2 v vs' z l' hl hv hr (hs.1 hb)
   | false =>
    obtain ⟨l, rcl, f1, f2, f3, f4⟩ := ih (j + 1) x.2 vs' l' hr (hs.2 hb)
    refine ⟨.nilS :: l, rcl, f1, ?_, by simp [f3], fun RF hRF => ext (s0 := .nilS) (nonNilB_nil hb hn) (f4 RF hRF)⟩
    rw [hl, List.map_cons]
    exact List.Sublist.cons _ f2
  | box t K =>
   obtain ⟨v, vs', b, z, l', rfl, hl, hv, hr⟩ := h
   obtain ⟨l, rcl, f1, f2, f3, f4⟩ := ih (j + 1) x.2 vs' l' hr hs
   refine ⟨.ptr (rid d j) [] :: l, (rid d j, ⟨some (b, t), K, x.1, z⟩) :: rcl, f1, ?_, by simp [f3], fun RF hRF => ?_⟩
   ·rw [hl, List.map_cons, List.map_cons]
    exact List.Sublist.cons_cons _ f2
   ·exact ext ⟨_, ⟨K, x.1, z, (b, 0)⟩, hRF _ List.mem_cons_self, by simp [pl], fun e => (by cases e), hv⟩ (f4 RF fun y hy => hRF y (List.mem_cons_of_mem _ hy))

def backCk (l : List (Nat × Nat)) : Nat → (ps : List Par) → OT ps → List (Nat × Ck)
 | _, [], _ => []
 | i, .val _ :: ps, o => backCk l (i + 1) ps o
 | i, .own _ :: ps, o => backCk l (i + 1) ps o
 | i, .clo _ _ :: ps, o => backCk l (i + 1) ps o
 | i, .mut K :: ps, o => ((look l i).getD 0, ⟨none, K, o.1⟩) :: backCk l (i + 1) ps o.2
 | i, .ptr t K _ :: ps, o => ((look l i).getD 0, ⟨some t, K, o.1⟩) :: backCk l (i + 1) ps o.2
 | i, .cap t K :: ps, o => ((look l i).getD 0, ⟨some t, K, o.1⟩) :: backCk l (i + 1) ps o.2
def ren (l : List (Nat × Nat)) (y : Nat × RC) : Nat × RC := ((look l y.1).getD 0, y.2)
theorem entryCk_tl {i : Nat} {p : Par} {ps : List Par} {x : AT (p :: ps)} {x' : AT ps} (h : ∀ j, i < j → look (entryCk i (p :: ps) x) j = look (entryCk (i + 1) ps x') j) {Rl : List (Nat × RC)} (hk : ∀ j, i ≤ j → (look Rl j).map RC.ck = look (entryCk i (p :: ps) x) j) :
  ∀ j, i + 1 ≤ j → (look Rl j).map RC.ck = look (entryCk (i + 1) ps x') j := fun j hj => by rw [hk j (by omega), h j (by omega)]
theorem back_ok {Rl : List (Nat × RC)} {l : List (Nat × Nat)} : ∀ (ps : List Par) (i : Nat) (x : AT ps) (o : OT ps) (lO : List (Nat × RC)), Back Rl i ps o lO → (∀ j, i ≤ j → (look Rl j).map RC.ck = look (entryCk i ps x) j) →
  (lO.map (ren l)).map (fun y => (y.1, y.2.ck)) = backCk l i ps o ∧ ∀ n r, look Rl n = some r → i ≤ n → lentAt ps (n - i) → ∃ r', (n, r') ∈ lO ∧ r'.head = r.head ∧ r'.K = r.K ∧ r'.box.isSome = r.box.isSome
 | [], i, x, o, lO, h, hk => by
  subst h
  exact ⟨rfl, fun n r hr hn hm => by simp [lentAt] at hm⟩
 | p :: ps, i, x, o, lO, h, hk => by
  have tail : ∀ {x' : AT ps} {o' : OT ps} {l' : List (Nat × RC)}, Back Rl (i + 1) ps o' l' → (∀ j, i + 1 ≤ j → (look Rl j).map RC.ck = look (entryCk (i + 1) ps x') j) → (∀ n r, look Rl n = some r → i + 1 ≤ n → lentAt (p :: ps) (n - i) → ∃ r', (n, r') ∈ l' ∧ r'.head = r.head ∧ r'.K = r.K ∧ r'.box.isSome = r.box.isSome) ∧ (l'.map (ren l)).map (fun y => (y.1, y.2.ck)) = backCk l (i + 1) ps o' := by
   intro x' o' l' hb hk'
   obtain ⟨q1, q2⟩ := back_ok (l := l) ps (i + 1) x' o' l' hb hk'
   refine ⟨fun n r hr hn hm => q2 n r hr hn ?_, q1⟩
   rw [show n - i = (n - (i + 1)) + 1 by omega] at hm
   simpa [lentAt] using hm
  have hd : ∀ (r : RC) (c : Ck), look Rl i = some r → look (entryCk i (p :: ps) x) i = some c → r.ck = c := by
   intro r c h1 h2
   have := hk i (Nat.le_refl _)
   rw [h1, h2] at this
   simpa using this
  cases p with
  | val K =>
   obtain ⟨t1, t2⟩ := tail (x' := x.2) h (entryCk_tl (x := x) (fun j hj => rfl) hk)
   refine ⟨t2, fun n r hr hn hm => ?_⟩
   rcases Nat.eq_or_lt_of_le hn with e | e
   ·subst e; simp [lentAt] at hm
   ·exact t1 n r hr e hm
  | own K =>
   obtain ⟨t1, t2⟩ := tail (x' := x.2) h (entryCk_tl (x := x) (fun j hj => by simp only [entryCk, look]; rw [if_neg (by simp; omega)]) hk)
   refine ⟨t2, fun n r hr hn hm => ?_⟩
   rcases Nat.eq_or_lt_of_le hn with e | e
   ·subst e; simp [lentAt] at hm
   ·exact t1 n r hr e hm
  | clo f c =>
   obtain ⟨t1, t2⟩ := tail (x' := x) h (entryCk_tl (x := x) (fun j hj => rfl) hk)
   refine ⟨t2, fun n r hr hn hm => ?_⟩
   rcases Nat.eq_or_lt_of_le hn with e | e
   ·subst e; simp [lentAt] at hm
   ·exact t1 n r hr e hm
  | «mut» K =>
   obtain ⟨r0, z, l', h1, h2, h3, h4⟩ := h
   obtain ⟨t1, t2⟩ := tail (x' := x.2) h4 (entryCk_tl (x := x) (fun j hj => by simp only [entryCk, look]; rw [if_neg (by simp; omega)]) hk)
   subst h2
   refine ⟨by rw [List.map_cons, List.map_cons, t2]; rfl, fun n r hr hn hm => ?_⟩
   rcases Nat.eq_or_lt_of_le hn with e | e
   ·subst e
    rw [h1] at hr
    injection hr with hr
    subst hr
    have := hd r0 ⟨none, K, x.1⟩ h1 (by simp [entryCk, look])
    obtain ⟨rb, rK, rx, rz⟩ := r0
    simp only [RC.ck, Ck.mk.injEq] at this
    obtain ⟨e1, e2, _⟩ := this
    refine ⟨_, List.mem_cons_self, h3, e2.symm, ?_⟩
    cases rb <;> simp_all
   ·obtain ⟨r', q1, q2⟩ := t1 n r hr e hm
    exact ⟨r', List.mem_cons_of_mem _ q1, q2⟩
  | ptr t K p =>
   obtain ⟨r0, b, z, l', h1, h2, h3, h4⟩ := h
   obtain ⟨t1, t2⟩ := tail (x' := x.2) h4 (entryCk_tl (x := x) (fun j hj => by simp only [entryCk, look]; rw [if_neg (by simp; omega)]) hk)
   subst h2
   refine ⟨by rw [List.map_cons, List.map_cons, t2]; rfl, fun n r hr hn hm => ?_⟩
   rcases Nat.eq_or_lt_of_le hn with e | e
   ·subst e
    rw [h1] at hr
    injection hr with hr
    subst hr
    have := hd r0 ⟨some t, K, x.1⟩ h1 (by simp [entryCk, look])
    obtain ⟨rb, rK, rx, rz⟩ := r0
    simp only [RC.ck, Ck.mk.injEq] at this
    obtain ⟨e1, e2, _⟩ := this
    refine ⟨_, List.mem_cons_self, h3, e2.symm, ?_⟩
    cases rb <;> simp_all
   ·obtain ⟨r', q1, q2⟩ := t1 n r hr e hm
    exact ⟨r', List.mem_cons_of_mem _ q1, q2⟩
  | cap t K =>
   obtain ⟨r0, b, z, l', h1, h2, h3, h4⟩ := h
   obtain ⟨t1, t2⟩ := tail (x' := x.2) h4 (entryCk_tl (x := x) (fun j hj => by simp only [entryCk, look]; rw [if_neg (by simp; omega)]) hk)
   subst h2
   refine ⟨by rw [List.map_cons, List.map_cons, t2]; rfl, fun n r hr hn hm => ?_⟩
   rcases Nat.eq_or_lt_of_le hn with e | e
   ·subst e
    rw [h1] at hr
    injection hr with hr
    subst hr
    have := hd r0 ⟨some t, K, x.1⟩ h1 (by simp [entryCk, look])
    obtain ⟨rb, rK, rx, rz⟩ := r0
    simp only [RC.ck, Ck.mk.injEq] at this
    obtain ⟨e1, e2, _⟩ := this
    refine ⟨_, List.mem_cons_self, h3, e2.symm, ?_⟩
    cases rb <;> simp_all
   ·obtain ⟨r', q1, q2⟩ := t1 n r hr e hm
    exact ⟨r', List.mem_cons_of_mem _ q1, q2⟩
end Go.Proofs.YtibammoednhnoaaE

