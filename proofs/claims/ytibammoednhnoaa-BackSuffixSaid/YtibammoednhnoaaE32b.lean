/- The engine, part 32b: what an operation consumes is first made a value by itself. Conditions: none. -/
import Derived.Test.YtibammoednhnoaaE32
set_option linter.unusedVariables false
set_option linter.unusedSimpArgs false
namespace Go.Proofs.YtibammoednhnoaaE
open Kd
variable {α : Type}

theorem Each.window {p : Nat → HF → Prop} {off : Nat} : ∀ {n len : Nat} {h : HF}, off + len ≤ n → Each p n h → ∃ h', (∀ b v, h' b = some v → h b = some v) ∧ Each (fun i => p (off + i)) len h'
 | 0, len, h, hle, e => by
  obtain rfl : len = 0 := by omega
  exact ⟨HF.emp, fun b v e => by simp [HF.emp] at e, rfl⟩
 | n + 1, len, h, hle, e => by
  obtain ⟨h1, h2, d, rfl, e1, e2⟩ := e
  cases len with
  | zero => exact ⟨HF.emp, fun b v e => by simp [HF.emp] at e, rfl⟩
  | succ len =>
   by_cases hc : off + len = n
   ·subst hc
    obtain ⟨h', s', e'⟩ := Each.window (len := len) (Nat.le_refl _) e1
    have d' : HF.dj h' h2 := HF.dj_iff.2 fun b hb hx => HF.dj_iff.1 d b (has_sub s' b hb) hx
    exact ⟨h'.un h2, un_mono d s' (fun _ _ e => e), h', h2, d', rfl, e', e2⟩
   ·have hl : off + (len + 1) ≤ n := by omega
    obtain ⟨h', s', e'⟩ := Each.window (n := n) (len := len + 1) hl e1
    exact ⟨h', fun b v e => un_left (s' b v e), e'⟩
theorem mono_emp {h : HF} : ∀ b v, HF.emp b = some v → h b = some v := fun b v e => by simp [HF.emp] at e

theorem own_window {Γ : HF} {t : TypeId} {e : Kd} {xs : List e.T} {b o cap off len : Nat} {zf : Nat → e.Z} {h : HF} (ho : (Kd.sl true t e none).Own Γ xs (some (b, o, cap), zf) h) (hle : off + len ≤ xs.length) :
  ∃ h', (∀ b v, h' b = some v → h b = some v) ∧ (Kd.sl true t e none).Own Γ ((xs.drop off).take len) (some (b, o + off * e.size, cap - off), fun i => zf (off + i)) h' := by
 obtain ⟨c, h2, h1, h3, h4, h5, h6, h7⟩ := ho
 simp only [if_true] at h7
 obtain ⟨d, rfl⟩ := h7
 have hlen : ((xs.drop off).take len).length = len := by simp; omega
 obtain ⟨h', s', e'⟩ := Each.window hle h6
 have d' : HF.dj (HF.one b c t) h' := HF.dj_iff.2 fun b hb hx => HF.dj_iff.1 d b hb (has_sub s' b hx)
 refine ⟨(HF.one b c t).un h', un_mono d (fun _ _ e => e) s', c, h', by rw [hlen]; omega, by omega, ?_, ?_, ?_, ?_⟩
 ·have : off * e.size + (cap - off) * e.size = cap * e.size := by rw [← Nat.add_mul]; congr 1; omega
  omega
 ·intro i hi
  rw [hlen] at hi
  have := h5 (off + i) (by omega)
  rw [getD_window hi, Nat.add_assoc, ← Nat.add_mul]
  exact this
 ·rw [hlen]
  refine Each.congr (fun i hi h ho => ?_) e'
  rw [if_neg (by simp)] at ho ⊢
  rw [getD_window hi]
  exact ho
 ·simp only [if_true]
  exact ⟨d', trivial⟩
theorem own_window0 {Γ : HF} {t : TypeId} {e : Kd} {xs : List e.T} {b o cap off2 cap2 : Nat} {zf : Nat → e.Z} {h : HF} (ho : (Kd.sl true t e none).Own Γ xs (some (b, o, cap), zf) h) (h1 : cap2 ≤ cap) (h2 : off2 + cap2 * e.size ≤ o + cap * e.size) :
  ∃ h', (∀ b v, h' b = some v → h b = some v) ∧ (Kd.sl true t e none).Own Γ [] (some (b, off2, cap2), zf) h' := by
 obtain ⟨c, h2', h1', h3, h4, h5, h6, h7⟩ := ho
 simp only [if_true] at h7
 obtain ⟨d, rfl⟩ := h7
 refine ⟨HF.one b c t, fun b v e => un_left e, c, HF.emp, Nat.zero_le _, by omega, by omega, (fun i hi => by cases hi), rfl, ?_⟩
 simp only [if_true]
 exact ⟨HF.dj_emp _, (HF.un_emp _).symm⟩

theorem Good.swap {F : Fr} {s : St} {a : Act} {w : World} {Γ : HF} {rcs : List (Nat × RC)} {h : HF} (g : Good F s a w Γ rcs h) {id new t : Nat} {r rn : RC} (hr : look rcs id = some r) (hbn : rn.box = none) (hnew : 1000000 ≤ new) (hfr : look rcs new = none)
  (hown : ∀ h1, r.Own Γ h1 → ∃ hN, (∀ b v, hN b = some v → h1 b = some v) ∧ rn.K.Own Γ rn.x rn.z hN) {v : Value} (ht : a.tmps[t]? = some v) (hv : v = toV rn.K (rn.K.cells rn.x rn.z)) (hB : ∀ e ∈ F.B, e.id ≠ some id) :
  ∃ h', Good F ⟨(t, .one (.at new [])) :: s.tm.filter fun y => y.1 != t && (offA id y.2 && offA new y.2), (new, rn.ck) :: del s.ck id⟩ a w Γ ((new, rn) :: del rcs id) h' := by
 obtain ⟨h1, hR, d, e, o, put, dl⟩ := star_upd g.star hr g.nodup
 obtain ⟨hN, sN, oN⟩ := hown h1 o
 have dN : HF.dj hN hR := HF.dj_iff.2 fun b hb hx => HF.dj_iff.1 d b (has_sub sN b hb) hx
 have hsub : ∀ b v, (hN.un hR) b = some v → h b = some v := by rw [e]; exact un_mono d sN (fun _ _ e => e)
 have hne : id ≠ new := fun f => by rw [← f, hr] at hfr; cases hfr
 have hnk : new ∉ rcs.map (·.1) := fun hm => by
  obtain ⟨y, hy, hy2⟩ := List.mem_map.1 hm
  have := look_of_mem g.nodup hy
  rw [hy2, hfr] at this
  cases this
 refine ⟨hN.un hR, ?_, ?_, ⟨hN, hR, dN, rfl, ?_, dl⟩, g.mem.mono hsub, g.memR, HF.dj_iff.2 fun b hb hx => HF.dj_iff.1 g.dj b hb (has_sub hsub b hx), g.defers, g.tsz, ?_, g.size, g.keep, fun b hb => g.own b (has_sub hsub b hb), g.ro, g.ro0, g.os, g.tape, g.output, g.sg, ?_, ?_⟩
 ·rw [List.map_cons, ← g.ck]
  simp only [del, List.filter_map]
  rfl
 ·rw [List.map_cons, List.nodup_cons]
  refine ⟨fun hm => hnk ?_, del_nodup g.nodup id⟩
  obtain ⟨y, hy, hy2⟩ := List.mem_map.1 hm
  exact List.mem_map.2 ⟨y, (List.mem_filter.1 hy).1, hy2⟩
 ·unfold RC.Own
  simp only [hbn]
  exact oN
 ·intro t' av hm
  rcases List.mem_cons.1 hm with e | e
  ·injection e with e1 e2
   subst e1; subst e2
   exact ⟨v, ht, rn, ⟨rn.K, rn.x, rn.z, ((rn.box.getD (0, 0)).1, 0)⟩, if_pos (beq_self_eq_true new), by simp [pl], hv⟩
  ·obtain ⟨m1, m2⟩ := List.mem_filter.1 e
   simp only [Bool.and_eq_true] at m2
   obtain ⟨u, hu, hi⟩ := g.tm t' av m1
   exact ⟨u, hu, cons_is m2.2.2 (offA_is m2.2.1 hi)⟩
 ·intro e0 he
  obtain ⟨b1, b2⟩ := g.bx e0 he
  refine ⟨b1, fun id2 hid2 => ?_⟩
  obtain ⟨r2, t2, hr2, hb2⟩ := b2 id2 hid2
  have n1 : id2 ≠ id := fun f => hB e0 he (by rw [hid2, f])
  have n2 : id2 ≠ new := fun f => by rw [f, hfr] at hr2; cases hr2
  exact ⟨r2, t2, by rw [look, if_neg (by simpa using Ne.symm n2), look_del _ n1]; exact hr2, hb2⟩
 ·intro m hm r' hr'
  have n2 : m.1 ≠ new := fun f => by have := (F.hM m hm).2; omega
  rw [look, if_neg (by simpa using Ne.symm n2)] at hr'
  exact g.md m hm r' (del_look rcs id _ _ hr')

def swapS (s : St) (t id new : Nat) (c : Ck) : St := ⟨(t, .one (.at new [])) :: s.tm.filter fun y => y.1 != t && (offA id y.2 && offA new y.2), (new, c) :: del s.ck id⟩
def oid (t : Nat) : Nat := 4000000 + 2 * t
def oid2 (t : Nat) : Nat := 4000001 + 2 * t
def winS (s : St) (t id off len : Nat) : St := match look s.ck id with
 | some ⟨none, .sl true te e none, xs⟩ => if (look s.ck (oid t)).isNone then swapS s t id (oid t) ⟨none, .sl true te e none, (List.drop off xs).take len⟩ else s
 | _ => s
def own1 (s : St) (t : Nat) : St := match look s.tm t with
 | some (.one (.at id [])) => match look s.ck id with
  | some ⟨some _, K, x⟩ => if (look s.ck (oid t)).isNone then swapS s t id (oid t) ⟨none, K, x⟩ else s
  | _ => s
 | some (.one (.at id (p0 :: p))) => match detach s id (p0 :: p) (oid t) with
  | some (_, s') => ⟨(t, .one (.at (oid t) [])) :: del s'.tm t, s'.ck⟩
  | none => s
 | some (.one (.slc id [] off len)) => winS s t id off len
 | some (.one (.slc id (p0 :: p) off len)) => match detach s id (p0 :: p) (oid2 t) with
  | some (_, s') => winS ⟨(t, .one (.slc (oid2 t) [] off len)) :: del s'.tm t, s'.ck⟩ t (oid2 t) off len
  | none => s
 | _ => s
def ownIds1 (s : St) (t : Nat) : List Nat := match look s.tm t with
 | some (.one (.at id [])) => [id]
 | _ => []
theorem look_rc {F : Fr} {s : St} {a : Act} {w : World} {Γ : HF} {rcs : List (Nat × RC)} {h : HF} (g : Good F s a w Γ rcs h) {id : Nat} {c : Ck} (hl : look s.ck id = some c) : ∃ r, look rcs id = some r ∧ r.ck = c := by
 rw [← g.ck, look_mapC] at hl
 cases hr : look rcs id with
 | none => rw [hr] at hl; cases hl
 | some r => rw [hr] at hl; simp at hl; exact ⟨r, rfl, hl⟩
theorem look_no {F : Fr} {s : St} {a : Act} {w : World} {Γ : HF} {rcs : List (Nat × RC)} {h : HF} (g : Good F s a w Γ rcs h) {id : Nat} (hl : (look s.ck id).isNone = true) : look rcs id = none := by
 rw [← g.ck, look_mapC] at hl
 simpa using hl
theorem Good.cons {F : Fr} {s : St} {a : Act} {w : World} {Γ : HF} {rcs : List (Nat × RC)} {h : HF} (g : Good F s a w Γ rcs h) {t : Nat} {v : Value} (ht : a.tmps[t]? = some v) {av : AV} (hi : av.is Γ rcs v) : Good F ⟨(t, av) :: del s.tm t, s.ck⟩ a w Γ rcs h :=
 ⟨g.ck, g.nodup, g.star, g.mem, g.memR, g.dj, g.defers, g.tsz, fun t' av' hm => by
  rcases List.mem_cons.1 hm with e | e
  ·injection e with e1 e2
   subst e1; subst e2
   exact ⟨v, ht, hi⟩
  ·exact g.tm t' av' (List.mem_filter.1 e).1, g.size, g.keep, g.own, g.ro, g.ro0, g.os, g.tape, g.output, g.sg, g.bx, g.md⟩
theorem winS_ok {F : Fr} {s : St} {a : Act} {w : World} {Γ : HF} {rcs : List (Nat × RC)} {h : HF} (g : Good F s a w Γ rcs h) {t id off len : Nat} {v : Value} (ht : a.tmps[t]? = some v) (hi : (SV.slc id [] off len).is Γ rcs v) : ∃ rcs' h', Good F (winS s t id off len) a w Γ rcs' h' := by
 unfold winS
 split
 ·rename_i te e xs hl
  split
  ·rename_i hn
   obtain ⟨r, hr, hck⟩ := look_rc g hl
   obtain ⟨rb, K, x, z⟩ := r
   simp only [RC.ck, Ck.mk.injEq] at hck
   obtain ⟨c1, rfl, c3⟩ := hck
   obtain rfl := eq_of_heq c3
   have hb : rb = none := by cases rb <;> simp_all
   subst hb
   obtain ⟨r0, t0, e0, hole, x', z', a', hr0, hp, hle, hcase⟩ := hi
   rw [hr] at hr0
   injection hr0 with hr0
   subst hr0
   simp only [pl, Option.some.injEq, At.mk.injEq, Kd.sl.injEq, true_and] at hp
   obtain ⟨⟨rfl, rfl, rfl⟩, hx, hz, _⟩ := hp
   obtain rfl := eq_of_heq hx
   obtain rfl := eq_of_heq hz
   have hB : ∀ e ∈ F.B, e.id ≠ some id := fun e he f => by
    obtain ⟨r2, t2, hr2, hb2⟩ := (g.bx e he).2 id f
    rw [hr] at hr2
    injection hr2 with hr2
    subst hr2
    cases hb2
   have hlen : ((List.drop off x).take len).length = len := by simp; omega
   have done : ∀ (z' : (Kd.sl true te e none).Z), (∀ h1, (Kd.sl true te e none).Own Γ x z h1 → ∃ hN, (∀ b v, hN b = some v → h1 b = some v) ∧ (Kd.sl true te e none).Own Γ ((List.drop off x).take len) z' hN) → v = hdr z'.1 len → ∃ rcs' h', Good F (swapS s t id (oid t) ⟨none, .sl true te e none, (List.drop off x).take len⟩) a w Γ rcs' h' := by
    intro z' ho hv
    obtain ⟨h', g'⟩ := g.swap (t := t) (rn := ⟨none, .sl true te e none, (List.drop off x).take len, z'⟩) hr rfl (by unfold oid; omega) (look_no g hn) (fun h1 o => ho h1 o) ht (by
     simp only [toV, single, if_true, Kd.cells, List.getD_cons_zero, hlen]
     exact hv) hB
    exact ⟨_, h', g'⟩
   obtain ⟨zo, zf⟩ := z
   rcases hcase with ⟨h0, hcase⟩ | ⟨b, o, cap, hz, hv⟩
   ·subst h0
    rcases hcase with hv | ⟨b, o, cap, off2, cap2, hz, hv, q1, q2⟩
    ·refine done (none, zf) (fun h1 _ => ⟨HF.emp, mono_emp, ?_⟩) hv
     exact ⟨by simp, rfl⟩
    ·simp only at hz
     subst hz
     refine done (some (b, off2, cap2), zf) (fun h1 o => ?_) hv
     simp only [List.take_zero]
     exact own_window0 o q1 q2
   ·simp only at hz
    subst hz
    exact done (some (b, o + off * e.size, cap - off), fun i => zf (off + i)) (fun h1 ho => own_window ho hle) hv
  ·exact ⟨rcs, h, g⟩
 ·exact ⟨rcs, h, g⟩
theorem own1_ok {F : Fr} {s : St} {a : Act} {w : World} {Γ : HF} {rcs : List (Nat × RC)} {h : HF} (g : Good F s a w Γ rcs h) {t : Nat} (hB : ∀ e ∈ F.B, ∀ id ∈ ownIds1 s t, e.id ≠ some id) : ∃ rcs' h', Good F (own1 s t) a w Γ rcs' h' := by
 unfold own1
 split
 ·rename_i id hl
  split
  ·rename_i b K x hc
   split
   ·rename_i hn
    obtain ⟨r, hr, hck⟩ := look_rc g hc
    obtain ⟨rb, K', x', z⟩ := r
    simp only [RC.ck, Ck.mk.injEq] at hck
    obtain ⟨c1, rfl, c3⟩ := hck
    obtain rfl := eq_of_heq c3
    obtain ⟨v, hv, hi⟩ := g.tm t _ (look_mem hl)
    obtain ⟨r0, q, hr0, hp, hvv⟩ := hi
    rw [hr] at hr0
    injection hr0 with hr0
    subst hr0
    simp only [pl, Option.some.injEq] at hp
    subst hp
    obtain ⟨h', g'⟩ := g.swap (t := t) (rn := ⟨none, K', x', z⟩) hr rfl (by unfold oid; omega) (look_no g hn) (fun h1 o => (rc_own o).imp fun h2 q => q) hv hvv (fun e he => hB e he id (by simp [ownIds1, hl]))
    exact ⟨_, h', g'⟩
   ·exact ⟨rcs, h, g⟩
  ·exact ⟨rcs, h, g⟩
 ·rename_i id p0 p hl
  split
  ·rename_i Kc s' hd
   obtain ⟨v, hv, hi⟩ := g.tm t _ (look_mem hl)
   obtain ⟨rcs', g', h1, _, _⟩ := detach_ok g hd (by unfold oid; omega) hi
   exact ⟨rcs', h, g'.cons (av := .one _) hv h1⟩
  ·exact ⟨rcs, h, g⟩
 ·rename_i id off len hl
  obtain ⟨v, hv, hi⟩ := g.tm t _ (look_mem hl)
  exact winS_ok g hv hi
 ·rename_i id p0 p off len hl
  split
  ·rename_i Kc s' hd
   obtain ⟨v, hv, hi⟩ := g.tm t _ (look_mem hl)
   obtain ⟨rcs', g', h1⟩ := detach_win g hd (by unfold oid2; omega) hi
   exact winS_ok (g'.cons (av := .one (.slc (oid2 t) [] off len)) hv h1) hv h1
  ·exact ⟨rcs, h, g⟩
 ·exact ⟨rcs, h, g⟩

def ownX (s : St) (t : Nat × Bool) : St := if t.2 then own1 s t.1 else match look s.tm t.1 with
 | some (.one (.slc _ _ _ _)) => own1 s t.1
 | _ => s
theorem ownX_ok {F : Fr} {s : St} {a : Act} {w : World} {Γ : HF} {rcs : List (Nat × RC)} {h : HF} (g : Good F s a w Γ rcs h) {t : Nat × Bool} (hB : ∀ e ∈ F.B, ∀ id ∈ ownIds1 s t.1, e.id ≠ some id) : ∃ rcs' h', Good F (ownX s t) a w Γ rcs' h' := by
 unfold ownX
 split
 ·exact own1_ok g hB
 ·split
  ·exact own1_ok g hB
  ·exact ⟨rcs, h, g⟩
def opT : Operand → List Nat
 | .tmp t => [t]
 | _ => []
def eats (o : Oper) : List (Nat × Bool) := match o.op with
 | .store _ _ y => (opT y).map (·, true)
 | .box _ x => (opT x).map (·, true)
 | .build _ parts => parts.toList.flatMap fun x => (opT x.2).map (·, true)
 | .buildSlice _ _ parts => parts.toList.flatMap fun x => (opT x.2).map (·, true)
 | .call c => match c.callee, c.args.toList with
  | .builtin .append, x :: _ => (opT x).map (·, false)
  | _, _ => []
 | _ => []
def ownAll : List (Nat × Bool) → St → St
 | [], s => s
 | t :: l, s => ownAll l (ownX s t)
def ownIds : List (Nat × Bool) → St → List Nat
 | [], s => []
 | t :: l, s => ownIds1 s t.1 ++ ownIds l (ownX s t)
theorem ownAll_ok {F : Fr} {a : Act} {w : World} {Γ : HF} : ∀ {l : List (Nat × Bool)} {s : St} {rcs : List (Nat × RC)} {h : HF}, Good F s a w Γ rcs h → (∀ e ∈ F.B, ∀ id ∈ ownIds l s, e.id ≠ some id) → ∃ rcs' h', Good F (ownAll l s) a w Γ rcs' h'
 | [], s, rcs, h, g, _ => ⟨rcs, h, g⟩
 | t :: l, s, rcs, h, g, hB => by
  obtain ⟨rcs', h', g'⟩ := ownX_ok g (t := t) fun e he id hid => hB e he id (List.mem_append_left _ hid)
  exact ownAll_ok (l := l) (s := ownX s t) g' fun e he id hid => hB e he id (List.mem_append_right _ hid)
def effL (l : List (Nat × Bool)) (s : St) : List Nat := l.flatMap fun t => ownIds1 s t.1
def subB (l m : List Nat) : Bool := l.all fun x => m.contains x
theorem subB_ok {l m : List Nat} (h : subB l m = true) : ∀ x ∈ l, x ∈ m := fun x hx => by
 have := List.all_eq_true.1 h x hx
 simpa using this
theorem Eff.less {b b' : Bool} {l l' : List Nat} {B : List Ent} (h : (Eff.mk b l).ok B) (hb : b = true → b' = true) (hs : ∀ x ∈ l', x ∈ l) : (Eff.mk b' l').ok B := fun x hx => by
 have := h x hx
 cases hi : x.id with
 | none => rw [hi] at this; exact hb this
 | some id => rw [hi] at this; exact fun f => this (hs _ f)
def eatT (l : List (Nat × Bool)) (s : St) (e : Eff) (f : St → Eff) (g : St → Tr α) : Tr α := if subB (ownIds l s) (effL l s) && (f (ownAll l s)).ids.all (fun x => e.ids.contains x || isBare (ownAll l s) x) && ((f (ownAll l s)).all || !e.all) then g (ownAll l s) else .bad
theorem eat_ok {P : Program} {F : Fr} {o : Oper} {l : List (Nat × Bool)} {s : St} {e : Eff} {f : St → Eff} {g : St → Tr α} {k : St → Tr α} (h : ∀ s', WorldOK P F o s' (g s') k (f s')) : WorldOK P F o s (eatT l s e f g) k ⟨e.all, e.ids ++ effL l s⟩ := fun K a w Γ rcs hh Q gd he ht => by
 unfold eatT at ht
 split at ht
 ·rename_i hc
  rw [Bool.and_eq_true, Bool.and_eq_true] at hc
  have h1 := subB_ok hc.1.1
  have h2 := List.all_eq_true.1 hc.1.2
  have h3 := hc.2
  obtain ⟨rcs', h', g'⟩ := ownAll_ok gd (l := l) fun e hm id hid f => by
   have := he e hm
   rw [f] at this
   exact this (List.mem_append_right _ (h1 _ hid))
  refine h (ownAll l s) K a w Γ rcs' h' Q g' ?_ ht
  intro x hx
  have he' := he x hx
  cases hi : x.id with
  | none =>
   rw [hi] at he'
   have he'' : e.all = true := he'
   simp only [he''] at h3
   simpa using h3
  | some id =>
   rw [hi] at he'
   intro hm
   have h4 := h2 id hm
   rw [Bool.or_eq_true] at h4
   rcases h4 with h4 | h4
   ·exact he' (List.mem_append_left _ (by simpa using h4))
   ·obtain ⟨r, t, hr, hb⟩ := (g'.bx x hx).2 id hi
    unfold isBare at h4
    rw [← g'.ck, look_mapC, hr] at h4
    obtain ⟨rb, rK, rx, rz⟩ := r
    simp only at hb
    subst hb
    simp [RC.ck] at h4
 ·exact ht.elim
theorem effL_setB {s : St} {t : Nat} {b : Bool} (hl : ∀ t', look (s.setB t b).tm t' = look s.tm t') (l : List (Nat × Bool)) : effL l (s.setB t b) = effL l s := by
 unfold effL
 have : ownIds1 (s.setB t b) = ownIds1 s := funext fun t' => by unfold ownIds1; rw [hl]
 rw [this]
def zipEats : List Par → List Ar → List (Nat × Bool)
 | .own _ :: ps, .op x :: ar => (opT x).map (·, true) ++ zipEats ps ar
 | _ :: ps, _ :: ar => zipEats ps ar
 | _, _ => []
def callEats (cfg : Nat → Option Spec) (s : St) (c : Call) : List (Nat × Bool) := match calleeOf s c with
 | some (f, ids, pre) => match cfg f with
  | some sp => zipEats sp.ps (ars c ids pre)
  | none => []
 | none => []
def argIds2 (s : St) : List Par → List Ar → List Nat
 | .val _ :: ps, _ :: ar => argIds2 s ps ar
 | _ :: ps, .cap id :: ar => id :: argIds2 s ps ar
 | .own _ :: ps, .op x :: ar => (match opo s x with
  | some (.at id []) => [id]
  | some (.ptr id _) => [id]
  | some (.clo _ ids) => ids
  | _ => []) ++ argIds2 s ps ar
 | _ :: ps, .op x :: ar => (match opo s x with
  | some (.at id _) => [id]
  | some (.ptr id _) => [id]
  | some (.clo _ ids) => ids
  | _ => []) ++ argIds2 s ps ar
 | _ :: ps, .bv _ _ :: ar => argIds2 s ps ar
 | _, _ => []
def effCall2 (cfg : Nat → Option Spec) (s : St) (c : Call) (dst : Option Nat) : Eff := match calleeOf s c with
 | some (f, ids, pre) => match cfg f with
  | some sp => ⟨(argIds s sp.ps (ars c ids pre)).isEmpty, argIds2 s sp.ps (ars c ids pre) ++ rids (dst.getD 0) sp.rs.length⟩
  | none => ⟨false, []⟩
 | none => ⟨false, []⟩
end Go.Proofs.YtibammoednhnoaaE

