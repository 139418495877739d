/- The engine, part 34: shapes of a frame (what stands at the head of a loop). Conditions: none. -/
import Derived.Test.YtibammoednhnoaaE33
set_option linter.unusedVariables false
set_option linter.unusedSimpArgs false
namespace Go.Proofs.YtibammoednhnoaaE
open Kd
variable {α : Type}

inductive TS where
 | val (K : Kd)
 | ptr (id : Nat) (p : List Sel)
 | at (id : Nat) (p : List Sel)
 | slc (id : Nat) (p : List Sel)
 | eptr (K : Kd)
 | nilS | nilP
 | clo (f : Nat) (ids : List Nat)
 | bnd (f : Nat) (K : Kd)
@[reducible] def VT : List (Nat × TS) → Type
 | [] => Unit
 | (_, .val K) :: l => K.T × VT l
 | (_, .eptr K) :: l => K.T × VT l
 | (_, .bnd _ K) :: l => K.T × VT l
 | (_, .slc _ _) :: l => (Nat × Nat) × VT l
 | (_, .ptr _ _) :: l | (_, .at _ _) :: l | (_, .nilS) :: l | (_, .nilP) :: l | (_, .clo _ _) :: l => VT l
@[reducible] def VC : List (Nat × Option TypeId × Kd) → Type
 | [] => Unit
 | (_, _, K) :: l => K.T × VC l
structure Shape where
 /-- Slices that get a name: the temporary, its kind. -/
 ren : List (Nat × Kd)
 tms : List (Nat × TS)
 cks : List (Nat × Option TypeId × Kd)
@[reducible] def Shape.V (sh : Shape) : Type := VT sh.tms × VC sh.cks
def tmSt : (l : List (Nat × TS)) → VT l → List (Nat × AV)
 | [], _ => []
 | (t, .val K) :: l, v => (t, .one (.val K v.1)) :: tmSt l v.2
 | (t, .eptr K) :: l, v => (t, .one (.eptr K v.1)) :: tmSt l v.2
 | (t, .bnd f K) :: l, v => (t, .one (.bnd f K v.1)) :: tmSt l v.2
 | (t, .slc id p) :: l, v => (t, .one (.slc id p v.1.1 v.1.2)) :: tmSt l v.2
 | (t, .ptr id p) :: l, v => (t, .one (.ptr id p)) :: tmSt l v
 | (t, .at id p) :: l, v => (t, .one (.at id p)) :: tmSt l v
 | (t, .nilS) :: l, v => (t, .one .nilS) :: tmSt l v
 | (t, .nilP) :: l, v => (t, .one .nilP) :: tmSt l v
 | (t, .clo f ids) :: l, v => (t, .one (.clo f ids)) :: tmSt l v
def ckSt : (l : List (Nat × Option TypeId × Kd)) → VC l → List (Nat × Ck)
 | [], _ => []
 | (id, b, K) :: l, v => (id, ⟨b, K, v.1⟩) :: ckSt l v.2
def Shape.st (sh : Shape) (v : sh.V) : St := ⟨tmSt sh.tms v.1, ckSt sh.cks v.2⟩

def ownId (t : Nat) : Nat := 2000000 + t
def renOne (t : Nat) (K : Kd) (s : St) : Option St := match look s.tm t with
 | some (.one (.at id' [])) => match ckAt s id' none K with
  | some x => if id' = ownId t then some s else some ⟨(t, .one (.at (ownId t) [])) :: s.tm.filter fun y => y.1 != t && (offA id' y.2 && offA (ownId t) y.2), (ownId t, ⟨none, K, x⟩) :: del (del s.ck id') (ownId t)⟩
  | none => none
 | some (.one .nilS) => match nilK K with
  | some x => some ⟨(t, .one (.at (ownId t) [])) :: s.tm.filter fun y => y.1 != t && offA (ownId t) y.2, (ownId t, ⟨none, K, x⟩) :: del s.ck (ownId t)⟩
  | none => none
 | _ => none
def renAll : List (Nat × Kd) → St → Option St
 | [], s => some s
 | (t, K) :: l, s => match renOne t K s with
  | some s' => renAll l s'
  | none => none
def idsEq : List Nat → List Nat → Bool
 | [], [] => true
 | x :: l, y :: m => x == y && idsEq l m
 | _, _ => false
theorem idsEq_eq : ∀ {l m : List Nat}, idsEq l m = true → l = m
 | [], [], _ => rfl
 | x :: l, y :: m, h => by
  simp only [idsEq, Bool.and_eq_true, beq_iff_eq] at h
  rw [h.1, idsEq_eq h.2]
def getTm : (l : List (Nat × TS)) → St → Option (VT l)
 | [], _ => some ()
 | (t, .val K) :: l, s => match look s.tm t with
  | some (.one (.val K' x)) => if h : K' = K then (match getTm l s with
   | some v => some (castK h x, v)
   | none => none) else none
  | some (.one .nilS) => match nilK K with
   | some x => if K.free then (match getTm l s with
    | some v => some (x, v)
    | none => none) else none
   | none => none
  | _ => none
 | (t, .eptr K) :: l, s => match look s.tm t with
  | some (.one (.eptr K' x)) => if h : K' = K then (match getTm l s with
   | some v => some (castK h x, v)
   | none => none) else none
  | _ => none
 | (t, .bnd f K) :: l, s => match look s.tm t with
  | some (.one (.bnd f' K' x)) => if h : K' = K then (if f' = f then (match getTm l s with
   | some v => some (castK h x, v)
   | none => none) else none) else none
  | _ => none
 | (t, .slc id p) :: l, s => match look s.tm t with
  | some (.one (.slc id' p' off len)) => if id' = id ∧ selEq p' p = true then (match getTm l s with
   | some v => some ((off, len), v)
   | none => none) else none
  | _ => none
 | (t, .ptr id p) :: l, s => match look s.tm t with
  | some (.one (.ptr id' p')) => if id' = id ∧ selEq p' p = true then getTm l s else none
  | _ => none
 | (t, .at id p) :: l, s => match look s.tm t with
  | some (.one (.at id' p')) => if id' = id ∧ selEq p' p = true then getTm l s else none
  | _ => none
 | (t, .nilS) :: l, s => match look s.tm t with
  | some (.one .nilS) => getTm l s
  | _ => none
 | (t, .nilP) :: l, s => match look s.tm t with
  | some (.one .nilP) => getTm l s
  | _ => none
 | (t, .clo f ids) :: l, s => match look s.tm t with
  | some (.one (.clo f' ids')) => if f' = f ∧ idsEq ids' ids = true then getTm l s else none
  | _ => none
def getCk : (l : List (Nat × Option TypeId × Kd)) → St → Option (VC l)
 | [], _ => some ()
 | (id, b, K) :: l, s => match ckAt s id b K with
  | some x => (match getCk l s with
   | some v => some (x, v)
   | none => none)
  | none => none
def TS.ids : TS → List Nat
 | .ptr id _ | .at id _ | .slc id _ => [id]
 | .clo _ ids => ids
 | _ => []
def Shape.fine (sh : Shape) : Bool := nodupB (sh.cks.map (·.1)) && sh.tms.all fun y => y.2.ids.all fun id => (sh.cks.map (·.1)).contains id
def Shape.enter (sh : Shape) (s : St) : Option sh.V := match renAll sh.ren s with
 | some s' => if sh.fine then (match getTm sh.tms s' with
  | some v => (match getCk sh.cks s' with
   | some c => some (v, c)
   | none => none)
  | none => none) else none
 | none => none

theorem renOne_ok {F : Fr} (hB : F.B = []) {t : Nat} {K : Kd} {s s' : St} {a : Act} {w : World} (r : R F s a w) (h : renOne t K s = some s') : R F s' a w := by
 obtain ⟨Γ, rcs, hh, g⟩ := r
 unfold renOne at h
 have hM6 : ∀ m ∈ F.M, m.1 ≠ ownId t := fun m hm e => by
  have := (F.hM m hm).2
  unfold ownId at e
  omega
 have build : ∀ (x : K.T) (z : K.Z) (h1 h2 : HF) (rcs1 : List (Nat × RC)) (v : Value) (tm : List (Nat × AV)), a.tmps[t]? = some v → v = toV K (K.cells x z) → K.Own Γ x z h1 → HF.dj h1 h2 → (∀ b y, (h1.un h2) b = some y → hh b = some y) → Star Γ rcs1 h2 → (rcs1.map (·.1)).Nodup → (∀ n r, look rcs1 n = some r → look rcs n = some r) →
   (∀ y ∈ tm, ∃ u, a.tmps[y.1]? = some u ∧ y.2.is Γ rcs1 u ∧ offA (ownId t) y.2 = true) → R F ⟨(t, .one (.at (ownId t) [])) :: tm, (ownId t, ⟨none, K, x⟩) :: del (rcs1.map fun r => (r.1, r.2.ck)) (ownId t)⟩ a w := by
  intro x z h1 h2 rcs1 v tm hv hvv ho hd hsub st nd hL htm
  obtain ⟨h3, st3, sub3⟩ := star_del st nd (ownId t)
  have d3 : HF.dj h1 h3 := HF.dj_iff.2 fun b hb hx => HF.dj_iff.1 hd b hb (has_sub sub3 b hx)
  have hs3 : ∀ b y, (h1.un h3) b = some y → hh b = some y := fun b y e => hsub b y (un_mono hd (fun _ _ e => e) sub3 b y e)
  refine ⟨Γ, (ownId t, ⟨none, K, x, z⟩) :: del rcs1 (ownId t), h1.un h3, ?_, ?_, ⟨h1, h3, d3, rfl, by simpa only [RC.Own] using ho, st3⟩, g.mem.mono hs3, g.memR, ?_, g.defers, g.tsz, ?_, g.size, g.keep, fun b hb => g.own b (has_sub hs3 b hb), g.ro, g.ro0, g.os, g.tape, g.output, g.sg, ?_, ?_⟩
  ·simp only [List.map_cons, List.cons.injEq, true_and, del, List.filter_map]
   exact ⟨rfl, rfl⟩
  ·rw [List.map_cons, List.nodup_cons]
   exact ⟨del_not _ _, del_nodup nd _⟩
  ·exact HF.dj_iff.2 fun b hb hx => HF.dj_iff.1 g.dj b hb (has_sub hs3 b hx)
  ·intro t' av hm
   rcases List.mem_cons.1 hm with e | e
   ·injection e with e1 e2
    subst e1; subst e2
    exact ⟨v, hv, ⟨none, K, x, z⟩, ⟨K, x, z, (0, 0)⟩, by simp [look], by simp [pl], hvv⟩
   ·obtain ⟨u, hu, hi, ho⟩ := htm _ e
    exact ⟨u, hu, cons_is ho (offA_is ho hi)⟩
  ·intro e he; rw [hB] at he; cases he
  ·intro m hm r hr
   rw [look_cons_ne (hM6 m hm)] at hr
   exact g.md m hm r (hL _ _ hr)
 split at h
 ·rename_i id' hl
  split at h
  ·rename_i x hx
   split at h
   ·injection h with h; subst h; exact ⟨Γ, rcs, hh, g⟩
   ·injection h with h
    subst h
    obtain ⟨z, h1, hr, e1, d, rfl, o, u2⟩ := g.sub.drop (ckAt_look hx)
    obtain ⟨v, hv, hi⟩ := g.tm t _ (look_mem hl)
    obtain ⟨r0, q, hr0, hp, hvv⟩ := hi
    rw [e1] at hr0
    injection hr0 with hr0
    subst hr0
    simp only [pl, Option.some.injEq] at hp
    subst hp
    have hck : del s.ck id' = (del rcs id').map fun r => (r.1, r.2.ck) := u2.ck
    rw [hck]
    refine build x z h1 hr (del rcs id') v _ hv hvv o d (fun _ _ e => e) u2.st u2.nd (del_look rcs id') ?_
    intro y hy
    obtain ⟨y1, y2⟩ := List.mem_filter.1 hy
    simp only [Bool.and_eq_true] at y2
    obtain ⟨u, hu, hi⟩ := g.tm y.1 y.2 y1
    exact ⟨u, hu, offA_is y2.2.1 hi, y2.2.2⟩
  ·cases h
 ·rename_i hl
  split at h
  ·rename_i x hx
   injection h with h
   subst h
   obtain ⟨v, hv, hi⟩ := g.tm t _ (look_mem hl)
   obtain ⟨n1, n2, n3, _⟩ := nilK_own (Γ := Γ) hx
   have := build x K.zd HF.emp hh rcs v (s.tm.filter fun y => y.1 != t && offA (ownId t) y.2) hv (by rw [n2]; simp only [toV, n3, if_true, List.getD_cons_zero]; exact hi) n1 (HF.emp_dj _) (by rw [HF.emp_un]; exact fun _ _ e => e) g.star g.nodup (fun _ _ e => e) (fun y hy => by
    obtain ⟨y1, y2⟩ := List.mem_filter.1 hy
    simp only [Bool.and_eq_true] at y2
    obtain ⟨u, hu, hi⟩ := g.tm y.1 y.2 y1
    exact ⟨u, hu, hi, y2.2⟩)
   rw [g.ck] at this
   exact this
  ·cases h
 ·cases h
theorem renAll_ok {F : Fr} (hB : F.B = []) {a : Act} {w : World} : ∀ {l : List (Nat × Kd)} {s s' : St}, R F s a w → renAll l s = some s' → R F s' a w
 | [], s, s', r, h => by simp only [renAll, Option.some.injEq] at h; subst h; exact r
 | (t, K) :: l, s, s', r, h => by
  simp only [renAll] at h
  split at h
  ·rename_i s1 h1
   exact renAll_ok hB (renOne_ok hB r h1) h
  ·cases h
theorem getTm_ok {F : Fr} {s : St} {a : Act} {w : World} {Γ : HF} {rcs : List (Nat × RC)} {h : HF} (g : Good F s a w Γ rcs h) : ∀ {l : List (Nat × TS)} {v : VT l}, getTm l s = some v → ∀ y ∈ tmSt l v, ∃ u, a.tmps[y.1]? = some u ∧ y.2.is Γ rcs u ∧ ∃ ts, (y.1, ts) ∈ l ∧ ∀ id, (offA id y.2 = true ∨ id ∈ ts.ids)
 | [], v, h, y, hy => by cases hy
 | (t, ts) :: l, v, h, y, hy => by
  have tl : ∀ {v' : VT l}, getTm l s = some v' → y ∈ tmSt l v' → ∃ u, a.tmps[y.1]? = some u ∧ y.2.is Γ rcs u ∧ ∃ ts', (y.1, ts') ∈ (t, ts) :: l ∧ ∀ id, (offA id y.2 = true ∨ id ∈ ts'.ids) := fun h1 h2 => by
   obtain ⟨u, q1, q2, ts', q3, q4⟩ := getTm_ok g h1 y h2
   exact ⟨u, q1, q2, ts', List.mem_cons_of_mem _ q3, q4⟩
  have hd : ∀ {av : AV}, look s.tm t = some av → y = (t, av) → (∀ id, (offA id av = true ∨ id ∈ ts.ids)) → ∃ u, a.tmps[y.1]? = some u ∧ y.2.is Γ rcs u ∧ ∃ ts', (y.1, ts') ∈ (t, ts) :: l ∧ ∀ id, (offA id y.2 = true ∨ id ∈ ts'.ids) := fun h1 h2 h3 => by
   subst h2
   obtain ⟨u, q1, q2⟩ := g.tm t _ (look_mem h1)
   exact ⟨u, q1, q2, ts, List.mem_cons_self, h3⟩
  cases ts with
  | val K =>
   simp only [getTm] at h
   split at h
   ·rename_i K' x hl
    split at h
    ·rename_i hK
     subst hK
     split at h
     ·rename_i v' hv'
      injection h with h
      subst h
      rcases List.mem_cons.1 hy with e | e
      ·exact hd hl e (fun id => .inl rfl)
      ·exact tl hv' e
     ·cases h
    ·cases h
   ·rename_i hl
    split at h
    ·rename_i x hx
     split at h
     ·rename_i hf
      split at h
      ·rename_i v' hv'
       injection h with h
       subst h
       rcases List.mem_cons.1 hy with e | e
       ·subst e
        obtain ⟨u, q1, q2⟩ := g.tm t _ (look_mem hl)
        obtain ⟨n1, n2, n3, _⟩ := nilK_own (Γ := Γ) hx
        refine ⟨u, q1, ⟨hf, K.zd, n1, ?_⟩, .val K, List.mem_cons_self, fun id => .inl rfl⟩
        show u = toV K (K.cells x K.zd)
        rw [n2]
        simp only [toV, n3, if_true, List.getD_cons_zero]
        exact q2
       ·exact tl hv' e
      ·cases h
     ·cases h
    ·cases h
   ·cases h
  | eptr K =>
   simp only [getTm] at h
   split at h
   ·rename_i K' x hl
    split at h
    ·rename_i hK
     subst hK
     split at h
     ·rename_i v' hv'
      injection h with h
      subst h
      rcases List.mem_cons.1 hy with e | e
      ·exact hd hl e (fun id => .inl rfl)
      ·exact tl hv' e
     ·cases h
    ·cases h
   ·cases h
  | bnd f K =>
   simp only [getTm] at h
   split at h
   ·rename_i f' K' x hl
    split at h
    ·rename_i hK
     subst hK
     split at h
     ·rename_i hff
      subst hff
      split at h
      ·rename_i v' hv'
       injection h with h
       subst h
       rcases List.mem_cons.1 hy with e | e
       ·exact hd hl e (fun id => .inl rfl)
       ·exact tl hv' e
      ·cases h
     ·cases h
    ·cases h
   ·cases h
  | slc id p =>
   simp only [getTm] at h
   split at h
   ·rename_i id' p' off len hl
    split at h
    ·rename_i hc
     obtain ⟨rfl, hp⟩ := hc
     split at h
     ·rename_i v' hv'
      injection h with h
      subst h
      rcases List.mem_cons.1 hy with e | e
      ·exact hd hl (by rw [e, selEq_eq hp]) (fun id => by
        by_cases q : id' = id
        ·right; simp [TS.ids, q]
        ·left; simpa [offA, offS] using q)
      ·exact tl hv' e
     ·cases h
    ·cases h
   ·cases h
  | ptr id p =>
   simp only [getTm] at h
   split at h
   ·rename_i id' p' hl
    split at h
    ·rename_i hc
     obtain ⟨rfl, hp⟩ := hc
     rcases List.mem_cons.1 hy with e | e
     ·exact hd hl (by rw [e, selEq_eq hp]) (fun id => by
        by_cases q : id' = id
        ·right; simp [TS.ids, q]
        ·left; simpa [offA, offS] using q)
     ·exact tl h e
    ·cases h
   ·cases h
  | «at» id p =>
   simp only [getTm] at h
   split at h
   ·rename_i id' p' hl
    split at h
    ·rename_i hc
     obtain ⟨rfl, hp⟩ := hc
     rcases List.mem_cons.1 hy with e | e
     ·exact hd hl (by rw [e, selEq_eq hp]) (fun id => by
        by_cases q : id' = id
        ·right; simp [TS.ids, q]
        ·left; simpa [offA, offS] using q)
     ·exact tl h e
    ·cases h
   ·cases h
  | nilS =>
   simp only [getTm] at h
   split at h
   ·rename_i hl
    rcases List.mem_cons.1 hy with e | e
    ·exact hd hl e (fun id => .inl rfl)
    ·exact tl h e
   ·cases h
  | nilP =>
   simp only [getTm] at h
   split at h
   ·rename_i hl
    rcases List.mem_cons.1 hy with e | e
    ·exact hd hl e (fun id => .inl rfl)
    ·exact tl h e
   ·cases h
  | clo f ids =>
   simp only [getTm] at h
   split at h
   ·rename_i f' ids' hl
    split at h
    ·rename_i hc
     obtain ⟨rfl, hp⟩ := hc
     rcases List.mem_cons.1 hy with e | e
     ·exact hd hl (by rw [e, idsEq_eq hp]) (fun id => by
        rw [idsEq_eq hp]
        by_cases q : id ∈ ids
        ·right; exact q
        ·left; simpa [offA, offS] using q)
     ·exact tl h e
    ·cases h
   ·cases h
theorem getCk_ok {F : Fr} {a : Act} {Γ : HF} {s0 : St} : ∀ {l : List (Nat × Option TypeId × Kd)} {v : VC l} {s : St} {rcs : List (Nat × RC)} {h : HF}, Sub F s a Γ rcs h → (l.map (·.1)).Nodup → (∀ y ∈ l, look s.ck y.1 = look s0.ck y.1) → getCk l s0 = some v →
  ∃ rcs' h', rcs'.map (fun r => (r.1, r.2.ck)) = ckSt l v ∧ Star Γ rcs' h' ∧ (∀ b x, h' b = some x → h b = some x) ∧ ∀ y ∈ rcs', look rcs y.1 = some y.2
 | [], v, s, rcs, h, u, nd, hs, e => ⟨[], HF.emp, rfl, rfl, fun b x q => by simp [HF.emp] at q, fun y hy => by cases hy⟩
 | (id, b, K) :: l, v, s, rcs, h, u, nd, hs, e => by
  simp only [getCk] at e
  split at e
  ·rename_i x hx
   split at e
   ·rename_i v' hv'
    injection e with e
    subst e
    rw [List.map_cons, List.nodup_cons] at nd
    have hl : look s.ck id = some ⟨b, K, x⟩ := by rw [hs _ List.mem_cons_self]; exact ckAt_look hx
    obtain ⟨bb, z, h1, hr, e1, e2, d, rfl, o, u2⟩ := u.take hl
    obtain ⟨rcs', h', f1, f2, f3, f4⟩ := getCk_ok u2 nd.2 (fun y hy => by
     have hne : y.1 ≠ id := fun q => nd.1 (List.mem_map.2 ⟨y, hy, q⟩)
     rw [← hs y (List.mem_cons_of_mem _ hy)]
     exact look_del _ hne) hv'
    refine ⟨(id, ⟨bb, K, x, z⟩) :: rcs', h1.un h', ?_, ⟨h1, h', HF.dj_iff.2 fun b hb hx => HF.dj_iff.1 d b hb (has_sub f3 b hx), rfl, o, f2⟩, un_mono d (fun _ _ e => e) f3, ?_⟩
    ·rw [List.map_cons, f1]
     simp only [RC.ck, e1, ckSt]
    ·intro y hy
     rcases List.mem_cons.1 hy with q | q
     ·subst q; exact e2
     ·exact del_look rcs id _ _ (f4 y q)
   ·cases e
  ·cases e
theorem enter_ok {F : Fr} (hB : F.B = []) {sh : Shape} {s : St} {v : sh.V} {a : Act} {w : World} (r : R F s a w) (h : sh.enter s = some v) : R F (sh.st v) a w := by
 unfold Shape.enter at h
 split at h
 ·rename_i s1 h1
  obtain ⟨Γ, rcs, hh, g⟩ := renAll_ok hB r h1
  split at h
  ·rename_i hfine
   split at h
   ·rename_i v1 hv1
    split at h
    ·rename_i c hc
     injection h with h
     subst h
     simp only [Shape.fine, Bool.and_eq_true, List.all_eq_true] at hfine
     have nd := nodupB_ok hfine.1
     obtain ⟨rcs', h', f1, f2, f3, f4⟩ := getCk_ok (s0 := s1) g.sub nd (fun _ _ => rfl) hc
     have hkeys : rcs'.map (·.1) = sh.cks.map (·.1) := by
      have h2 : ∀ (l : List (Nat × Option TypeId × Kd)) (v : VC l), (ckSt l v).map (·.1) = l.map (·.1) := by
       intro l
       induction l with
       | nil => intro v; rfl
       | cons x l ih => intro v; obtain ⟨id, b, K⟩ := x; simp only [ckSt, List.map_cons, ih]
      rw [← h2 sh.cks c, ← f1, List.map_map]
      rfl
     have nd' : (rcs'.map (·.1)).Nodup := by rw [hkeys]; exact nd
     refine ⟨Γ, rcs', h', f1, nd', f2, g.mem.mono f3, g.memR, HF.dj_iff.2 fun b hb hx => HF.dj_iff.1 g.dj b hb (has_sub f3 b hx), g.defers, g.tsz, ?_, g.size, g.keep, fun b hb => g.own b (has_sub f3 b hb), g.ro, g.ro0, g.os, g.tape, g.output, g.sg, fun e he => (by rw [hB] at he; cases he), ?_⟩
     ·intro t av hm
      obtain ⟨u, q1, q2, ts, q3, q4⟩ := getTm_ok g hv1 (t, av) hm
      refine ⟨u, q1, ?_⟩
      refine ids_is (keys := []) (fun c hc => by cases hc) (rcs := rcs.filter fun y => (sh.cks.map (·.1)).contains y.1) ?_ ?_
      ·have key : ∀ (id : Nat), (sh.cks.map (·.1)).contains id = true ∨ offA id av = true := by
        intro id
        rcases q4 id with q | q
        ·exact .inr q
        ·exact .inl (hfine.2 _ q3 id q)
       -- only the named ones are spoken of
       have one : ∀ {sv : SV} {u : Value}, (∀ id, (sh.cks.map (·.1)).contains id = true ∨ offS id sv = true) → sv.is Γ rcs u → sv.is Γ (rcs.filter fun y => (sh.cks.map (·.1)).contains y.1) u := by
        intro sv u hk hi
        have lk : ∀ id, (sh.cks.map (·.1)).contains id = true → look (rcs.filter fun y => (sh.cks.map (·.1)).contains y.1) id = look rcs id := fun id hid => look_filter _ hid
        cases sv with
        | val K x => exact hi
        | eptr K x => exact hi
        | nilS => exact hi
        | nilP => exact hi
        | bnd f K x => exact hi
        | ptr i p => obtain ⟨r, q, hr, x⟩ := hi; exact ⟨r, q, by rw [lk i ((hk i).resolve_right (by simp [offS]))]; exact hr, x⟩
        | «at» i p => obtain ⟨r, q, hr, x⟩ := hi; exact ⟨r, q, by rw [lk i ((hk i).resolve_right (by simp [offS]))]; exact hr, x⟩
        | slc i p off len => obtain ⟨r, t, e, hole, x', z', a, hr, x⟩ := hi; exact ⟨r, t, e, hole, x', z', a, by rw [lk i ((hk i).resolve_right (by simp [offS]))]; exact hr, x⟩
        | clo f caps =>
         obtain ⟨vs, e, hl, hall⟩ := hi
         refine ⟨vs, e, hl, fun j id hj => ?_⟩
         obtain ⟨r, b, t, hr, x⟩ := hall j id hj
         refine ⟨r, b, t, ?_, x⟩
         rw [lk id ((hk id).resolve_right ?_)]
         ·exact hr
         ·simp [offS, List.mem_of_getElem? hj]
       cases av with
       | one sv => exact one key q2
       | tup l =>
        obtain ⟨vs, e, hl, hall⟩ := q2
        refine ⟨vs, e, hl, fun i s hs => ?_⟩
        obtain ⟨u', hu, h'⟩ := hall i s hs
        exact ⟨u', hu, one (fun i => (key i).imp (fun q => q) fun q => List.all_eq_true.1 q s (List.mem_of_getElem? hs)) h'⟩
      ·intro id r _ hr
       have hm2 := look_mem hr
       obtain ⟨m1, m2⟩ := List.mem_filter.1 hm2
       have hin : id ∈ rcs'.map (·.1) := by rw [hkeys]; simpa using m2
       obtain ⟨y, hy, hy2⟩ := List.mem_map.1 hin
       have e1 := f4 y hy
       rw [hy2] at e1
       have e2 : look rcs id = some r := look_of_mem g.nodup m1
       rw [e2] at e1
       injection e1 with e1
       exact look_of_mem nd' (by rw [← hy2, e1]; exact hy)
     ·intro m hm r hr
      exact g.md m hm r (f4 _ (look_mem hr))
    ·cases h
   ·cases h
  ·cases h
 ·cases h
end Go.Proofs.YtibammoednhnoaaE

