/- The engine, part 29: the arguments of a call. Conditions: none. -/
import Derived.Test.YtibammoednhnoaaE28
set_option linter.unusedVariables false
set_option linter.unusedSimpArgs false
namespace Go.Proofs.YtibammoednhnoaaE
open Kd
variable {α : Type}

inductive Ar where
 | op (x : Operand)
 | cap (id : Nat)
 | bv (K : Kd) (x : K.T)
def ArIs (a : Act) (rcs : List (Nat × RC)) : List Ar → List Value → Prop
 | [], vs => vs = []
 | .op x :: l, vs => ∃ vs', vs = a.eval x :: vs' ∧ ArIs a rcs l vs'
 | .cap id :: l, vs => ∃ vs' r b t, vs = .pointer (some ⟨b, 0, none⟩) :: vs' ∧ look rcs id = some r ∧ r.box = some (b, t) ∧ ArIs a rcs l vs'
 | .bv K x :: l, vs => ∃ vs' z, vs = toV K (K.cells x z) :: vs' ∧ K.free = true ∧ K.Own HF.emp x z HF.emp ∧ ArIs a rcs l vs'
structure Got where
 s : St
 l : List (Nat × Nat)
 cs : List (Nat × Nat)
 vw : List Nat
 tk : List Nat
def winAt (s : St) (id : Nat) (p : List Sel) (off len : Nat) (K : Kd) : Option K.T := match look s.ck id with
 | some c => match getP c.K c.x p with
  | some ⟨.sl true t e none, xs⟩ => if h : shr (.sl true t e none) = K ∧ noHole e = true then some (castS h.1 ((List.drop off xs).take len)) else none
  | _ => none
 | none => none
def viewAt (s : St) (id : Nat) (p : List Sel) (K : Kd) : Option K.T := match look s.ck id with
 | some c => match getP c.K c.x p with
  | some ⟨K', x⟩ => if h : shr K' = K ∧ noHole K' = true then some (castS h.1 x) else none
  | none => none
 | none => none
def boxView (s : St) (id : Nat) : (K : Kd) → Option K.T
 | .ep K1 => match look s.ck id with
  | some ⟨some _, K', x⟩ => if h : shr K' = K1 ∧ noHole K' = true then some (some (castS h.1 x)) else none
  | _ => none
 | _ => none
def arPtr (s : St) : Ar → Option (Nat × List Sel)
 | .op x => match opo s x with
  | some (.ptr id p) => some (id, p)
  | _ => none
 | .cap id => some (id, [])
 | .bv _ _ => none
def selEq : List Sel → List Sel → Bool
 | [], [] => true
 | .fst :: p, .fst :: q => selEq p q
 | .snd :: p, .snd :: q => selEq p q
 | _, _ => false
theorem selEq_eq : ∀ {p q : List Sel}, selEq p q = true → p = q
 | [], [], _ => rfl
 | .fst :: p, .fst :: q, h => by rw [selEq_eq (p := p) (q := q) h]
 | .snd :: p, .snd :: q, h => by rw [selEq_eq (p := p) (q := q) h]
def argsT : (ps : List Par) → List Ar → Nat → Got → (AT ps → Got → Tr α) → Tr α
 | [], [], _, g, k => k () g
 | .val K :: ps, .bv K' x :: ar, i, g, k => if h : K' = K then argsT ps ar (i + 1) g fun xs g' => k (castK h x, xs) g' else .bad
 | .val K :: ps, .op y :: ar, i, g, k => match opo g.s y with
  | some (.val K' x) => if h : K' = K then argsT ps ar (i + 1) g fun xs g' => k (castK h x, xs) g' else .bad
  | some .nilS => match nilK K with
   | some x => if K.free then argsT ps ar (i + 1) g fun xs g' => k (x, xs) g' else .bad
   | none => .bad
  | some (.at id p) => match viewAt g.s id p K with
   | some x => argsT ps ar (i + 1) { g with vw := id :: g.vw } fun xs g' => k (x, xs) g'
   | none => .bad
  | some (.slc id p off len) => match winAt g.s id p off len K with
   | some x => argsT ps ar (i + 1) { g with vw := id :: g.vw } fun xs g' => k (x, xs) g'
   | none => .bad
  | some (.ptr id []) => match boxView g.s id K with
   | some x => argsT ps ar (i + 1) { g with vw := id :: g.vw } fun xs g' => k (x, xs) g'
   | none => .bad
  | _ => .bad
 | .own K :: ps, .op y :: ar, i, g, k => match opo g.s y with
  | some (.at id []) => match ckAt g.s id none K with
   | some x => if g.vw.contains id then .bad else argsT ps ar (i + 1) { g with s := dropC g.s id, tk := id :: g.tk } fun xs g' => k (x, xs) g'
   | none => .bad
  | some .nilS => match nilK K with
   | some x => argsT ps ar (i + 1) g fun xs g' => k (x, xs) g'
   | none => .bad
  | _ => .bad
 | .mut K :: ps, .op y :: ar, i, g, k => match opo g.s y with
  | some (.at id []) => match ckAt g.s id none K with
   | some x => if g.vw.contains id then .bad else argsT ps ar (i + 1) { g with s := dropC g.s id, l := (i, id) :: g.l, tk := id :: g.tk } fun xs g' => k (x, xs) g'
   | none => .bad
  | _ => .bad
 | .ptr t K p :: ps, y :: ar, i, g, k => match arPtr g.s y with
  | some (id, p') => match ckAt g.s id (some t) K with
   | some x => if selEq p' p then (if g.vw.contains id then .bad else argsT ps ar (i + 1) { g with s := dropC g.s id, l := (i, id) :: g.l, tk := id :: g.tk } fun xs g' => k (x, xs) g') else .bad
   | none => .bad
  | none => .bad
 | .cap t K :: ps, ar, i, g, k => match look g.cs i with
  | some id => match ckAt g.s id (some t) K with
   | some x => if g.vw.contains id then .bad else argsT ps ar (i + 1) { g with s := dropC g.s id, l := (i, id) :: g.l, tk := id :: g.tk } fun xs g' => k (x, xs) g'
   | none => .bad
  | none => .bad
 | .clo f caps :: ps, .op y :: ar, i, g, k => match opo g.s y with
  | some (.clo f' ids) => if f' = f ∧ ids.length = caps.length then argsT ps ar (i + 1) { g with cs := caps.zip ids ++ g.cs } k else .bad
  | _ => .bad
 | _, _, _, _, _ => .bad

def lentAt (ps : List Par) (n : Nat) : Prop := match ps[n]? with
 | some (.mut _) | some (.ptr _ _ _) | some (.cap _ _) => True
 | _ => False
theorem lentAt_succ {p : Par} {ps : List Par} {n : Nat} (h : lentAt ps n) : lentAt (p :: ps) (n + 1) := by simpa [lentAt] using h
structure ArgsOK (F : Fr) (a : Act) (Γ : HF) (rcs rcs1 : List (Nat × RC)) (h1 : HF) (i : Nat) (ps : List Par) (vs : List Value) (g g' : Got) (xs : AT ps) (rcs' : List (Nat × RC)) (h' hL : HF) (Rl : List (Nat × RC)) : Prop where
 u : Sub F g'.s a Γ rcs' h'
 st : Star Γ Rl hL
 dj : HF.dj hL h'
 sub : ∀ b v, (hL.un h') b = some v → h1 b = some v
 subL : ∀ n r, look rcs' n = some r → look rcs1 n = some r
 stay : ∀ id ∈ g.vw, look rcs' id = look rcs1 id
 ck : Rl.map (fun y => (y.1, y.2.ck)) = entryCk i ps xs
 lent : ∀ x ∈ g'.l, x ∈ g.l ∨ (∃ r, look Rl x.1 = some r ∧ look rcs1 x.2 = some r) ∧ lentAt ps (x.1 - i)
 csub : ∀ x ∈ g.cs, x ∈ g'.cs
 vsub : ∀ x ∈ g.vw, x ∈ g'.vw
 taken : ∀ id, id ∉ g'.tk → look rcs' id = look rcs1 id
 tsub : ∀ x ∈ g.tk, x ∈ g'.tk
 tlen : g.tk.length ≤ g'.tk.length
 none : g'.tk.length = g.tk.length → hL = HF.emp
 entry : ∀ (G : HF) (RL : List (Nat × RC)), (∀ b v, Γ b = some v → G b = some v) → (g'.vw ≠ [] → ∀ b v, h' b = some v → G b = some v) → (∀ n r, look Rl n = some r → look RL n = some r) →
  (∀ x ∈ g'.cs, ∃ r, look RL x.1 = some r ∧ look rcs x.2 = some r) → Entry G RL i ps xs vs
theorem ck_ids {i : Nat} {ps : List Par} {xs : AT ps} {Rl : List (Nat × RC)} (h : Rl.map (fun y => (y.1, y.2.ck)) = entryCk i ps xs) {n : Nat} {r : RC} (hl : look Rl n = some r) : i ≤ n := by
 have h1 : n ∈ Rl.map (·.1) := List.mem_map.2 ⟨_, look_mem hl, rfl⟩
 have h2 : Rl.map (·.1) = (entryCk i ps xs).map (·.1) := by rw [← h, List.map_map]; rfl
 rw [h2] at h1
 exact ((entryCk_ids i ps xs).2 n h1).1
theorem look_hd {i : Nat} {rc : RC} {Rl : List (Nat × RC)} : look ((i, rc) :: Rl) i = some rc := by simp [look]
theorem look_tl {i n : Nat} {rc : RC} {Rl : List (Nat × RC)} (h : i ≠ n) : look ((i, rc) :: Rl) n = look Rl n := by
 simp only [look]; rw [if_neg (by simpa using h)]
section
variable {F : Fr} {a : Act} {Γ : HF} {rcs rcs1 : List (Nat × RC)} {h1 : HF} {i : Nat} {p : Par} {ps : List Par} {vs vs0 : List Value} {g g1 g' : Got} {xs : AT ps} {xs0 : AT (p :: ps)} {rcs' : List (Nat × RC)} {h' hL : HF} {Rl : List (Nat × RC)}
theorem ArgsOK.keep (A : ArgsOK F a Γ rcs rcs1 h1 (i + 1) ps vs g1 g' xs rcs' h' hL Rl) (hl : g1.l = g.l) (ht : g1.tk = g.tk) (hv : ∀ x ∈ g.vw, x ∈ g1.vw) (hc : ∀ x ∈ g.cs, x ∈ g1.cs)
  (hck : entryCk i (p :: ps) xs0 = entryCk (i + 1) ps xs)
  (hentry : ∀ (G : HF) (RL : List (Nat × RC)), (∀ b v, Γ b = some v → G b = some v) → (g'.vw ≠ [] → ∀ b v, h' b = some v → G b = some v) → (∀ x ∈ g'.cs, ∃ r, look RL x.1 = some r ∧ look rcs x.2 = some r) → Entry G RL (i + 1) ps xs vs → Entry G RL i (p :: ps) xs0 vs0) :
  ArgsOK F a Γ rcs rcs1 h1 i (p :: ps) vs0 g g' xs0 rcs' h' hL Rl :=
 ⟨A.u, A.st, A.dj, A.sub, A.subL, fun id hid => A.stay id (hv id hid), by rw [hck]; exact A.ck, fun x hx => by
  rw [← hl]
  refine (A.lent x hx).imp id fun ⟨⟨r, e1, e2⟩, e3⟩ => ⟨⟨r, e1, e2⟩, ?_⟩
  have := ck_ids A.ck e1
  rw [show x.1 - i = (x.1 - (i + 1)) + 1 by omega]
  exact lentAt_succ e3, fun x hx => A.csub x (hc x hx), fun x hx => A.vsub x (hv x hx), A.taken, by rw [← ht]; exact A.tsub, by rw [← ht]; exact A.tlen, by rw [← ht]; exact A.none,
  fun G RL h1 h2 h3 h4 => hentry G RL h1 h2 h4 (A.entry G RL h1 h2 h3 h4)⟩
theorem ArgsOK.nil (A : ArgsOK F a Γ rcs rcs1 h1 (i + 1) ps vs g g' xs rcs' h' hL Rl) {rc : RC} (ho : rc.Own Γ HF.emp)
  (hck : entryCk i (p :: ps) xs0 = (i, rc.ck) :: entryCk (i + 1) ps xs)
  (hentry : ∀ (G : HF) (RL : List (Nat × RC)), (∀ b v, Γ b = some v → G b = some v) → look RL i = some rc → Entry G RL (i + 1) ps xs vs → Entry G RL i (p :: ps) xs0 vs0) :
  ArgsOK F a Γ rcs rcs1 h1 i (p :: ps) vs0 g g' xs0 rcs' h' hL ((i, rc) :: Rl) :=
 ⟨A.u, ⟨HF.emp, hL, HF.emp_dj _, (HF.emp_un _).symm, ho, A.st⟩, A.dj, A.sub, A.subL, A.stay, by rw [hck, List.map_cons, A.ck],
  fun x hx => (A.lent x hx).imp id fun ⟨⟨r, e1, e2⟩, e3⟩ => ⟨⟨r, by rw [look_tl (by have := ck_ids A.ck e1; omega)]; exact e1, e2⟩, by
   have := ck_ids A.ck e1
   rw [show x.1 - i = (x.1 - (i + 1)) + 1 by omega]
   exact lentAt_succ e3⟩, A.csub, A.vsub, A.taken, A.tsub, A.tlen, A.none,
  fun G RL h1 h2 h3 h4 => hentry G RL h1 (h3 _ _ look_hd) (A.entry G RL h1 h2 (fun n r e => h3 n r (by rw [look_tl (by have := ck_ids A.ck e; omega)]; exact e)) h4)⟩
theorem ArgsOK.take {id : Nat} {rc : RC} {h2 hr : HF} (A : ArgsOK F a Γ rcs (del rcs1 id) hr (i + 1) ps vs g1 g' xs rcs' h' hL Rl) (hl : g1.l = g.l ∨ g1.l = (i, id) :: g.l ∧ lentAt (p :: ps) 0) (ht : g1.tk = id :: g.tk) (hv : g1.vw = g.vw) (hc : g1.cs = g.cs)
  (hnv : g.vw.contains id = false) (e2 : look rcs1 id = some rc) (d : HF.dj h2 hr) (e1 : h1 = h2.un hr) (ho : rc.Own Γ h2)
  (hck : entryCk i (p :: ps) xs0 = (i, rc.ck) :: entryCk (i + 1) ps xs)
  (hentry : ∀ (G : HF) (RL : List (Nat × RC)), (∀ b v, Γ b = some v → G b = some v) → look RL i = some rc → Entry G RL (i + 1) ps xs vs → Entry G RL i (p :: ps) xs0 vs0) :
  ArgsOK F a Γ rcs rcs1 h1 i (p :: ps) vs0 g g' xs0 rcs' h' (h2.un hL) ((i, rc) :: Rl) := by
 have dL : HF.dj h2 (hL.un h') := HF.dj_iff.2 fun b hb hx => HF.dj_iff.1 d b hb (has_sub A.sub b hx)
 obtain ⟨dL1, dL2⟩ := HF.dj_un.1 dL
 subst e1
 refine ⟨A.u, ⟨h2, hL, dL1, rfl, ho, A.st⟩, HF.un_dj.2 ⟨dL2, A.dj⟩, ?_, fun n r e => del_look rcs1 id n r (A.subL n r e), ?_, by rw [hck, List.map_cons, A.ck], ?_, fun x hx => A.csub x (by rw [hc]; exact hx), fun x hx => A.vsub x (by rw [hv]; exact hx), ?_, fun x hx => A.tsub x (by rw [ht]; exact List.mem_cons_of_mem _ hx), ?_, ?_, ?_⟩
 ·rw [HF.un_assoc]
  exact un_mono d (fun _ _ e => e) A.sub
 ·intro id' hid
  have hne : id' ≠ id := fun e => by
   subst e
   have : g.vw.contains id' = true := by simpa using hid
   rw [hnv] at this
   cases this
  rw [A.stay id' (by rw [hv]; exact hid), look_del _ hne]
 ·intro x hx
  rcases A.lent x hx with q | ⟨⟨r, q1, q2⟩, q3⟩
  ·rcases hl with hl | ⟨hl, hla⟩
   ·rw [hl] at q; exact .inl q
   ·rw [hl] at q
    rcases List.mem_cons.1 q with q | q
    ·subst q
     exact .inr ⟨⟨rc, look_hd, e2⟩, by simpa using hla⟩
    ·exact .inl q
  ·have := ck_ids A.ck q1
   refine .inr ⟨⟨r, by rw [look_tl (by omega)]; exact q1, del_look rcs1 id _ _ q2⟩, ?_⟩
   rw [show x.1 - i = (x.1 - (i + 1)) + 1 by omega]
   exact lentAt_succ q3
 ·intro id' hid
  have h3 := A.taken id' hid
  have hne : id' ≠ id := fun e => hid (A.tsub _ (by rw [ht, e]; exact List.mem_cons_self))
  rw [h3, look_del _ hne]
 ·have := A.tlen
  rw [ht, List.length_cons] at this
  omega
 ·intro q
  have := A.tlen
  rw [ht, List.length_cons] at this
  omega
 ·intro G RL h3 h4 h5 h6
  exact hentry G RL h3 (h5 _ _ look_hd) (A.entry G RL h3 h4 (fun n r e => h5 n r (by rw [look_tl (by have := ck_ids A.ck e; omega)]; exact e)) h6)
end

theorem win_own2 {Γ : HF} {t : TypeId} {e : Kd} {xs : List e.T} {b off cap l n : Nat} {zf : Nat → e.Z} (hf : e.free = true) (ho : (Kd.sl false t e none).Own Γ xs (some (b, off, cap), zf) HF.emp) (hl : l + n ≤ xs.length) :
  (Kd.sl false t e none).Own Γ ((xs.drop l).take n) (some (b, off + l * e.size, cap - l), fun i => zf (l + i)) HF.emp := by
 obtain ⟨c, h2, h1, h3, h4, hls, he, hd⟩ := ho
 simp only [Bool.false_eq_true, if_false] at hd
 have hlen : ((xs.drop l).take n).length = n := by rw [List.length_take, List.length_drop]; omega
 have hcl : l ≤ cap := by omega
 refine ⟨c, HF.emp, by rw [hlen]; omega, by omega, ?_, ?_, ?_, ?_⟩
 ·have h5 : l * e.size + (cap - l) * e.size = cap * e.size := by rw [← Nat.add_mul]; congr 1; omega
  omega
 ·intro i hi
  rw [hlen] at hi
  rw [getD_window hi, Nat.add_assoc, ← Nat.add_mul]
  exact hls (l + i) (by omega)
 ·rw [hlen]
  refine each_emp fun i hi => ?_
  rw [if_neg (by simp)]
  rw [getD_window hi]
  exact each_free hf rfl he (l + i) (by omega)
 ·simp only [Bool.false_eq_true, if_false]
  exact ⟨hd.1, trivial⟩
theorem boxView_ok {s : St} {id : Nat} {K : Kd} {x : K.T} {r : RC} {q : At} {v : Value} {Γ G h' : HF} {rcs' RL : List (Nat × RC)} (hx : boxView s id K = some x) (hr : look s.ck id = some r.ck) (hp : pl r.K r.x r.z [] ((r.box.getD (0, 0)).1, 0) = some q)
  (hv : v = .pointer (some ⟨q.a.1, q.a.2, none⟩)) (st : Star Γ rcs' h') (hr' : look rcs' id = some r) (hg : ∀ b v, Γ b = some v → G b = some v) (hh : ∀ b v, h' b = some v → G b = some v) : (SV.val K x).is G RL v := by
 cases K with
 | ep K1 =>
  simp only [boxView, hr] at hx
  obtain ⟨rb, K', x', z⟩ := r
  cases rb with
  | none => cases hx
  | some bt =>
  obtain ⟨b, t⟩ := bt
  simp only [RC.ck, Option.map_some] at hx
  split at hx
  ·rename_i hc
   obtain ⟨hK, hnh⟩ := hc
   subst hK
   injection hx with hx
   subst hx
   simp only [pl, Option.some.injEq] at hp
   subst hp
   obtain ⟨h3, h4, d, e4, o⟩ := star_take st hr'
   obtain ⟨c, h2, d2, e3, o2, hl⟩ := o
   have in3 : ∀ b v, h3 b = some v → h' b = some v := fun b v e => by rw [e4]; exact un_left e
   have in2 : ∀ b v, h2 b = some v → h' b = some v := fun b v e => in3 b v (by rw [e3]; exact un_right d2 e)
   obtain ⟨f1, f2⟩ := own_shr K' x' z h2 hnh o2 (fun b v e => e.elim (hg b v) fun e => hh b v (in2 b v e)) (castS rfl x') (cast (shr_Z K').symm z) (castS_heq x') (cast_heq _ _)
   refine ⟨shr_free _ hnh, (cast (shr_Z K').symm z, (b, 0)), ⟨rfl, f1, c, t, hh _ _ (in3 _ _ (by rw [e3]; exact one_self)), ?_⟩, hv⟩
   intro j hj
   show c[0 + j]? = _
   rw [f2, ← hl]
   simp
  ·cases hx
 | _ => cases hx
theorem argsT_ok {F : Fr} {a : Act} {w : World} {Γ : HF} {rcs : List (Nat × RC)} {Kp : α → Prop} : ∀ (ps : List Par) (ar : List Ar) (i : Nat) (g : Got) (rcs1 : List (Nat × RC)) (h1 : HF) (vs : List Value) {k : AT ps → Got → Tr α},
  Sub F g.s a Γ rcs1 h1 → (∀ n r, look rcs1 n = some r → look rcs n = some r) → ArIs a rcs ar vs → (argsT ps ar i g k).sat Kp →
  ∃ (xs : AT ps) (g' : Got) (rcs' : List (Nat × RC)) (h' hL : HF) (Rl : List (Nat × RC)), ArgsOK F a Γ rcs rcs1 h1 i ps vs g g' xs rcs' h' hL Rl ∧ (k xs g').sat Kp := by
 intro ps
 induction ps with
 | nil =>
  intro ar i g rcs1 h1 vs k u hL har hs
  cases ar with
  | nil =>
   exact ⟨(), g, rcs1, h1, HF.emp, [], ⟨u, rfl, HF.emp_dj _, by rw [HF.emp_un]; exact fun _ _ e => e, fun _ _ e => e, fun _ _ => rfl, rfl, fun x hx => .inl hx, fun _ e => e, fun _ e => e, fun _ _ => rfl, fun _ e => e, Nat.le_refl _, fun _ => rfl, fun G RL _ _ _ _ => har⟩, hs⟩
  | cons y ar => exact hs.elim
 | cons p ps ih =>
  intro ar i g rcs1 h1 vs k u hL har hs
  cases p with
  | val K =>
   cases ar with
   | nil => exact hs.elim
   | cons y ar =>
    cases y with
    | cap id => exact hs.elim
    | bv K' x' =>
     obtain ⟨vs', z, rfl, hfr, hown, har'⟩ := har
     simp only [argsT] at hs
     split at hs
     ·rename_i hK
      subst hK
      obtain ⟨xs, g', rcs', h', hL', Rl, A, hk⟩ := ih ar (i + 1) g rcs1 h1 vs' u hL har' hs
      exact ⟨(castK rfl x', xs), g', rcs', h', hL', Rl, A.keep rfl rfl (fun _ e => e) (fun _ e => e) rfl fun G RL hg _ _ he => ⟨_, _, rfl, ⟨hfr, z, own_mono (fun b v e => by cases e) hown, rfl⟩, he⟩, hk⟩
     ·exact hs.elim
    | op y =>
     obtain ⟨vs', rfl, har'⟩ := har
     simp only [argsT] at hs
     split at hs
     ·rename_i K' x hy
      split at hs
      ·rename_i hK
       subst hK
       have hi := u.opo_is hy (w := w)
       obtain ⟨xs, g', rcs', h', hL', Rl, A, hk⟩ := ih ar (i + 1) g rcs1 h1 vs' u hL har' hs
       exact ⟨(castK rfl x, xs), g', rcs', h', hL', Rl, A.keep rfl rfl (fun _ e => e) (fun _ e => e) rfl fun G RL hg _ _ he => ⟨_, _, rfl, SV.is_mono (s := .val K' x) hg hi, he⟩, hk⟩
      ·exact hs.elim
     ·rename_i hy
      split at hs
      ·rename_i x hx
       split at hs
       ·rename_i hf
        have hi : a.eval y = .slice none 0 0 := u.opo_is hy (w := w)
        obtain ⟨xs, g', rcs', h', hL', Rl, A, hk⟩ := ih ar (i + 1) g rcs1 h1 vs' u hL har' hs
        refine ⟨(x, xs), g', rcs', h', hL', Rl, A.keep rfl rfl (fun _ e => e) (fun _ e => e) rfl fun G RL hg _ _ he => ?_, hk⟩
        obtain ⟨n1, n2, n3, _⟩ := nilK_own (Γ := G) hx
        refine ⟨_, _, rfl, ⟨hf, K.zd, n1, ?_⟩, he⟩
        show _ = toV K (K.cells x K.zd)
        rw [n2, hi]
        simp only [toV, n3, if_true, List.getD_cons_zero]
       ·exact hs.elim
      ·exact hs.elim
     ·rename_i id pp hy
      split at hs
      ·rename_i x hx
       obtain ⟨r, q, hr, hp, hv⟩ := u.opo_is hy (w := w)
       obtain ⟨xs, g', rcs', h', hL', Rl, A, hk⟩ := ih ar (i + 1) { g with vw := id :: g.vw } rcs1 h1 vs' u hL har' hs
       refine ⟨(x, xs), g', rcs', h', hL', Rl, A.keep rfl rfl (fun _ e => List.mem_cons_of_mem _ e) (fun _ e => e) rfl fun G RL hg hh _ he => ⟨_, _, rfl, ?_, he⟩, hk⟩
       have hvw : g'.vw ≠ [] := List.ne_nil_of_mem (A.vsub id List.mem_cons_self)
       have hr' : look rcs' id = some r := by rw [A.stay id List.mem_cons_self]; exact hr
       unfold viewAt at hx
       rw [u.ck, look_map, hr] at hx
       simp only [Option.map_some, RC.ck] at hx
       rw [pl_get pp _ _ _ _ hp] at hx
       simp only at hx
       split at hx
       ·rename_i hcond
        obtain ⟨hK, hnh⟩ := hcond
        injection hx with hx
        subst hK
        subst hx
        obtain ⟨h3, h4, d, e4, o⟩ := star_take A.u.st hr'
        obtain ⟨h5, s5, o5⟩ := rc_own o
        obtain ⟨hq, s6, o6⟩ := own_pl pp _ _ _ _ _ o5 hp
        have hin : ∀ b v, hq b = some v → h' b = some v := fun b v e => by rw [e4]; exact un_left (s5 b v (s6 b v e))
        obtain ⟨f1, f2⟩ := own_shr q.K q.x q.z hq hnh o6 (fun b v e => e.elim (hg b v) fun e => hh hvw b v (hin b v e)) (castS rfl q.x) (cast (shr_Z q.K).symm q.z) (castS_heq q.x) (cast_heq _ _)
        refine ⟨shr_free _ hnh, _, f1, ?_⟩
        rw [hv, f2]
        unfold toV
        rw [shr_single]
       ·cases hx
      ·exact hs.elim
     ·rename_i id pp off len hy
      split at hs
      ·rename_i x hx
       obtain ⟨r, t1, e1, hole, x', z', qa, hr, hp, hle, hv⟩ := u.opo_is hy (w := w)
       obtain ⟨xs, g', rcs', h', hL', Rl, A, hk⟩ := ih ar (i + 1) { g with vw := id :: g.vw } rcs1 h1 vs' u hL har' hs
       refine ⟨(x, xs), g', rcs', h', hL', Rl, A.keep rfl rfl (fun _ e => List.mem_cons_of_mem _ e) (fun _ e => e) rfl fun G RL hg hh _ he => ⟨_, _, rfl, ?_, he⟩, hk⟩
       have hvw : g'.vw ≠ [] := List.ne_nil_of_mem (A.vsub id List.mem_cons_self)
       have hr' : look rcs' id = some r := by rw [A.stay id List.mem_cons_self]; exact hr
       unfold winAt at hx
       rw [u.ck, look_map, hr] at hx
       simp only [Option.map_some, RC.ck] at hx
       rw [pl_get pp _ _ _ _ hp] at hx
       cases hole with
       | some j => cases hx
       | none =>
       simp only at hx
       split at hx
       ·rename_i hcond
        obtain ⟨hK, hnh⟩ := hcond
        injection hx with hx
        subst hK
        subst hx
        obtain ⟨h3, h4, d, e4, o⟩ := star_take A.u.st hr'
        obtain ⟨h5, s5, o5⟩ := rc_own o
        obtain ⟨hq, s6, o6⟩ := own_pl pp _ _ _ _ _ o5 hp
        have hin : ∀ b v, hq b = some v → h' b = some v := fun b v e => by rw [e4]; exact un_left (s5 b v (s6 b v e))
        have hnh' : noHole (.sl true t1 e1 none) = true := by simp [noHole, hnh]
        have hfr : (shr (.sl true t1 e1 none)).free = true := shr_free _ hnh'
        obtain ⟨f1, f2⟩ := own_shr (.sl true t1 e1 none) x' z' hq hnh' o6 (fun b v e => e.elim (hg b v) fun e => hh hvw b v (hin b v e)) (castS rfl x') (cast (shr_Z (.sl true t1 e1 none)).symm z') (castS_heq x') (cast_heq _ _)
        have hwin : HEq (castS (K := .sl true t1 e1 none) rfl ((List.drop off x').take len)) ((List.drop off (castS (K := .sl true t1 e1 none) rfl x' : List (shr e1).T)).take len) := by
         refine HEq.trans (castS_heq _) (HEq.symm ?_)
         exact heq_win (shr_T e1) (castS_heq (K := .sl true t1 e1 none) x') off len
        have hwin' := eq_of_heq hwin
        have hlx : List.length (castS (K := .sl true t1 e1 none) rfl x' : List (shr e1).T) = List.length x' := (heq_list (shr_T e1) (castS_heq (K := .sl true t1 e1 none) x')).1
        have hzz : (cast (shr_Z (.sl true t1 e1 none)).symm z').1 = z'.1 := eq_of_heq (heq_prod (A := Option (Nat × Nat × Nat)) rfl (show (Nat → (shr e1).Z) = (Nat → e1.Z) by rw [shr_Z e1]) (cast_heq (shr_Z (.sl true t1 e1 none)).symm z')).1
        rw [hwin']
        generalize hX : (castS (K := .sl true t1 e1 none) rfl x' : List (shr e1).T) = X at *
        generalize hZ : cast (shr_Z (.sl true t1 e1 none)).symm z' = Z at *
        obtain ⟨Zo, Zf⟩ := Z
        simp only at hzz
        have hfe : (shr e1).free = true := by simpa [shr, free] using hfr
        have hl2 : off + len ≤ X.length := by rw [hlx]; exact hle
        have hlen : (List.take len (List.drop off X)).length = len := by
         have h1 := List.length_take (i := len) (l := List.drop off X)
         have h2 := List.length_drop (i := off) (l := X)
         omega
        rcases hv with ⟨hl0, hv | ⟨b, o', cap, off2, cap2, hz, hv, hc1, hc2⟩⟩ | ⟨b, o', cap, hz, hv⟩
        ·subst hl0
         refine ⟨hfr, (none, Zf), ⟨List.eq_nil_of_length_eq_zero hlen, rfl⟩, ?_⟩
         rw [hv]
         show _ = toV (Kd.sl false t1 (shr e1) none) [hdr none _]
         rfl
        ·have hZo : Zo = some (b, o', cap) := by rw [hzz]; exact hz
         subst hZo
         subst hl0
         obtain ⟨c, h9, k1, k2, k3, k4, k5, k6⟩ := f1
         have hnil : List.take 0 (List.drop off X) = [] := List.eq_nil_of_length_eq_zero hlen
         refine ⟨hfr, (some (b, off2, cap2), Zf), ⟨c, HF.emp, by rw [hlen]; exact Nat.zero_le _, by omega, ?_, ?_, ?_, ?_⟩, ?_⟩
         ·rw [shr_size] at k3 ⊢; omega
         ·intro i hi; rw [hlen] at hi; omega
         ·rw [hlen]; rfl
         ·simp only [Bool.false_eq_true, if_false] at k6 ⊢; exact ⟨k6.1, trivial⟩
         ·rw [hv]
          show _ = toV (Kd.sl false t1 (shr e1) none) [hdr (some (b, off2, cap2)) _]
          rw [hlen]
          rfl
        ·have hZo : Zo = some (b, o', cap) := by rw [hzz]; exact hz
         subst hZo
         have W := win_own2 (l := off) (n := len) hfe f1 hl2
         refine ⟨hfr, _, W, ?_⟩
         rw [hv]
         show _ = toV (Kd.sl false t1 (shr e1) none) [hdr (some (b, o' + off * (shr e1).size, cap - off)) _]
         rw [hlen, shr_size]
         rfl
       ·cases hx
      ·exact hs.elim
     ·rename_i id hy
      split at hs
      ·rename_i x hx
       obtain ⟨r, q, hr, hp, _, hv⟩ := u.opo_is hy (w := w)
       obtain ⟨xs, g', rcs', h', hL', Rl, A, hk⟩ := ih ar (i + 1) { g with vw := id :: g.vw } rcs1 h1 vs' u hL har' hs
       refine ⟨(x, xs), g', rcs', h', hL', Rl, A.keep rfl rfl (fun _ e => List.mem_cons_of_mem _ e) (fun _ e => e) rfl fun G RL hg hh _ he => ⟨_, _, rfl, ?_, he⟩, hk⟩
       have hvw : g'.vw ≠ [] := List.ne_nil_of_mem (A.vsub id List.mem_cons_self)
       have hr' : look rcs' id = some r := by rw [A.stay id List.mem_cons_self]; exact hr
       exact boxView_ok hx (by rw [u.ck, look_map, hr]; rfl) hp hv A.u.st hr' hg (hh hvw)
      ·exact hs.elim
     ·exact hs.elim
  | own K =>
   cases ar with
   | nil => exact hs.elim
   | cons y ar =>
    cases y with
    | cap id => exact hs.elim
    | bv K' x' => exact hs.elim
    | op y =>
     obtain ⟨vs', rfl, har'⟩ := har
     simp only [argsT] at hs
     split at hs
     ·rename_i id hy
      split at hs
      ·rename_i x hx
       split at hs
       ·exact hs.elim
       ·rename_i hv
        obtain ⟨r, q, hr, hp, hyv⟩ := u.opo_is hy (w := w)
        obtain ⟨bb, z, h2, hr2, e1, e2, d, e3, o, u2⟩ := u.take (ckAt_look hx)
        obtain ⟨xs, g', rcs', h', hL', Rl, A, hk⟩ := ih ar (i + 1) _ (del rcs1 id) hr2 vs' u2 (fun n r e => hL n r (del_look rcs1 id n r e)) har' hs
        cases bb with
        | some bt => cases e1
        | none =>
         rw [e2] at hr
         injection hr with hr
         subst hr
         simp only [pl, Option.some.injEq] at hp
         subst hp
         refine ⟨(x, xs), g', rcs', h', h2.un hL', (i, ⟨none, K, x, z⟩) :: Rl, A.take (.inl rfl) rfl rfl rfl (by simpa using hv) e2 d e3 o rfl fun G RL hg hl he => ⟨_, vs', z, rfl, hl, ⟨_, ⟨K, x, z, (0, 0)⟩, hl, by simp [pl], hyv⟩, he⟩, hk⟩
      ·exact hs.elim
     ·rename_i hy
      split at hs
      ·rename_i x hx
       have hi : a.eval y = .slice none 0 0 := u.opo_is hy (w := w)
       obtain ⟨xs, g', rcs', h', hL', Rl, A, hk⟩ := ih ar (i + 1) g rcs1 h1 vs' u hL har' hs
       obtain ⟨n1, n2, n3, _⟩ := nilK_own (Γ := Γ) hx
       refine ⟨(x, xs), g', rcs', h', hL', (i, ⟨none, K, x, K.zd⟩) :: Rl, A.nil (rc := ⟨none, K, x, K.zd⟩) (by simpa only [RC.Own] using n1) rfl fun G RL hg hl he => ⟨_, vs', K.zd, rfl, hl, ⟨_, ⟨K, x, K.zd, (0, 0)⟩, hl, by simp [pl], ?_⟩, he⟩, hk⟩
       show _ = toV K (K.cells x K.zd)
       rw [n2, hi]
       simp only [toV, n3, if_true, List.getD_cons_zero]
      ·exact hs.elim
     ·exact hs.elim
  | «mut» K =>
   cases ar with
   | nil => exact hs.elim
   | cons y ar =>
    cases y with
    | cap id => exact hs.elim
    | bv K' x' => exact hs.elim
    | op y =>
     obtain ⟨vs', rfl, har'⟩ := har
     simp only [argsT] at hs
     split at hs
     ·rename_i id hy
      split at hs
      ·rename_i x hx
       split at hs
       ·exact hs.elim
       ·rename_i hv
        obtain ⟨r, q, hr, hp, hyv⟩ := u.opo_is hy (w := w)
        obtain ⟨bb, z, h2, hr2, e1, e2, d, e3, o, u2⟩ := u.take (ckAt_look hx)
        obtain ⟨xs, g', rcs', h', hL', Rl, A, hk⟩ := ih ar (i + 1) _ (del rcs1 id) hr2 vs' u2 (fun n r e => hL n r (del_look rcs1 id n r e)) har' hs
        cases bb with
        | some bt => cases e1
        | none =>
         rw [e2] at hr
         injection hr with hr
         subst hr
         simp only [pl, Option.some.injEq] at hp
         subst hp
         refine ⟨(x, xs), g', rcs', h', h2.un hL', (i, ⟨none, K, x, z⟩) :: Rl, A.take (.inr ⟨rfl, trivial⟩) rfl rfl rfl (by simpa using hv) e2 d e3 o rfl fun G RL hg hl he => ⟨_, vs', z, rfl, hl, ⟨_, ⟨K, x, z, (0, 0)⟩, hl, by simp [pl], hyv⟩, he⟩, hk⟩
      ·exact hs.elim
     ·exact hs.elim
  | ptr t K p =>
   cases ar with
   | nil => exact hs.elim
   | cons y ar =>
    simp only [argsT] at hs
    split at hs
    ·rename_i id p' hy
     split at hs
     ·rename_i x hx
      split at hs
      ·rename_i hsel
       split at hs
       ·exact hs.elim
       ·rename_i hv
        obtain ⟨bb, z, h2, hr2, e1, e2, d, e3, o, u2⟩ := u.take (ckAt_look hx)
        cases bb with
        | none => cases e1
        | some bt =>
        obtain ⟨b, t'⟩ := bt
        simp only [Option.map_some, Option.some.injEq] at e1
        subst e1
        have hpp := selEq_eq hsel
        have harv : ∃ v vs', vs = v :: vs' ∧ ArIs a rcs ar vs' ∧ ∃ q, pl K x z p (b, 0) = some q ∧ v = .pointer (some ⟨q.a.1, q.a.2, none⟩) := by
         cases y with
         | op y =>
          obtain ⟨vs', rfl, har'⟩ := har
          simp only [arPtr] at hy
          split at hy
          ·rename_i id' p'' hy'
           injection hy with hy
           injection hy with hy1 hy2
           subst hy1; subst hy2
           obtain ⟨r, q, hr, hp, _, hyv⟩ := u.opo_is hy' (w := w)
           rw [e2] at hr
           injection hr with hr
           subst hr
           exact ⟨_, vs', rfl, har', q, by rw [← hpp]; exact hp, hyv⟩
          ·cases hy
         | bv K' x' => simp [arPtr] at hy
         | cap id' =>
          obtain ⟨vs', r, b', t'', rfl, hr, hb, har'⟩ := har
          simp only [arPtr] at hy
          injection hy with hy
          injection hy with hy1 hy2
          subst hy1
          have := hL _ _ e2
          rw [hr] at this
          injection this with this
          subst this
          simp only [Option.some.injEq, Prod.mk.injEq] at hb
          obtain ⟨rfl, rfl⟩ := hb
          refine ⟨_, vs', rfl, har', ⟨K, x, z, (b, 0)⟩, ?_, rfl⟩
          rw [← hpp, ← hy2]
          simp [pl]
        obtain ⟨v, vs', rfl, har', q, hq, hvv⟩ := harv
        obtain ⟨xs, g', rcs', h', hL', Rl, A, hk⟩ := ih ar (i + 1) _ (del rcs1 id) hr2 vs' u2 (fun n r e => hL n r (del_look rcs1 id n r e)) har' hs
        exact ⟨(x, xs), g', rcs', h', h2.un hL', (i, ⟨some (b, t'), K, x, z⟩) :: Rl, A.take (.inr ⟨rfl, trivial⟩) rfl rfl rfl (by simpa using hv) e2 d e3 o rfl fun G RL hg hl he => ⟨_, vs', b, z, rfl, hl, ⟨_, q, hl, hq, fun e => (by cases e), hvv⟩, he⟩, hk⟩
      ·exact hs.elim
     ·exact hs.elim
    ·exact hs.elim
  | cap t K =>
   have hs' : (match look g.cs i with
    | some id => match ckAt g.s id (some t) K with
     | some x => if g.vw.contains id then Tr.bad else argsT ps ar (i + 1) { g with s := dropC g.s id, l := (i, id) :: g.l, tk := id :: g.tk } fun xs g' => k (x, xs) g'
     | none => .bad
    | none => .bad : Tr α).sat Kp := by
    cases ar with
    | nil => simpa only [argsT] using hs
    | cons y ar => cases y <;> simpa only [argsT] using hs
   split at hs'
   ·rename_i id hid
    split at hs'
    ·rename_i x hx
     split at hs'
     ·exact hs'.elim
     ·rename_i hv
      obtain ⟨bb, z, h2, hr2, e1, e2, d, e3, o, u2⟩ := u.take (ckAt_look hx)
      cases bb with
      | none => cases e1
      | some bt =>
      obtain ⟨b, t'⟩ := bt
      simp only [Option.map_some, Option.some.injEq] at e1
      subst e1
      obtain ⟨xs, g', rcs', h', hL', Rl, A, hk⟩ := ih ar (i + 1) _ (del rcs1 id) hr2 vs u2 (fun n r e => hL n r (del_look rcs1 id n r e)) har hs'
      exact ⟨(x, xs), g', rcs', h', h2.un hL', (i, ⟨some (b, t'), K, x, z⟩) :: Rl, A.take (.inr ⟨rfl, trivial⟩) rfl rfl rfl (by simpa using hv) e2 d e3 o rfl fun G RL hg hl he => ⟨⟨b, z, hl⟩, he⟩, hk⟩
    ·exact hs'.elim
   ·exact hs'.elim
  | clo f caps =>
   cases ar with
   | nil => exact hs.elim
   | cons y ar =>
    cases y with
    | cap id => exact hs.elim
    | bv K' x' => exact hs.elim
    | op y =>
     obtain ⟨vs', rfl, har'⟩ := har
     simp only [argsT] at hs
     split at hs
     ·rename_i f' ids hy
      split at hs
      ·rename_i hcond
       obtain ⟨rfl, hlen⟩ := hcond
       obtain ⟨us, hv, hul, hall⟩ := u.opo_is hy (w := w)
       obtain ⟨xs, g', rcs', h', hL', Rl, A, hk⟩ := ih ar (i + 1) { g with cs := caps.zip ids ++ g.cs } rcs1 h1 vs' u hL har' hs
       refine ⟨xs, g', rcs', h', hL', Rl, A.keep rfl rfl (fun _ e => e) (fun _ e => List.mem_append_right _ e) rfl fun G RL hg _ hcs he => ⟨_, vs', rfl, ⟨us, hv, by rw [hul, hlen], fun j ci hj => ?_⟩, he⟩, hk⟩
       have hjl : j < caps.length := by
        rcases Nat.lt_or_ge j caps.length with q | q
        ·exact q
        ·rw [List.getElem?_eq_none q] at hj; cases hj
       have hid : ids[j]? = some (ids[j]'(by omega)) := List.getElem?_eq_getElem _
       have hmem : (ci, ids[j]'(by omega)) ∈ caps.zip ids := by
        refine List.mem_of_getElem? (i := j) ?_
        rw [List.getElem?_zip_eq_some]
        exact ⟨hj, hid⟩
       obtain ⟨r, h3, h4⟩ := hcs _ (A.csub _ (List.mem_append_left _ hmem))
       obtain ⟨r', b, t, h5, h6, h7⟩ := hall j _ hid
       have h8 := hL _ _ h5
       rw [show look rcs (ids[j]'(by omega)) = some r from h4] at h8
       injection h8 with h8
       subst h8
       exact ⟨r, b, t, h3, h6, h7⟩
      ·exact hs.elim
     ·exact hs.elim
end Go.Proofs.YtibammoednhnoaaE

