/- The engine, part 6: a region is worked out on what is told of the frame. Conditions: none. -/
import Derived.Test.YtibammoednhnoaaE5
set_option linter.unusedVariables false
set_option linter.unusedSimpArgs false
namespace Go.Proofs.YtibammoednhnoaaE
variable {α : Type}

inductive Tr (α : Type) : Type 1 where
 | leaf (x : α)
 | need (p : Prop) [d : Decidable p] (t : Tr α)
 | split (b : Bool) (t f : Tr α)
 | bind {β : Type} (o : Option β) (k : β → Tr α)
 | alt {β γ : Type} (x : β ⊕ γ) (f : β → Tr α) (g : γ → Tr α)
 | both (a b : Tr α)
 | bad
 /-- What an operation asks. -/
 | tag (i : Nat) (t : Tr α)
structure PD where
 p : Prop
 d : Decidable p
namespace Tr
def sat (K : α → Prop) : Tr α → Prop
 | .leaf s => K s
 | @Tr.need _ p d t => p ∧ t.sat K
 | .split b t f => (b = true → t.sat K) ∧ (b = false → f.sat K)
 | .bind o k => ∃ r, o = some r ∧ (k r).sat K
 | .alt x f g => (∀ b, x = .inl b → (f b).sat K) ∧ (∀ c, x = .inr c → (g c).sat K)
 | .both a b => a.sat K ∧ b.sat K
 | .bad => False
 | .tag _ t => t.sat K
def eval : Tr α → Option α
 | .leaf s => some s
 | @Tr.need _ p d t => if p then t.eval else none
 | .split b t f => bif b then t.eval else f.eval
 | .bind o k => o.bind fun r => (k r).eval
 | .alt x f g => match x with
  | .inl b => (f b).eval
  | .inr c => (g c).eval
 | .both a _ => a.eval
 | .bad => none
 | .tag _ t => t.eval
def insN (x : Nat × PD) : List (Nat × PD) → List (Nat × PD)
 | [] => [x]
 | y :: l => if x.1 ≤ y.1 then x :: y :: l else y :: insN x l
def sortN : List (Nat × PD) → List (Nat × PD)
 | [] => []
 | x :: l => insN x (sortN l)
def needs : List (Nat × PD) → Tr α → Tr α
 | [], t => t
 | x :: l, t => @Tr.need _ x.2.p x.2.d (needs l t)
noncomputable def nf : Tr α → Nat → List (Nat × PD) → Tr α
 | .leaf s, _, L => needs (sortN L) (.leaf s)
 | @Tr.need _ p d t, i, L => t.nf i ((i, ⟨p, d⟩) :: L)
 | .split b t f, i, L => .split b (@Bool.rec (fun _ => Tr α) .bad (t.nf i L) b) (@Bool.rec (fun _ => Tr α) (f.nf i L) .bad b)
 | .bind o k, i, L => .bind o fun r => (k r).nf i L
 | .alt x f g, i, L => .alt x (fun b => (f b).nf i L) (fun c => (g c).nf i L)
 | .both a _, i, L => a.nf i L
 | .bad, _, _ => .bad
 | .tag i t, _, L => t.nf i L
noncomputable def left : Tr α → Tr α
 | .leaf s => .leaf s
 | @Tr.need _ p d t => @Tr.need _ p d t.left
 | .split b t f => .split b (@Bool.rec (fun _ => Tr α) .bad t.left b) (@Bool.rec (fun _ => Tr α) f.left .bad b)
 | .bind o k => .bind o fun r => (k r).left
 | .alt x f g => .alt x (fun b => (f b).left) (fun c => (g c).left)
 | .both a b => .both (.both a.left b.left) (a.nf 0 [])
 | .bad => .bad
 | .tag _ t => t.left
noncomputable def right : Tr α → Tr α
 | .leaf s => .leaf s
 | @Tr.need _ p d t => @Tr.need _ p d t.right
 | .split b t f => .split b (@Bool.rec (fun _ => Tr α) .bad t.right b) (@Bool.rec (fun _ => Tr α) f.right .bad b)
 | .bind o k => .bind o fun r => (k r).right
 | .alt x f g => .alt x (fun b => (f b).right) (fun c => (g c).right)
 | .both a b => .both (.both a.right b.right) (b.nf 0 [])
 | .bad => .bad
 | .tag _ t => t.right
def allN (L : List (Nat × PD)) : Prop := ∀ x ∈ L, x.2.p
theorem allN_ins {x : Nat × PD} : ∀ {L : List (Nat × PD)}, allN (insN x L) ↔ x.2.p ∧ allN L
 | [] => by simp [insN, allN]
 | y :: L => by
  unfold insN
  split
  ·simp [allN]
  ·have := allN_ins (x := x) (L := L)
   simp only [allN, List.mem_cons, forall_eq_or_imp] at this ⊢
   rw [this]
   exact ⟨fun ⟨h1, h2, h3⟩ => ⟨h2, h1, h3⟩, fun ⟨h1, h2, h3⟩ => ⟨h2, h1, h3⟩⟩
theorem allN_sort : ∀ {L : List (Nat × PD)}, allN (sortN L) ↔ allN L
 | [] => Iff.rfl
 | x :: L => by
  rw [sortN, allN_ins, allN_sort]
  simp [allN]
theorem needs_eval {L : List (Nat × PD)} {t : Tr α} {r : α} : (needs L t).eval = some r ↔ allN L ∧ t.eval = some r := by
 induction L with
 | nil => simp [needs, allN]
 | cons x L ih =>
  simp only [needs, eval]
  split
  ·rename_i hp
   rw [ih]
   simp only [allN, List.mem_cons, forall_eq_or_imp]
   exact ⟨fun ⟨h1, h2⟩ => ⟨⟨hp, h1⟩, h2⟩, fun ⟨⟨_, h1⟩, h2⟩ => ⟨h1, h2⟩⟩
  ·rename_i hp
   exact ⟨fun (h : none = some r) => absurd h (by simp), fun ⟨h, _⟩ => absurd (h x List.mem_cons_self) hp⟩
theorem nf_eval (t : Tr α) : ∀ (i : Nat) (L : List (Nat × PD)) (r : α), (t.nf i L).eval = some r ↔ allN L ∧ t.eval = some r := by
 induction t with
 | leaf s => intro i L r; rw [nf, needs_eval, allN_sort]
 | @need p d t ih =>
  intro i L r
  rw [nf, ih]
  simp only [eval, allN, List.mem_cons, forall_eq_or_imp]
  split
  ·rename_i hp; exact ⟨fun ⟨⟨_, h1⟩, h2⟩ => ⟨h1, h2⟩, fun ⟨h1, h2⟩ => ⟨⟨hp, h1⟩, h2⟩⟩
  ·rename_i hp; exact ⟨fun ⟨⟨h, _⟩, _⟩ => absurd h hp, fun ⟨_, h⟩ => by cases h⟩
 | split b t f ih1 ih2 =>
  intro i L r
  cases b with
  | true => exact ih1 i L r
  | false => exact ih2 i L r
 | bind o k ih =>
  intro i L r
  simp only [nf, eval]
  cases o with
  | none => simp
  | some x => exact ih x i L r
 | alt x f g ih1 ih2 =>
  intro i L r
  simp only [nf, eval]
  cases x with
  | inl b => exact ih1 b i L r
  | inr c => exact ih2 c i L r
 | both a b ih1 _ => intro i L r; exact ih1 i L r
 | bad => intro i L r; simp [nf, eval]
 | tag j t ih => intro i L r; exact ih j L r
theorem eval_sat (t : Tr α) (h : t.left = t.right) {r : α} (he : t.eval = some r) {K : α → Prop} (hK : K r) : t.sat K := by
 induction t with
 | leaf s =>
  simp only [eval, Option.some.injEq] at he
  subst he
  exact hK
 | need p t ih =>
  have h' : t.left = t.right := by
   simp only [left, right] at h
   injection h
  simp only [eval] at he
  split at he
  ·rename_i hp
   exact ⟨hp, ih h' he⟩
  ·cases he
 | split b t f ih1 ih2 =>
  simp only [left, right, Tr.split.injEq, true_and] at h
  simp only [eval] at he
  refine ⟨fun hb => ?_, fun hb => ?_⟩ <;> subst hb
  ·exact ih1 h.1 he
  ·exact ih2 h.2 he
 | bind o k ih =>
  simp only [left, right, bind.injEq, heq_eq_eq, true_and] at h
  simp only [eval] at he
  cases o with
  | none => cases he
  | some x => exact ⟨x, rfl, ih x (congrFun h x) he⟩
 | alt x f g ih1 ih2 =>
  simp only [left, right, alt.injEq, heq_eq_eq, true_and] at h
  refine ⟨fun b e => ?_, fun c e => ?_⟩ <;> subst e
  ·exact ih1 b (congrFun h.1 b) he
  ·exact ih2 c (congrFun h.2 c) he
 | both a b ih1 ih2 =>
  simp only [left, right, both.injEq] at h
  obtain ⟨⟨h1, h2⟩, h3⟩ := h
  simp only [eval] at he
  refine ⟨ih1 h1 he, ih2 h2 ?_⟩
  have h4 := (nf_eval a 0 [] r).2 ⟨fun x hx => (List.not_mem_nil hx).elim, he⟩
  rw [h3] at h4
  exact ((nf_eval b 0 [] r).1 h4).2
 | bad => cases he
 | tag i t ih => exact ih h he
def all : List (Tr α) → Tr α
 | [] => .bad
 | [t] => t
 | t :: l => .both t (all l)
theorem sat_all {K : α → Prop} : ∀ {l : List (Tr α)}, (all l).sat K → ∀ t ∈ l, t.sat K
 | [], h, _, _ => h.elim
 | [t], h, u, hu => by rw [List.mem_singleton] at hu; subst hu; exact h
 | t :: t' :: l, h, u, hu => by
  rcases List.mem_cons.1 hu with e | e
  ·subst e; exact h.1
  ·exact sat_all (l := t' :: l) h.2 u e
end Tr

inductive Cls where
 | pure | read | world
 deriving DecidableEq
structure Eff where
 all : Bool
 ids : List Nat
structure Stepper where
 cls : Oper → Cls
 /-- What is read: nothing that may change; a box; anything. -/
 rd : Oper → St → Option (Option Nat)
 eff : Oper → St → Eff
 step : {α : Type} → Oper → St → (St → Tr α) → Tr α
 /-- How many temporaries. -/
 nt : Nat
 /-- May it write to what is not its own result? -/
 risky : Oper → St → Bool
 hz : Bool
def Eff.ok (e : Eff) (B : List Ent) : Prop := ∀ x ∈ B, match x.id with
 | none => e.all = true
 | some id => id ∉ e.ids
def Fr.with (F : Fr) (B : List Ent) : Fr := { F with B := B }
def Fr.withG (F : Fr) (G : List (Nat × Array Value × TypeId)) : Fr := { F with G := G }
def stab (x : Nat × Array Value × TypeId) (w : World) : Prop := ∃ f, w.heap[x.1]? = some (.cells x.2.1 x.2.2 f)
theorem R.stab {F : Fr} {s : St} {a : Act} {w : World} (r : R F s a w) : ∀ x ∈ F.G, stab x w := fun x hx => by
 obtain ⟨Γ, rcs, hh, g⟩ := r
 exact g.memR.cel _ _ _ (g.sg x hx)

def StepOK (P : Program) (F : Fr) (S : Stepper) : Prop := S.nt = F.n.n ∧ ∀ (B : List Ent) (G : List (Nat × Array Value × TypeId)) (α : Type) (o : Oper) (s : St) (k : St → Tr α) (K : α → Prop) (a : Act) (w : World), R ((F.withG G).with B) s a w → (S.step o s k).sat K →
 match S.cls o with
 | .pure => ∃ v s', (∀ w', (execOp a.eval o).run P w' = .ok (.value v) w') ∧ R ((F.withG G).with B) s' (a.put o.dst v) w ∧ (k s').sat K
 | .read => ∃ v s' E G', (∀ e ∈ E, S.rd o s = some e.id ∧ w.heap[e.b]? = e.ob) ∧ (∀ w', (∀ e ∈ E, w'.heap[e.b]? = e.ob) → (∀ x ∈ G', stab x w') → (execOp a.eval o).run P w' = .ok (.value v) w') ∧ R ((F.withG (G' ++ G)).with (E ++ B)) s' (a.put o.dst v) w ∧ (k s').sat K
 | .world => (S.eff o s).ok B → ∀ Q, o.wp P a w (fun a' w' => ∃ s', R ((F.withG G).with B) s' a' w' ∧ (k s').sat K) Q

def St.drop (s : St) (n : Nat) (d : Option Nat) : St := match d with
 | some d => if d < n then ⟨(d, .tup []) :: del s.tm d, s.ck⟩ else ⟨del s.tm d, s.ck⟩
 | none => s
def undefAt (s : St) (t : Nat) : Bool := match look s.tm t with
 | some (.tup []) => true
 | _ => false
def St.setB (s : St) (t : Nat) (b : Bool) : St := ⟨(t, .one (.val .bool b)) :: del s.tm t, s.ck⟩
def boolAt (s : St) (t : Nat) : Option Bool := match look s.tm t with
 | some (.one (.val .bool b)) => some b
 | _ => none
def guardT (ops : Array Oper) (j : Nat) : Option Nat := (ops[j]?).bind (·.dst)
def exec (S : Stepper) (ops : Array Oper) (i : Nat) (s : St) (k : St → Tr α) : Tr α := match ops[i]? with
 | none => .bad
 | some o => match o.guard with
  | none => S.step o s k
  | some (j, want) => match guardT ops j with
   | none => .bad
   | some t => match boolAt s t with
    | some b => match want with
     | true => .split b (S.step o (s.setB t true) k) (k ((s.setB t false).drop S.nt o.dst))
     | false => .split b (k ((s.setB t true).drop S.nt o.dst)) (S.step o (s.setB t false) k)
    | none => if undefAt s t then k (s.drop S.nt o.dst) else .bad
def hoistB (S : Stepper) (ops : Array Oper) (listed : Array Bool) (s : St) (i : Nat) : Bool := match ops[i]? with
 | none => false
 | some oi => (!S.hz || S.cls oi != .read || S.rd oi s != some none || (List.range ops.size).all fun j => j == i || listed.getD j true || dep .any ops j i || (match ops[j]? with
  | some oj => !S.risky oj s
  | none => true)) && (S.cls oi != .world) && (List.range ops.size).all fun j => j == i || listed.getD j true || dep .any ops j i || (match ops[j]? with
  | some oj => oi.apart ops oj
  | none => true)
def tagOf (S : Stepper) (ops : Array Oper) (i : Nat) (s : St) : Option (Option Nat) := match ops[i]? with
 | some o => match S.cls o with
  | .read => S.rd o s
  | _ => none
 | none => none
def pend (ops : Array Oper) (D : List (Nat × Option (Option Nat))) (j : Nat) : List (Nat × Option (Option Nat)) := D.filter fun x => !dep .any ops j x.1
def okP (e : Eff) (D : List (Nat × Option (Option Nat))) : Bool := D.all fun x => match x.2 with
 | none => true
 | some none => e.all
 | some (some id) => !e.ids.contains id
def okAt (S : Stepper) (ops : Array Oper) (D : List (Nat × Option (Option Nat))) (s : St) (i : Nat) : Bool := match ops[i]? with
 | some o => S.cls o != .world || okP (S.eff o s) (pend ops D i)
 | none => false
def go (S : Stepper) (ops : Array Oper) : Nat → List (Nat × Option (Option Nat)) → Array Bool → St → (St → Tr α) → Tr α
 | 0, D, listed, s, k => match Region.ready .any ops listed with
  | [] => k s
  | _ => .bad
 | fuel + 1, D, listed, s, k => match Region.ready .any ops listed with
  | [] => k s
  | rs => match rs.find? (hoistB S ops listed s) with
   | some i => .tag i <| exec S ops i s fun s' => go S ops fuel ((i, tagOf S ops i s) :: D) (listed.setIfInBounds i true) s' k
   | none => Tr.all (rs.map fun i => if okAt S ops D s i then .tag i <| exec S ops i s fun s' => go S ops fuel (pend ops D i) (listed.setIfInBounds i true) s' k else .bad)

theorem boolAt_is {F : Fr} {s : St} {a : Act} {w : World} (r : R F s a w) {t : Nat} {b : Bool} (h : boolAt s t = some b) : a.tmps[t]? = some (.bool b) := by
 unfold boolAt at h
 split at h
 ·rename_i x hl
  injection h with h
  subst h
  obtain ⟨Γ, rcs, hh, g⟩ := r
  obtain ⟨v, hv, hi⟩ := g.tm t _ (look_mem hl)
  obtain ⟨_, z, _, e⟩ := hi
  rw [hv, e]
  rfl
 ·cases h
theorem R.setB {F : Fr} {s : St} {a : Act} {w : World} (r : R F s a w) {t : Nat} {b : Bool} (h : a.tmps[t]? = some (.bool b)) : R F (s.setB t b) a w := by
 obtain ⟨Γ, rcs, hh, g⟩ := r
 refine ⟨Γ, rcs, hh, g.ck, g.nodup, g.star, g.mem, g.memR, g.dj, g.defers, g.tsz, fun t' av hm => ?_, g.size, g.keep, g.own, g.ro, g.ro0, g.os, g.tape, g.output, g.sg, g.bx, g.md⟩
 rcases List.mem_cons.1 hm with e | e
 ·injection e with e1 e2
  subst e1; subst e2
  exact ⟨_, h, rfl, (), rfl, rfl⟩
 ·exact g.tm t' av (List.mem_filter.1 e).1
theorem R.drop {F : Fr} {s : St} {a : Act} {w : World} (r : R F s a w) {n : Nat} (hn : n = F.n.n) (d : Option Nat) : R F (s.drop n d) (a.put d undef) w := by
 cases d with
 | none => exact r
 | some d =>
  obtain ⟨Γ, rcs, h, g⟩ := r
  unfold St.drop
  simp only
  split
  ·rename_i hd
   exact ⟨Γ, rcs, h, g.put (hn ▸ hd) ⟨[], rfl, rfl, fun i s h => by simp at h⟩⟩
  ·exact ⟨Γ, rcs, h, g.forget d undef⟩
theorem undefAt_is {F : Fr} {s : St} {a : Act} {w : World} (r : R F s a w) {t : Nat} (h : undefAt s t = true) : a.tmps[t]? = some undef := by
 unfold undefAt at h
 split at h
 ·rename_i hl
  obtain ⟨Γ, rcs, hh, g⟩ := r
  obtain ⟨v, hv, vs, e, hlen, _⟩ := g.tm t _ (look_mem hl)
  have : vs = [] := List.eq_nil_of_length_eq_zero hlen
  subst this
  rw [hv, e]
  rfl
 ·cases h
theorem R.less {F : Fr} {B B' : List Ent} {s : St} {a : Act} {w : World} (r : R (F.with B) s a w) (h : ∀ e ∈ B', e ∈ B) : R (F.with B') s a w := by
 obtain ⟨Γ, rcs, hh, g⟩ := r
 exact ⟨Γ, rcs, hh, g.ck, g.nodup, g.star, g.mem, g.memR, g.dj, g.defers, g.tsz, g.tm, g.size, g.keep, g.own, g.ro, g.ro0, g.os, g.tape, g.output, g.sg, fun e he => g.bx e (h e he), g.md⟩
theorem R.lessG {F : Fr} {G G' : List (Nat × Array Value × TypeId)} {B : List Ent} {s : St} {a : Act} {w : World} (r : R ((F.withG G).with B) s a w) (h : ∀ e ∈ G', e ∈ G) : R ((F.withG G').with B) s a w := by
 obtain ⟨Γ, rcs, hh, g⟩ := r
 exact ⟨Γ, rcs, hh, g.ck, g.nodup, g.star, g.mem, g.memR, g.dj, g.defers, g.tsz, g.tm, g.size, g.keep, g.own, g.ro, g.ro0, g.os, g.tape, g.output, (fun x hx => g.sg x (h x hx)), g.bx, g.md⟩
theorem R.watch {F : Fr} {B : List Ent} {s : St} {a : Act} {w : World} (r : R (F.with B) s a w) {e : Ent} (h : e ∈ B) : w.heap[e.b]? = e.ob := by
 obtain ⟨Γ, rcs, hh, g⟩ := r
 exact (g.bx e h).1.1

def endQ (F : Fr) (k : St → Tr α) (K : α → Prop) : Exit → Act → World → Prop
 | .normal, a, w => ∃ s, R F s a w ∧ (k s).sat K
 | _, _, _ => False

section
variable {P : Program} {F : Fr} {S : Stepper} {ops : Array Oper} {K : α → Prop}

theorem exec_sound (hnt : S.nt = F.n.n) {B : List Ent} {i : Nat} {o : Oper} (hi : ops[i]? = some o) {s : St} {k : St → Tr α} {a : Act} {w : World} (r : R (F.with B) s a w) (h : (exec S ops i s k).sat K) :
  (Region.wanted o (yielded ops a.tmps) = true ∧ ∃ s1, (s1 = s ∨ ∃ t b, boolAt s t = some b ∧ s1 = s.setB t b) ∧ R (F.with B) s1 a w ∧ (S.step o s1 k).sat K) ∨
  (Region.wanted o (yielded ops a.tmps) = false ∧ ∃ s1, R (F.with B) s1 (a.put o.dst undef) w ∧ (k s1).sat K) := by
 simp only [exec, hi] at h
 cases hg : o.guard with
 | none =>
  rw [hg] at h
  exact .inl ⟨by simp [Region.wanted, hg], s, .inl rfl, r, h⟩
 | some jw =>
  obtain ⟨j, want⟩ := jw
  rw [hg] at h
  simp only at h
  cases ht : guardT ops j with
  | none => rw [ht] at h; exact h.elim
  | some t =>
   rw [ht] at h
   simp only at h
   cases hb : boolAt s t with
   | none =>
    rw [hb] at h
    simp only at h
    split at h
    ·rename_i hu
     have hv := undefAt_is r hu
     have hy : yielded ops a.tmps j = none := by
      unfold yielded
      unfold guardT at ht
      simp only [ht, Option.bind_some, hv]
      rfl
     exact .inr ⟨by simp [Region.wanted, hg, hy], _, r.drop (F := F.with B) hnt _, h⟩
    ·exact h.elim
   | some b =>
    rw [hb] at h
    have hv := boolAt_is r hb
    have hy : yielded ops a.tmps j = some b := by
     unfold yielded
     unfold guardT at ht
     simp only [ht, Option.bind_some, hv]
    cases want <;> cases b <;> simp only [Tr.sat] at h
    ·exact .inl ⟨by simp [Region.wanted, hg, hy], _, .inr ⟨_, _, hb, rfl⟩, r.setB hv, h.2 trivial⟩
    ·exact .inr ⟨by simp [Region.wanted, hg, hy], _, (r.setB hv).drop (F := F.with B) hnt _, h.1 trivial⟩
    ·exact .inr ⟨by simp [Region.wanted, hg, hy], _, (r.setB hv).drop (F := F.with B) hnt _, h.2 trivial⟩
    ·exact .inl ⟨by simp [Region.wanted, hg, hy], _, .inr ⟨_, _, hb, rfl⟩, r.setB hv, h.1 trivial⟩

structure Pd where
 i : Nat
 tag : Option (Option Nat)
 E : List Ent
 G : List (Nat × Array Value × TypeId)
def Pd.ok (x : Pd) : Prop := match x.tag with
 | none => x.E = []
 | some id => ∀ e ∈ x.E, e.id = id
def Pd.W (x : Pd) : World → Prop := fun w => (∀ e ∈ x.E, w.heap[e.b]? = e.ob) ∧ ∀ y ∈ x.G, stab y w
def pdB (T : List Pd) : List Ent := T.flatMap (·.E)
def pdG (T : List Pd) : List (Nat × Array Value × TypeId) := T.flatMap (·.G)
def pdD (T : List Pd) : List (Nat × Option (Option Nat)) := T.map fun x => (x.i, x.tag)
def pdW (T : List Pd) : List (Nat × (World → Prop)) := T.map fun x => (x.i, x.W)
theorem pd_next (T : List Pd) (j : Nat) : nextD .any ops (pdW T) j = pdW (T.filter fun x => !dep .any ops j x.i) := by
 simp only [nextD, pdW, List.filter_map]; rfl
theorem pd_pend (T : List Pd) (j : Nat) : pend ops (pdD T) j = pdD (T.filter fun x => !dep .any ops j x.i) := by
 simp only [pend, pdD, List.filter_map]; rfl
theorem pd_W {T : List Pd} {s : St} {a : Act} {w : World} (r : R ((F.withG (pdG T ++ F.G)).with (pdB T)) s a w) : ∀ x ∈ pdW T, x.2 w := fun x hx => by
 obtain ⟨y, hy, rfl⟩ := List.mem_map.1 hx
 exact ⟨fun e he => r.watch (List.mem_flatMap.2 ⟨y, hy, he⟩), fun e he => r.stab e (List.mem_append_left _ (List.mem_flatMap.2 ⟨y, hy, he⟩))⟩
theorem pd_ok {T : List Pd} (hT : ∀ x ∈ T, x.ok) {e : Eff} (h : okP e (pdD T) = true) : e.ok (pdB T) := fun x hx => by
 obtain ⟨y, hy, he⟩ := List.mem_flatMap.1 hx
 have h1 := List.all_eq_true.1 h _ (List.mem_map.2 ⟨y, hy, rfl⟩)
 have h2 := hT y hy
 unfold Pd.ok at h2
 simp only at h1
 cases ht : y.tag with
 | none => rw [ht] at h2; simp only at h2; rw [h2] at he; cases he
 | some id =>
  rw [ht] at h1 h2
  simp only at h1 h2
  rw [h2 x he]
  cases id with
  | none => exact h1
  | some id => simpa using h1

theorem endG {G : List (Nat × Array Value × TypeId)} {s : St} {a : Act} {w : World} (r : R ((F.withG (G ++ F.G)).with []) s a w) : R (F.with []) s a w := r.lessG (G' := F.G) fun e he => List.mem_append_right _ he
theorem go_sound (hs : StepOK P F S) (hrd : ∀ o s t b, boolAt s t = some b → S.rd o (s.setB t b) = S.rd o s) (hef : ∀ o s t b, boolAt s t = some b → S.eff o (s.setB t b) = S.eff o s) (hsel : Region.noSelect ops = true) {k : St → Tr α} : ∀ (fuel : Nat) (T : List Pd) (listed : Array Bool) (s : St) (a : Act) (w : World),
  (∀ x ∈ T, x.ok) → Closed .any ops listed → R ((F.withG (pdG T ++ F.G)).with (pdB T)) s a w → (go S ops fuel (pdD T) listed s k).sat K →
  wpL P .any ops (endQ (F.with []) k K) fuel (pdW T) listed a w := by
 intro fuel
 induction fuel with
 | zero =>
  intro T listed s a w hT hc r h
  simp only [go] at h
  split at h
  ·rename_i hr
   exact ⟨hr, s, endG (r.less (fun e he => by cases he)), h⟩
  ·exact h.elim
 | succ fuel ih =>
  intro T listed s a w hT hc r h
  simp only [go] at h
  split at h
  ·rename_i hr
   exact ⟨fun _ => ⟨s, endG (r.less (fun e he => by cases he)), h⟩, fun j hj => by rw [hr] at hj; cases hj⟩
  ·rename_i _ hnil
   split at h
   ·rename_i i hf
    have hmem := List.mem_of_find?_eq_some hf
    have hho := List.find?_some hf
    obtain ⟨hiun, o, hi, hall⟩ := mem_ready.1 hmem
    simp only [hoistB, hi, Bool.and_eq_true, bne_iff_ne, ne_eq, List.all_eq_true, List.mem_range, Bool.or_eq_true, beq_iff_eq] at hho
    obtain ⟨⟨_, hcw⟩, hfree⟩ := hho
    have hfree' : ∀ j oj, ops[j]? = some oj → j ≠ i → listed.getD j true = false → dep .any ops j i = false → o.apart ops oj = true := by
     intro j oj hj hne hun hd
     have := hfree j (Array.getElem?_eq_some_iff.1 hj).1
     simpa only [hne, hun, hd, hj, Bool.false_eq_true, or_false, false_or] using this
    have first : ∀ (v : Value) (s' : St) (E : List Ent) (G' : List (Nat × Array Value × TypeId)), (Pd.mk i (tagOf S ops i s) E G').ok → YieldsIf P ops (Pd.mk i (tagOf S ops i s) E G').W o v a → R ((F.withG (G' ++ (pdG T ++ F.G))).with (E ++ pdB T)) s' (a.put o.dst v) w →
      (go S ops fuel ((i, tagOf S ops i s) :: pdD T) (listed.setIfInBounds i true) s' k).sat K → wpL P .any ops (endQ (F.with []) k K) (fuel + 1) (pdW T) listed a w := by
     intro v s' E G' hok hy r' h'
     refine wpL_first (Pd.mk i (tagOf S ops i s) E G').W hi (Region.noSelect_spec hsel) (fun _ _ _ q => q.elim) fuel (pdW T) listed a w hc (pd_W r) hfree' hmem hy ?_ ?_
     ·exact ⟨fun e he => r'.watch (List.mem_append_left _ he), fun e he => r'.stab e (List.mem_append_left _ he)⟩
     ·exact ih (Pd.mk i (tagOf S ops i s) E G' :: T) _ s' _ w (fun x hx => by
       rcases List.mem_cons.1 hx with e | e
       ·subst e; exact hok
       ·exact hT x e) (hc.put hmem) (by
        have e1 : pdG (Pd.mk i (tagOf S ops i s) E G' :: T) ++ F.G = G' ++ (pdG T ++ F.G) := by simp [pdG]
        rw [e1]; exact r') h'
    have okn : (Pd.mk i (tagOf S ops i s) [] []).ok := by
     unfold Pd.ok
     split
     ·rfl
     ·exact fun e he => by cases he
    rcases exec_sound (F := F.withG (pdG T ++ F.G)) hs.1 hi r h with ⟨hw, s1, hs1, r1, h1⟩ | ⟨hw, s1, r', h1⟩
    ·have := hs.2 (pdB T) (pdG T ++ F.G) _ o s1 _ K a w r1 h1
     cases hcl : S.cls o with
     | world => exact absurd hcl hcw
     | pure =>
      rw [hcl] at this
      obtain ⟨v, s', hv, r', h'⟩ := this
      exact first v s' [] [] okn (.inl ⟨hw, fun w' _ => hv w'⟩) r' h'
     | read =>
      rw [hcl] at this
      obtain ⟨v, s', E, G', hE, hv, r', h'⟩ := this
      have htag : tagOf S ops i s = S.rd o s := by simp only [tagOf, hi, hcl]
      have hrd' : S.rd o s1 = S.rd o s := by
       rcases hs1 with q | ⟨t, b, hbq, q⟩
       ·rw [q]
       ·rw [q, hrd _ _ _ _ hbq]
      refine first v s' E G' ?_ (.inl ⟨hw, fun w' hw' => hv w' hw'.1 hw'.2⟩) r' h'
      rw [htag]
      unfold Pd.ok
      cases ht : S.rd o s with
      | none =>
       cases E with
       | nil => rfl
       | cons e E =>
        have := (hE e List.mem_cons_self).1
        rw [hrd', ht] at this
        cases this
      | some id =>
       intro e he
       have := (hE e he).1
       rw [hrd', ht] at this
       injection this with this
       exact this.symm
    ·exact first undef s1 [] [] okn (.inr ⟨hw, rfl⟩) r' h1
   ·rename_i hne
    refine ⟨fun hr => (hnil hr).elim, fun j hj => ?_⟩
    have hj' := Tr.sat_all h _ (List.mem_map.2 ⟨j, hj, rfl⟩)
    obtain ⟨hjun, o, ho, hall⟩ := mem_ready.1 hj
    split at hj'
    ·rename_i hok
     simp only [okAt, ho, Bool.or_eq_true, bne_iff_ne, ne_eq] at hok
     rw [pd_pend] at hj' hok
     rw [pd_next]
     have hT' : ∀ x ∈ T.filter (fun x => !dep .any ops j x.i), x.ok := fun x hx => hT x (List.mem_filter.1 hx).1
     have hB' : ∀ e ∈ pdB (T.filter fun x => !dep .any ops j x.i), e ∈ pdB T := fun e he => by
      obtain ⟨y, hy, he⟩ := List.mem_flatMap.1 he
      exact List.mem_flatMap.2 ⟨y, (List.mem_filter.1 hy).1, he⟩
     have hG' : ∀ e ∈ pdG (T.filter fun x => !dep .any ops j x.i) ++ F.G, e ∈ pdG T ++ F.G := fun e he => by
      rcases List.mem_append.1 he with he | he
      ·obtain ⟨y, hy, he⟩ := List.mem_flatMap.1 he
       exact List.mem_append_left _ (List.mem_flatMap.2 ⟨y, (List.mem_filter.1 hy).1, he⟩)
      ·exact List.mem_append_right _ he
     generalize T.filter (fun x => !dep .any ops j x.i) = T' at hj' hok hT' hB' hG' ⊢
     have r0 := (r.less hB').lessG hG'
     unfold wpOp
     simp only [ho]
     have fin : ∀ s' a' w', R ((F.withG (pdG T' ++ F.G)).with (pdB T')) s' a' w' → (go S ops fuel (pdD T') (listed.setIfInBounds j true) s' k).sat K →
       (∀ x ∈ pdW T', x.2 w') ∧ wpL P .any ops (endQ (F.with []) k K) fuel (pdW T') (listed.setIfInBounds j true) a' w' :=
      fun s' a' w' r' h' => ⟨pd_W r', ih T' _ s' a' w' hT' (hc.put hj) r' h'⟩
     rcases exec_sound (F := F.withG (pdG T' ++ F.G)) hs.1 ho r0 hj' with ⟨hw, s1, hs1, r1, h1⟩ | ⟨hw, s1, r', h1⟩
     ·rw [if_pos hw]
      refine .inl ?_
      have := hs.2 (pdB T') (pdG T' ++ F.G) _ o s1 _ K a w r1 h1
      cases hcl : S.cls o with
      | world =>
       rw [hcl] at this
       have heff : (S.eff o s1).ok (pdB T') := by
        have : S.eff o s1 = S.eff o s := by
         rcases hs1 with q | ⟨t, b, hbq, q⟩
         ·rw [q]
         ·rw [q, hef _ _ _ _ hbq]
        rw [this]
        exact pd_ok hT' (hok.resolve_left (by simp [hcl]))
       refine Oper.wp_mono ?_ (this heff _)
       rintro a' w' ⟨s', r', h'⟩
       exact fin s' a' w' r' h'
      | pure =>
       rw [hcl] at this
       obtain ⟨v, s', hv, r', h'⟩ := this
       unfold Oper.wp
       rw [hv w, Oper.upon_value]
       exact fin s' _ w r' h'
      | read =>
       rw [hcl] at this
       obtain ⟨v, s', E, G', hE, hv, r', h'⟩ := this
       unfold Oper.wp
       rw [hv w (fun e he => (hE e he).2) (fun x hx => r'.stab x (List.mem_append_left _ hx)), Oper.upon_value]
       exact fin s' _ w ((r'.less fun e he => List.mem_append_right _ he).lessG fun e he => List.mem_append_right _ he) h'
     ·rw [if_neg (by simp [hw])]
      exact fin s1 _ w r' h1
    ·exact hj'.elim
end

def insK {β : Type} (x : Nat × β) : List (Nat × β) → List (Nat × β)
 | [] => [x]
 | y :: l => if x.1 ≤ y.1 then x :: y :: l else y :: insK x l
def sortK {β : Type} : List (Nat × β) → List (Nat × β)
 | [] => []
 | x :: l => insK x (sortK l)
def St.norm (s : St) : St := ⟨sortK s.tm, sortK s.ck⟩
theorem insK_perm {β : Type} (x : Nat × β) : ∀ l : List (Nat × β), (insK x l).Perm (x :: l)
 | [] => .refl _
 | y :: l => by
  unfold insK
  split
  ·exact .refl _
  ·exact ((insK_perm x l).cons y).trans (.swap x y l)
theorem sortK_perm {β : Type} : ∀ l : List (Nat × β), (sortK l).Perm l
 | [] => .refl _
 | x :: l => (insK_perm x _).trans ((sortK_perm l).cons x)
theorem insK_map {β γ : Type} (f : β → γ) (x : Nat × β) : ∀ l : List (Nat × β), (insK x l).map (fun r => (r.1, f r.2)) = insK (x.1, f x.2) (l.map fun r => (r.1, f r.2))
 | [] => rfl
 | y :: l => by
  simp only [insK, List.map_cons]
  split
  ·rfl
  ·rw [List.map_cons, insK_map f x l]
theorem sortK_map {β γ : Type} (f : β → γ) : ∀ l : List (Nat × β), (sortK l).map (fun r => (r.1, f r.2)) = sortK (l.map fun r => (r.1, f r.2))
 | [] => rfl
 | x :: l => by rw [sortK, insK_map, sortK_map f l]; rfl
theorem star_perm {Γ : HF} {l l' : List (Nat × RC)} (p : l.Perm l') : ∀ {h : HF}, Star Γ l h → Star Γ l' h := by
 induction p with
 | nil => exact fun h => h
 | cons x _ ih => rintro h ⟨h1, h2, d, e, o, st⟩; exact ⟨h1, h2, d, e, o, ih st⟩
 | swap x y l =>
  rintro h ⟨h1, h2, d, rfl, o, g1, g2, d', rfl, o', st⟩
  obtain ⟨d1, d2⟩ := HF.dj_un.1 d
  refine ⟨g1, h1.un g2, HF.dj_un.2 ⟨d1.symm, d'⟩, ?_, o', h1, g2, d2, rfl, o, st⟩
  rw [← HF.un_assoc, ← HF.un_assoc, HF.un_comm d1]
 | trans _ _ ih1 ih2 => exact fun h => ih2 (ih1 h)
theorem look_perm {β : Type} {l l' : List (Nat × β)} (p : l.Perm l') : (l.map (·.1)).Nodup → ∀ n, look l n = look l' n := by
 induction p with
 | nil => exact fun _ _ => rfl
 | cons x _ ih =>
  intro nd n
  rw [List.map_cons, List.nodup_cons] at nd
  simp only [look, ih nd.2 n]
 | swap x y l =>
  intro nd n
  simp only [List.map_cons, List.nodup_cons, List.mem_cons, not_or] at nd
  simp only [look]
  split <;> split <;> first | rfl | (rename_i h1 h2; simp at h1 h2; exact absurd (h1.trans h2.symm) nd.1.1)
 | trans p _ ih1 ih2 => exact fun nd n => (ih1 nd n).trans (ih2 ((p.map (·.1)).nodup_iff.1 nd) n)
theorem SV.is_look {Γ : HF} {rcs rcs' : List (Nat × RC)} (h : ∀ n, look rcs n = look rcs' n) {v : Value} : ∀ {s : SV}, s.is Γ rcs v → s.is Γ rcs' v
 | .val _ _, i => i
 | .ptr _ _, ⟨r, q, e, i⟩ => ⟨r, q, (h _).symm.trans e, i⟩
 | .at _ _, ⟨r, q, e, i⟩ => ⟨r, q, (h _).symm.trans e, i⟩
 | .slc _ _ _ _, ⟨r, t, e, hole, x', z', a, e1, i⟩ => ⟨r, t, e, hole, x', z', a, (h _).symm.trans e1, i⟩
 | .eptr _ _, i => i
 | .nilS, i => i
 | .nilP, i => i
 | .bnd _ _ _, i => i
 | .clo _ _, ⟨vs, e, hl, i⟩ => ⟨vs, e, hl, fun j id hj => let ⟨r, b, t, e1, i1⟩ := i j id hj; ⟨r, b, t, (h _).symm.trans e1, i1⟩⟩
theorem AV.is_look {Γ : HF} {rcs rcs' : List (Nat × RC)} (h : ∀ n, look rcs n = look rcs' n) {v : Value} : ∀ {s : AV}, s.is Γ rcs v → s.is Γ rcs' v
 | .one _, i => SV.is_look h i
 | .tup _, ⟨vs, e, hl, i⟩ => ⟨vs, e, hl, fun j s hj => let ⟨u, hu, i1⟩ := i j s hj; ⟨u, hu, SV.is_look h i1⟩⟩
theorem R.norm {F : Fr} {s : St} {a : Act} {w : World} (r : R F s a w) : R F s.norm a w := by
 obtain ⟨Γ, rcs, h, g⟩ := r
 have hl : ∀ n, look rcs n = look (sortK rcs) n := look_perm (sortK_perm rcs).symm g.nodup
 refine ⟨Γ, sortK rcs, h, ?_, ((sortK_perm rcs).map (·.1)).nodup_iff.2 g.nodup, star_perm (sortK_perm rcs).symm g.star, g.mem, g.memR, g.dj, g.defers, g.tsz, ?_, g.size, g.keep, g.own, g.ro, g.ro0, g.os, g.tape, g.output, g.sg, ?_, ?_⟩
 ·show (sortK rcs).map (fun r => (r.1, r.2.ck)) = sortK s.ck
  rw [sortK_map RC.ck, g.ck]
 ·intro t av hm
  obtain ⟨v, hv, hi⟩ := g.tm t av ((sortK_perm s.tm).mem_iff.1 hm)
  exact ⟨v, hv, AV.is_look hl hi⟩
 ·intro e he
  obtain ⟨h1, h2⟩ := g.bx e he
  exact ⟨h1, fun id hid => by rw [← hl]; exact h2 id hid⟩
 ·intro m hm r hr
  rw [← hl] at hr
  exact g.md m hm r hr

section
variable {P : Program} {F : Fr} {S : Stepper} {ops : Array Oper} {K : α → Prop}
theorem region_any (hs : StepOK P F S) (hrd : ∀ o s t b, boolAt s t = some b → S.rd o (s.setB t b) = S.rd o s) (hef : ∀ o s t b, boolAt s t = some b → S.eff o (s.setB t b) = S.eff o s) (hm : P.follows .mixedOrders = true) (hsel : Region.noSelect ops = true) {id : Nat} {s : St} {a : Act} {w : World} {Q : Exit → Act → World → Prop} {k : St → Tr α} (r : R (F.with []) s a w)
  (h : (go S ops ops.size [] (Array.replicate ops.size false) s fun s' => k s'.norm).sat K) (hQ : ∀ s' a' w', R (F.with []) s' a' w' → (k s').sat K → Q .normal a' w') : (Code.region id ops true).wp P Q a w := by
 have := wp_region_any (id := id) hm (wpAny_of_wpL _ _ _ _ _ (go_sound hs hrd hef hsel ops.size [] (Array.replicate ops.size false) s a w.drew (fun x hx => by cases hx) (Closed.none _) r.drew h))
 refine wp_mono this ?_
 intro e a' w' q
 cases e with
 | normal => obtain ⟨s', r', h'⟩ := q; exact hQ _ a' w' r'.norm h'
 | _ => exact q.elim

def goSeq (S : Stepper) (ops : Array Oper) : List Nat → St → (St → Tr α) → Tr α
 | [], s, k => k s
 | i :: l, s, k => exec S ops i s fun s' => goSeq S ops l s' k
theorem effok_nil (e : Eff) : e.ok [] := fun x hx => by cases hx
theorem goSeq_sound (hs : StepOK P F S) {k : St → Tr α} : ∀ (l : List Nat) (s : St) (a : Act) (w : World), (∀ i ∈ l, i < ops.size) → R (F.with []) s a w → (goSeq S ops l s k).sat K → wpOps P ops (endQ (F.with []) k K) l a w
 | [], s, a, w, _, r, h => ⟨s, r, h⟩
 | i :: l, s, a, w, hl, r, h => by
  obtain ⟨o, hi⟩ : ∃ o, ops[i]? = some o := ⟨_, Array.getElem?_eq_getElem (hl i (by simp))⟩
  simp only [wpOps, hi]
  rcases exec_sound hs.1 hi r h with ⟨hw, s1, hs1, r1, h1⟩ | ⟨hw, s1, r', h1⟩
  ·rw [if_pos hw]
   refine .inl ?_
   have := hs.2 [] F.G _ o s1 _ K a w r1 h1
   cases hc : S.cls o with
   | world =>
    rw [hc] at this
    refine Oper.wp_mono ?_ (this (effok_nil _) _)
    rintro a' w' ⟨s', r', h'⟩
    exact goSeq_sound hs l s' a' w' (fun j hj => hl j (by simp [hj])) r' h'
   | pure =>
    rw [hc] at this
    obtain ⟨v, s', hv, r', h'⟩ := this
    unfold Oper.wp
    rw [hv w, Oper.upon_value]
    exact goSeq_sound hs l s' _ w (fun j hj => hl j (by simp [hj])) r' h'
   | read =>
    rw [hc] at this
    obtain ⟨v, s', E, G', hE, hv, r', h'⟩ := this
    unfold Oper.wp
    rw [hv w (fun e he => (hE e he).2) (fun x hx => r'.stab x (List.mem_append_left _ hx)), Oper.upon_value]
    exact goSeq_sound hs l s' _ w (fun j hj => hl j (by simp [hj])) (endG (r'.less fun e he => by cases he)) h'
  ·rw [if_neg (by simp [hw])]
   exact goSeq_sound hs l s1 _ w (fun j hj => hl j (by simp [hj])) r' h1
theorem region_seq (hs : StepOK P F S) {id : Nat} {s : St} {a : Act} {w : World} {Q : Exit → Act → World → Prop} {k : St → Tr α} (r : R (F.with []) s a w)
  (h : (goSeq S ops (List.range ops.size) s k).sat K) (hQ : ∀ s' a' w', R (F.with []) s' a' w' → (k s').sat K → Q .normal a' w') : (Code.region id ops false).wp P Q a w := by
 have := wp_region (id := id) (goSeq_sound hs (List.range ops.size) s a w (fun i hi => List.mem_range.1 hi) r h)
 refine wp_mono this ?_
 intro e a' w' q
 cases e with
 | normal => obtain ⟨s', r', h'⟩ := q; exact hQ s' a' w' r' h'
 | _ => exact q.elim
end
end Go.Proofs.YtibammoednhnoaaE

