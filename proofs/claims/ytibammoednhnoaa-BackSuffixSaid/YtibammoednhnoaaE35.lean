/- The engine, part 35: the body of a function. Conditions: none. -/
import Derived.Test.YtibammoednhnoaaE34
import Derived.LoopN
import Derived.Scope
set_option linter.unusedVariables false
set_option linter.unusedSimpArgs false
namespace Go.Proofs.YtibammoednhnoaaE
open Kd
variable {α : Type}

inductive Ex where
 | normal
 | exit (id : Nat)
 | ret
 deriving DecidableEq
def Ex.to : Ex → Exit
 | .normal => .normal
 | .exit id => .exit id
 | .ret => .ret
@[reducible] def PT : List (Ex × Shape) → Type
 | [] => Empty
 | [o] => o.2.V
 | o :: o2 :: l => o.2.V ⊕ PT (o2 :: l)
structure Frag where
 sh : Shape
 outs : List (Ex × Shape)
 impl : sh.V → Option (PT outs)
def outK : (outs : List (Ex × Shape)) → PT outs → (Ex → St → Tr α) → Tr α
 | [], _, _ => .bad
 | [o], v, k => k o.1 (o.2.st v)
 | o :: o2 :: l, v, k => .alt v (fun x => k o.1 (o.2.st x)) fun y => outK (o2 :: l) y k
def outOf : (outs : List (Ex × Shape)) → PT outs → Ex × St
 | [], v => nomatch v
 | [o], v => (o.1, o.2.st v)
 | o :: _ :: _, .inl x => (o.1, o.2.st x)
 | _ :: o2 :: l, .inr y => outOf (o2 :: l) y
theorem outK_sat : ∀ {outs : List (Ex × Shape)} {r : PT outs} {k : Ex → St → Tr α} {K : α → Prop}, (outK outs r k).sat K → (k (outOf outs r).1 (outOf outs r).2).sat K
 | [], r, _, _, h => h.elim
 | [o], r, _, _, h => h
 | o :: o2 :: l, .inl x, _, _, h => h.1 x rfl
 | o :: o2 :: l, .inr y, _, _, h => outK_sat (outs := o2 :: l) (h.2 y rfl)
def injO : (outs : List (Ex × Shape)) → Ex → St → Tr (PT outs)
 | [], _, _ => .bad
 | [o], e, s => if e = o.1 then (match o.2.enter s with
  | some v => .leaf v
  | none => .bad) else .bad
 | o :: o2 :: l, e, s => if e = o.1 then (match o.2.enter s with
  | some v => .leaf (.inl v)
  | none => .bad) else match injB (o2 :: l) e s with
  | some v => .leaf (.inr v)
  | none => .bad
where
 injB : (outs : List (Ex × Shape)) → Ex → St → Option (PT outs)
 | [], _, _ => none
 | [o], e, s => if e = o.1 then o.2.enter s else none
 | o :: o2 :: l, e, s => if e = o.1 then (match o.2.enter s with
  | some v => some (.inl v)
  | none => none) else match injB (o2 :: l) e s with
  | some v => some (.inr v)
  | none => none
theorem injB_ok {F : Fr} (hB : F.B = []) {a : Act} {w : World} : ∀ {outs : List (Ex × Shape)} {e : Ex} {s : St} {v : PT outs}, R F s a w → injO.injB outs e s = some v → (outOf outs v).1 = e ∧ R F (outOf outs v).2 a w
 | [], _, _, v, _, _ => nomatch v
 | [o], e, s, v, r, h => by
  simp only [injO.injB] at h
  split at h
  ·rename_i he
   exact ⟨he.symm, enter_ok hB r h⟩
  ·cases h
 | o :: o2 :: l, e, s, v, r, h => by
  simp only [injO.injB] at h
  split at h
  ·rename_i he
   split at h
   ·rename_i x hx
    injection h with h
    subst h
    exact ⟨he.symm, enter_ok hB r hx⟩
   ·cases h
  ·split at h
   ·rename_i y hy
    injection h with h
    subst h
    exact injB_ok hB (outs := o2 :: l) r hy
   ·cases h
theorem injO_ok {F : Fr} (hB : F.B = []) {a : Act} {w : World} : ∀ {outs : List (Ex × Shape)} {e : Ex} {s : St} {K : PT outs → Prop}, R F s a w → (injO outs e s).sat K → ∃ v, K v ∧ (outOf outs v).1 = e ∧ R F (outOf outs v).2 a w
 | [], _, _, _, _, h => h.elim
 | [o], e, s, K, r, h => by
  simp only [injO] at h
  split at h
  ·rename_i he
   split at h
   ·rename_i x hx
    exact ⟨x, h, he.symm, enter_ok hB r hx⟩
   ·exact h.elim
  ·exact h.elim
 | o :: o2 :: l, e, s, K, r, h => by
  simp only [injO] at h
  split at h
  ·rename_i he
   split at h
   ·rename_i x hx
    exact ⟨.inl x, h, he.symm, enter_ok hB r hx⟩
   ·exact h.elim
  ·split at h
   ·rename_i y hy
    obtain ⟨h1, h2⟩ := injB_ok hB r hy
    exact ⟨.inr y, h, h1, h2⟩
   ·exact h.elim

inductive Plan where
 | go
 | frag (f : Frag)
 | seq (a b : Plan)
 | sub (a : Plan)
def Plan.l : Plan → Plan
 | .seq a _ => a
 | _ => .go
def Plan.r : Plan → Plan
 | .seq _ b => b
 | _ => .go
def Plan.s : Plan → Plan
 | .sub a => a
 | _ => .go
def condB (s : St) (c : Operand) : Option (Option Nat × Bool) := match c with
 | .tmp t => match boolAt s t with
  | some b => some (some t, b)
  | none => none
 | .const (.bool b) => some (none, b)
 | _ => none
def St.setC (s : St) (t : Option Nat) (b : Bool) : St := match t with
 | some t => s.setB t b
 | none => s
def body (P : Program) (S : Stepper) : Plan → Code → St → (Ex → St → Tr α) → Tr α
 | .frag f, _, s, k => match f.sh.enter s with
  | some v => .bind (f.impl v) fun r => outK f.outs r k
  | none => .bad
 | _, .skip, s, k => k .normal s
 | _, .region _ ops true, s, k => if P.follows .mixedOrders && Region.noSelect ops then go S ops ops.size [] (Array.replicate ops.size false) s (fun s' => k .normal s'.norm) else .bad
 | _, .region _ ops false, s, k => goSeq S ops (List.range ops.size) s (k .normal)
 | p, .seq a b, s, k => body P S p.l a s fun e s' => match e with
  | .normal => body P S p.r b s' k
  | e => k e s'
 | p, .cond c x y, s, k => match condB s c with
  | some (t, b) => .split b (body P S p.l x (s.setC t true) k) (body P S p.r y (s.setC t false) k)
  | none => .bad
 | p, .block id c, s, k => body P S p.s c s fun e s' => match e with
  | .exit i => if i = id then k .normal s' else k (.exit i) s'
  | e => k e s'
 | _, .exit id, s, k => k (.exit id) s
 | _, .ret, s, k => k .ret s
 | p, .scope c, s, k => body P S p.s c s k
 | _, .label _, s, k => k .normal s
 | _, _, _, _ => .bad

def FragOK (P : Program) (n : Lim) (f : Frag) (c : Code) : Prop := ∀ (v : f.sh.V) (r : PT f.outs), f.impl v = some r → ∀ (F : Fr), F.n = n → F.B = [] → ∀ (a : Act) (w : World), R F (f.sh.st v) a w →
 c.wp P (fun e a' w' => e = (outOf f.outs r).1.to ∧ R F (outOf f.outs r).2 a' w') a w
def PlanOK (P : Program) (n : Lim) : Plan → Code → Prop
 | .frag f, c => FragOK P n f c
 | p, .seq a b => PlanOK P n p.l a ∧ PlanOK P n p.r b
 | p, .cond _ x y => PlanOK P n p.l x ∧ PlanOK P n p.r y
 | p, .block _ c => PlanOK P n p.s c
 | p, .scope c => PlanOK P n p.s c
 | _, _ => True
theorem planOK_go {P : Program} {n : Lim} : ∀ (c : Code), PlanOK P n .go c
 | .skip => trivial
 | .region _ _ _ => trivial
 | .seq a b => ⟨planOK_go a, planOK_go b⟩
 | .cond _ a b => ⟨planOK_go a, planOK_go b⟩
 | .block _ c => planOK_go c
 | .loop _ => trivial
 | .rangeFunc _ _ _ _ => trivial
 | .exit _ => trivial
 | .scope c => planOK_go c
 | .label _ => trivial
 | .goto _ => trivial
 | .ret => trivial
 | .refuse _ => trivial
theorem with_nil {F : Fr} (h : F.B = []) : F.with [] = F := by
 obtain ⟨w0, lent, G, n, B, M, hM⟩ := F
 simp only at h
 subst h
 rfl
section
variable {P : Program} {cfg : Nat → Option Spec} {n : Lim}
def bodyQ (F : Fr) (k : Ex → St → Tr α) (K : α → Prop) : Exit → Act → World → Prop := fun e a w => ∃ (x : Ex) (s : St), e = x.to ∧ R F s a w ∧ (k x s).sat K
theorem body_sound (hcfg : ∀ f sp, cfg f = some sp → Callable P f ∧ Valid P f sp) {F : Fr} (hn : F.n = n) (hB : F.B = []) {K : α → Prop} : ∀ (c : Code) (p : Plan) (s : St) (k : Ex → St → Tr α) (a : Act) (w : World), PlanOK P n p c → R F s a w → (body P (stepper P cfg n) p c s k).sat K → c.wp P (bodyQ F k K) a w := by
 have hW := with_nil hB
 have hS : StepOK P F (stepper P cfg n) := by rw [← hn]; exact stepper_ok hcfg F
 intro c
 have hfrag : ∀ (c : Code) (f : Frag) (s : St) (k : Ex → St → Tr α) (a : Act) (w : World), FragOK P n f c → R F s a w → (match f.sh.enter s with
  | some v => Tr.bind (f.impl v) fun r => outK f.outs r k
  | none => .bad).sat K → c.wp P (bodyQ F k K) a w := by
  intro c f s k a w hf r h
  split at h
  ·rename_i v hv
   obtain ⟨q, hq, hk⟩ := h
   refine wp_mono (hf v q hq F hn hB a w (enter_ok hB r hv)) ?_
   rintro e a' w' ⟨rfl, r'⟩
   exact ⟨_, _, rfl, r', outK_sat hk⟩
  ·exact h.elim
 have reg : ∀ (id : Nat) (ops : Array Oper) (dr : Bool) (p : Plan) (s : St) (k : Ex → St → Tr α) (a : Act) (w : World), PlanOK P n p (.region id ops dr) → R F s a w → (body P (stepper P cfg n) p (.region id ops dr) s k).sat K → (Code.region id ops dr).wp P (bodyQ F k K) a w := by
  intro id ops dr p s k a w hp r h
  have main : (∀ f, p ≠ .frag f) → (Code.region id ops dr).wp P (bodyQ F k K) a w := by
   intro hne
   cases dr with
   | true =>
    have h' : (if P.follows .mixedOrders && Region.noSelect ops then go (stepper P cfg n) ops ops.size [] (Array.replicate ops.size false) s (fun s' => k .normal s'.norm) else .bad).sat K := by
     cases p <;> first | exact h | exact absurd rfl (hne _)
    split at h'
    ·rename_i hc
     simp only [Bool.and_eq_true] at hc
     exact region_any hS (fun o s t b => rdOf_setB o s t b) (fun o s t b => effOf_setB cfg o s t b) hc.1 hc.2 (by rw [hW]; exact r) h' fun s' a' w' r' hk => ⟨.normal, s', rfl, by rw [hW] at r'; exact r', hk⟩
    ·exact h'.elim
   | false =>
    have h' : (goSeq (stepper P cfg n) ops (List.range ops.size) s (k .normal)).sat K := by
     cases p <;> first | exact h | exact absurd rfl (hne _)
    exact region_seq hS (by rw [hW]; exact r) h' fun s' a' w' r' hk => ⟨.normal, s', rfl, by rw [hW] at r'; exact r', hk⟩
  cases p with
  | frag f => exact hfrag _ f s k a w hp r h
  | _ => exact main fun f q => by cases q
 induction c with
 | region id ops dr => exact reg id ops dr
 | skip =>
  intro p s k a w hp r h
  cases p with
  | frag f => exact hfrag _ f s k a w hp r h
  | _ => exact wp_skip ⟨.normal, s, rfl, r, h⟩
 | exit id =>
  intro p s k a w hp r h
  cases p with
  | frag f => exact hfrag _ f s k a w hp r h
  | _ => exact wp_exit ⟨.exit id, s, rfl, r, h⟩
 | ret =>
  intro p s k a w hp r h
  cases p with
  | frag f => exact hfrag _ f s k a w hp r h
  | _ => exact wp_ret ⟨.ret, s, rfl, r, h⟩
 | label l =>
  intro p s k a w hp r h
  cases p with
  | frag f => exact hfrag _ f s k a w hp r h
  | _ => exact wp_label ⟨.normal, s, rfl, r, h⟩
 | goto l =>
  intro p s k a w hp r h
  cases p with
  | frag f => exact hfrag _ f s k a w hp r h
  | _ => exact h.elim
 | refuse y =>
  intro p s k a w hp r h
  cases p with
  | frag f => exact hfrag _ f s k a w hp r h
  | _ => exact h.elim
 | rangeFunc f ps x y =>
  intro p s k a w hp r h
  cases p with
  | frag f => exact hfrag _ f s k a w hp r h
  | _ => exact h.elim
 | loop b ih =>
  intro p s k a w hp r h
  cases p with
  | frag f => exact hfrag _ f s k a w hp r h
  | _ => exact h.elim
 | seq x y ihx ihy =>
  intro p s k a w hp r h
  have main : (∀ f, p ≠ .frag f) → (Code.seq x y).wp P (bodyQ F k K) a w := by
   intro hne
   have hp' : PlanOK P n p.l x ∧ PlanOK P n p.r y := by cases p <;> first | exact hp | exact absurd rfl (hne _)
   have h' : (body P (stepper P cfg n) p.l x s fun e s' => match e with
    | .normal => body P (stepper P cfg n) p.r y s' k
    | e => k e s').sat K := by cases p <;> first | exact h | exact absurd rfl (hne _)
   refine wp_seq (wp_mono (ihx p.l s _ a w hp'.1 r h') ?_)
   rintro e a' w' ⟨ex, s', rfl, r', hk⟩
   cases ex with
   | normal => exact ihy p.r s' k a' w' hp'.2 r' hk
   | exit id => exact ⟨.exit id, s', rfl, r', hk⟩
   | ret => exact ⟨.ret, s', rfl, r', hk⟩
  cases p with
  | frag f => exact hfrag _ f s k a w hp r h
  | _ => exact main fun f q => by cases q
 | cond c x y ihx ihy =>
  intro p s k a w hp r h
  have main : (∀ f, p ≠ .frag f) → (Code.cond c x y).wp P (bodyQ F k K) a w := by
   intro hne
   have hp' : PlanOK P n p.l x ∧ PlanOK P n p.r y := by cases p <;> first | exact hp | exact absurd rfl (hne _)
   have h' : (match condB s c with
    | some (t, b) => Tr.split b (body P (stepper P cfg n) p.l x (s.setC t true) k) (body P (stepper P cfg n) p.r y (s.setC t false) k)
    | none => .bad).sat K := by cases p <;> first | exact h | exact absurd rfl (hne _)
   split at h'
   ·rename_i t b hc
    have hcb : a.eval c = .bool b ∧ R F (s.setC t b) a w := by
     unfold condB at hc
     split at hc
     ·rename_i t'
      split at hc
      ·rename_i b' hb
       injection hc with hc
       injection hc with e1 e2
       subst e1; subst e2
       have hv := boolAt_is r hb
       exact ⟨by simp [Act.eval, hv], r.setB hv⟩
      ·cases hc
     ·injection hc with hc
      injection hc with e1 e2
      subst e1; subst e2
      exact ⟨rfl, r⟩
     ·cases hc
    refine wp_cond_split hcb.1 (fun e => ?_) (fun e => ?_)
    ·subst e
     exact ihx p.l _ k a w hp'.1 hcb.2 (h'.1 rfl)
    ·subst e
     exact ihy p.r _ k a w hp'.2 hcb.2 (h'.2 rfl)
   ·exact h'.elim
  cases p with
  | frag f => exact hfrag _ f s k a w hp r h
  | _ => exact main fun f q => by cases q
 | block id c ih =>
  intro p s k a w hp r h
  have main : (∀ f, p ≠ .frag f) → (Code.block id c).wp P (bodyQ F k K) a w := by
   intro hne
   have hp' : PlanOK P n p.s c := by cases p <;> first | exact hp | exact absurd rfl (hne _)
   have h' : (body P (stepper P cfg n) p.s c s fun e s' => match e with
    | .exit i => if i = id then k .normal s' else k (.exit i) s'
    | e => k e s').sat K := by cases p <;> first | exact h | exact absurd rfl (hne _)
   refine wp_block (wp_mono (ih p.s s _ a w hp' r h') ?_)
   rintro e a' w' ⟨ex, s', rfl, r', hk⟩
   cases ex with
   | normal => exact ⟨.normal, s', rfl, r', hk⟩
   | ret => exact ⟨.ret, s', rfl, r', hk⟩
   | exit i =>
    simp only [Ex.to, Exit.inBlock]
    simp only at hk
    split
    ·rename_i hi
     rw [if_pos hi] at hk
     exact ⟨.normal, s', rfl, r', hk⟩
    ·rename_i hi
     rw [if_neg hi] at hk
     exact ⟨.exit i, s', rfl, r', hk⟩
  cases p with
  | frag f => exact hfrag _ f s k a w hp r h
  | _ => exact main fun f q => by cases q
 | scope c ih =>
  intro p s k a w hp r h
  have main : (∀ f, p ≠ .frag f) → (Code.scope c).wp P (bodyQ F k K) a w := by
   intro hne
   have hp' : PlanOK P n p.s c := by cases p <;> first | exact hp | exact absurd rfl (hne _)
   have h' : (body P (stepper P cfg n) p.s c s k).sat K := by cases p <;> first | exact h | exact absurd rfl (hne _)
   refine wp_scope_straight (wp_mono (ih p.s s k a w hp' r h') ?_)
   rintro e a' w' ⟨ex, s', rfl, r', hk⟩
   cases ex with
   | normal => exact ⟨.normal, s', rfl, r', hk⟩
   | ret => exact ⟨.ret, s', rfl, r', hk⟩
   | exit i => exact ⟨.exit i, s', rfl, r', hk⟩
  cases p with
  | frag f => exact hfrag _ f s k a w hp r h
  | _ => exact main fun f q => by cases q

def loopK (f : Frag) (rec : f.sh.V → Option (PT f.outs)) (e : Ex) (s : St) : Tr (PT f.outs) := match e with
 | .normal => match f.sh.enter s with
  | some v => .bind (rec v) .leaf
  | none => .bad
 | e => injO f.outs e s
theorem loop_ok (hcfg : ∀ f sp, cfg f = some sp → Callable P f ∧ Valid P f sp) {f : Frag} {b : Code} {p : Plan} (hp : PlanOK P n p b) (lp : Nat → f.sh.V → Option (PT f.outs)) (N : Nat) (himpl : ∀ v, f.impl v = lp N v) (h0 : ∀ v, lp 0 v = none)
  (hs : ∀ m v, lp (m + 1) v = (body P (stepper P cfg n) p b (f.sh.st v) (loopK f (lp m))).eval ∧ (body P (stepper P cfg n) p b (f.sh.st v) (loopK f (lp m))).left = (body P (stepper P cfg n) p b (f.sh.st v) (loopK f (lp m))).right) : FragOK P n f (.loop b) := by
 intro v r hr F hn hB a w hR
 rw [himpl] at hr
 refine wp_loop_rounds N ?_
 have key : ∀ (m : Nat) (v : f.sh.V) (r : PT f.outs) (a : Act) (w : World), lp m v = some r → R F (f.sh.st v) a w → Code.rounds P b (fun e a' w' => e = (outOf f.outs r).1.to ∧ R F (outOf f.outs r).2 a' w') m a w := by
  intro m
  induction m with
  | zero => intro v r a w h _; rw [h0] at h; cases h
  | succ m ih =>
   intro v r a w h hR
   obtain ⟨e1, e2⟩ := hs m v
   rw [e1] at h
   have hsat := Tr.eval_sat _ e2 h (K := (· = r)) rfl
   rw [rounds_succ]
   refine wp_mono (body_sound hcfg hn hB b p _ _ a w hp hR hsat) ?_
   rintro e a' w' ⟨ex, s', rfl, r', hk⟩
   cases ex with
   | normal =>
    simp only [loopK] at hk
    split at hk
    ·rename_i v' hv'
     obtain ⟨q, hq, he⟩ := hk
     have he' : q = r := he
     subst he'
     exact ih v' q a' w' hq (enter_ok hB r' hv')
    ·exact hk.elim
   | exit id =>
    obtain ⟨q, hq, h1, h2⟩ := injO_ok hB r' hk
    have hq' : q = r := hq
    subst hq'
    exact ⟨by rw [h1], h2⟩
   | ret =>
    obtain ⟨q, hq, h1, h2⟩ := injO_ok hB r' hk
    have hq' : q = r := hq
    subst hq'
    exact ⟨by rw [h1], h2⟩
 exact key N v r a w hr hR

def rsEats : List ResultVar → List Rs → List (Nat × Bool)
 | .tmp t :: vs, .own _ :: rs => (t, true) :: rsEats vs rs
 | .tmp t :: vs, .ownN _ :: rs => (t, true) :: rsEats vs rs
 | _ :: vs, _ :: rs => rsEats vs rs
 | _, _ => []
def endK (P : Program) (fn : Func) (sp : Spec) (e : Ex) (s : St) : Tr (RT sp.rs × OT sp.ps) := match e with
 | .normal | .ret => retK P fn sp (ownAll (rsEats fn.results.toList sp.rs) s)
 | _ => .bad
def fnT (P : Program) (cfg : Nat → Option Spec) (n : Lim) (fn : Func) (c : Code) (p : Plan) (sp : Spec) (x : AT sp.ps) : Tr (RT sp.rs × OT sp.ps) := body P (stepper P cfg n) p c (entrySt sp.ps x) (endK P fn sp)
theorem fn_sat (hcfg : ∀ f sp, cfg f = some sp → Callable P f ∧ Valid P f sp) {f : Nat} {fn : Func} {c : Code} {sp : Spec} {p : Plan} (hf : P.funcs[f]? = some fn) (hb : fn.body = some c) (hnm : (fn.name == "runtime.NumGoroutine") = false)
  (hn : n.n = fn.ntmps) (hlo : n.lo = sp.ps.length) (hps : sp.ps.length ≤ fn.ntmps) (hbig : sp.ps.length ≤ 1000000) (hp : PlanOK P n p c)
  (hs : ∀ x r, sp.impl x = some r → (fnT P cfg n fn c p sp x).sat (· = r)) : Callable P f ∧ Valid P f sp := by
 refine ⟨⟨fn, hf, hnm, by rw [hb]; rfl⟩, fn_valid (n := n) hf hb hn hlo hps hbig ?_⟩
 intro x r hr F hFn hB a w hR
 have hsat := hs x r hr
 have eatR : ∀ {l : List (Nat × Bool)} {s : St} {a : Act} {w : World}, R F s a w → R F (ownAll l s) a w := fun {l s a w} ⟨Γ, rcs, h, g⟩ => by
  obtain ⟨rcs', h', g'⟩ := ownAll_ok (l := l) g (by rw [hB]; intro e he; cases he)
  exact ⟨Γ, rcs', h', g'⟩
 refine wp_mono (body_sound hcfg hFn hB c p _ _ a w hp hR hsat) ?_
 rintro e a' w' ⟨ex, s', rfl, r', hk⟩
 cases ex with
 | normal => exact ⟨.inl rfl, _, eatR r', hk⟩
 | ret => exact ⟨.inr rfl, _, eatR r', hk⟩
 | exit id => exact hk.elim
theorem fn_ok (hcfg : ∀ f sp, cfg f = some sp → Callable P f ∧ Valid P f sp) {f : Nat} {fn : Func} {c : Code} {sp : Spec} {p : Plan} (hf : P.funcs[f]? = some fn) (hb : fn.body = some c) (hnm : (fn.name == "runtime.NumGoroutine") = false)
  (hn : n.n = fn.ntmps) (hlo : n.lo = sp.ps.length) (hps : sp.ps.length ≤ fn.ntmps) (hbig : sp.ps.length ≤ 1000000) (hp : PlanOK P n p c)
  (hs : ∀ x, sp.impl x = (fnT P cfg n fn c p sp x).eval ∧ (fnT P cfg n fn c p sp x).left = (fnT P cfg n fn c p sp x).right) : Callable P f ∧ Valid P f sp :=
 fn_sat hcfg hf hb hnm hn hlo hps hbig hp fun x r hr => Tr.eval_sat _ (hs x).2 ((hs x).1 ▸ hr) rfl
end
end Go.Proofs.YtibammoednhnoaaE

