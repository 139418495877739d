/- The engine, part 36: what the printed proofs say. Conditions: none. -/
import Derived.Test.YtibammoednhnoaaEC
set_option linter.unusedVariables false
set_option linter.unusedSimpArgs false
namespace Go.Proofs.YtibammoednhnoaaE
open Kd
variable {α : Type}

def bodyOf (f : Func) : Code := match f.body with
 | some c => c
 | none => .skip
inductive CS where
 | l | r | s | b
def codeAt : Code → List CS → Code
 | c, [] => c
 | .seq a _, .l :: p => codeAt a p
 | .seq _ b, .r :: p => codeAt b p
 | .cond _ a _, .l :: p => codeAt a p
 | .cond _ _ b, .r :: p => codeAt b p
 | .block _ c, .s :: p => codeAt c p
 | .scope c, .s :: p => codeAt c p
 | .loop c, .b :: p => codeAt c p
 | _, _ => .skip
def cfgL (l : List (Nat × Spec)) (f : Nat) : Option Spec := look l f
def CfgOK (P : Program) (cfg : Nat → Option Spec) : Prop := ∀ f sp, cfg f = some sp → Callable P f ∧ Valid P f sp
theorem cfgL_nil {P : Program} : CfgOK P (cfgL []) := fun f sp h => by cases h
theorem cfgL_cons {P : Program} {f : Nat} {sp : Spec} {l : List (Nat × Spec)} (h : Callable P f ∧ Valid P f sp) (hl : CfgOK P (cfgL l)) : CfgOK P (cfgL ((f, sp) :: l)) := fun f' sp' e => by
 unfold cfgL at e
 simp only [look] at e
 split at e
 ·rename_i hf
  injection e with e
  subst e
  have : f = f' := by simpa using hf
  subst this
  exact h
 ·exact hl f' sp' e
theorem frag_cast {P : Program} {n : Lim} {f : Frag} {c c' : Code} (e : c = c') (h : FragOK P n f c) : FragOK P n f c' := e ▸ h
def frL : Plan → Code → List (Frag × Code)
 | .frag f, c => [(f, c)]
 | .go, _ => []
 | p, .seq a b => frL p.l a ++ frL p.r b
 | p, .cond _ x y => frL p.l x ++ frL p.r y
 | p, .block _ c => frL p.s c
 | p, .scope c => frL p.s c
 | _, _ => []
inductive AllOK (P : Program) (n : Lim) : List (Frag × Code) → Prop
 | nil : AllOK P n []
 | cons {f : Frag} {c : Code} {l : List (Frag × Code)} : FragOK P n f c → AllOK P n l → AllOK P n ((f, c) :: l)
theorem AllOK.app {P : Program} {n : Lim} : ∀ {a b : List (Frag × Code)}, AllOK P n (a ++ b) → AllOK P n a ∧ AllOK P n b
 | [], _, h => ⟨.nil, h⟩
 | (f, c) :: a, b, h => by
  cases h with
  | cons h1 h2 => exact ⟨.cons h1 (AllOK.app h2).1, (AllOK.app h2).2⟩
theorem plan_all {P : Program} {n : Lim} : ∀ (c : Code) (p : Plan), AllOK P n (frL p c) → PlanOK P n p c := by
 intro c
 induction c with
 | seq a b iha ihb =>
  intro p h
  cases p with
  | frag f => cases h with
   | cons h1 _ => exact h1
  | go => exact planOK_go _
  | _ => exact ⟨iha _ (AllOK.app h).1, ihb _ (AllOK.app h).2⟩
 | cond e a b iha ihb =>
  intro p h
  cases p with
  | frag f => cases h with
   | cons h1 _ => exact h1
  | go => exact planOK_go _
  | _ => exact ⟨iha _ (AllOK.app h).1, ihb _ (AllOK.app h).2⟩
 | block i c ih =>
  intro p h
  cases p with
  | frag f => cases h with
   | cons h1 _ => exact h1
  | go => exact planOK_go _
  | _ => exact ih _ h
 | scope c ih =>
  intro p h
  cases p with
  | frag f => cases h with
   | cons h1 _ => exact h1
  | go => exact planOK_go _
  | _ => exact ih _ h
 | _ =>
  intro p h
  cases p with
  | frag f => cases h with
   | cons h1 _ => exact h1
  | _ => trivial
theorem plan_of {P : Program} {n : Lim} {c : Code} {p : Plan} {L : List (Frag × Code)} (e : frL p c = L) (h : AllOK P n L) : PlanOK P n p c := plan_all c p (by rw [e]; exact h)
theorem frag_ok {P : Program} {cfg : Nat → Option Spec} {n : Lim} (hcfg : CfgOK P cfg) {f : Frag} {c : Code} {p : Plan} (hp : PlanOK P n p c)
  (hs : ∀ v, f.impl v = (body P (stepper P cfg n) p c (f.sh.st v) (injO f.outs)).eval ∧ (body P (stepper P cfg n) p c (f.sh.st v) (injO f.outs)).left = (body P (stepper P cfg n) p c (f.sh.st v) (injO f.outs)).right) : FragOK P n f c := by
 intro v r hr F hn hB a w hR
 obtain ⟨e1, e2⟩ := hs v
 rw [e1] at hr
 have hsat := Tr.eval_sat _ e2 hr (K := (· = r)) rfl
 refine wp_mono (body_sound hcfg hn hB c p _ _ a w hp hR hsat) ?_
 rintro e a' w' ⟨ex, s', rfl, r', hk⟩
 obtain ⟨q, hq, h1, h2⟩ := injO_ok hB r' hk
 have hq' : q = r := hq
 subst hq'
 exact ⟨by rw [h1], h2⟩
theorem fn_of {P : Program} {cfg : Nat → Option Spec} {n : Lim} (hcfg : CfgOK P cfg) {f : Nat} {fn : Func} {sp : Spec} {p : Plan} (h : (P.funcs[f]?, fn.body, (fn.name == "runtime.NumGoroutine"), n.n, n.lo, Nat.ble sp.ps.length fn.ntmps, Nat.ble sp.ps.length 1000000) = (some fn, some (bodyOf fn), false, fn.ntmps, sp.ps.length, true, true)) (hp : PlanOK P n p (bodyOf fn))
  (hs : ∀ x, sp.impl x = (fnT P cfg n fn (bodyOf fn) p sp x).eval ∧ (fnT P cfg n fn (bodyOf fn) p sp x).left = (fnT P cfg n fn (bodyOf fn) p sp x).right) : Callable P f ∧ Valid P f sp := by
 simp only [Prod.mk.injEq] at h
 obtain ⟨h1, h2, h3, h4, h5, h6, h7⟩ := h
 exact fn_ok hcfg h1 h2 h3 h4 h5 (Nat.le_of_ble_eq_true h6) (Nat.le_of_ble_eq_true h7) hp hs
theorem sat_of_eq {t u : Tr α} {K : α → Prop} (e : t = u) (h : u.sat K) : t.sat K := e ▸ h
theorem clone_sat {T : Type} {a : List T} {p : Prop} [Decidable p] (hp : a = [] → p) {r : (List T × Unit) × Unit} (h : (bif (((List.length a : Nat) : Int) == 0) then some (([], ()), ()) else if p then some (([] ++ a, ()), ()) else none) = some r) :
  (Tr.split (((List.length a : Nat) : Int) == 0) (.both (.split true (.leaf (([], ()), ())) (.need p (.leaf (([] ++ a, ()), ())))) (.split false (.leaf (([], ()), ())) (.need p (.leaf (([] ++ a, ()), ()))))) (.split false (.leaf (([], ()), ())) (.need p (.leaf (([] ++ a, ()), ()))))).sat (· = r) := by
 by_cases ha : a = []
 ·subst ha
  have h' : some (([], ()), ()) = some r := h
  injection h' with h'
  subst h'
  exact ⟨fun _ => ⟨⟨fun _ => rfl, fun h => by cases h⟩, ⟨fun h => (by cases h), fun _ => ⟨hp rfl, rfl⟩⟩⟩, fun h => by simp at h⟩
 ·have hl : ((((List.length a : Nat) : Int) == 0) = false) := by
   have : a.length ≠ 0 := fun e => ha (List.eq_nil_of_length_eq_zero e)
   simpa using ha
  rw [hl] at h
  simp only [cond_false] at h
  split at h
  ·rename_i hq
   injection h with h
   subst h
   refine ⟨fun e => ?_, fun _ => ⟨fun h => (by cases h), fun _ => ⟨hq, rfl⟩⟩⟩
   rw [hl] at e
   cases e
  ·cases h
end Go.Proofs.YtibammoednhnoaaE

