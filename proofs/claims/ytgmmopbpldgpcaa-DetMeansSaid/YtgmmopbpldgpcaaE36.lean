/- The engine, part 36: what the printed proofs say. Conditions: none. -/
import Derived.Test.YtgmmopbpldgpcaaEC
set_option linter.unusedVariables false
set_option linter.unusedSimpArgs false
namespace Go.Proofs.YtgmmopbpldgpcaaE
open Kd
variable {α : Type}

def ab (f : Func) : Code := match f.body with
 | some c => c
 | none => .skip
inductive CS where
 | l | r | s | b
def ac : Code → List CS → Code
 | c, [] => c
 | .seq a _, .l :: p => ac a p
 | .seq _ b, .r :: p => ac b p
 | .cond _ a _, .l :: p => ac a p
 | .cond _ _ b, .r :: p => ac b p
 | .block _ c, .s :: p => ac c p
 | .scope c, .s :: p => ac c p
 | .loop c, .b :: p => ac c p
 | _, _ => .skip
def aW (l : List (Nat × ap)) (f : Nat) : Option ap := af l f
def aR (P : Program) (cfg : Nat → Option ap) : Prop := ∀ f sp, cfg f = some sp → ai P f ∧ aB P f sp
theorem aD {P : Program} : aR P (aW []) := fun f sp h => by cases h
theorem ah {P : Program} {f : Nat} {sp : ap} {l : List (Nat × ap)} (h : ai P f ∧ aB P f sp) (hl : aR P (aW l)) : aR P (aW ((f, sp) :: l)) := fun f' sp' e => by
 unfold aW at e
 simp only [af] at e
 split at e
 ·rename_i hf
  injection e with e
  subst e
  have : f = f' := by simpa using hf
  subst this
  exact h
 ·exact hl f' sp' e
theorem am {P : Program} {n : Lim} {f : aL} {c c' : Code} (e : c = c') (h : aC P n f c) : aC P n f c' := e ▸ h
def frL : aO → Code → List (aL × Code)
 | .frag f, c => [(f, c)]
 | .go, _ => []
 | p, .seq a b => frL p.l a ++ frL p.r b
 | p, .cond _ x y => frL p.l x ++ frL p.r y
 | p, .block _ c => frL p.s c
 | p, .scope c => frL p.s c
 | _, _ => []
inductive e9 (P : Program) (n : Lim) : List (aL × Code) → Prop
 | nil : e9 P n []
 | cons {f : aL} {c : Code} {l : List (aL × Code)} : aC P n f c → e9 P n l → e9 P n ((f, c) :: l)
theorem e9.app {P : Program} {n : Lim} : ∀ {a b : List (aL × Code)}, e9 P n (a ++ b) → e9 P n a ∧ e9 P n b
 | [], _, h => ⟨.nil, h⟩
 | (f, c) :: a, b, h => by
  cases h with
  | cons h1 h2 => exact ⟨.cons h1 (e9.app h2).1, (e9.app h2).2⟩
theorem R9 {P : Program} {n : Lim} : ∀ (c : Code) (p : aO), e9 P n (frL p c) → ch P n p c := by
 intro c
 induction c with
 | seq a b iha ihb =>
  intro p h
  cases p with
  | frag f => cases h with
   | cons h1 _ => exact h1
  | go => exact aj _
  | _ => exact ⟨iha _ (e9.app h).1, ihb _ (e9.app h).2⟩
 | cond e a b iha ihb =>
  intro p h
  cases p with
  | frag f => cases h with
   | cons h1 _ => exact h1
  | go => exact aj _
  | _ => exact ⟨iha _ (e9.app h).1, ihb _ (e9.app h).2⟩
 | block i c ih =>
  intro p h
  cases p with
  | frag f => cases h with
   | cons h1 _ => exact h1
  | go => exact aj _
  | _ => exact ih _ h
 | scope c ih =>
  intro p h
  cases p with
  | frag f => cases h with
   | cons h1 _ => exact h1
  | go => exact aj _
  | _ => exact ih _ h
 | _ =>
  intro p h
  cases p with
  | frag f => cases h with
   | cons h1 _ => exact h1
  | _ => trivial
theorem aG {P : Program} {n : Lim} {c : Code} {p : aO} {L : List (aL × Code)} (e : frL p c = L) (h : e9 P n L) : ch P n p c := R9 c p (by rw [e]; exact h)
theorem frag_ok {P : Program} {cfg : Nat → Option ap} {n : Lim} (hcfg : aR P cfg) {f : aL} {c : Code} {p : aO} (hp : ch P n p c)
  (hs : ∀ v, f.impl v = (body P (ao P cfg n) p c (f.sh.st v) (lB f.outs)).eval ∧ (body P (ao P cfg n) p c (f.sh.st v) (lB f.outs)).left = (body P (ao P cfg n) p c (f.sh.st v) (lB f.outs)).right) : aC P n f c := by
 intro v r hr F hn hB a w hR
 obtain ⟨e1, e2⟩ := hs v
 rw [e1] at hr
 have hsat := Tr.eval_sat _ e2 hr (K := (· = r)) rfl
 refine wp_mono (mM hcfg hn hB c p _ _ a w hp hR hsat) ?_
 rintro e a' w' ⟨ex, s', rfl, r', hk⟩
 obtain ⟨q, hq, h1, h2⟩ := AW hB r' hk
 have hq' : q = r := hq
 subst hq'
 exact ⟨by rw [h1], h2⟩
theorem aS {P : Program} {cfg : Nat → Option ap} {n : Lim} (hcfg : aR P cfg) {f : Nat} {fn : Func} {sp : ap} {p : aO} (h : (P.funcs[f]?, fn.body, (fn.name == "runtime.NumGoroutine"), n.n, n.lo, Nat.ble sp.ps.length fn.ntmps, Nat.ble sp.ps.length 1000000) = (some fn, some (ab fn), false, fn.ntmps, sp.ps.length, true, true)) (hp : ch P n p (ab fn))
  (hs : ∀ x, sp.impl x = (fnT P cfg n fn (ab fn) p sp x).eval ∧ (fnT P cfg n fn (ab fn) p sp x).left = (fnT P cfg n fn (ab fn) p sp x).right) : ai P f ∧ aB P f sp := by
 simp only [Prod.mk.injEq] at h
 obtain ⟨h1, h2, h3, h4, h5, h6, h7⟩ := h
 exact a5q hcfg h1 h2 h3 h4 h5 (Nat.le_of_ble_eq_true h6) (Nat.le_of_ble_eq_true h7) hp hs
theorem kQ {t u : Tr α} {K : α → Prop} (e : t = u) (h : u.sat K) : t.sat K := e ▸ h
theorem kR {T : Type} {a : List T} {p : Prop} [Decidable p] (hp : a = [] → p) {r : (List T × Unit) × Unit} (h : (bif (((List.length a : Nat) : Int) == 0) then some (([], ()), ()) else if p then some (([] ++ a, ()), ()) else none) = some r) :
  (Tr.split (((List.length a : Nat) : Int) == 0) (.both (.split true (.leaf (([], ()), ())) (.need p (.leaf (([] ++ a, ()), ())))) (.split false (.leaf (([], ()), ())) (.need p (.leaf (([] ++ a, ()), ()))))) (.split false (.leaf (([], ()), ())) (.need p (.leaf (([] ++ a, ()), ()))))).sat (· = r) := by
 by_cases ha : a = []
 ·subst ha
  have h' : some (([], ()), ()) = some r := h
  injection h' with h'
  subst h'
  exact ⟨fun _ => ⟨⟨fun _ => rfl, fun h => by cases h⟩, ⟨fun h => (by cases h), fun _ => ⟨hp rfl, rfl⟩⟩⟩, fun h => by simp at h⟩
 ·have hl : ((((List.length a : Nat) : Int) == 0) = false) := by
   have : a.length ≠ 0 := fun e => ha (List.eq_nil_of_length_eq_zero e)
   simpa using ha
  rw [hl] at h
  simp only [cond_false] at h
  split at h
  ·rename_i hq
   injection h with h
   subst h
   refine ⟨fun e => ?_, fun _ => ⟨fun h => (by cases h), fun _ => ⟨hq, rfl⟩⟩⟩
   rw [hl] at e
   cases e
  ·cases h
end Go.Proofs.YtgmmopbpldgpcaaE

