/- The engine, part 10b: the field of what is only read. Conditions: none. -/
import Derived.Test.YtibammoednhnoaaE10
set_option linter.unusedVariables false
set_option linter.unusedSimpArgs false
namespace Go.Proofs.YtibammoednhnoaaE
open Kd
variable {α : Type} {P : Program}
def stFieldE (n : Lim) (o : Oper) (t : TypeId) (x : Operand) (f : Nat) (s : St) (k : St → Tr α) : Tr α := match opo s x, fieldAt? P t f with
 | some (.eptr K y), some off => if unfOK K = true ∧ fldOff (unfK K) f = some off then match getP (unfK K) (unfT K y) (fldSel f) with
  | some ⟨K', y'⟩ => if K'.free = true then set n s o (.one (.eptr K' y')) k else .bad
  | none => .bad
  else .bad
 | _, _ => .bad
theorem field_eptr {Γ : HF} {rcs : List (Nat × RC)} {K : Kd} {y : K.T} {off f : Nat} {t : TypeId} {K' : Kd} {y' : K'.T} {v : Value} (hf : fieldAt? P t f = some off) (hu : unfOK K = true) (hoff : fldOff (unfK K) f = some off) (hg : getP (unfK K) (unfT K y) (fldSel f) = some ⟨K', y'⟩) (hfr : K'.free = true) (hi : (SV.eptr K y).is Γ rcs v) :
  ∃ u, (∀ w' (o : Oper) (x : Operand) (a : Act), o.op = .fieldAddr t x f → a.eval x = v → (execOp a.eval o).run P w' = .ok (.value u) w') ∧ (SV.eptr K' y').is Γ rcs u := by
 obtain ⟨fk, z0, b, o', c, t', ho0, hc, hl0, hv⟩ := hi
 obtain ⟨z, ho', hcu⟩ := unf_own hu ho0
 have hl : Lie c o' ((unfK K).cells (unfT K y) z) := by rw [hcu]; exact hl0
 obtain ⟨u, h2, h3⟩ := pl_fld f (unfT K y) z (b, o') off hoff
 have hget := pl_get _ _ _ _ _ h2
 rw [hget] at hg
 injection hg with hg
 obtain ⟨uK, ux, uz, ua⟩ := u
 simp only [Sigma.mk.injEq] at hg
 obtain ⟨e1, e2⟩ := hg
 subst e1
 obtain rfl := eq_of_heq e2
 simp only at h3
 subst h3
 obtain ⟨hq, s1, o1⟩ := own_pl _ _ _ _ _ _ ho' h2
 have : hq = HF.emp := own_free hfr o1
 subst this
 obtain ⟨c', t'', e, l⟩ := lie_pl _ _ _ _ _ _ c t' ho' h2 (.inr hl)
 rcases e with ⟨_, e⟩ | ⟨_, e1, rfl, rfl⟩
 ·simp [HF.emp] at e
 ·refine ⟨.pointer (some ⟨b, o' + off, none⟩), fun w' o x a ho hx => ?_, hfr, uz, b, o' + off, c', t'', o1, hc, l, rfl⟩
  simp only [execOp, ho, hx, hv]
  have := run_fieldAt (P := P) (b := b) (o := o') hf w'
  simp [this]
theorem ep_eptr {Γ : HF} {rcs : List (Nat × RC)} {K : Kd} {y : Option K.T} {v : Value} (hy : y.isSome = true) (hi : (SV.val (.ep K) y).is Γ rcs v) : (SV.eptr K (y.getD K.dft)).is Γ rcs v := by
 obtain ⟨y0, rfl⟩ := Option.isSome_iff_exists.1 hy
 obtain ⟨hf, z, ⟨_, o, c, t, hc, hl⟩, hv⟩ := hi
 exact ⟨hf, z.1, z.2.1, z.2.2, c, t, o, hc, hl, hv⟩
theorem stFieldE_ok {F : Fr} {o : Oper} {t : TypeId} {x : Operand} {f : Nat} {s : St} {k : St → Tr α} (ho : o.op = .fieldAddr t x f) : PureOK P F o s (stFieldE (P := P) F.n o t x f s k) k := by
 unfold stFieldE
 split
 ·rename_i K y off hx hf
  split
  ·rename_i hoff
   obtain ⟨hu, hoff⟩ := hoff
   split
   ·rename_i K' y' hg
    split
    ·rename_i hfr
     refine pure_set fun a w Γ rcs h g => ?_
     obtain ⟨u, h1, h2⟩ := field_eptr hf hu hoff hg hfr (g.opoIs hx)
     exact ⟨u, fun w' => h1 w' o x a ho rfl, h2⟩
    ·exact pure_bad
   ·exact pure_bad
  ·exact pure_bad
 ·exact pure_bad
def stFieldP (n : Lim) (o : Oper) (t : TypeId) (x : Operand) (f : Nat) (s : St) (k : St → Tr α) : Tr α := match opo s x, fieldAt? P t f with
 | some (.val (.ep K) y), some off => if unfOK K = true ∧ fldOff (unfK K) f = some off then match getP (unfK K) (unfT K (Option.getD (α := K.T) y K.dft)) (fldSel f) with
  | some ⟨K', y'⟩ => if K'.free = true then .need (Option.isSome (α := K.T) y = true) (set n s o (.one (.eptr K' y')) k) else .bad
  | none => .bad
  else .bad
 | _, _ => .bad
theorem stFieldP_ok {F : Fr} {o : Oper} {t : TypeId} {x : Operand} {f : Nat} {s : St} {k : St → Tr α} (ho : o.op = .fieldAddr t x f) : PureOK P F o s (stFieldP (P := P) F.n o t x f s k) k := by
 unfold stFieldP
 split
 ·rename_i K y off hx hf
  split
  ·rename_i hoff
   obtain ⟨hu, hoff⟩ := hoff
   split
   ·rename_i K' y' hg
    split
    ·rename_i hfr
     refine pure_need fun hn => pure_set fun a w Γ rcs h g => ?_
     obtain ⟨u, h1, h2⟩ := field_eptr hf hu hoff hg hfr (ep_eptr hn (g.opoIs hx))
     exact ⟨u, fun w' => h1 w' o x a ho rfl, h2⟩
    ·exact pure_bad
   ·exact pure_bad
  ·exact pure_bad
 ·exact pure_bad
def stFieldB (n : Lim) (o : Oper) (t : TypeId) (x : Operand) (f : Nat) (s : St) (k : St → Tr α) : Tr α := match opo s x with
 | some (.eptr _ _) => stFieldE (P := P) n o t x f s k
 | some (.val (.ep _) _) => stFieldP (P := P) n o t x f s k
 | _ => stField (P := P) n o t x f s k
theorem stFieldB_ok {F : Fr} {o : Oper} {t : TypeId} {x : Operand} {f : Nat} {s : St} {k : St → Tr α} (ho : o.op = .fieldAddr t x f) : PureOK P F o s (stFieldB (P := P) F.n o t x f s k) k := by
 unfold stFieldB
 split
 ·exact stFieldE_ok ho
 ·exact stFieldP_ok ho
 ·exact stField_ok ho
end Go.Proofs.YtibammoednhnoaaE

