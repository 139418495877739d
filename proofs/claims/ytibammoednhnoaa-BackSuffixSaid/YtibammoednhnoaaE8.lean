/- The engine, part 8: the other operations that only compute. Conditions: none. -/
import Derived.Test.YtibammoednhnoaaE7b
import Derived.Laws.Cover3
import Derived.Laws.Small
import Derived.Laws.Pointers
import Derived.Laws.StructEq
set_option linter.unusedVariables false
set_option linter.unusedSimpArgs false
namespace Go.Proofs.YtibammoednhnoaaE
open Kd
variable {α : Type}

theorem pl_append (p q : List Sel) {K : Kd} (x : K.T) (z : K.Z) (a : Nat × Nat) (u : At) (h : pl K x z p a = some u) (hu : u.K ≠ .un ∨ q = []) : pl K x z (p ++ q) a = pl u.K u.x u.z q u.a := by
 fun_induction pl K x z p a <;> (try (simp_all [pl]; done))
 case case1 => simp at h; subst h; rfl
 all_goals
  rename_i hz hc
  simp only [hc, if_true, hz, and_self] at h
  rcases hu with hu | rfl
  ·simp_all
   exact absurd (by rw [← h]) hu
  ·simp_all [pl]
theorem pl_sub (p : List Sel) {K : Kd} (x : K.T) (z : K.Z) (a : Nat × Nat) (u : At) (h : pl K x z p a = some u) : sub K p = some u.K := by
 fun_induction pl K x z p a <;> simp_all [sub]
 all_goals (subst h; rfl)
theorem thru_append (p q : List Sel) {K : Kd} (h : thru K p = true) : thru K (p ++ q) = true := by
 fun_induction thru K p <;> simp_all [thru]

def fldSel : Nat → List Sel
 | 0 => [.fst]
 | n + 1 => .snd :: fldSel n
def fldOff : Kd → Nat → Option Nat
 | .pair _ _, 0 => some 0
 | .pair a b, n + 1 => (fldOff b n).map (a.size + ·)
 | _, _ => none
theorem pl_fld : ∀ (f : Nat) {K : Kd} (x : K.T) (z : K.Z) (a : Nat × Nat) (off : Nat), fldOff K f = some off → ∃ u, pl K x z (fldSel f) a = some u ∧ u.a = (a.1, a.2 + off)
 | 0, .pair k b, x, z, a, off, h => by
  simp only [fldOff, Option.some.injEq] at h
  subst h
  exact ⟨⟨k, x.1, z.1, a⟩, by simp [fldSel, pl], by simp⟩
 | n + 1, .pair k b, x, z, a, off, h => by
  simp only [fldOff, Option.map_eq_some_iff] at h
  obtain ⟨o, h1, rfl⟩ := h
  obtain ⟨u, h2, h3⟩ := pl_fld n (K := b) x.2 z.2 (a.1, a.2 + k.size) o h1
  exact ⟨u, h2, by rw [h3, Nat.add_assoc]⟩

section
variable (P : Program)
def fieldAt? (t : TypeId) (f : Nat) : Option Nat := match P.underlying t with
 | some (.struct fs) => match fs[f]? with
  | some fd => match P.info? fd.type with
   | some i => if i.size = 0 then none else some fd.offset
   | none => none
  | none => none
 | _ => none
variable {P}
theorem run_fieldAt {t : TypeId} {f off b o : Nat} (h : fieldAt? P t f = some off) (w : World) : (Instr.fieldAt t (.pointer (some ⟨b, o, none⟩)) f).run P w = .ok (.pointer (some ⟨b, o + off, none⟩)) w := by
 unfold fieldAt? at h
 split at h
 ·rename_i fs hu
  split at h
  ·rename_i fd hf
   split at h
   ·rename_i i hi
    split at h
    ·cases h
    ·rename_i hz
     injection h with h
     subst h
     simp [Instr.fieldAt, run_underlying hu, hf, Instr.sureAddr, fieldPlace, sizeOf, typeInfo, hi, hz, Addr.add]

   ·cases h
  ·cases h
 ·cases h
def stField (n : Lim) (o : Oper) (t : TypeId) (x : Operand) (f : Nat) (s : St) (k : St → Tr α) : Tr α := match opo s x, fieldAt? P t f with
 | some (.ptr id p), some off => match look s.ck id with
  | some c => match sub c.K p with
   | some K => if fldOff K f = some off then set n s o (.one (.ptr id (p ++ fldSel f))) k else .bad
   | none => .bad
  | none => .bad
 | _, _ => .bad
theorem Good.chunk {F : Fr} {s : St} {a : Act} {w : World} {Γ : HF} {rcs : List (Nat × RC)} {h : HF} (g : Good F s a w Γ rcs h) (id : Nat) : look s.ck id = (look rcs id).map RC.ck := by
 rw [← g.ck]
 generalize rcs = l
 induction l with
 | nil => rfl
 | cons x l ih =>
  simp only [List.map_cons, look]
  split
  ·rfl
  ·exact ih
theorem stField_ok {F : Fr} {o : Oper} {t : TypeId} {x : Operand} {f : Nat} {s : St} {k : St → Tr α} (ho : o.op = .fieldAddr t x f) : PureOK P F o s (stField (P := P) F.n o t x f s k) k := by
 unfold stField
 split
 ·rename_i id p off hx hf
  split
  ·rename_i c hc
   split
   ·rename_i K hK
    split
    ·rename_i hoff
     refine pure_set fun a w Γ rcs h g => ?_
     obtain ⟨r, q, hr, hp, hb, hv⟩ := g.opoIs hx
     have hsub := pl_sub p _ _ _ _ hp
     have : c = r.ck := by
      have := g.chunk id
      rw [hc, hr] at this
      simpa using this
     subst this
     simp only [RC.ck] at hK
     rw [hsub] at hK
     injection hK with hK
     subst hK
     obtain ⟨u, h2, h3⟩ := pl_fld f q.x q.z q.a off hoff
     refine ⟨_, fun w' => ?_, r, u, hr, by rw [pl_append p _ _ _ _ _ hp (.inl (by intro e; rw [e] at hoff; cases f <;> cases hoff))]; exact h2, fun e => thru_append p _ (hb e), rfl⟩
     simp only [execOp, ho, hv]
     have := run_fieldAt (P := P) (b := q.a.1) (o := q.a.2) hf w'
     simp [this, h3]
    ·exact pure_bad
   ·exact pure_bad
  ·exact pure_bad
 ·exact pure_bad
end
end Go.Proofs.YtibammoednhnoaaE

