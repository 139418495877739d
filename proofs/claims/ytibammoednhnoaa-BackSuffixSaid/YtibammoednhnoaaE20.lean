/- The engine, part 20: two operands, least and greatest. Conditions: none. -/
import Derived.Test.YtibammoednhnoaaE19
set_option linter.unusedVariables false
set_option linter.unusedSimpArgs false
namespace Go.Proofs.YtibammoednhnoaaE
open Kd
variable {α : Type}

def boolT (P : Program) (t : TypeId) : Bool := match P.underlying t with
 | some .bool => true
 | _ => false
def ptrT (P : Program) (t : TypeId) : Bool := match P.underlying t with
 | some (.pointer _) => true
 | _ => false
def arr3 (P : Program) (t : TypeId) : Bool := match P.underlying t with
 | some (.array 3 e) => (match P.underlying e, P.info? e with
  | some (.int _), some i => i.size == 1
  | _, _ => false) && !P.eqGuardType P.depth t
 | _ => false
def binS (op : BinOp) (a b : ByteArray) : Option (Nat × SV) := match op with
 | .eql => some (0, .val .bool (a.toList == b.toList))
 | .neq => some (0, .val .bool (!(a.toList == b.toList)))
 | .add => some (a.size + b.size, .val .str (a ++ b))
 | _ => none
theorem run_part_int {P : Program} {e : TypeId} {k : IntKind} (he : P.underlying e = some (.int k)) {cs : Array Value} {o : Nat} {v : Value} (h : cs[o]? = some v) (w : World) : (part e cs o).run P w = .ok v w := by
 simp [part, isAgg, run_underlying he, Sem.run_bind, h]
theorem run_equal_arr3 {P : Program} {t e : TypeId} {k j : IntKind} {i : TypeInfo} (d : Nat) (ht : P.underlying t = some (.array 3 e)) (he : P.underlying e = some (.int k)) (hi : P.info? e = some i) (hs : i.size = 1) (a0 a1 a2 b0 b1 b2 : Int) (w : World) :
  (Op.equalIn (d + 1 + 1) t (.agg #[.int j a0, .int j a1, .int j a2]) (.agg #[.int j b0, .int j b1, .int j b2])).run P w = .ok ([a0, a1, a2] == [b0, b1, b2]) w := by
 have p0 := run_part_int (P := P) he (cs := #[.int j a0, .int j a1, .int j a2]) (o := 0) (v := .int j a0) rfl
 have p1 := run_part_int (P := P) he (cs := #[.int j a0, .int j a1, .int j a2]) (o := 1) (v := .int j a1) rfl
 have p2 := run_part_int (P := P) he (cs := #[.int j a0, .int j a1, .int j a2]) (o := 2) (v := .int j a2) rfl
 have q0 := run_part_int (P := P) he (cs := #[.int j b0, .int j b1, .int j b2]) (o := 0) (v := .int j b0) rfl
 have q1 := run_part_int (P := P) he (cs := #[.int j b0, .int j b1, .int j b2]) (o := 1) (v := .int j b1) rfl
 have q2 := run_part_int (P := P) he (cs := #[.int j b0, .int j b1, .int j b2]) (o := 2) (v := .int j b2) rfl
 have hr : List.range' 0 3 1 = [0, 1, 2] := rfl
 rw [Op.equalIn]
 simp only [Sem.run_bind, run_underlying ht, Result.andThen_ok, sizeOf, typeInfo, hi, hs, Std.Legacy.Range.forIn_eq_forIn_range', Std.Legacy.Range.size, Nat.sub_zero, Nat.add_sub_cancel, Nat.div_one, hr]
 simp only [run_program, Result.andThen_ok, hi, hs, Sem.run_pure, List.forIn_cons, List.forIn_nil, Sem.run_bind, Nat.zero_mul, Nat.one_mul, Nat.mul_one, p0, p1, p2, q0, q1, q2, fun (w : World) (x y : Int) => run_equalIn_int w d e j k x y he]
 have hq := fun (w : World) (x y : Int) => run_equalIn_int w d e j k x y he
 cases h0 : (a0 == b0) with
 | false => simp [h0]
 | true =>
  cases h1 : (a1 == b1) with
  | false => simp [h1, p1, q1, hq]
  | true => cases h2 : (a2 == b2) <;> simp [h1, h2, p1, q1, p2, q2, hq] <;> (first | exact ⟨by simpa using h0, by simpa using h1, by simpa using h2⟩ | simpa using h0)
def st3 (P : Program) (t : TypeId) : Bool := match P.underlying t with
 | some (.struct fs) => (match fs.toList with
  | [f0, f1, f2] => (match P.underlying f0.type, P.underlying f1.type, P.underlying f2.type with
   | some (.int _), some (.int _), some (.int _) => f0.offset == 0 && f1.offset == 1 && f2.offset == 2 && f0.name != "_" && f1.name != "_" && f2.name != "_"
   | _, _, _ => false)
  | _ => false) && !P.eqGuardType P.depth t && !P.stoodInHeld t
 | _ => false
def eqT3 (a b : Int × (Int × (Int × Unit))) : Bool := a.1 == b.1 && (a.2.1 == b.2.1 && a.2.2.1 == b.2.2.1)
theorem run_equal_st3 {P : Program} {t : TypeId} (d : Nat) (h : st3 P t = true) (j0 j1 j2 : IntKind) (a b : Int × (Int × (Int × Unit))) (w : World) :
  (Op.equalIn (d + 1 + 1) t (.agg #[.int j0 a.1, .int j1 a.2.1, .int j2 a.2.2.1]) (.agg #[.int j0 b.1, .int j1 b.2.1, .int j2 b.2.2.1])).run P w = .ok (eqT3 a b) w := by
 unfold st3 at h
 split at h
 ·rename_i fs hu
  simp only [Bool.and_eq_true, Bool.not_eq_true'] at h
  obtain ⟨⟨h1, _⟩, h3⟩ := h
  have hf : P.fieldsOf t = fs := by simp [Program.fieldsOf, hu]
  split at h1
  ·rename_i f0 f1 f2 hl
   split at h1
   ·rename_i k0 k1 k2 e0 e1 e2
    simp only [Bool.and_eq_true, beq_iff_eq, bne_iff_ne] at h1
    obtain ⟨⟨⟨⟨⟨o0, o1⟩, o2⟩, n0⟩, n1⟩, n2⟩ := h1
    have p0 := fun (x0 x1 x2 : Value) w => run_part_int (P := P) e0 (cs := #[x0, x1, x2]) (o := 0) (v := x0) rfl w
    have p1 := fun (x0 x1 x2 : Value) w => run_part_int (P := P) e1 (cs := #[x0, x1, x2]) (o := 1) (v := x1) rfl w
    have p2 := fun (x0 x1 x2 : Value) w => run_part_int (P := P) e2 (cs := #[x0, x1, x2]) (o := 2) (v := x2) rfl w
    have q0 := fun (w : World) (x y : Int) => run_equalIn_int w d f0.type j0 k0 x y e0
    have q1 := fun (w : World) (x y : Int) => run_equalIn_int w d f1.type j1 k1 x y e1
    have q2 := fun (w : World) (x y : Int) => run_equalIn_int w d f2.type j2 k2 x y e2
    rw [run_equalIn_agg w _ t _ _ (by rw [hf]; exact hu) h3, hf, hl]
    simp only [Op.eqFields, o0, o1, o2, n0, n1, n2, ne_eq, not_false_eq_true, if_true, Sem.run_bind, p0, p1, p2, Result.andThen_ok, q0, q1, q2, Sem.run_ite, Sem.run_pure]
    unfold eqT3
    generalize (a.1 == b.1) = c0
    generalize (a.2.1 == b.2.1) = c1
    generalize (a.2.2.1 == b.2.2.1) = c2
    cases c0 <;> cases c1 <;> cases c2 <;> simp
   ·cases h1
  ·cases h1
 ·cases h
def nilT (n : Lim) (o : Oper) (m : Int) (yes no : Bool) (s : St) (k : St → Tr α) : Tr α := match n.nb with
 | true => .split (m == 0) (.both (set n s o (.one (.val .bool yes)) k) (set n s o (.one (.val .bool no)) k)) (set n s o (.one (.val .bool no)) k)
 | false => .need (m ≠ 0) (set n s o (.one (.val .bool no)) k)
def stBin (P : Program) (n : Lim) (o : Oper) (op : BinOp) (t : TypeId) (x y : Operand) (s : St) (k : St → Tr α) : Tr α := match opo s x, opo s y with
 | some (.val (.int j) a), some (.val (.int j') b) => if j = j' ∨ op = .shl ∨ op = .shr then .need (binI op j a b).1 (set n s o (.one (binI op j a b).2) k) else .bad
 | some (.val .bool a), some (.val .bool b) => if boolT P t then (match op with
  | .eql => set n s o (.one (.val .bool (a == b))) k
  | .neq => set n s o (.one (.val .bool (!(a == b)))) k
  | _ => .bad) else .bad
 | some (.val .str a), some (.val .str b) => match binS op a b with
  | some (l, v) => .need (l ≤ 9223372036854775807) (set n s o (.one v) k)
  | none => .bad
 | some (.val (.arr 3 (.int j)) a), some (.val (.arr 3 (.int j')) b) => if j = j' ∧ arr3 P t = true then (match op with
  | .eql => set n s o (.one (.val .bool (a == b))) k
  | .neq => set n s o (.one (.val .bool (!(a == b)))) k
  | _ => .bad) else .bad
 | some (.val (.pair (.int j0) (.pair (.int j1) (.pair (.int j2) .unit))) a), some (.val (.pair (.int j0') (.pair (.int j1') (.pair (.int j2') .unit))) b) => if (j0 = j0' ∧ j1 = j1' ∧ j2 = j2') ∧ st3 P t = true then (match op with
  | .eql => set n s o (.one (.val .bool (eqT3 a b))) k
  | .neq => set n s o (.one (.val .bool (!(eqT3 a b)))) k
  | _ => .bad) else .bad
 | some (.ptr _ _), some .nilP => if ptrT P t then (match op with
  | .eql => set n s o (.one (.val .bool false)) k
  | .neq => set n s o (.one (.val .bool true)) k
  | _ => .bad) else .bad
 | some (.val .str _), some .nilS => .bad
 | some .nilS, some .nilS => if (slOf? P t).isSome then (match op with
  | .eql => set n s o (.one (.val .bool true)) k
  | .neq => set n s o (.one (.val .bool false)) k
  | _ => .bad) else .bad
 | some v, some .nilS => match lenOf s v, slOf? P t with
  | some m, some _ => (match op with
   | .eql => nilT n o m true false s k
   | .neq => nilT n o m false true s k
   | _ => .bad)
  | _, _ => .bad
 | _, _ => .bad
theorem nilT_ok {P : Program} {F : Fr} {o : Oper} {m : Int} {yes no : Bool} {s : St} {k : St → Tr α} (h : ∀ (aa : Act) (w : World) (Γ : HF) (rcs : List (Nat × RC)) (h : HF), Good F s aa w Γ rcs h →
  ∃ b : Bool, (m ≠ 0 → b = no) ∧ (b = yes ∨ b = no) ∧ ∀ w', (execOp aa.eval o).run P w' = .ok (.value (.bool b)) w') : PureOK P F o s (nilT F.n o m yes no s k) k := by
 intro K a w Γ rcs hh g hs
 obtain ⟨b, h1, h2, h3⟩ := h a w Γ rcs hh g
 have fin : (set F.n s o (.one (.val .bool b)) k).sat K → ∃ v s', (∀ w', (execOp a.eval o).run P w' = .ok (.value v) w') ∧ R F s' (a.put o.dst v) w ∧ (k s').sat K := fun hs =>
  let ⟨s', r, q⟩ := set_ok hs g (bool_is (n := b) (rcs := rcs))
  ⟨_, s', h3, r, q⟩
 unfold nilT at hs
 split at hs
 ·by_cases hm : m = 0
  ·obtain ⟨q1, q2⟩ := hs.1 (by simpa using hm)
   rcases h2 with e | e
   ·rw [← e] at q1; exact fin q1
   ·rw [← e] at q2; exact fin q2
  ·have := hs.2 (by simpa using hm)
   rw [← h1 hm] at this
   exact fin this
 ·obtain ⟨hm, hs⟩ := hs
  rw [← h1 hm] at hs
  exact fin hs
theorem stBin_ok {P : Program} {F : Fr} {o : Oper} {op : BinOp} {t t2 : TypeId} {x y : Operand} {s : St} {k : St → Tr α} (ho : o.op = .binOp op t x y t2) : PureOK P F o s (stBin P F.n o op t x y s k) k := by
 unfold stBin
 split
 ·rename_i j a j' b hx hy
  split
  ·rename_i hj
   refine pure_need fun hp => pure_set fun aa w Γ rcs h g => ?_
   obtain ⟨ex, hra⟩ := is_int (g.opoIs hx)
   obtain ⟨ey, _⟩ := is_int (g.opoIs hy)
   obtain ⟨v, hrun, hi⟩ := binI_ok (P := P) (x := x) (y := y) (t := t) (k := j) (k' := j') (op := op) (a := a) (b := b) hj hra hp (Γ := Γ) (rcs := rcs)
   refine ⟨v, fun w' => ?_, hi⟩
   have := hrun w'
   simp only [execOp, ho, ex, ey]
   simp only [Sem.run_bind] at this ⊢
   rw [this]
   rfl
  ·exact pure_bad
 ·rename_i a b hx hy
  split
  ·rename_i hb
   have hu : P.underlying t = some .bool := by
    unfold boolT at hb
    split at hb <;> first | assumption | cases hb
   split
   ·refine pure_set fun aa w Γ rcs h g => ⟨_, fun w' => ?_, bool_is (rcs := rcs)⟩
    have e1 := is_bool (g.opoIs hx)
    have e2 := is_bool (g.opoIs hy)
    simp [execOp, ho, e1, e2, eqGuard, binOp, run_equal_bool _ t a b hu]
   ·refine pure_set fun aa w Γ rcs h g => ⟨_, fun w' => ?_, bool_is (rcs := rcs)⟩
    have e1 := is_bool (g.opoIs hx)
    have e2 := is_bool (g.opoIs hy)
    simp [execOp, ho, e1, e2, eqGuard, binOp, run_equal_bool _ t a b hu]
   ·exact pure_bad
  ·exact pure_bad
 ·rename_i a b hx hy
  split
  ·rename_i l v hp
   refine pure_need fun hpp => pure_set fun aa w Γ rcs h g => ?_
   have e1 := (is_str (g.opoIs hx)).1
   have e2 := (is_str (g.opoIs hy)).1
   unfold binS at hp
   split at hp
   ·simp only [Option.some.injEq, Prod.mk.injEq] at hp
    obtain ⟨rfl, rfl⟩ := hp
    exact ⟨_, fun w' => by simp [execOp, ho, e1, e2, eqGuard, binOp, Op.stringOp], bool_is (rcs := rcs)⟩
   ·simp only [Option.some.injEq, Prod.mk.injEq] at hp
    obtain ⟨rfl, rfl⟩ := hp
    exact ⟨_, fun w' => by simp [execOp, ho, e1, e2, eqGuard, binOp, Op.stringOp], bool_is (rcs := rcs)⟩
   ·simp only [Option.some.injEq, Prod.mk.injEq] at hp
    obtain ⟨rfl, rfl⟩ := hp
    have h1 : ¬ (((a.size + b.size : Nat) : Int) > IntKind.i64.max) := by
     have : IntKind.i64.max = 9223372036854775807 := by decide
     rw [this]; omega
    refine ⟨_, fun w' => ?_, str_is (rcs := rcs) (n := a ++ b) (by rw [ByteArray.size_append]; exact hpp)⟩
    simp only [execOp, ho, e1, e2, eqGuard, binOp, Op.stringOp, if_neg h1]
    rfl
   ·cases hp
  ·exact pure_bad
 ·rename_i j a j' b hx hy
  split
  ·rename_i hc
   obtain ⟨rfl, hc⟩ := hc
   have key : ∀ (aa : Act) (w : World) (Γ : HF) (rcs : List (Nat × RC)) (h : HF), Good F s aa w Γ rcs h → ∃ xs ys, aa.eval x = .agg xs ∧ aa.eval y = .agg ys ∧ ∀ w', (eqGuard op t x y (.agg xs) (.agg ys)).run P w' = .ok () w' ∧ (Op.equalIn 10000 t (.agg xs) (.agg ys)).run P w' = .ok (a == b) w' := by
    intro aa w Γ rcs h g
    obtain ⟨_, z, ho1, e1⟩ := g.opoIs hx
    obtain ⟨_, z', ho2, e2⟩ := g.opoIs hy
    unfold arr3 at hc
    split at hc
    ·rename_i te hu
     simp only [Bool.and_eq_true, Bool.not_eq_true'] at hc
     obtain ⟨hc1, hc2⟩ := hc
     split at hc1
     ·rename_i k i he hi
      have hs : i.size = 1 := by simpa using hc1
      match a, b, ho1.1, ho2.1 with
      | [a0, a1, a2], [b0, b1, b2], _, _ =>
       exact ⟨_, _, e1, e2, fun w' => ⟨run_eqGuard_agg w' op t x y _ _ hc2, run_equal_arr3 9998 hu he hi hs a0 a1 a2 b0 b1 b2 w'⟩⟩
     ·cases hc1
    ·cases hc
   split
   ·refine pure_set fun aa w Γ rcs h g => ?_
    obtain ⟨xs, ys, e1, e2, e3⟩ := key aa w Γ rcs h g
    refine ⟨_, fun w' => ?_, bool_is (rcs := rcs)⟩
    simp only [execOp, ho, e1, e2, Sem.run_bind, (e3 w').1, Result.andThen_ok, run_eql_struct, (e3 w').2]
    rfl
   ·refine pure_set fun aa w Γ rcs h g => ?_
    obtain ⟨xs, ys, e1, e2, e3⟩ := key aa w Γ rcs h g
    refine ⟨_, fun w' => ?_, bool_is (rcs := rcs)⟩
    simp only [execOp, ho, e1, e2, Sem.run_bind, (e3 w').1, Result.andThen_ok, run_neq_struct, (e3 w').2]
    rfl
   ·exact pure_bad
  ·exact pure_bad
 ·rename_i j0 j1 j2 a j0' j1' j2' b hx hy
  split
  ·rename_i hc
   obtain ⟨⟨rfl, rfl, rfl⟩, hc⟩ := hc
   have key : ∀ (aa : Act) (w : World) (Γ : HF) (rcs : List (Nat × RC)) (h : HF), Good F s aa w Γ rcs h → ∃ xs ys, aa.eval x = .agg xs ∧ aa.eval y = .agg ys ∧ ∀ w', (eqGuard op t x y (.agg xs) (.agg ys)).run P w' = .ok () w' ∧ (Op.equalIn 10000 t (.agg xs) (.agg ys)).run P w' = .ok (eqT3 a b) w' := by
    intro aa w Γ rcs h g
    obtain ⟨_, z, ho1, e1⟩ := g.opoIs hx
    obtain ⟨_, z', ho2, e2⟩ := g.opoIs hy
    have hg : P.eqGuardType P.depth t = false := by
     unfold st3 at hc
     split at hc
     ·simp only [Bool.and_eq_true, Bool.not_eq_true'] at hc
      exact hc.1.2
     ·cases hc
    exact ⟨_, _, e1, e2, fun w' => ⟨run_eqGuard_agg w' op t x y _ _ hg, run_equal_st3 9998 hc j0 j1 j2 a b w'⟩⟩
   split
   ·refine pure_set fun aa w Γ rcs h g => ?_
    obtain ⟨xs, ys, e1, e2, e3⟩ := key aa w Γ rcs h g
    refine ⟨_, fun w' => ?_, bool_is (rcs := rcs)⟩
    simp only [execOp, ho, e1, e2, Sem.run_bind, (e3 w').1, Result.andThen_ok, run_eql_struct, (e3 w').2]
    rfl
   ·refine pure_set fun aa w Γ rcs h g => ?_
    obtain ⟨xs, ys, e1, e2, e3⟩ := key aa w Γ rcs h g
    refine ⟨_, fun w' => ?_, bool_is (rcs := rcs)⟩
    simp only [execOp, ho, e1, e2, Sem.run_bind, (e3 w').1, Result.andThen_ok, run_neq_struct, (e3 w').2]
    rfl
   ·exact pure_bad
  ·exact pure_bad
 ·rename_i id p hx hy
  split
  ·rename_i hp
   obtain ⟨te, hu⟩ : ∃ te, P.underlying t = some (.pointer te) := by
    unfold ptrT at hp
    split at hp
    ·rename_i te he
     exact ⟨te, he⟩
    ·cases hp
   have hpt : P.underlying t = some (.pointer (P.pointee t)) := by simp [Program.pointee, hu]
   split
   ·refine pure_set fun aa w Γ rcs h g => ?_
    obtain ⟨r, q, hr, hpl, hb, e1⟩ := g.opoIs hx
    have e2 : aa.eval y = .pointer none := g.opoIs hy
    exact ⟨_, fun w' => by simp [execOp, ho, e1, e2, eqGuard, binOp, run_equal_pointer_nil _ t _ hpt], bool_is (rcs := rcs)⟩
   ·refine pure_set fun aa w Γ rcs h g => ?_
    obtain ⟨r, q, hr, hpl, hb, e1⟩ := g.opoIs hx
    have e2 : aa.eval y = .pointer none := g.opoIs hy
    exact ⟨_, fun w' => by simp [execOp, ho, e1, e2, eqGuard, binOp, run_equal_pointer_nil _ t _ hpt], bool_is (rcs := rcs)⟩
   ·exact pure_bad
  ·exact pure_bad
 ·exact pure_bad
 ·rename_i hx hy
  split
  ·rename_i hsl
   obtain ⟨⟨te, sz⟩, hsl⟩ := Option.isSome_iff_exists.1 hsl
   obtain ⟨i, hu, _, _⟩ := slOf_spec hsl
   split
   ·refine pure_set fun aa w Γ rcs h g => ?_
    have e1 : aa.eval x = .slice none 0 0 := g.opoIs hx
    have e2 : aa.eval y = .slice none 0 0 := g.opoIs hy
    exact ⟨_, fun w' => by simp [execOp, ho, e1, e2, eqGuard, binOp, run_equal_slice_nil _ t te none 0 0 hu], bool_is (rcs := rcs)⟩
   ·refine pure_set fun aa w Γ rcs h g => ?_
    have e1 : aa.eval x = .slice none 0 0 := g.opoIs hx
    have e2 : aa.eval y = .slice none 0 0 := g.opoIs hy
    exact ⟨_, fun w' => by simp [execOp, ho, e1, e2, eqGuard, binOp, run_equal_slice_nil _ t te none 0 0 hu], bool_is (rcs := rcs)⟩
   ·exact pure_bad
  ·exact pure_bad
 ·rename_i v hnos hnon hx hy
  split
  ·rename_i m q hm hsl
   obtain ⟨te, sz⟩ := q
   obtain ⟨i, hu, _, _⟩ := slOf_spec hsl
   have key : ∀ (aa : Act) (w : World) (Γ : HF) (rcs : List (Nat × RC)) (h : HF), Good F s aa w Γ rcs h → ∃ A l c, aa.eval x = .slice A l c ∧ aa.eval y = .slice none 0 0 ∧ (m ≠ 0 → A.isNone = false) := by
    intro aa w Γ rcs h g
    obtain ⟨hk, _, _⟩ := lenOf_is g (g.opoIs hx) hm
    have e2 : aa.eval y = .slice none 0 0 := g.opoIs hy
    rcases hk with ⟨b, e1, _⟩ | ⟨_, m', hm', A, c', e', hA⟩
    ·subst e1
     exact (hnos b rfl).elim
    ·refine ⟨A, m', c', e', e2, fun hm0 => ?_⟩
     cases A with
     | none => have := hA rfl; omega
     | some A => rfl
   split
   ·refine nilT_ok fun aa w Γ rcs h g => ?_
    obtain ⟨A, l, c, e1, e2, hA⟩ := key aa w Γ rcs h g
    refine ⟨A.isNone, hA, by cases A.isNone <;> simp, fun w' => ?_⟩
    simp [execOp, ho, e1, e2, eqGuard, binOp, run_equal_slice_nil _ t te A l c hu]
   ·refine nilT_ok fun aa w Γ rcs h g => ?_
    obtain ⟨A, l, c, e1, e2, hA⟩ := key aa w Γ rcs h g
    refine ⟨!A.isNone, fun hm0 => by rw [hA hm0]; rfl, by cases A.isNone <;> simp, fun w' => ?_⟩
    simp [execOp, ho, e1, e2, eqGuard, binOp, run_equal_slice_nil _ t te A l c hu]
   ·exact pure_bad
  ·exact pure_bad
 ·exact pure_bad

def minI (a b : Int) : Int := if b < a then b else a
def maxI (a b : Int) : Int := if b > a then b else a
def stMin (n : Lim) (o : Oper) (c : Call) (s : St) (k : St → Tr α) : Tr α := match c.args.toList with
 | [x, y] => match opo s x, opo s y with
  | some (.val (.int j) a), some (.val (.int j') b) => if j = j' then set n s o (.one (.val (.int j) (minI a b))) k else .bad
  | _, _ => .bad
 | _ => .bad
def stMax (n : Lim) (o : Oper) (c : Call) (s : St) (k : St → Tr α) : Tr α := match c.args.toList with
 | [x, y] => match opo s x, opo s y with
  | some (.val (.int j) a), some (.val (.int j') b) => if j = j' then set n s o (.one (.val (.int j) (maxI a b))) k else .bad
  | _, _ => .bad
 | _ => .bad
theorem stMin_ok {P : Program} {F : Fr} {o : Oper} {c : Call} {s : St} {k : St → Tr α} (ho : o.op = .call c) (hb : c.callee = .builtin .min) : PureOK P F o s (stMin F.n o c s k) k := by
 unfold stMin
 split
 ·rename_i x y hx
  have ha : c.args = #[x, y] := by rw [← Array.toList_inj]; exact hx
  split
  ·rename_i j a j' b hx hy
   split
   ·rename_i hj
    subst hj
    refine pure_set fun aa w Γ rcs h g => ?_
    obtain ⟨e1, r1⟩ := is_int (g.opoIs hx)
    obtain ⟨e2, r2⟩ := is_int (g.opoIs hy)
    refine ⟨.int j (minI a b), fun w' => ?_, int_is (rcs := rcs) (by unfold minI; split <;> assumption)⟩
    simp [execOp, ho, resolve, hb, ha, invoke, builtin, Builtin.min_, Builtin.min2, e1, e2, minI]
   ·exact pure_bad
  ·exact pure_bad
 ·exact pure_bad
theorem stMax_ok {P : Program} {F : Fr} {o : Oper} {c : Call} {s : St} {k : St → Tr α} (ho : o.op = .call c) (hb : c.callee = .builtin .max) : PureOK P F o s (stMax F.n o c s k) k := by
 unfold stMax
 split
 ·rename_i x y hx
  have ha : c.args = #[x, y] := by rw [← Array.toList_inj]; exact hx
  split
  ·rename_i j a j' b hx hy
   split
   ·rename_i hj
    subst hj
    refine pure_set fun aa w Γ rcs h g => ?_
    obtain ⟨e1, r1⟩ := is_int (g.opoIs hx)
    obtain ⟨e2, r2⟩ := is_int (g.opoIs hy)
    refine ⟨.int j (maxI a b), fun w' => ?_, int_is (rcs := rcs) (by unfold maxI; split <;> assumption)⟩
    simp [execOp, ho, resolve, hb, ha, invoke, builtin, Builtin.max_, Builtin.max2, e1, e2, maxI]
   ·exact pure_bad
  ·exact pure_bad
 ·exact pure_bad
end Go.Proofs.YtibammoednhnoaaE

