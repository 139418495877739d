/- The engine, part 7: operands, arithmetic. Conditions: none. -/
import Derived.Test.YtibammoednhnoaaE6
import Derived.IntWalk
set_option linter.unusedVariables false
set_option linter.unusedSimpArgs false
namespace Go.Proofs.YtibammoednhnoaaE
open Kd
variable {α : Type}

def opv (s : St) : Operand → Option AV
 | .tmp t => look s.tm t
 | .const (.bool b) => some (.one (.val .bool b))
 | .const (.int k n) => if k.min ≤ n ∧ n ≤ k.max then some (.one (.val (.int k) n)) else none
 | .const (.string b) => if b.size ≤ 9223372036854775807 then some (.one (.val .str b)) else none
 | .const (.slice none 0 0) => some (.one .nilS)
 | .const (.pointer none) => some (.one .nilP)
 | .func f => some (.one (.clo f []))
 | _ => none
def opo (s : St) (x : Operand) : Option SV := match opv s x with
 | some (.one v) => some v
 | _ => none

section
variable {F : Fr} {s : St} {a : Act} {w : World} {Γ : HF} {rcs : List (Nat × RC)} {h : HF}
theorem own_free {Γ : HF} : ∀ {K : Kd} {x : K.T} {z : K.Z} {h : HF}, K.free = true → K.Own Γ x z h → h = HF.emp
 | .int _, _, _, _, _, o => o.1
 | .bool, _, _, _, _, o => o
 | .str, _, _, _, _, o => o.1
 | .un, _, _, _, _, o => o
 | .unit, _, _, _, _, o => o
 | .tree _ _, _, _, _, _, o => o.1
 | .tl _ _, _, _, _, _, o => o.1
 | .ep _, _, _, _, _, o => o.1
 | .mp _ _ _, none, _, _, _, o => o
 | .mp false _ _, some _, _, _, _, o => by
  obtain ⟨es, clk, e, _⟩ := o
  exact e.2
 | .mp true _ _, some _, _, _, f, _ => by cases f
 | .pair a b, x, z, h, f, o => by
  obtain ⟨h1, h2, d, e, o1, o2⟩ := o
  simp only [free, Bool.and_eq_true] at f
  rw [e, own_free f.1 o1, own_free f.2 o2, HF.un_emp]
 | .arr n e, x, z, h, f, o => by
  have key : ∀ m h, Each (fun i => e.Own Γ (List.getD x i e.dft) (z i)) m h → h = HF.emp := by
   intro m
   induction m with
   | zero => exact fun h e => e
   | succ m ih =>
    rintro h ⟨h1, h2, d, e', e1, p⟩
    rw [e', ih h1 e1, show h2 = HF.emp from own_free (K := e) f p, HF.un_emp]
  exact key n h o.2
 | .sl own t e hole, x, z, h, f, o => by
  obtain ⟨zo, zf⟩ := z
  simp only [free, Bool.and_eq_true, Bool.not_eq_true', Option.isNone_iff_eq_none] at f
  cases zo with
  | none => exact o.2
  | some q =>
   obtain ⟨b, off, cap⟩ := q
   obtain ⟨c, h2, _, _, _, _, he, hd⟩ := o
   rw [f.1.1] at hd
   simp only [Bool.false_eq_true, if_false] at hd
   rw [hd.2]
   have key : ∀ m h, Each (fun i hi => if hole = some i then hi = HF.emp else e.Own Γ (List.getD x i e.dft) (zf i) hi) m h → h = HF.emp := by
    intro m
    induction m with
    | zero => exact fun h e => e
    | succ m ih =>
     rintro h ⟨h1, h2, d, e', e1, p⟩
     rw [f.2] at p
     rw [e', ih h1 e1, show h2 = HF.emp from own_free (K := e) f.1.2 (by simpa using p), HF.un_emp]
   exact key _ _ he

theorem Good.tmpIs (g : Good F s a w Γ rcs h) {t : Nat} {av : AV} (hl : look s.tm t = some av) : av.is Γ rcs (a.eval (.tmp t)) := by
 obtain ⟨v, hv, hi⟩ := g.tm t av (look_mem hl)
 have : a.eval (.tmp t) = v := by simp [Act.eval, hv]
 rw [this]
 exact hi
theorem Good.opvIs (g : Good F s a w Γ rcs h) {x : Operand} {av : AV} (hx : opv s x = some av) : av.is Γ rcs (a.eval x) := by
 unfold YtibammoednhnoaaE.opv at hx
 split at hx
 ·exact g.tmpIs hx
 ·injection hx with hx; subst hx; exact ⟨rfl, (), rfl, rfl⟩
 ·split at hx
  ·rename_i hr
   injection hx with hx; subst hx; exact ⟨rfl, (), ⟨rfl, hr.1, hr.2⟩, rfl⟩
  ·cases hx
 ·split at hx
  ·rename_i hr
   injection hx with hx; subst hx; exact ⟨rfl, (), ⟨rfl, hr⟩, rfl⟩
  ·cases hx
 ·injection hx with hx; subst hx; rfl
 ·injection hx with hx; subst hx; rfl
 ·injection hx with hx; subst hx; exact ⟨[], rfl, rfl, fun i id h => by simp at h⟩
 ·cases hx
theorem Good.opoIs (g : Good F s a w Γ rcs h) {x : Operand} {sv : SV} (hx : opo s x = some sv) : sv.is Γ rcs (a.eval x) := by
 unfold YtibammoednhnoaaE.opo at hx
 split at hx
 ·rename_i v hv
  injection hx with hx; subst hx
  exact g.opvIs hv
 ·cases hx
theorem is_int {k : IntKind} {n : Int} {v : Value} (hv : (SV.val (.int k) n).is Γ rcs v) : v = .int k n ∧ k.min ≤ n ∧ n ≤ k.max := by
 obtain ⟨_, z, o, e⟩ := hv
 exact ⟨e, o.2⟩
theorem is_bool {n : Bool} {v : Value} (hv : (SV.val .bool n).is Γ rcs v) : v = .bool n := by
 obtain ⟨_, z, o, e⟩ := hv
 exact e
theorem is_str {n : ByteArray} {v : Value} (hv : (SV.val .str n).is Γ rcs v) : v = .string n ∧ n.size ≤ 9223372036854775807 := by
 obtain ⟨_, z, o, e⟩ := hv
 exact ⟨e, o.2⟩
theorem int_is {k : IntKind} {n : Int} (h : k.min ≤ n ∧ n ≤ k.max) : (SV.val (.int k) n).is Γ rcs (.int k n) := ⟨rfl, (), ⟨rfl, h⟩, rfl⟩
theorem bool_is {n : Bool} : (SV.val .bool n).is Γ rcs (.bool n) := ⟨rfl, (), rfl, rfl⟩
theorem str_is {n : ByteArray} (h : n.size ≤ 9223372036854775807) : (SV.val .str n).is Γ rcs (.string n) := ⟨rfl, (), ⟨rfl, h⟩, rfl⟩
end

def set (n : Lim) (s : St) (o : Oper) (av : AV) (k : St → Tr α) : Tr α := match o.dst with
 | some d => if d < n.n then k ⟨(d, av) :: del s.tm d, s.ck⟩ else .bad
 | none => .bad
theorem set_ok {F : Fr} {s : St} {a : Act} {w : World} {Γ : HF} {rcs : List (Nat × RC)} {h : HF} {o : Oper} {av : AV} {k : St → Tr α} {K : α → Prop} {v : Value}
  (hs : (set F.n s o av k).sat K) (g : Good F s a w Γ rcs h) (hv : av.is Γ rcs v) : ∃ s', R F s' (a.put o.dst v) w ∧ (k s').sat K := by
 unfold set at hs
 split at hs
 ·rename_i d hd
  split at hs
  ·rename_i hn
   rw [hd]
   exact ⟨_, ⟨Γ, rcs, h, g.put hn hv⟩, hs⟩
  ·exact hs.elim
 ·exact hs.elim

def PureOK (P : Program) (F : Fr) (o : Oper) (s : St) (t : Tr α) (k : St → Tr α) : Prop := ∀ (K : α → Prop) (a : Act) (w : World) (Γ : HF) (rcs : List (Nat × RC)) (h : HF), Good F s a w Γ rcs h → t.sat K →
 ∃ v s', (∀ w', (execOp a.eval o).run P w' = .ok (.value v) w') ∧ R F s' (a.put o.dst v) w ∧ (k s').sat K
theorem pure_set {P : Program} {F : Fr} {o : Oper} {s : St} {av : AV} {k : St → Tr α} (hv : ∀ (a : Act) (w : World) (Γ : HF) (rcs : List (Nat × RC)) (h : HF), Good F s a w Γ rcs h → ∃ v, (∀ w', (execOp a.eval o).run P w' = .ok (.value v) w') ∧ av.is Γ rcs v) :
  PureOK P F o s (set F.n s o av k) k := fun K a w Γ rcs h g hs =>
 let ⟨v, hr, hi⟩ := hv a w Γ rcs h g
 let ⟨s', r, q⟩ := set_ok hs g hi
 ⟨v, s', hr, r, q⟩
theorem pure_bad {P : Program} {F : Fr} {o : Oper} {s : St} {k : St → Tr α} : PureOK P F o s .bad k := fun _ _ _ _ _ _ _ h => h.elim
theorem pure_need {P : Program} {F : Fr} {o : Oper} {s : St} {t : Tr α} {p : Prop} [Decidable p] {k : St → Tr α} (h : p → PureOK P F o s t k) : PureOK P F o s (.need p t) k := fun K a w Γ rcs hh g hs => h hs.1 K a w Γ rcs hh g hs.2
theorem pure_split {P : Program} {F : Fr} {o : Oper} {s : St} {t f : Tr α} {b : Bool} {k : St → Tr α} (h1 : b = true → PureOK P F o s t k) (h2 : b = false → PureOK P F o s f k) : PureOK P F o s (.split b t f) k := fun K a w Γ rcs hh g hs => by
 cases hb : b with
 | true => exact h1 hb K a w Γ rcs hh g (hs.1 hb)
 | false => exact h2 hb K a w Γ rcs hh g (hs.2 hb)

def stMove (n : Lim) (o : Oper) (x : Operand) (s : St) (k : St → Tr α) : Tr α := match opv s x with
 | some av => set n s o av k
 | none => .bad
theorem stMove_ok {P : Program} {F : Fr} {o : Oper} {x : Operand} {s : St} {k : St → Tr α} (ho : o.op = .move x ∨ o.op = .assign x) : PureOK P F o s (stMove F.n o x s k) k := by
 unfold stMove
 split
 ·rename_i av hav
  refine pure_set fun a w Γ rcs h g => ⟨a.eval x, fun w' => ?_, g.opvIs hav⟩
  rcases ho with e | e <;> simp only [execOp, e] <;> rfl
 ·exact pure_bad
def stPick (n : Lim) (o : Oper) (c x y : Operand) (s : St) (k : St → Tr α) : Tr α := match opo s c with
 | some (.val .bool b) => .split b (stMove n o x s k) (stMove n o y s k)
 | _ => .bad
theorem stPick_ok {P : Program} {F : Fr} {o : Oper} {c x y : Operand} {s : St} {k : St → Tr α} (ho : o.op = .pick c x y) : PureOK P F o s (stPick F.n o c x y s k) k := by
 unfold stPick
 split
 ·rename_i b hc
  refine pure_split (fun hb => ?_) (fun hb => ?_) <;>
  ·unfold stMove
   split
   ·rename_i av hav
    refine pure_set fun a w Γ rcs h g => ⟨_, fun w' => ?_, g.opvIs hav⟩
    have := is_bool (g.opoIs hc)
    simp [execOp, ho, this, hb, asBool]
   ·exact pure_bad
 ·exact pure_bad

def binI (op : BinOp) (k : IntKind) (a b : Int) : Prop × SV := match op with
 | .add => (True, .val (.int k) (k.wrap (a + b)))
 | .sub => (True, .val (.int k) (k.wrap (a - b)))
 | .mul => (True, .val (.int k) (k.wrap (a * b)))
 | .quo => (b ≠ 0, .val (.int k) (k.wrap (a.tdiv b)))
 | .rem => (b ≠ 0, .val (.int k) (a.tmod b))
 | .and => (True, .val (.int k) (k.wrap (BitVec.ofInt k.bits a &&& BitVec.ofInt k.bits b).toNat))
 | .or => (True, .val (.int k) (k.wrap (BitVec.ofInt k.bits a ||| BitVec.ofInt k.bits b).toNat))
 | .xor => (True, .val (.int k) (k.wrap (BitVec.ofInt k.bits a ^^^ BitVec.ofInt k.bits b).toNat))
 | .andNot => (True, .val (.int k) (k.wrap (BitVec.ofInt k.bits a &&& ~~~BitVec.ofInt k.bits b).toNat))
 | .shl => (0 ≤ b, .val (.int k) (k.wrap (a * 2 ^ (min b.toNat k.bits))))
 | .shr => (0 ≤ b, .val (.int k) (a.fdiv (2 ^ (min b.toNat k.bits))))
 | .eql => (True, .val .bool (a == b))
 | .neq => (True, .val .bool (a != b))
 | .lss => (True, .val .bool (decide (a < b)))
 | .leq => (True, .val .bool (decide (a ≤ b)))
 | .gtr => (True, .val .bool (decide (a > b)))
 | .geq => (True, .val .bool (decide (a ≥ b)))

instance (op : BinOp) (k : IntKind) (a b : Int) : Decidable (binI op k a b).1 := match op with
 | .add | .sub | .mul | .and | .or | .xor | .andNot | .eql | .neq | .lss | .leq | .gtr | .geq => inferInstanceAs (Decidable True)
 | .quo | .rem => inferInstanceAs (Decidable (b ≠ 0))
 | .shl | .shr => inferInstanceAs (Decidable (0 ≤ b))
theorem min_max (k : IntKind) : k.min ≤ 0 ∧ 0 ≤ k.max := by cases k <;> decide
theorem wrap_range (k : IntKind) (n : Int) : k.min ≤ k.wrap n ∧ k.wrap n ≤ k.max := by
 cases k <;> simp only [IntKind.wrap, IntKind.min, IntKind.max, IntKind.signed, IntKind.bits] <;> simp <;> (try split) <;> omega
theorem tmod_range {k : IntKind} {a b : Int} (h : k.min ≤ a ∧ a ≤ k.max) : k.min ≤ a.tmod b ∧ a.tmod b ≤ k.max := by
 have h1 := min_max k
 have h2 : (a.tmod b).natAbs ≤ a.natAbs := by rw [Int.natAbs_tmod]; exact Nat.mod_le _ _
 rcases Int.le_total 0 a with h0 | h0
 ·have := Int.tmod_nonneg b h0
  omega
 ·have : a.tmod b ≤ 0 := by
   have := Int.tmod_nonneg b (show 0 ≤ -a by omega)
   rw [Int.neg_tmod] at this
   omega
  omega
theorem fdiv_range {k : IntKind} {a : Int} {n : Nat} (h : k.min ≤ a ∧ a ≤ k.max) : k.min ≤ a.fdiv (2 ^ n) ∧ a.fdiv (2 ^ n) ≤ k.max := by
 have h1 := min_max k
 have hp : (1 : Int) ≤ 2 ^ n := by
  have : (0 : Int) < 2 ^ n := Int.pow_pos (by decide)
  omega
 rw [Int.fdiv_eq_ediv_of_nonneg _ (by omega)]
 rcases Int.le_total 0 a with h0 | h0
 ·have := Int.ediv_nonneg h0 (show (0 : Int) ≤ 2 ^ n by omega)
  have := Int.ediv_le_self (2 ^ n) h0
  omega
 ·have h2 : a ≤ a / 2 ^ n := by
   refine Int.le_ediv_of_mul_le (by omega) ?_
   have := Int.mul_le_mul_of_nonpos_left h0 hp
   omega
  have h3 : a / 2 ^ n ≤ 0 := by
   have := Int.ediv_le_ediv (c := 2 ^ n) (by omega) h0
   simpa using this
  omega
theorem binI_ok {P : Program} {op : BinOp} {k k' : IntKind} {a b : Int} {x y : Operand} {t : TypeId} (hk : k = k' ∨ op = .shl ∨ op = .shr) (ha : k.min ≤ a ∧ a ≤ k.max) (hp : (binI op k a b).1) {Γ : HF} {rcs : List (Nat × RC)} :
  ∃ v, (∀ w, (do eqGuard op t x y (.int k a) (.int k' b); binOp op t (.int k a) (.int k' b) : Sem Value).run P w = .ok v w) ∧ (binI op k a b).2.is Γ rcs v := by
 cases op <;> simp only [binI] at hp ⊢
 case shl => exact ⟨_, fun w => by simp [eqGuard, binOp, Op.shift, show ¬ b < 0 by omega], int_is (wrap_range _ _)⟩
 case shr => exact ⟨_, fun w => by simp [eqGuard, binOp, Op.shift, show ¬ b < 0 by omega], int_is (fdiv_range ha)⟩
 all_goals obtain rfl : k = k' := by rcases hk with e | e | e <;> first | exact e | cases e
 case add | sub | mul => exact ⟨_, fun w => by simp [eqGuard, binOp, Op.intArith], int_is (wrap_range _ _)⟩
 case quo => exact ⟨_, fun w => by simp only [binOp, ne_eq, not_true_eq_false, if_false, Op.intDiv, hp]; rfl, int_is (wrap_range _ _)⟩
 case rem => exact ⟨_, fun w => by simp only [binOp, ne_eq, not_true_eq_false, if_false, Op.intDiv, hp]; rfl, int_is (tmod_range ha)⟩
 case and | or | xor | andNot => exact ⟨_, fun w => by simp only [binOp, ne_eq, not_true_eq_false, if_false, Op.intBits]; rfl, int_is (wrap_range _ _)⟩
 case eql | neq | lss | leq | gtr | geq => exact ⟨_, fun w => by simp [eqGuard, binOp, Op.intCmp], bool_is⟩
end Go.Proofs.YtibammoednhnoaaE

