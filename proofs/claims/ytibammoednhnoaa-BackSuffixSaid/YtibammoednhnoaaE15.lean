/- The engine, part 15: the operations that lay variables and rows. Conditions: none. -/
import Derived.Test.YtibammoednhnoaaE14
set_option linter.unusedVariables false
set_option linter.unusedSimpArgs false
namespace Go.Proofs.YtibammoednhnoaaE
open Kd
variable {α : Type}

def recT (P : Program) (t : TypeId) (fs : List TypeId) : Bool := match fs.getLast? with
 | some e => match P.underlying e with
  | some (.slice u) => u == t
  | _ => false
 | none => false
def kdChain (g : TypeId → Option Kd) (fs : List TypeId) : Option Kd := fs.foldr (fun fd r => match g fd, r with
 | some K, some L => some (.pair K L)
 | _, _ => none) (some .unit)
def kdOf (P : Program) : Nat → TypeId → Option Kd
 | 0, _ => none
 | f + 1, t => match P.underlying t with
  | some .bool => some .bool
  | some (.int k) => some (.int k)
  | some .string => some .str
  | some (.slice e) => (kdOf P f e).map fun K => match K with
   | .tree t K' => .tl t K'
   | K => .sl true e K none
  | some (.map kt et) => match P.underlying kt, P.underlying et with
   | some .string, some (.int k) => some (.mp true t k)
   | _, _ => none
  | some (.array n e) => (kdOf P f e).map (.arr n)
  | some (.struct fs) => if recT P t (fs.toList.map (·.type)) then (kdChain (kdOf P f) (fs.toList.map (·.type)).dropLast).map (.tree t) else kdChain (kdOf P f) (fs.toList.map (·.type))
  | _ => none
def zv : (K : Kd) → K.T
 | .int _ => (0 : Int) | .bool => false | .str => ByteArray.empty | .un => () | .unit => ()
 | .pair a b => (zv a, zv b)
 | .arr n e => List.replicate n (zv e)
 | .sl _ _ _ _ => []
 | .tree _ e => .mk (zv e) []
 | .tl _ _ => []
 | .mp _ _ _ => none
 | .ep _ => none
theorem zero_own {Γ : HF} : ∀ (K : Kd), K.Own Γ (zv K) K.zd HF.emp
 | .int k => ⟨rfl, min_max k⟩
 | .bool => rfl
 | .str => ⟨rfl, by decide⟩
 | .un => rfl
 | .unit => rfl
 | .pair a b => ⟨HF.emp, HF.emp, HF.dj_emp _, (HF.un_emp _).symm, zero_own a, zero_own b⟩
 | .arr n e => by
  refine ⟨List.length_replicate, ?_⟩
  have key : ∀ m, m ≤ n → Each (fun i => e.Own Γ (List.getD (List.replicate n (zv e)) i e.dft) ((Kd.arr n e).zd i)) m HF.emp := by
   intro m
   induction m with
   | zero => exact fun _ => rfl
   | succ m ih =>
    intro hm
    refine ⟨HF.emp, HF.emp, HF.dj_emp _, (HF.un_emp _).symm, ih (by omega), ?_⟩
    have : List.getD (List.replicate n (zv e)) m e.dft = zv e := by
     rw [List.getD_eq_getElem?_getD, List.getElem?_replicate, if_pos (by omega)]; rfl
    show e.Own Γ (List.getD (List.replicate n (zv e)) m e.dft) _ HF.emp
    rw [this]
    exact zero_own e
  exact key n (Nat.le_refl _)
 | .sl own t e hole => ⟨rfl, rfl⟩
 | .tree t e => ⟨rfl, .nil (zero_own e)⟩
 | .tl t e => ⟨rfl, rfl⟩
 | .mp o t k => rfl
 | .ep e => ⟨rfl, trivial⟩

def veq : Value → Value → Bool
 | .bool a, .bool b => a == b
 | .int k n, .int k' n' => decide (k = k') && decide (n = n')
 | .string a, .string b => decide (a = b)
 | .slice none a b, .slice none c d => a == c && b == d
 | .map none, .map none => true
 | .pointer none, .pointer none => true
 | _, _ => false
theorem veq_eq {a b : Value} (h : veq a b = true) : a = b := by
 unfold veq at h
 split at h <;> simp_all
def ceq : List Value → List Value → Bool
 | [], [] => true
 | a :: l, b :: m => veq a b && ceq l m
 | _, _ => false
theorem ceq_eq : ∀ {a b : List Value}, ceq a b = true → a = b
 | [], [], _ => rfl
 | a :: l, b :: m, h => by
  simp only [ceq, Bool.and_eq_true] at h
  rw [veq_eq h.1, ceq_eq h.2]
 | [], _ :: _, h => by cases h
 | _ :: _, [], h => by cases h
def zeroOK (P : Program) (t : TypeId) (K : Kd) : Bool := match P.info? t with
 | some i => match i.zero with
  | some v => ceq v.cells.toList (K.cells (zv K) K.zd)
  | none => false
 | none => false
theorem zeroOK_spec {P : Program} {t : TypeId} {K : Kd} (h : zeroOK P t K = true) : ∃ i v, P.info? t = some i ∧ i.zero = some v ∧ v.cells.toList = K.cells (zv K) K.zd := by
 unfold zeroOK at h
 split at h
 ·rename_i i hi
  split at h
  ·rename_i v hv
   exact ⟨i, v, hi, hv, ceq_eq h⟩
  ·cases h
 ·cases h

def dstL (o : Oper) : List Nat := match o.dst with
 | some d => [d]
 | none => []
theorem dstL_some {o : Oper} {d : Nat} (h : o.dst = some d) : dstL o = [d] := by simp [dstL, h]
def fresh (s : St) (d : Nat) : St := ⟨s.tm.filter fun x => offA d x.2 && x.1 != d, s.ck⟩
def newBox (n : Lim) (o : Oper) (t : TypeId) (K : Kd) (x : K.T) (s : St) (k : St → Tr α) : Tr α := match o.dst with
 | some d => if n.lo ≤ d ∧ d < n.n then k ⟨(d, .one (.ptr d [])) :: (fresh s d).tm, (d, ⟨some t, K, x⟩) :: del s.ck d⟩ else .bad
 | none => .bad
theorem Good.fresh {F : Fr} {s : St} {a : Act} {rcs0 : List (Nat × RC)} {Γ : HF} {d : Nat} (h : ∀ x, x ∈ s.tm → ∃ v, a.tmps[x.1]? = some v ∧ x.2.is Γ rcs0 v) :
  ∀ t av, (t, av) ∈ (fresh s d).tm → offA d av = true ∧ t ≠ d ∧ ∃ v, a.tmps[t]? = some v ∧ av.is Γ rcs0 v := by
 intro t av hm
 obtain ⟨h1, h2⟩ := List.mem_filter.1 hm
 simp only [Bool.and_eq_true, bne_iff_ne, ne_eq] at h2
 exact ⟨h2.1, h2.2, h _ h1⟩
theorem newBox_ok {P : Program} {F : Fr} {s s0 : St} {a : Act} {w : World} {Γ : HF} {rcs rcs0 : List (Nat × RC)} {h h0 hn : HF} (g : Good F s a w Γ rcs h)
  (hsub : ∀ b v, (h0.un hn) b = some v → h b = some v) (dn : HF.dj h0 hn) (st : Star Γ rcs0 h0) (nd : (rcs0.map (·.1)).Nodup) (hck : s0.ck = rcs0.map fun r => (r.1, r.2.ck)) (htm : ∀ x, x ∈ s0.tm → ∃ v, a.tmps[x.1]? = some v ∧ x.2.is Γ rcs0 v)
  {o : Oper} {t : TypeId} {K2 : Kd} {v : K2.T} {zv : K2.Z} {k : St → Tr α} {K : α → Prop} {Q : Exit → Act → World → Prop} {c : Array Value}
  (hrun : (execOp a.eval o).run P w = .ok (.value (.pointer (some ⟨w.heap.size, 0, none⟩))) (w.alloc (.cells c t))) (hc : c.toList = K2.cells v zv)
  (hy : K2.Own Γ v zv hn) (hB : ∀ d, o.dst = some d → Off' F d rcs0) (hsubL : ∀ n r, look rcs0 n = some r → look rcs n = some r) (hs : (newBox F.n o t K2 v s0 k).sat K) : o.wp P a w (fun a' w' => ∃ s', R F s' a' w' ∧ (k s').sat K) Q := by
 unfold newBox at hs
 split at hs
 ·rename_i d hd
  split at hs
  ·rename_i hlt
   have hR := g.alloc (d := d) (c := c) (t := t) (r := ⟨some (w.heap.size, t), K2, v, zv⟩) (v := .pointer (some ⟨w.heap.size, 0, none⟩)) (av := .ptr d []) (tm := (fresh s0 d).tm) hsub dn st nd hlt.2 hlt.1 (hB d hd) hsubL
    (fun hb e dj => by subst e; exact ⟨c, hn, dj, rfl, hy, hc⟩)
    ⟨⟨some (w.heap.size, t), K2, v, zv⟩, ⟨K2, v, zv, (w.heap.size, 0)⟩, by simp [look], by simp [pl], fun e => (by cases e), rfl⟩ (Good.fresh (F := F) htm)
   unfold Oper.wp
   rw [hrun, Oper.upon_value, hd]
   rw [← hck] at hR
   exact ⟨_, hR, hs⟩
  ·exact hs.elim
 ·exact hs.elim

def kdAt (P : Program) (n : Lim) (o : Oper) (t : TypeId) : Option Kd := match o.dst with
 | some d => match look n.kd d with
  | some K => some K
  | none => kdOf P 8 t
 | none => kdOf P 8 t
def stAlloc (P : Program) (n : Lim) (o : Oper) (t : TypeId) (s : St) (k : St → Tr α) : Tr α := match kdAt P n o t with
 | some K => if zeroOK P t K && unfOK K then newBox n o t (unfK K) (unfT K (zv K)) s k else .bad
 | none => .bad
theorem stAlloc_ok {P : Program} {F : Fr} {o : Oper} {t : TypeId} {s : St} {k : St → Tr α} (ho : o.op = .alloc t) : WorldOK P F o s (stAlloc P F.n o t s k) k ⟨true, dstL o⟩ := by
 unfold stAlloc
 split
 ·rename_i K hK
  split
  ·rename_i hz
   rw [Bool.and_eq_true] at hz
   obtain ⟨hz, hu⟩ := hz
   intro K' a w Γ rcs h Q g he hs
   have hB : ∀ d, o.dst = some d → Off' F d rcs := fun d hd => by rw [dstL_some hd] at he; exact off'_of g he
   obtain ⟨i, v, hi, hv, hc⟩ := zeroOK_spec hz
   obtain ⟨zu, ou, cu⟩ := unf_own hu (zero_own (Γ := Γ) K)
   refine newBox_ok g (h0 := h) (hn := HF.emp) (c := v.cells) (zv := zu) (by rw [HF.un_emp]; exact fun _ _ e => e) (HF.dj_emp h) g.star g.nodup g.ck.symm (fun x hx => g.tm x.1 x.2 hx) ?_ (hc.trans cu.symm) ou hB (fun _ _ e => e) hs
   simp [execOp, ho, Instr.alloc, zeroValue, typeInfo, hi, hv, newVar, newRow]
  ·exact world_bad
 ·exact world_bad

def stBox (P : Program) (n : Lim) (o : Oper) (t : TypeId) (x : Operand) (s : St) (k : St → Tr α) : Tr α := match opo s x with
 | some (.val K2 v) => if noUn K2 && unfOK K2 then newBox n o t (unfK K2) (unfT K2 v) s k else .bad
 | some .nilS => match kdOf P 8 t with
  | some (.sl true e K none) => newBox n o t (.sl true e K none) [] s k
  | _ => .bad
 | some (.at id2 []) => match look s.ck id2 with
  | some c2 => match c2.box with
   | none => if noUn c2.K then newBox n o t c2.K c2.x ⟨s.tm.filter fun x => offA id2 x.2, del s.ck id2⟩ k else .bad
   | some _ => .bad
  | none => .bad
 | _ => .bad
theorem stBox_ok {P : Program} {F : Fr} {o : Oper} {t : TypeId} {x : Operand} {s : St} {k : St → Tr α} (ho : o.op = .box t x) : WorldOK P F o s (stBox P F.n o t x s k) k ⟨true, dstL o⟩ := by
 have hrun : ∀ (a : Act) (w : World), (execOp a.eval o).run P w = .ok (.value (.pointer (some ⟨w.heap.size, 0, none⟩))) (w.alloc (.cells (a.eval x).cells t)) := by
  intro a w
  simp [execOp, ho, Instr.box, newVar, newRow]
 unfold stBox
 split
 ·rename_i K2 v hx
  split
  ·rename_i hnu
   rw [Bool.and_eq_true] at hnu
   obtain ⟨hnu, hu⟩ := hnu
   intro K' a w Γ rcs h Q g he hs
   have hB : ∀ d, o.dst = some d → Off' F d rcs := fun d hd => by rw [dstL_some hd] at he; exact off'_of g he
   obtain ⟨hf, zz, how, hv⟩ := g.opoIs hx
   obtain ⟨zu, ou, cu⟩ := unf_own hu how
   exact newBox_ok g (h0 := h) (hn := HF.emp) (by rw [HF.un_emp]; exact fun _ _ e => e) (HF.dj_emp h) g.star g.nodup g.ck.symm (fun x hx => g.tm x.1 x.2 hx) (hrun a w) (by rw [hv, cu]; exact toV_cells K2 v zz hnu) ou hB (fun _ _ e => e) hs
  ·exact world_bad
 ·rename_i hx
  split
  ·rename_i e K hk
   intro K' a w Γ rcs h Q g he hs
   have hB : ∀ d, o.dst = some d → Off' F d rcs := fun d hd => by rw [dstL_some hd] at he; exact off'_of g he
   have hv : a.eval x = .slice none 0 0 := g.opoIs hx
   exact newBox_ok g (h0 := h) (hn := HF.emp) (K2 := .sl true e K none) (v := []) (zv := (none, fun _ => K.zd)) (by rw [HF.un_emp]; exact fun _ _ e => e) (HF.dj_emp h) g.star g.nodup g.ck.symm (fun x hx => g.tm x.1 x.2 hx) (hrun a w) (by rw [hv]; rfl) ⟨rfl, rfl⟩ hB (fun _ _ e => e) hs
  ·exact world_bad
 ·rename_i id2 hx
  split
  ·rename_i c2 hc2
   split
   ·rename_i hbox
    split
    ·rename_i hnu
     intro K' a w Γ rcs h Q g he hs
     have hB : ∀ d, o.dst = some d → Off' F d rcs := fun d hd => by rw [dstL_some hd] at he; exact off'_of g he
     obtain ⟨r2, q2, hr2, hp2, hv⟩ := g.opoIs hx
     obtain rfl := g.same hc2 hr2
     simp only [pl, Option.some.injEq] at hp2
     subst hp2
     have hb2 : r2.box = none := by
      cases hb : r2.box with
      | none => rfl
      | some bt => simp [RC.ck, hb] at hbox
     obtain ⟨h1, hr', d1, hh, o1, _, dl⟩ := star_upd g.star hr2 g.nodup
     have o2 : r2.K.Own Γ r2.x r2.z h1 := by simpa [RC.Own, hb2] using o1
     refine newBox_ok (s0 := ⟨s.tm.filter fun x => offA id2 x.2, del s.ck id2⟩) g (h0 := hr') (hn := h1) (rcs0 := del rcs id2) (by rw [hh, HF.un_comm d1]; exact fun _ _ e => e) d1.symm dl (del_nodup g.nodup id2) (del_ck g id2).symm ?_ (hrun a w) (by rw [hv]; exact toV_cells r2.K r2.x r2.z hnu) o2 (fun d hd => off'_del (hB d hd) hr2 hb2) (del_look rcs id2) hs
     intro x hx
     obtain ⟨e1, e2⟩ := List.mem_filter.1 hx
     obtain ⟨v, hv, hi⟩ := g.tm x.1 x.2 e1
     exact ⟨v, hv, offA_is e2 hi⟩
    ·exact world_bad
   ·exact world_bad
  ·exact world_bad
 ·exact world_bad
end Go.Proofs.YtibammoednhnoaaE

