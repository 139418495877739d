/- The engine, part 23: slice literals; what was the frame's own becomes what is only read; the slice of an array; bytes as a string; functions as values. Conditions: none. -/
import Derived.Test.YtibammoednhnoaaE22
import Derived.Great.BuildSlice
import Derived.Laws.BytesString
set_option linter.unusedVariables false
set_option linter.unusedSimpArgs false
namespace Go.Proofs.YtibammoednhnoaaE
open Kd
variable {α : Type}

def elemKd (P : Program) (n : Lim) (o : Oper) (te : TypeId) (s : St) : List (Nat × Operand) → Option Kd
 | [] => kdAt P n o te
 | (_, y) :: _ => match opo s y with
  | some (.val K _) => some K
  | some (.at id2 []) => (look s.ck id2).map (·.K)
  | _ => kdAt P n o te
def castA {K : Kd} {n : Nat} {e : Kd} (h : K = .arr n e) (x : K.T) : List e.T := by subst h; exact x
def rowOf (n : Lim) (o : Oper) (te : TypeId) (len : Nat) (e : Kd) (k : St → Tr α) (K' : Kd) (x' : K'.T) (s' : St) : Tr α := if h : K' = .arr len e then newRowT n o te e (castA h x') s' k else .bad
def stLit (P : Program) (n : Lim) (o : Oper) (t : TypeId) (len : Nat) (parts : Array (Nat × Operand)) (s : St) (k : St → Tr α) : Tr α := match slOf? P t with
 | some (te, m) => match elemKd P n o te s parts.toList with
  | some e => if m = e.size ∧ zeroOK P te e = true ∧ len * m ≤ 16777216 ∧ len ≤ 16777216 then partsT (fun i => some (i * m, m)) (fun i => [.idx i]) parts.toList (.arr len e) (List.replicate len (zv e)) s (rowOf n o te len e k) else .bad
  | none => .bad
 | none => .bad
theorem run_lit {P : Program} (w : World) {t te : TypeId} {m len : Nat} {parts : Array (Nat × Value)} {cells : Array Value} {it : TypeInfo} {z : Value} (hsl : slOf? P t = some (te, m)) (hi : P.info? te = some it) (hz : it.zero = some z) (hsmall : len * m ≤ 16777216)
  (h : Instr.fill (fun i => some (i * m, m)) ((Array.range (len * m)).map ((if len * m = 0 then #[] else z.cells)[· % (if len * m = 0 then #[] else z.cells).size]!)) parts.toList = some cells) :
  (Instr.buildSlice t len parts).run P w = .ok (.slice (some ⟨w.heap.size, 0, none⟩) len len) (w.alloc (.cells cells te)) := by
 obtain ⟨i, hu, hi', hisz⟩ := slOf_spec hsl
 rw [hi] at hi'
 injection hi' with hi'
 subst hi'
 subst hisz
 have hs : ¬ (len * it.size > 2 ^ 24) := by omega
 by_cases h0 : len * it.size = 0
 ·have hr0 : (Array.range 0 : Array Nat) = #[] := rfl
  simp only [h0, if_true, hr0, Array.map_empty] at h
  simp [Instr.buildSlice, run_underlying hu, sizeOf, typeInfo, hi, h0, newRow, hr0, h]
 ·simp only [h0, if_false] at h
  simp [Instr.buildSlice, run_underlying hu, sizeOf, typeInfo, zeroValue, hi, hz, hs, h0, newRow, h]
theorem zero_row {e : Kd} {z : Value} {len : Nat} (hz : z.cells.toList = e.cells (zv e) e.zd) : ((Array.range (len * e.size)).map ((if len * e.size = 0 then #[] else z.cells)[· % (if len * e.size = 0 then #[] else z.cells).size]!)).toList = (Kd.arr len e).cells (List.replicate len (zv e)) (fun _ => e.zd) := by
 have hsize : z.cells.size = e.size := by rw [← Array.length_toList, hz, cells_length]
 have hlen : ((Kd.arr len e).cells (List.replicate len (zv e)) (fun _ => e.zd)).length = len * e.size := cells_length (.arr len e) _ _
 have hl : Lie ((Array.range (len * e.size)).map ((if len * e.size = 0 then #[] else z.cells)[· % (if len * e.size = 0 then #[] else z.cells).size]!)) 0 ((Kd.arr len e).cells (List.replicate len (zv e)) (fun _ => e.zd)) := by
  refine (lie_flat (s := e.size) (f := fun i => e.cells (List.getD (List.replicate len (zv e)) i e.dft) e.zd) (fun i => cells_length e _ _)).2 fun i hi => ?_
  have hD : List.getD (List.replicate len (zv e)) i e.dft = zv e := by
   rw [List.getD_eq_getElem?_getD, List.getElem?_replicate, if_pos hi]; rfl
  rw [hD]
  intro q hq
  rw [cells_length] at hq
  have hlt : i * e.size + q < len * e.size := by
   have := Nat.mul_le_mul_right e.size (Nat.succ_le_of_lt hi)
   rw [Nat.succ_mul] at this
   omega
  have hne : ¬ (len * e.size = 0) := by omega
  simp only [if_neg hne, Nat.zero_add]
  rw [Array.getElem?_map, Array.getElem?_range, if_pos hlt]
  simp only [Option.map_some, hsize]
  rw [Nat.mul_comm, Nat.mul_add_mod, Nat.mod_eq_of_lt hq]
  rw [← hz, Array.getElem?_toList, Array.getElem?_eq_getElem (by omega)]
  simp [hsize, hq]
 refine List.ext_getElem? fun j => ?_
 rcases Nat.lt_or_ge j (len * e.size) with hj | hj
 ·have := hl j (by rw [hlen]; exact hj)
  rw [Nat.zero_add] at this
  rw [Array.getElem?_toList]
  exact this
 ·rw [List.getElem?_eq_none (by rw [Array.length_toList, Array.size_map, Array.size_range]; exact hj), List.getElem?_eq_none (by rw [hlen]; exact hj)]
theorem stLit_ok {P : Program} {F : Fr} {o : Oper} {t : TypeId} {len : Nat} {parts : Array (Nat × Operand)} {s : St} {k : St → Tr α} (ho : o.op = .buildSlice t len parts) : WorldOK P F o s (stLit P F.n o t len parts s k) k ⟨true, dstL o⟩ := by
 unfold stLit
 split
 ·rename_i te m hsl
  split
  ·rename_i e he
   split
   ·rename_i hcond
    obtain ⟨rfl, hz, hsm, hsm2⟩ := hcond
    intro Kp a w Γ rcs h Q g he hs
    obtain ⟨it, z0, hit, hz0, hcl⟩ := zeroOK_spec hz
    have hB : ∀ d, o.dst = some d → Off' F d rcs := fun d hd => by rw [dstL_some hd] at he; exact off'_of g he
    have hown0 : (Kd.arr len e).Own Γ (List.replicate len (zv e)) (fun _ => e.zd) HF.emp := by
     refine ⟨List.length_replicate, each_emp fun i hi => ?_⟩
     have hD : List.getD (List.replicate len (zv e)) i e.dft = zv e := by
      rw [List.getD_eq_getElem?_getD, List.getElem?_replicate, if_pos hi]; rfl
     simp only [hD]
     exact zero_own e
    obtain ⟨K', x', z', hK', s', rcs', h', c', hf, o', d', sub', cl, u', hL', hB', hs'⟩ := parts_ok g (od := o.dst) parts.toList (.arr len e) (List.replicate len (zv e)) (fun _ => e.zd) HF.emp s rcs h _ g.sub hown0 (HF.emp_dj _) (by rw [HF.emp_un]; exact fun _ _ e => e) (zero_row hcl) (fun _ _ e => e) hB hs
    unfold rowOf at hs'
    split at hs'
    ·rename_i hK
     subst hK
     have hx : List.length x' = len := o'.1
     have hrun := run_lit w (parts := parts.map fun y => (y.1, a.eval y.2)) hsl hit hz0 hsm (by rw [Array.toList_map]; exact hf)
     have hlc : ∀ i, i < len → Lie c' (i * e.size) (e.cells (List.getD x' i e.dft) (z' i)) := by
      intro i hi
      have h1 : Lie c' 0 ((Kd.arr len e).cells x' z') := fun j hj => by rw [← cl]; simp
      have := (lie_flat (s := e.size) (f := fun i => e.cells (List.getD x' i e.dft) (z' i)) (fun i => cells_length e _ _)).1 h1 i hi
      rwa [Nat.zero_add] at this
     refine newRow_ok (xs := x') (zf := z') (cap := len) (c := c') g (h0 := h') (hn := hK') (fun b v e => sub' b v (by rw [HF.un_comm d']; exact e)) d'.symm u'.st u'.nd u'.ck (fun x hx => u'.tm x hx) ?_ (by rw [hx]; exact Nat.le_refl _) ?_ ?_ (fun i hi => hlc i (by rw [← hx]; exact hi)) ?_ hB' hL' hs'
     ·simp only [execOp, ho]
      rw [hx]
      simp [hrun]
     ·omega
     ·rw [← Array.length_toList, cl, cells_length]; exact Nat.le_refl _
     ·rw [hx]; exact o'.2
    ·exact hs'.elim
   ·exact world_bad
  ·exact world_bad
 ·exact world_bad
def isAt (id : Nat) : AV → Bool
 | .one (.at i []) => i == id
 | _ => false
def lit1S (s : St) (te : TypeId) (d id2 : Nat) (K2 : Kd) (v : K2.T) : St :=
 ⟨(d, .one (.at d [])) :: ((s.tm.filter fun x => x.1 != d && isAt id2 x.2).map (fun x => (x.1, AV.one (.at d [.idx 0]))) ++ (fresh (dropC s id2) d).tm), (d, ⟨none, .sl true te K2 none, [v]⟩) :: del (dropC s id2).ck d⟩
def stLit1 (P : Program) (n : Lim) (o : Oper) (t : TypeId) (id2 : Nat) (K2 : Kd) (v : K2.T) (s : St) (k : St → Tr α) : Tr α := match slOf? P t, o.dst with
 | some (te, m), some d => if m = K2.size ∧ zeroOK P te K2 = true ∧ m ≤ 16777216 ∧ noUn K2 = true then (if n.lo ≤ d ∧ d < n.n then k (lit1S s te d id2 K2 v) else .bad) else .bad
 | _, _ => .bad
theorem stLit1_ok {P : Program} {F : Fr} {o : Oper} {t : TypeId} {parts : Array (Nat × Operand)} {s : St} {k : St → Tr α} {y id2 : Nat} {K2 : Kd} {v : K2.T} (ho : o.op = .buildSlice t 1 parts) (hp : parts.toList = [(0, .tmp y)]) (hl : look s.tm y = some (.one (.at id2 []))) (hc : look s.ck id2 = some ⟨none, K2, v⟩) :
  WorldOK P F o s (stLit1 P F.n o t id2 K2 v s k) k ⟨true, dstL o⟩ := by
 unfold stLit1
 split
 ·rename_i te m d hsl hd
  split
  ·rename_i hcond
   obtain ⟨rfl, hz, hsm, hnu⟩ := hcond
   split
   ·rename_i hlt
    intro Kp a w Γ rcs h Q g he hs
    obtain ⟨it, z0, hit, hz0, hcl⟩ := zeroOK_spec hz
    have hB : Off' F d rcs := by rw [dstL_some hd] at he; exact off'_of g he
    obtain ⟨zv2, hA, hr, hlr, dA, e1, hown, u2⟩ := g.sub.drop hc
    have at_ : ∀ t, (t, AV.one (.at id2 [])) ∈ s.tm → a.tmps[t]? = some (toV K2 (K2.cells v zv2)) := by
     intro t hm
     obtain ⟨u, hu, r0, q, hr0, hpq, hv⟩ := g.tm t _ hm
     rw [hlr] at hr0
     injection hr0 with hr0
     subst hr0
     simp only [pl, Option.some.injEq] at hpq
     subst hpq
     rw [hu, hv]
    have heval : a.eval (.tmp y) = toV K2 (K2.cells v zv2) := by simp [Act.eval, at_ y (look_mem hl)]
    have hcell : (toV K2 (K2.cells v zv2)).cells.toList = K2.cells v zv2 := toV_cells K2 v zv2 hnu
    have hcs : (toV K2 (K2.cells v zv2)).cells.size = K2.size := by rw [← Array.length_toList, hcell, cells_length]
    generalize hc0 : ((Array.range (1 * K2.size)).map ((if 1 * K2.size = 0 then #[] else z0.cells)[· % (if 1 * K2.size = 0 then #[] else z0.cells).size]!)) = c0
    have hs0 : c0.size = K2.size := by rw [← hc0]; simp
    have hfill : Instr.fill (fun i => some (i * K2.size, K2.size)) c0 [(0, toV K2 (K2.cells v zv2))] = some (wr c0 0 (K2.cells v zv2)) := by
     simp only [Instr.fill]
     rw [if_neg (by simp [hcs]; omega), fill_wr, hcell, Nat.zero_mul]
    have hrun := run_lit (len := 1) w (parts := parts.map fun y => (y.1, a.eval y.2)) hsl hit hz0 (by omega) (by rw [Array.toList_map, hp, hc0]; simp only [List.map_cons, List.map_nil, heval]; exact hfill)
    have hlie : Lie (wr c0 0 (K2.cells v zv2)) 0 (K2.cells v zv2) := fun j hj => wr_in _ _ _ _ hj (by rw [cells_length]; omega)
    have hR := g.allocX (d := d) (c := wr c0 0 (K2.cells v zv2)) (t := te) (r := ⟨none, .sl true te K2 none, [v], (some (w.heap.size, 0, 1), fun (_ : Nat) => zv2)⟩) (v := .slice (some ⟨w.heap.size, 0, none⟩) 1 1) (av := .at d []) (rcs0 := del rcs id2) (h0 := hr) (hn := hA)
     (tm := (s.tm.filter fun x => x.1 != d && isAt id2 x.2).map (fun x => (x.1, AV.one (.at d [.idx 0]))) ++ (fresh (dropC s id2) d).tm) (fun b v e => by rw [e1, HF.un_comm dA]; exact e) dA.symm u2.st u2.nd hlt.2 hlt.1 (off'_del hB hlr rfl) (fun n r e => del_look rcs id2 n r e)
     (fun hb e' dj => by
      subst e'
      refine ⟨wr c0 0 (K2.cells v zv2), hA, Nat.le_refl _, by decide, by rw [Nat.zero_add, wr_size]; omega, fun i hi => ?_, ⟨HF.emp, hA, HF.emp_dj _, (HF.emp_un _).symm, rfl, ?_⟩, ?_⟩
      ·have : i = 0 := by simpa using hi
       subst this
       simpa using hlie
      ·show (if (none : Option Nat) = some 0 then hA = HF.emp else K2.Own Γ v zv2 hA)
       rw [if_neg (by simp)]
       exact hown
      ·simp only [if_true]
       exact ⟨dj, trivial⟩)
     ⟨⟨none, .sl true te K2 none, [v], (some (w.heap.size, 0, 1), fun (_ : Nat) => zv2)⟩, ⟨_, [v], (some (w.heap.size, 0, 1), fun (_ : Nat) => zv2), (0, 0)⟩, by simp [look], by simp only [pl]; rfl, rfl⟩
     (fun t av hm => by
      rcases List.mem_append.1 hm with hm | hm
      ·obtain ⟨x, hx, he⟩ := List.mem_map.1 hm
       obtain ⟨m1, m2⟩ := List.mem_filter.1 hx
       obtain ⟨x1, x2⟩ := x
       injection he with he1 he2
       subst he1
       subst he2
       simp only [Bool.and_eq_true, bne_iff_ne, ne_eq] at m2
       obtain ⟨m2, m3⟩ := m2
       have hx2 : x2 = .one (.at id2 []) := by
        unfold isAt at m3
        split at m3
        ·simp only [beq_iff_eq] at m3
         rw [m3]
        ·cases m3
       subst hx2
       refine ⟨m2, _, at_ _ m1, ⟨none, .sl true te K2 none, [v], (some (w.heap.size, 0, 1), fun (_ : Nat) => zv2)⟩, ⟨K2, v, zv2, (w.heap.size, 0 + 0 * K2.size)⟩, by simp [look], ?_, rfl⟩
       simp only [pl]
       rfl
      ·obtain ⟨f1, f2, u, f3, f4⟩ := Good.fresh (F := F) (fun x hx => u2.tm x hx) t av hm
       exact ⟨f2, u, f3, cons_is f1 (offA_is f1 f4)⟩)
    unfold Oper.wp
    have hrun' : (execOp a.eval o).run P w = .ok (.value (.slice (some ⟨w.heap.size, 0, none⟩) 1 1)) (w.alloc (.cells (wr c0 0 (K2.cells v zv2)) te)) := by
     simp only [execOp, ho]
     simp [hrun]
    rw [hrun', Oper.upon_value, hd]
    refine ⟨_, ?_, hs⟩
    unfold lit1S
    rw [show (dropC s id2).ck = (del rcs id2).map fun r => (r.1, r.2.ck) from u2.ck]
    exact hR
   ·exact world_bad
  ·exact world_bad
 ·exact world_bad
def stLitB (P : Program) (n : Lim) (o : Oper) (t : TypeId) (len : Nat) (parts : Array (Nat × Operand)) (s : St) (k : St → Tr α) : Tr α := match len, parts.toList with
 | 1, [(0, .tmp y)] => match look s.tm y with
  | some (.one (.at id2 [])) => match look s.ck id2 with
   | some ⟨none, K2, v⟩ => stLit1 P n o t id2 K2 v s k
   | _ => stLit P n o t len parts s k
  | _ => stLit P n o t len parts s k
 | _, _ => stLit P n o t len parts s k
theorem stLitB_ok {P : Program} {F : Fr} {o : Oper} {t : TypeId} {len : Nat} {parts : Array (Nat × Operand)} {s : St} {k : St → Tr α} (ho : o.op = .buildSlice t len parts) : WorldOK P F o s (stLitB P F.n o t len parts s k) k ⟨true, dstL o⟩ := by
 unfold stLitB
 split
 ·rename_i y hp
  split
  ·rename_i id2 hl
   split
   ·rename_i K2 v hc
    exact stLit1_ok ho hp hl hc
   ·exact stLit_ok ho
  ·exact stLit_ok ho
 ·exact stLit_ok ho
end Go.Proofs.YtibammoednhnoaaE

