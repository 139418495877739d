/- The engine, part 23: slice literals; what was the frame's own becomes what is only read; the slice of an array; bytes as a string; functions as values. Conditions: none. -/
import Derived.Test.YtgojfdimbciaiaaE22
import Derived.Great.BuildSlice
import Derived.Laws.BytesString
set_option linter.unusedVariables false
set_option linter.unusedSimpArgs false
namespace Go.Proofs.YtgojfdimbciaiaaE
open Kd
variable {α : Type}

/-! ### Slice literals -/
def elemKd (P : Program) (te : TypeId) (s : St) : List (Nat × Operand) → Option Kd
  | [] => kdOf P 8 te
  | (_, y) :: _ => match opo s y with
    | some (.val K _) => some K
    | some (.at id2 []) => (look s.ck id2).map (·.K)
    | _ => kdOf P 8 te
def castA {K : Kd} {n : Nat} {e : Kd} (h : K = .arr n e) (x : K.T) : List e.T := by subst h; exact x
def rowOf (n : Lim) (o : Oper) (te : TypeId) (len : Nat) (e : Kd) (k : St → Tr α) (K' : Kd) (x' : K'.T) (s' : St) : Tr α := if h : K' = .arr len e then newRowT n o te e (castA h x') s' k else .bad
def stLit (P : Program) (n : Lim) (o : Oper) (t : TypeId) (len : Nat) (parts : Array (Nat × Operand)) (s : St) (k : St → Tr α) : Tr α := match slOf? P t with
  | some (te, m) => match elemKd P te s parts.toList with
    | some e => if m = e.size ∧ zeroOK P te e = true ∧ len * m ≤ 16777216 ∧ len ≤ 16777216 then partsT (fun i => some (i * m, m)) (fun i => [.idx i]) parts.toList (.arr len e) (List.replicate len (zv e)) s (rowOf n o te len e k) else .bad
    | none => .bad
  | none => .bad
theorem run_lit {P : Program} (w : World) {t te : TypeId} {m len : Nat} {parts : Array (Nat × Value)} {cells : Array Value} {it : TypeInfo} {z : Value} (hsl : slOf? P t = some (te, m)) (hi : P.info? te = some it) (hz : it.zero = some z) (hsmall : len * m ≤ 16777216)
    (h : Instr.fill (fun i => some (i * m, m)) ((Array.range (len * m)).map ((if len * m = 0 then #[] else z.cells)[· % (if len * m = 0 then #[] else z.cells).size]!)) parts.toList = some cells) :
    (Instr.buildSlice t len parts).run P w = .ok (.slice (some ⟨w.heap.size, 0, none⟩) len len) (w.alloc (.cells cells te)) := by
  obtain ⟨i, hu, hi', hisz⟩ := slOf_spec hsl
  rw [hi] at hi'
  injection hi' with hi'
  subst hi'
  subst hisz
  have hs : ¬ (len * it.size > 2 ^ 24) := by omega
  by_cases h0 : len * it.size = 0
  · have hr0 : (Array.range 0 : Array Nat) = #[] := rfl
    simp only [h0, if_true, hr0, Array.map_empty] at h
    simp [Instr.buildSlice, run_underlying hu, sizeOf, typeInfo, hi, h0, newRow, hr0, h]
  · simp only [h0, if_false] at h
    simp [Instr.buildSlice, run_underlying hu, sizeOf, typeInfo, zeroValue, hi, hz, hs, h0, newRow, h]
theorem zero_row {e : Kd} {z : Value} {len : Nat} (hz : z.cells.toList = e.cells (zv e) e.zd) : ((Array.range (len * e.size)).map ((if len * e.size = 0 then #[] else z.cells)[· % (if len * e.size = 0 then #[] else z.cells).size]!)).toList = (Kd.arr len e).cells (List.replicate len (zv e)) (fun _ => e.zd) := by
  have hsize : z.cells.size = e.size := by rw [← Array.length_toList, hz, cells_length]
  have hlen : ((Kd.arr len e).cells (List.replicate len (zv e)) (fun _ => e.zd)).length = len * e.size := cells_length (.arr len e) _ _
  have hl : Lie ((Array.range (len * e.size)).map ((if len * e.size = 0 then #[] else z.cells)[· % (if len * e.size = 0 then #[] else z.cells).size]!)) 0 ((Kd.arr len e).cells (List.replicate len (zv e)) (fun _ => e.zd)) := by
    refine (lie_flat (s := e.size) (f := fun i => e.cells (List.getD (List.replicate len (zv e)) i e.dft) e.zd) (fun i => cells_length e _ _)).2 fun i hi => ?_
    have hD : List.getD (List.replicate len (zv e)) i e.dft = zv e := by
      rw [List.getD_eq_getElem?_getD, List.getElem?_replicate, if_pos hi]; rfl
    rw [hD]
    intro q hq
    rw [cells_length] at hq
    have hlt : i * e.size + q < len * e.size := by
      have := Nat.mul_le_mul_right e.size (Nat.succ_le_of_lt hi)
      rw [Nat.succ_mul] at this
      omega
    have hne : ¬ (len * e.size = 0) := by omega
    simp only [if_neg hne, Nat.zero_add]
    rw [Array.getElem?_map, Array.getElem?_range, if_pos hlt]
    simp only [Option.map_some, hsize]
    rw [Nat.mul_comm, Nat.mul_add_mod, Nat.mod_eq_of_lt hq]
    rw [← hz, Array.getElem?_toList, Array.getElem?_eq_getElem (by omega)]
    simp [hsize, hq]
  refine List.ext_getElem? fun j => ?_
  rcases Nat.lt_or_ge j (len * e.size) with hj | hj
  · have := hl j (by rw [hlen]; exact hj)
    rw [Nat.zero_add] at this
    rw [Array.getElem?_toList]
    exact this
  · rw [List.getElem?_eq_none (by rw [Array.length_toList, Array.size_map, Array.size_range]; exact hj), List.getElem?_eq_none (by rw [hlen]; exact hj)]
theorem stLit_ok {P : Program} {F : Fr} {o : Oper} {t : TypeId} {len : Nat} {parts : Array (Nat × Operand)} {s : St} {k : St → Tr α} (ho : o.op = .buildSlice t len parts) : WorldOK P F o s (stLit P F.n o t len parts s k) k ⟨true, dstL o⟩ := by
  unfold stLit
  split
  · rename_i te m hsl
    split
    · rename_i e he
      split
      · rename_i hcond
        obtain ⟨rfl, hz, hsm, hsm2⟩ := hcond
        intro Kp a w Γ rcs h Q g he hs
        obtain ⟨it, z0, hit, hz0, hcl⟩ := zeroOK_spec hz
        have hB : ∀ d, o.dst = some d → Off' F d rcs := fun d hd => by rw [dstL_some hd] at he; exact off'_of g he
        have hown0 : (Kd.arr len e).Own Γ (List.replicate len (zv e)) (fun _ => e.zd) HF.emp := by
          refine ⟨List.length_replicate, each_emp fun i hi => ?_⟩
          have hD : List.getD (List.replicate len (zv e)) i e.dft = zv e := by
            rw [List.getD_eq_getElem?_getD, List.getElem?_replicate, if_pos hi]; rfl
          simp only [hD]
          exact zero_own e
        obtain ⟨K', x', z', hK', s', rcs', h', c', hf, o', d', sub', cl, u', hL', hB', hs'⟩ := parts_ok g (od := o.dst) parts.toList (.arr len e) (List.replicate len (zv e)) (fun _ => e.zd) HF.emp s rcs h _ g.sub hown0 (HF.emp_dj _) (by rw [HF.emp_un]; exact fun _ _ e => e) (zero_row hcl) (fun _ _ e => e) hB hs
        unfold rowOf at hs'
        split at hs'
        · rename_i hK
          subst hK
          have hx : List.length x' = len := o'.1
          have hrun := run_lit w (parts := parts.map fun y => (y.1, a.eval y.2)) hsl hit hz0 hsm (by rw [Array.toList_map]; exact hf)
          have hlc : ∀ i, i < len → Lie c' (i * e.size) (e.cells (List.getD x' i e.dft) (z' i)) := by
            intro i hi
            have h1 : Lie c' 0 ((Kd.arr len e).cells x' z') := fun j hj => by rw [← cl]; simp
            have := (lie_flat (s := e.size) (f := fun i => e.cells (List.getD x' i e.dft) (z' i)) (fun i => cells_length e _ _)).1 h1 i hi
            rwa [Nat.zero_add] at this
          refine newRow_ok (xs := x') (zf := z') (cap := len) (c := c') g (h0 := h') (hn := hK') (fun b v e => sub' b v (by rw [HF.un_comm d']; exact e)) d'.symm u'.st u'.nd u'.ck (fun x hx => u'.tm x hx) ?_ (by rw [hx]; exact Nat.le_refl _) ?_ ?_ (fun i hi => hlc i (by rw [← hx]; exact hi)) ?_ hB' hL' hs'
          · simp only [execOp, ho]
            rw [hx]
            simp [hrun]
          · omega
          · rw [← Array.length_toList, cl, cells_length]; exact Nat.le_refl _
          · rw [hx]; exact o'.2
        · exact hs'.elim
      · exact world_bad
    · exact world_bad
  · exact world_bad
end Go.Proofs.YtgojfdimbciaiaaE
