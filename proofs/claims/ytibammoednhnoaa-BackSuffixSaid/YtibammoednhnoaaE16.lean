/- The engine, part 16: new rows. Conditions: none. -/
import Derived.Test.YtibammoednhnoaaE15
set_option linter.unusedVariables false
set_option linter.unusedSimpArgs false
namespace Go.Proofs.YtibammoednhnoaaE
open Kd
variable {α : Type}

def newRowT (n : Lim) (o : Oper) (e : TypeId) (Ke : Kd) (xs : List Ke.T) (s : St) (k : St → Tr α) : Tr α := match o.dst with
 | some d => if n.lo ≤ d ∧ d < n.n then k ⟨(d, .one (.at d [])) :: (fresh s d).tm, (d, ⟨none, .sl true e Ke none, xs⟩) :: del s.ck d⟩ else .bad
 | none => .bad
theorem newRow_ok {P : Program} {F : Fr} {s s0 : St} {a : Act} {w : World} {Γ : HF} {rcs rcs0 : List (Nat × RC)} {h h0 hn : HF} (g : Good F s a w Γ rcs h)
  (hsub : ∀ b v, (h0.un hn) b = some v → h b = some v) (dn : HF.dj h0 hn) (st : Star Γ rcs0 h0) (nd : (rcs0.map (·.1)).Nodup) (hck : s0.ck = rcs0.map fun r => (r.1, r.2.ck)) (htm : ∀ x, x ∈ s0.tm → ∃ v, a.tmps[x.1]? = some v ∧ x.2.is Γ rcs0 v)
  {o : Oper} {e : TypeId} {Ke : Kd} {xs : List Ke.T} {zf : Nat → Ke.Z} {cap : Nat} {k : St → Tr α} {K : α → Prop} {Q : Exit → Act → World → Prop} {c : Array Value}
  (hrun : (execOp a.eval o).run P w = .ok (.value (.slice (some ⟨w.heap.size, 0, none⟩) xs.length cap)) (w.alloc (.cells c e))) (hle : xs.length ≤ cap) (hcap : cap ≤ 9223372036854775807) (hsz : cap * Ke.size ≤ c.size)
  (hl : ∀ i, i < xs.length → Lie c (i * Ke.size) (Ke.cells (xs.getD i Ke.dft) (zf i))) (hy : Each (fun i hi => Ke.Own Γ (xs.getD i Ke.dft) (zf i) hi) xs.length hn)
  (hB : ∀ d, o.dst = some d → Off' F d rcs0) (hsubL : ∀ n r, look rcs0 n = some r → look rcs n = some r) (hs : (newRowT F.n o e Ke xs s0 k).sat K) : o.wp P a w (fun a' w' => ∃ s', R F s' a' w' ∧ (k s').sat K) Q := by
 unfold newRowT at hs
 split at hs
 ·rename_i d hd
  split at hs
  ·rename_i hlt
   have hR := g.alloc (d := d) (c := c) (t := e) (r := ⟨none, .sl true e Ke none, xs, (some (w.heap.size, 0, cap), zf)⟩) (v := .slice (some ⟨w.heap.size, 0, none⟩) xs.length cap) (av := .at d []) (tm := (fresh s0 d).tm) hsub dn st nd hlt.2 hlt.1 (hB d hd) hsubL
    (fun hb e' dj => by
     subst e'
     refine ⟨c, hn, hle, hcap, by rw [Nat.zero_add]; exact hsz, fun i hi => by rw [Nat.zero_add]; exact hl i hi, ?_, ?_⟩
     ·exact Each.congr (fun i hi h' ho => by rw [if_neg (by simp)]; exact ho) hy
     ·simp only [if_true]
      exact ⟨dj, trivial⟩)
    ⟨⟨none, .sl true e Ke none, xs, (some (w.heap.size, 0, cap), zf)⟩, ⟨_, xs, (some (w.heap.size, 0, cap), zf), (0, 0)⟩, by simp [look], by simp only [pl]; rfl, rfl⟩ (Good.fresh (F := F) htm)
   unfold Oper.wp
   rw [hrun, Oper.upon_value, hd]
   rw [← hck] at hR
   exact ⟨_, hR, hs⟩
  ·exact hs.elim
 ·exact hs.elim
theorem each_emp {p : Nat → HF → Prop} : ∀ {n : Nat}, (∀ i, i < n → p i HF.emp) → Each p n HF.emp
 | 0, _ => rfl
 | n + 1, h => ⟨HF.emp, HF.emp, HF.dj_emp _, (HF.un_emp _).symm, each_emp fun i hi => h i (by omega), h n (by omega)⟩

def bytesOf (P : Program) (e : TypeId) : Nat := match P.info? e with
 | some i => i.bytes
 | none => 0
def makeT (P : Program) (n : Lim) (o : Oper) (e : TypeId) (m : Nat) (x y : Int) (s : St) (k : St → Tr α) : Tr α := match kdAt P n o e with
 | some Ke => if m = Ke.size ∧ zeroOK P e Ke = true then
   .need (inb x (y + 1) ∧ y ≤ 9223372036854775807 ∧ (bytesOf P e : Int) * y ≤ 281474976710656) (newRowT n o e Ke (List.replicate x.toNat (zv Ke)) s k) else .bad
 | none => .bad
def stMake (P : Program) (n : Lim) (o : Oper) (t : TypeId) (l c : Operand) (s : St) (k : St → Tr α) : Tr α := match slOf? P t, opo s l, opo s c with
 | some (e, m), some (.val (.int _) x), some (.val (.int _) y) => makeT P n o e m x y s k
 | _, _, _ => .bad
theorem makeT_ok {P : Program} {F : Fr} {o : Oper} {t e : TypeId} {m : Nat} {l c : Operand} {s : St} {k : St → Tr α} (ho : o.op = .makeSlice t l c) (hsl : slOf? P t = some (e, m)) {k1 k2 : IntKind} {x y : Int}
  (K' : α → Prop) (a : Act) (w : World) (Γ : HF) (rcs : List (Nat × RC)) (h : HF) (Q : Exit → Act → World → Prop) (g : Good F s a w Γ rcs h) (hlx : a.eval l = .int k1 x) (hcy : a.eval c = .int k2 y) (hB : ∀ d, o.dst = some d → Off' F d rcs) (hs : (makeT P F.n o e m x y s k).sat K') :
  o.wp P a w (fun a' w' => ∃ s', R F s' a' w' ∧ (k s').sat K') Q := by
 unfold makeT at hs
 split at hs
 ·rename_i Ke hK
  split at hs
  ·rename_i hcond
   obtain ⟨hm, hz⟩ := hcond
   obtain ⟨⟨⟨hx0, hxy⟩, hy63, hby⟩, hs⟩ := hs
   obtain ⟨i, hu, hi, hisz⟩ := slOf_spec hsl
   obtain ⟨i2, v, hi2, hv, hcs⟩ := zeroOK_spec hz
   rw [hi] at hi2
   injection hi2 with hi2
   subst hi2
   have hbb : bytesOf P e = i.bytes := by simp [bytesOf, hi]
   rw [hbb] at hby
   have hsize : v.cells.size = Ke.size := by rw [← Array.length_toList, hcs, cells_length]
   have wx : IntKind.i64.wrap x = x := IntWalk.i64_in x (by omega)
   have wy : IntKind.i64.wrap y = y := IntWalk.i64_in y (by omega)
   have hlen : (List.replicate x.toNat (zv Ke)).length = x.toNat := List.length_replicate
   have hD : ∀ j, j < x.toNat → List.getD (List.replicate x.toNat (zv Ke)) j Ke.dft = zv Ke := fun j hj => by
    rw [List.getD_eq_getElem?_getD, List.getElem?_replicate, if_pos hj]; rfl
   refine newRow_ok g (h0 := h) (hn := HF.emp) (zf := fun _ => Ke.zd) (cap := y.toNat)
    (c := (Array.range (y.toNat * i.size)).map ((if y.toNat * i.size = 0 then #[] else v.cells)[· % (if y.toNat * i.size = 0 then #[] else v.cells).size]!))
    (by rw [HF.un_emp]; exact fun _ _ e => e) (HF.dj_emp h) g.star g.nodup g.ck.symm (fun x hx => g.tm x.1 x.2 hx) ?_ ?_ ?_ ?_ ?_ ?_ hB (fun _ _ e => e) hs
   ·have h1 : ¬ (281474976710656 < (i.bytes : Int) * y) := by omega
    have h2 : ¬ (y < 0) := by omega
    have h3 : ¬ (x < 0) := by omega
    have h4 : ¬ (y < x) := by omega
    by_cases hn0 : y.toNat * i.size = 0
    ·simp [execOp, ho, Instr.makeSlice, run_underlying hu, hlx, hcy, asInt, asIntOf, typeInfo, hi, wx, wy, h1, h2, h3, h4, askRoom, sizeOf, newRow, hn0, hlen]
    ·simp [execOp, ho, Instr.makeSlice, run_underlying hu, hlx, hcy, asInt, asIntOf, typeInfo, hi, wx, wy, h1, h2, h3, h4, askRoom, sizeOf, newRow, hn0, hlen, zeroValue, hv]
   ·rw [hlen]; exact Int.toNat_le_toNat (by omega)
   ·omega
   ·simp [hisz, hm]
   ·intro j hj
    rw [hlen] at hj
    rw [hD j hj]
    intro q hq
    rw [cells_length] at hq
    have hjy : j < y.toNat := Nat.lt_of_lt_of_le hj (Int.toNat_le_toNat (by omega))
    have hlt : j * Ke.size + q < y.toNat * i.size := by
     have := Nat.mul_le_mul_right Ke.size (Nat.succ_le_of_lt hjy)
     rw [Nat.succ_mul] at this
     rw [hisz, hm]
     omega
    have hne : ¬ (y.toNat * i.size = 0) := by omega
    simp only [if_neg hne]
    rw [Array.getElem?_map, Array.getElem?_range, if_pos hlt]
    simp only [Option.map_some, hsize]
    rw [Nat.mul_comm, Nat.mul_add_mod, Nat.mod_eq_of_lt hq]
    rw [← hcs, Array.getElem?_toList, Array.getElem?_eq_getElem (by omega)]
    simp [hsize, hq]
   ·refine each_emp fun j hj => ?_
    rw [hlen] at hj
    rw [hD j hj]
    exact zero_own Ke
  ·exact hs.elim
 ·exact hs.elim
theorem stMake_ok {P : Program} {F : Fr} {o : Oper} {t : TypeId} {l c : Operand} {s : St} {k : St → Tr α} (ho : o.op = .makeSlice t l c) : WorldOK P F o s (stMake P F.n o t l c s k) k ⟨true, dstL o⟩ := by
 unfold stMake
 split
 ·rename_i e m k1 x k2 y hsl hl hc
  intro K' a w Γ rcs h Q g he hs
  exact makeT_ok ho hsl K' a w Γ rcs h Q g (is_int (g.opoIs hl)).1 (is_int (g.opoIs hc)).1 (fun d hd => by rw [dstL_some hd] at he; exact off'_of g he) hs
 ·exact world_bad
end Go.Proofs.YtibammoednhnoaaE

