/- The engine, part 37: a law's call, out of its function's contract. Conditions: none. -/
import Derived.Test.YtibammoednhnoaaE36
import Derived.Below
import Derived.RowKit
import Derived.WideShapes
import Derived.ChangeSlices
import Derived.SizedLaws
set_option linter.unusedVariables false
set_option linter.unusedSimpArgs false
set_option maxRecDepth 4000
namespace Go.Proofs.YtibammoednhnoaaE
open Kd Go.RowKit

def heapR (w : World) : HF := fun b => match w.heap[b]? with
 | some (.cells c t _) => some (.cel c t)
 | some (.map es clk) => some (.mp es clk)
 | _ => none
theorem heapR_mem (w : World) : MemR (heapR w) w := fun b x h => by
 unfold heapR at h
 split at h
 ·rename_i c' t' f e
  injection h with h
  subst h
  exact ⟨f, e⟩
 ·rename_i es clk e
  injection h with h
  subst h
  exact e
 ·cases h
theorem law_calls {P : Program} {f : Nat} {ps : List Par} {impl : AT ps → Option (RT [.val .bool] × OT ps)} (v : Valid P f ⟨ps, [.val .bool], impl⟩) {x : AT ps} {o : OT ps} (h : impl x = some ((true, ()), o)) {args : Array Value} {w : World}
  (hck : entryCk 0 ps x = []) (he : Entry (heapR w) [] 0 ps x args.toList) : Calls P f args w fun e w' => e = .returned (.bool true) ∧ Below w.heap.size w w' := by
 refine (v x _ h w (heapR w) HF.emp [] args he hck.symm rfl (Mem.emp w) (heapR_mem w) (HF.dj_emp _)).mono ?_
 rintro e w' ⟨u, Γ', h', vs, lR, lO, rfl, a⟩
 obtain ⟨q, vs', e1, hi, e2⟩ := a.res
 obtain ⟨rfl, _⟩ := e2
 subst e1
 have hv := a.v
 refine ⟨?_, a.os, a.tape, a.output, a.size, fun k hk => a.keep k hk (by simp [HF.has, HF.emp])⟩
 rw [hv]
 show Ending.returned q = _
 rw [is_bool hi]
theorem rowAt_le {P : Program} {fits : TypeId → Bool} {d : Nat} {e : TypeId} {count off n : Nat} (h : rowAt P fits d e count off n = true) : off ≤ count * P.cellsOf e := by
 cases d with
 | zero => simp [rowAt] at h
 | succ d =>
  simp only [rowAt] at h
  split at h
  ·cases h
  ·rename_i hs
   have hdm := Nat.div_add_mod off (P.cellsOf e)
   have hml := Nat.mod_lt off (Nat.pos_of_ne_zero hs)
   rw [Bool.or_eq_true] at h
   rcases h with h | h
   ·simp only [Bool.and_eq_true, beq_iff_eq, decide_eq_true_eq] at h
    have : off / P.cellsOf e ≤ count := by omega
    calc off = P.cellsOf e * (off / P.cellsOf e) := by omega
     _ ≤ P.cellsOf e * count := Nat.mul_le_mul_left _ this
     _ = count * P.cellsOf e := Nat.mul_comm _ _
   ·rw [Bool.and_eq_true] at h
    have h1 : off / P.cellsOf e < count := by simpa using h.1
    have : P.cellsOf e * (off / P.cellsOf e + 1) ≤ P.cellsOf e * count := Nat.mul_le_mul_left _ h1
    rw [Nat.mul_add, Nat.mul_one] at this
    rw [Nat.mul_comm count]
    omega
theorem liesAt_le {P : Program} : ∀ {d : Nat} {e : TypeId} {count off : Nat} {u : TypeId} {n : Nat}, liesAt P d e count off u n = true → off ≤ count * P.cellsOf e
 | 0, _, _, _, _, _, h => by simp [liesAt] at h
 | d + 1, e, count, off, u, n, h => by
  simp only [liesAt] at h
  rw [Bool.or_eq_true] at h
  rcases h with h | h
  ·exact rowAt_le h
  ·split at h
   ·exact liesAt_le h
   ·cases h
theorem has_block {P : Program} {w : World} {r : Reach} {base : Nat} {t e : TypeId} {x : Addr} {len cap : Nat} (ht : P.underlying t = some (.slice e)) (h : Value.okWide P w r base t (.slice (some x) len cap)) :
  x.spot = none ∧ ∃ c t f, w.heap[x.block]? = some (.cells c t f) ∧ x.off ≤ c.size := by
 simp only [Value.okWide, ht, Cell.okWide, Cell.ok] at h
 obtain ⟨_, _, _, hs, row, cells, hsh, hl⟩ := h
 refine ⟨hs, ?_⟩
 unfold World.shape? at hsh
 split at hsh
 ·rename_i c el f hc
  simp only [Option.some.injEq, Prod.mk.injEq] at hsh
  obtain ⟨rfl, rfl⟩ := hsh
  exact ⟨c, el, f, hc, Nat.le_trans (liesAt_le hl) (Nat.div_mul_le_self _ _)⟩
 ·cases hsh
theorem row_is {w : World} {te : TypeId} {k : IntKind} {a : Option Addr} {len cap : Nat} {zs : List Int}
  (h : (a = none ∧ len = 0 ∧ cap = 0 ∧ zs = []) ∨ ∃ x, a = some x ∧ len ≤ cap ∧ cap ≤ maxLen ∧ zs.length = cap ∧ (∀ i, i < zs.length → w.cell? (x.add i) = some (.int k (zs.getD i 0))) ∧ ∀ n ∈ zs, (Lit.int k n).wf = true)
  (hp : ∀ x, a = some x → x.spot = none ∧ ∃ c t f, w.heap[x.block]? = some (.cells c t f) ∧ x.off ≤ c.size) :
  (SV.val (.sl false te (.int k) none) (zs.take len)).is (heapR w) [] (.slice a len cap) := by
 rcases h with ⟨rfl, rfl, rfl, rfl⟩ | ⟨x, rfl, hl, hm, hz, hc, hw⟩
 ·exact ⟨rfl, (none, fun _ => ()), ⟨rfl, rfl⟩, rfl⟩
 ·obtain ⟨hs, c, t, f, hb, ho⟩ := hp x rfl
  obtain ⟨b, off, spot⟩ := x
  simp only at hs hb ho
  subst hs
  have hlen : (zs.take len).length = len := by simp; omega
  have hcell : ∀ i, i < zs.length → c[off + i]? = some (.int k (zs.getD i 0)) := fun i hi => by
   have := hc i hi
   rw [Addr.add_mid] at this
   unfold World.cell? at this
   simp only [hb] at this
   simpa using this
  have hsz : off + cap ≤ c.size := by
   by_cases h0 : cap = 0
   ·omega
   ·have := hcell (cap - 1) (by omega)
    have h2 := (Array.getElem?_eq_some_iff.1 this).1
    omega
  have hget : ∀ i, i < len → (zs.take len).getD i 0 = zs.getD i 0 := fun i hi => by
   simp only [List.getD_eq_getElem?_getD, List.getElem?_take, hi, if_true]
  refine ⟨rfl, (some (b, off, cap), fun _ => ()), ⟨c, HF.emp, by rw [hlen]; exact hl, ?_, ?_, ?_, ?_, ?_⟩, ?_⟩
  ·have : maxLen ≤ 9223372036854775807 := by decide
   omega
  ·simp only [Kd.size]
   omega
  ·intro i hi
   rw [hlen] at hi
   intro j hj
   simp only [Kd.cells, List.length_singleton] at hj
   obtain rfl : j = 0 := by omega
   simp only [Kd.size, Nat.mul_one, Nat.add_zero]
   rw [hcell i (by omega)]
   show some (Value.int k (zs.getD i 0)) = some (Value.int k ((zs.take len).getD i 0))
   rw [hget i hi]
  ·refine each_emp fun i hi => ?_
   rw [hlen] at hi
   rw [if_neg (by simp)]
   have hmem : zs.getD i 0 ∈ zs := by
    rw [List.getD_eq_getElem?_getD, List.getElem?_eq_getElem (by omega : i < zs.length)]
    exact List.getElem_mem _
   have := hw _ hmem
   simp only [Lit.wf, Bool.and_eq_true, decide_eq_true_eq] at this
   refine ⟨rfl, ?_⟩
   show k.min ≤ (zs.take len).getD i 0 ∧ (zs.take len).getD i 0 ≤ k.max
   rw [hget i hi]
   exact this
  ·simp only [Bool.false_eq_true, if_false]
   refine ⟨⟨t, ?_⟩, trivial⟩
   unfold heapR
   rw [hb]
  ·simp only [toV, single, if_true, Kd.cells, List.getD_cons_zero, hdr, hlen]
def IsRow (k : IntKind) (w : World) (a : Option Addr) (len cap : Nat) (zs : List Int) : Prop :=
 (a = none ∧ len = 0 ∧ cap = 0 ∧ zs = []) ∨ ∃ x, a = some x ∧ len ≤ cap ∧ cap ≤ maxLen ∧ zs.length = cap ∧ (∀ i, i < zs.length → w.cell? (x.add i) = some (.int k (zs.getD i 0))) ∧ ∀ n ∈ zs, (Lit.int k n).wf = true
theorem intIn {k : IntKind} {n : Int} (h : (Lit.int k n).wf = true) : k.min ≤ n ∧ n ≤ k.max := by
 simpa only [Lit.wf, Bool.and_eq_true, decide_eq_true_eq] using h
theorem int_in {Γ : HF} {k : IntKind} {n : Int} (h : (Lit.int k n).wf = true) : (SV.val (.int k) n).is Γ [] (.int k n) := ⟨rfl, (), ⟨rfl, intIn h⟩, rfl⟩
theorem rowLen {k : IntKind} {w : World} {a : Option Addr} {len cap B : Nat} {zs : List Int} (h : IsRow k w a len cap zs) (y : len * B ≤ 140737488351232) : (zs.take len).length * B ≤ 140737488351232 :=
 Nat.le_trans (Nat.mul_le_mul_right _ (by simp; omega)) y
theorem rowIn {k : IntKind} {w : World} {a : Option Addr} {len cap : Nat} {zs : List Int} (h : IsRow k w a len cap zs) : ∀ x ∈ zs.take len, k.min ≤ x ∧ x ≤ k.max := fun x hx => by
 rcases h with ⟨_, _, _, rfl⟩ | ⟨_, _, _, _, _, _, hw⟩
 ·simp at hx
 ·exact intIn (hw x (List.mem_of_mem_take hx))
section
open Go.ChangeShapes Go.WideShapes
variable {H : Type} {enc : TypeId × Value → H} {P : Program} {W : World} {base : Nat} {t e : TypeId} {k : IntKind} {a : Option Addr} {len cap : Nat} {d : DataW H} {ps : List MemPlace}
theorem row_of (hu : P.underlying t = some (.slice e)) (he : P.underlying e = some (.int k)) (hc : P.cellsOf e = 1) (h : DataW.Trod enc P W base (fun _ => true) true t (.slice a len cap) d ps) : ∃ zs, IsRow k W a len cap zs := by
 obtain ⟨fuel, hf⟩ := h
 rcases open_ints hu he hc hf with ⟨hcs, _⟩ | ⟨x, l, c, zs, hcs, _, hl, hm, hz, _, hcell, hwz⟩
 ·simp [Value.cells] at hcs
  obtain ⟨rfl, rfl, rfl⟩ := hcs
  exact ⟨[], .inl ⟨rfl, rfl, rfl, rfl⟩⟩
 ·simp [Value.cells] at hcs
  obtain ⟨rfl, rfl, rfl⟩ := hcs
  exact ⟨zs, .inr ⟨_, rfl, hl, hm, by simpa using hz, hcell, hwz⟩⟩
theorem row_sized {ts : List TypeId} {ds : List (DataW H)} {j B : Nat} (hsz : (DataW.weightsEach P ts ds).all (· ≤ reachBytes) = true) (ht : ts[j]? = some t) (hd : ds[j]? = some d) (hu : P.underlying t = some (.slice e)) (he : P.underlying e = some (.int k))
  (hc : P.cellsOf e = 1) (hB : P.bytesOf e = B) (h : DataW.Trod enc P W base (fun _ => true) true t (.slice a len cap) d ps) : len * B ≤ 140737488351232 := by
 subst hB
 obtain ⟨fuel, hf⟩ := h
 rcases open_ints hu he hc hf with ⟨hcs, _⟩ | ⟨x, l, c, zs, hcs, _, hl, _, hz, hx, _, _⟩
 ·simp only [Value.cells, Array.toList, List.cons.injEq, Value.slice.injEq, and_true] at hcs
  rw [hcs.2.1]
  omega
 ·simp only [Value.cells, Array.toList, List.cons.injEq, Value.slice.injEq, and_true] at hcs
  obtain ⟨rfl, rfl, rfl⟩ := hcs
  injection hx with hx _
  subst hx
  have z := sized_slice hsz ht hd hu
  refine Nat.le_trans (Nat.mul_le_mul_right _ ?_) z
  simp only [if_true] at hz
  simp only [lits, List.length_map, List.length_take, List.length_drop, hz]
  omega
end
abbrev Kd2 : Kd := .pair (.int .i64) (.pair (.int .i64) .unit)
abbrev Raw2 : Type := Tree (Int × (Int × Unit))
abbrev LOwn2 (Γ : HF) (l : List Raw2) (z : Option (Addr × Nat)) : Prop := LOwn (fun a y => Kd.Own Γ Kd2 a y HF.emp) Kd2.cells 3 (.mk ((0 : Int), ((0 : Int), ())) []) Γ l z
def IsTl (w : World) (a : Option Addr) (len cap : Nat) (l : List Raw2) : Prop := ∃ z, LOwn2 (heapR w) l z ∧ Value.slice a len cap = hdrT z l.length
theorem tl_is {w : World} {te : TypeId} {a : Option Addr} {len cap : Nat} {l : List Raw2} (h : IsTl w a len cap l) : (SV.val (.tl te Kd2) l).is (heapR w) [] (.slice a len cap) := by
 obtain ⟨z, h1, h2⟩ := h
 exact ⟨rfl, z, ⟨rfl, h1⟩, h2⟩
section
open Go.ChangeShapes Go.WideShapes
variable {H : Type} {enc : TypeId × Value → H} {P : Program} {W : World} {base : Nat}
theorem pick_lt {α : Type} [Inhabited α] {n : Nat} {p : Nat → α → Prop} (h : ∀ i, i < n → ∃ x, p i x) : ∃ f : Nat → α, ∀ i, i < n → p i (f i) :=
 ⟨fun i => if hi : i < n then (h i hi).choose else default, fun i hi => by
  simp only [dif_pos hi]
  exact (h i hi).choose_spec⟩
theorem two_wf {n : Int} (h : (Lit.int .i64 n).wf = true) : IntKind.min .i64 ≤ n ∧ n ≤ IntKind.max .i64 := by
 simpa only [Lit.wf, Bool.and_eq_true, decide_eq_true_eq] using h
theorem tl_lie {te : TypeId} {f0 f1 f2 : Field} (he : P.underlying te = some (.struct #[f0, f1, f2])) (h0 : P.underlying f0.type = some (.int .i64)) (h1 : P.underlying f1.type = some (.int .i64)) (h2 : P.underlying f2.type = some (.slice te))
  (hc : P.cellsOf te = 3) (c0 : P.cellsOf f0.type = 1) (c1 : P.cellsOf f1.type = 1) (c2 : P.cellsOf f2.type = 1) (o0 : f0.offset = 0) (o1 : f1.offset = 1) (o2 : f2.offset = 2) :
  ∀ (m fuel : Nat) (t : TypeId) (v : Value) (x : DataW H × List MemPlace), fuel ≤ m → P.underlying t = some (.slice te) → DataW.trod enc P W base (fun _ => true) true fuel t [v] = some x → ∃ l z, LOwn2 (heapR W) l z ∧ v = hdrT z l.length
 | 0, fuel, t, v, x, hf, ht, h => by
  obtain rfl : fuel = 0 := by omega
  cases h
 | m + 1, fuel, t, v, x, hf, ht, h => by
  rcases DataW.trod_slice ht h with ⟨hcs, _⟩ | ⟨A, len, cap, elems, rest, n, rfl, hcs, _, hb, hl, hm, hlen, hel, hsp, _⟩
  ·injection hcs with hcs _
   subst hcs
   exact ⟨[], none, rfl, rfl⟩
  ·injection hcs with hcs _
   subst hcs
   obtain ⟨hrl, hr⟩ := hsp rfl
   by_cases hcap : cap = 0
   ·obtain rfl : len = 0 := by omega
    subst hcap
    exact ⟨[], some (A, 0), .inl ⟨rfl, rfl⟩, rfl⟩
   ·have cell : ∀ i, i < cap → ∃ cs', W.cells? base (A.add (i * 3)) 3 = some cs' := fun i hi => by
     by_cases hil : i < len
     ·have e := hel i hil
      rw [List.getElem?_eq_getElem (by omega), hc] at e
      obtain ⟨cs', e1, _⟩ := Option.bind_eq_some_iff.1 e
      exact ⟨cs', e1⟩
     ·have e := hr (i - len) (by omega)
      rw [List.getElem?_eq_getElem (by omega), show len + (i - len) = i by omega, hc] at e
      obtain ⟨cs', e1, _⟩ := Option.bind_eq_some_iff.1 e
      exact ⟨cs', e1⟩
    obtain ⟨b, off, spot⟩ := A
    have blk : spot = none ∧ ∃ c t f, W.heap[b]? = some (.cells c t f) := by
     obtain ⟨cs', e⟩ := cell 0 (by omega)
     obtain ⟨_, q1, q2⟩ := World.cells?_some e
     have q3 := q2 0 (by omega)
     rw [List.getElem?_eq_getElem (by omega)] at q3
     simp only [Nat.zero_mul, Addr.add, if_true] at q3
     unfold World.cell? at q3
     split at q3
     ·rename_i c t f hh
      refine ⟨?_, c, t, f, hh⟩
      cases spot with
      | none => rfl
      | some s => simp at q3
     ·cases q3
    obtain ⟨rfl, c, t', f, hh⟩ := blk
    have rd : ∀ i cs', W.cells? base ((⟨b, off, none⟩ : Addr).add (i * 3)) 3 = some cs' → cs'.length = 3 ∧ ∀ j, j < 3 → c[off + i * 3 + j]? = cs'[j]? := fun i cs' e => by
     obtain ⟨_, q1, q2⟩ := World.cells?_some e
     refine ⟨q1, fun j hj => ?_⟩
     have q3 := q2 j hj
     rw [Addr.add_mid, Addr.add_mid] at q3
     unfold World.cell? at q3
     simp only [hh] at q3
     simpa using q3
    have hsz : off + cap * 3 ≤ c.size := by
     obtain ⟨cs', e⟩ := cell (cap - 1) (by omega)
     obtain ⟨q1, q2⟩ := rd _ _ e
     have q3 := q2 2 (by omega)
     rw [List.getElem?_eq_getElem (by omega : 2 < cs'.length)] at q3
     have := (Array.getElem?_eq_some_iff.1 q3).1
     omega
    have one : ∀ i, i < len → ∃ u : (Int × Int) × (List Raw2 × Option (Addr × Nat)), (IntKind.min .i64 ≤ u.1.1 ∧ u.1.1 ≤ IntKind.max .i64) ∧ (IntKind.min .i64 ≤ u.1.2 ∧ u.1.2 ≤ IntKind.max .i64) ∧ LOwn2 (heapR W) u.2.1 u.2.2 ∧ Lie c (off + i * 3) [.int .i64 u.1.1, .int .i64 u.1.2, hdrT u.2.2 u.2.1.length] := fun i hi => by
     have e := hel i hi
     rw [List.getElem?_eq_getElem (by omega), hc] at e
     obtain ⟨cs', e1, e2⟩ := Option.bind_eq_some_iff.1 e
     obtain ⟨q1, q2⟩ := rd _ _ e1
     obtain ⟨xs, n', rfl, _, _, hxl, hfs⟩ := DataW.trod_struct he e2
     have hxl' : xs.length = 3 := hxl
     match cs', q1, q2, hfs with
     | [v0, v1, v2], _, q2, hfs =>
      have g0 := hfs 0 f0 rfl
      have g1 := hfs 1 f1 rfl
      have g2 := hfs 2 f2 rfl
      rw [List.getElem?_eq_getElem (by omega), o0, c0] at g0
      rw [List.getElem?_eq_getElem (by omega), o1, c1] at g1
      rw [List.getElem?_eq_getElem (by omega), o2, c2] at g2
      obtain ⟨n0, r0, _, w0⟩ := DataW.trod_int h0 g0
      obtain ⟨n1, r1, _, w1⟩ := DataW.trod_int h1 g1
      obtain ⟨l, z, s1, s2⟩ := tl_lie he h0 h1 h2 hc c0 c1 c2 o0 o1 o2 m n' f2.type v2 _ (by omega) h2 g2
      have r0' : [v0] = [Value.int .i64 n0] := r0
      have r1' : [v1] = [Value.int .i64 n1] := r1
      injection r0' with r0' _
      injection r1' with r1' _
      subst r0'
      subst r1'
      subst s2
      exact ⟨((n0, n1), (l, z)), two_wf w0, two_wf w1, s1, fun j hj => q2 j hj⟩
    obtain ⟨u, hu⟩ := pick_lt one
    have hmax : maxLen ≤ 9223372036854775807 := by decide
    have hget : ∀ i, i < len → List.getD ((List.range len).map fun i => (Tree.mk ((u i).1.1, ((u i).1.2, ())) (u i).2.1 : Raw2)) i (.mk ((0 : Int), ((0 : Int), ())) []) = Tree.mk ((u i).1.1, ((u i).1.2, ())) (u i).2.1 := fun i hi => by
     simp [List.getD_eq_getElem?_getD, hi]
    refine ⟨(List.range len).map fun i => Tree.mk ((u i).1.1, ((u i).1.2, ())) (u i).2.1, some (⟨b, off, none⟩, cap), .inr ⟨rfl, c, t', fun _ => ((), ((), ())), fun i => (u i).2.2, ?_, by omega, hsz, ?_, fun i hi => ?_, fun i hi => ?_⟩, ?_⟩
    ·simp only [List.length_map, List.length_range]
     exact hl
    ·unfold heapR
     simp only [hh]
    ·simp only [List.length_map, List.length_range] at hi
     rw [hget i hi]
     exact (hu i hi).2.2.2
    ·simp only [List.length_map, List.length_range] at hi
     rw [hget i hi]
     obtain ⟨k1, k2, k3, _⟩ := hu i hi
     exact LOwn.tree ⟨HF.emp, HF.emp, HF.dj_emp _, (HF.un_emp _).symm, ⟨rfl, k1⟩, ⟨HF.emp, HF.emp, HF.dj_emp _, (HF.un_emp _).symm, ⟨rfl, k2⟩, rfl⟩⟩ k3
    ·simp only [List.length_map, List.length_range]
     rfl
theorem tl_of {te t : TypeId} {f0 f1 f2 : Field} (ht : P.underlying t = some (.slice te)) (he : P.underlying te = some (.struct #[f0, f1, f2])) (h0 : P.underlying f0.type = some (.int .i64)) (h1 : P.underlying f1.type = some (.int .i64)) (h2 : P.underlying f2.type = some (.slice te))
  (hc : P.cellsOf te = 3) (c0 : P.cellsOf f0.type = 1) (c1 : P.cellsOf f1.type = 1) (c2 : P.cellsOf f2.type = 1) (o0 : f0.offset = 0) (o1 : f1.offset = 1) (o2 : f2.offset = 2) {a : Option Addr} {len cap : Nat} {d : DataW H} {ps : List MemPlace}
  (h : DataW.Trod enc P W base (fun _ => true) true t (.slice a len cap) d ps) : ∃ l, IsTl W a len cap l := by
 obtain ⟨fuel, hf⟩ := h
 obtain ⟨l, z, e1, e2⟩ := tl_lie he h0 h1 h2 hc c0 c1 c2 o0 o1 o2 fuel fuel t _ _ (Nat.le_refl _) ht hf
 exact ⟨l, z, e1, e2⟩
end
end Go.Proofs.YtibammoednhnoaaE

