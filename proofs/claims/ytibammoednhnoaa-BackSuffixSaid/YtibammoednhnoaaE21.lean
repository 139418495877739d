/- The engine, part 21: parts of values. Conditions: none. -/
import Derived.Test.YtibammoednhnoaaE20
set_option linter.unusedVariables false
set_option linter.unusedSimpArgs false
namespace Go.Proofs.YtibammoednhnoaaE
open Kd
variable {α : Type}

def byteAt (b : ByteArray) (i : Int) : Int := ((b[i.toNat]?).map fun u => (u.toNat : Int)).getD 0
def stIdx (P : Program) (n : Lim) (o : Oper) (t : TypeId) (x i : Operand) (s : St) (k : St → Tr α) : Tr α := match opo s x, opo s i with
 | some (.val .str b), some (.val (.int _) j) => if strT P t then .need (inb j b.size) (set n s o (.one (.val (.int .u8) (byteAt b j))) k) else .bad
 | _, _ => .bad
theorem byteAt_range (b : ByteArray) (i : Int) : IntKind.u8.min ≤ byteAt b i ∧ byteAt b i ≤ IntKind.u8.max := by
 have h1 : IntKind.u8.min = 0 := by decide
 have h2 : IntKind.u8.max = 255 := by decide
 rw [h1, h2]
 unfold byteAt
 cases b[i.toNat]? with
 | none => simp
 | some u =>
  have := u.toNat_lt
  simp
  omega
theorem stIdx_ok {P : Program} {F : Fr} {o : Oper} {t : TypeId} {x i : Operand} {s : St} {k : St → Tr α} (ho : o.op = .index t x i) : PureOK P F o s (stIdx P F.n o t x i s k) k := by
 unfold stIdx
 split
 ·rename_i b kj j hx hi
  split
  ·rename_i ht
   have hu : P.underlying t = some .string := by
    unfold strT at ht
    split at ht <;> first | assumption | cases ht
   refine pure_need fun ⟨h0, h1⟩ => pure_set fun aa w Γ rcs h g => ?_
   have e1 := (is_str (g.opoIs hx)).1
   have e2 := (is_int (g.opoIs hi)).1
   have h0' : @LE.le Int _ 0 j := h0
   have h1' : @LT.lt Int _ j b.size := h1
   have hlt : Int.toNat j < b.size := by
    have := Int.toNat_of_nonneg h0'
    exact Int.ofNat_lt.1 (by rw [this]; exact h1')
   refine ⟨_, fun w' => ?_, int_is (rcs := rcs) (byteAt_range b (show Int from j).toNat)⟩
   have hget : b[Int.toNat j]? = some (b[Int.toNat j]'hlt) := by simp [hlt]
   have hb : byteAt b j = ((b[Int.toNat j]'hlt).toNat : Int) := by
    unfold byteAt
    rw [hget]
    rfl
   rw [hb]
   simp [execOp, ho, e1, e2, Instr.index, asIntOf, run_underlying hu, h0', hget]
  ·exact pure_bad
 ·exact pure_bad

def optI (s : St) (d : Int) : Option Operand → Option Int
 | none => some d
 | some x => match opo s x with
  | some (.val (.int _) j) => some j
  | _ => none
theorem run_bounds {P : Program} {F : Fr} {s : St} {a : Act} {w : World} {Γ : HF} {rcs : List (Nat × RC)} {h : HF} (g : Good F s a w Γ rcs h) {lo hi : Option Operand} {l u : Int} {len cap : Nat} (hl : optI s 0 lo = some l) (hu : optI s len hi = some u)
  (h0 : 0 ≤ l) (h1 : l ≤ u) (h2 : u ≤ len) (h3 : len ≤ cap) (isS : Bool) (w' : World) : (Instr.sliceBounds isS len cap (lo.map a.eval) (hi.map a.eval) none).run P w' = .ok (l.toNat, u.toNat, cap) w' := by
 have val : ∀ {x : Operand} {j d : Int}, optI s d (some x) = some j → ∃ k, a.eval x = .int k j := by
  intro x j d hx
  simp only [optI] at hx
  split at hx
  ·rename_i k j' hv
   injection hx with hx
   subst hx
   exact ⟨k, (is_int (g.opoIs hv)).1⟩
  ·cases hx
 have h5 : u ≤ (cap : Int) := by omega
 have h6 : 0 ≤ u := by omega
 have h7 : l ≤ (u.toNat : Int) := by omega
 cases hi with
 | none =>
  simp only [optI, Option.some.injEq] at hu
  subst hu
  cases lo with
  | none =>
   simp only [optI, Option.some.injEq] at hl
   subst hl
   simp [Instr.sliceBounds]
  | some x =>
   obtain ⟨k, e⟩ := val hl
   simp [Instr.sliceBounds, Instr.sliceBound, e, asIntOf, h0, h1]
 | some y =>
  obtain ⟨k2, e2⟩ := val hu
  cases lo with
  | none =>
   simp only [optI, Option.some.injEq] at hl
   subst hl
   simp [Instr.sliceBounds, Instr.sliceBound, e2, asIntOf, h6, h5]
  | some x =>
   obtain ⟨k, e⟩ := val hl
   have h8 : ¬ (max u 0 < l) := by omega
   simp [Instr.sliceBounds, Instr.sliceBound, e, e2, asIntOf, h0, h6, h5, h8]

theorem run_sl {P : Program} {t e : TypeId} {m len cap l u : Nat} {A : Option Addr} {lo hi : Option Value} (hsl : slOf? P t = some (e, m)) (w : World) (hb : (Instr.sliceBounds true len cap lo hi none).run P w = .ok (l, u, cap) w) :
  (Instr.sliceAt t (.slice A len cap) lo hi none).run P w = .ok (.slice (if cap = l then A else A.map (·.add (l * m))) (u - l) (cap - l)) w := by
 obtain ⟨i, hu, hi', hisz⟩ := slOf_spec hsl
 simp [Instr.sliceAt, Instr.slice, run_underlying hu, hb, sizeOf, typeInfo, hi', hisz]
theorem run_slStr {P : Program} {t : TypeId} {b : ByteArray} {l u : Nat} {lo hi : Option Value} (hu : P.underlying t = some .string) (w : World) (hb : (Instr.sliceBounds false b.size b.size lo hi none).run P w = .ok (l, u, b.size) w) :
  (Instr.sliceAt t (.string b) lo hi none).run P w = .ok (.string (b.extract l u)) w := by
 simp [Instr.sliceAt, Instr.slice, run_underlying hu, hb]

abbrev win (l u n : Int) : Prop := 0 ≤ l ∧ l ≤ u ∧ u ≤ n
def stSlice (P : Program) (n : Lim) (o : Oper) (t : TypeId) (x : Operand) (lo hi : Option Operand) (s : St) (k : St → Tr α) : Tr α := match opo s x with
 | some (.val .str b) => match optI s 0 lo, optI s (ByteArray.size b) hi with
  | some l, some u => if strT P t then .need (win l u (ByteArray.size b)) (set n s o (.one (.val .str (ByteArray.extract b l.toNat u.toNat))) k) else .bad
  | _, _ => .bad
 | some .nilS => match optI s 0 lo, optI s 0 hi, slOf? P t with
  | some l, some u, some _ => .need (win l u 0) (set n s o (.one .nilS) k)
  | _, _, _ => .bad
 | some (.val (.sl false t' e none) xs) => match optI s 0 lo, optI s (List.length xs) hi, slOf? P t with
  | some l, some u, some (_, m) => if m = e.size then .need (win l u (List.length xs)) (set n s o (.one (.val (.sl false t' e none) ((List.drop l.toNat xs).take (u.toNat - l.toNat)))) k) else .bad
  | _, _, _ => .bad
 | some (.at id p) => match look s.ck id with
  | some c => match getP c.K c.x p with
   | some ⟨.sl true t' e hole, xs⟩ => match optI s 0 lo, optI s (List.length xs) hi, slOf? P t with
    | some l, some u, some (_, m) => if m = e.size then .need (win l u (List.length xs)) (set n s o (.one (.slc id p l.toNat (u.toNat - l.toNat))) k) else .bad
    | _, _, _ => .bad
   | _ => .bad
  | none => .bad
 | some (.slc id p off len) => match look s.ck id with
  | some c => match sub c.K p with
   | some (.sl true t' e hole) => match optI s 0 lo, optI s len hi, slOf? P t with
    | some l, some u, some (_, m) => if m = e.size then .need (win l u len) (set n s o (.one (.slc id p (off + l.toNat) (u.toNat - l.toNat))) k) else .bad
    | _, _, _ => .bad
   | _ => .bad
  | none => .bad
 | _ => .bad

theorem win_own {Γ : HF} {t : TypeId} {e : Kd} {xs : List e.T} {b off cap l n : Nat} {zf : Nat → e.Z} (hf : e.free = true) (ho : (Kd.sl false t e none).Own Γ xs (some (b, off, cap), zf) HF.emp) (hl : l + n ≤ xs.length) :
  (Kd.sl false t e none).Own Γ ((xs.drop l).take n) (some (b, if cap = l then off else off + l * e.size, cap - l), fun i => zf (l + i)) HF.emp := by
 obtain ⟨c, h2, h1, h3, h4, hls, he, hd⟩ := ho
 simp only [Bool.false_eq_true, if_false] at hd
 have hlen : ((xs.drop l).take n).length = n := by rw [List.length_take, List.length_drop]; omega
 have hof : ∀ i, i < n → (if cap = l then off else off + l * e.size) + i * e.size = off + (l + i) * e.size := by
  intro i hi
  rw [if_neg (by omega), Nat.add_mul, Nat.add_assoc]
 have hcl : l ≤ cap := by omega
 refine ⟨c, HF.emp, by rw [hlen]; omega, by omega, ?_, ?_, ?_, ?_⟩
 ·split
  ·rename_i hc
   subst hc
   simp only [Nat.sub_self, Nat.zero_mul, Nat.add_zero]
   have := Nat.le_add_right off (cap * e.size)
   omega
  ·have h5 : l * e.size + (cap - l) * e.size = cap * e.size := by rw [← Nat.add_mul]; congr 1; omega
   omega
 ·intro i hi
  rw [hlen] at hi
  rw [hof i hi, getD_window hi]
  exact hls (l + i) (by omega)
 ·rw [hlen]
  refine each_emp fun i hi => ?_
  rw [if_neg (by simp)]
  rw [getD_window hi]
  exact each_free hf rfl he (l + i) (by omega)
 ·simp only [Bool.false_eq_true, if_false]
  exact ⟨hd.1, trivial⟩
theorem hdr_win {b off cap l n : Nat} {sz : Nat} : hdr (some (b, if cap = l then off else off + l * sz, cap - l)) n = .slice (if cap = l then some ⟨b, off, none⟩ else (some (⟨b, off, none⟩ : Addr)).map (·.add (l * sz))) n (cap - l) := by
 by_cases h : cap = l
 ·simp [hdr, h]
 ·simp [hdr, h, Addr.add_mid]

theorem stSlice_ok {P : Program} {F : Fr} {o : Oper} {t : TypeId} {x : Operand} {lo hi : Option Operand} {s : St} {k : St → Tr α} (ho : o.op = .slice t x lo hi none) : PureOK P F o s (stSlice P F.n o t x lo hi s k) k := by
 have hrun : ∀ (aa : Act) (v : Value) (w' : World), (Instr.sliceAt t (aa.eval x) (lo.map aa.eval) (hi.map aa.eval) none).run P w' = .ok v w' → (execOp aa.eval o).run P w' = .ok (.value v) w' := by
  intro aa v w' h
  simp [execOp, ho, h]
 unfold stSlice
 split
 ·rename_i b hx
  split
  ·rename_i l u hl hu
   split
   ·rename_i ht
    have hut : P.underlying t = some .string := by
     unfold strT at ht
     split at ht <;> first | assumption | cases ht
    refine pure_need fun ⟨h0, h1, h2⟩ => pure_set fun aa w Γ rcs h g => ?_
    obtain ⟨e1, hs⟩ := is_str (g.opoIs hx)
    refine ⟨_, fun w' => hrun aa _ w' ?_, str_is (rcs := rcs) ?_⟩
    ·rw [e1]
     exact run_slStr hut w' (run_bounds g hl hu h0 h1 h2 (Nat.le_refl _) false w')
    ·rw [ByteArray.size_extract]; omega
   ·exact pure_bad
  ·exact pure_bad
 ·rename_i hx
  split
  ·rename_i l u q hl hu hsl
   refine pure_need fun ⟨h0, h1, h2⟩ => pure_set fun aa w Γ rcs h g => ?_
   have e1 : aa.eval x = .slice none 0 0 := g.opoIs hx
   obtain ⟨te, m⟩ := q
   refine ⟨.slice none 0 0, fun w' => hrun aa _ w' ?_, rfl⟩
   rw [e1, run_sl hsl w' (run_bounds (len := 0) (cap := 0) g hl hu h0 h1 h2 (Nat.le_refl _) true w')]
   have : l.toNat = 0 ∧ u.toNat = 0 := by omega
   simp [this.1, this.2]
  ·exact pure_bad
 ·rename_i t' e xs hx
  split
  ·rename_i l u te m hl hu hsl
   split
   ·rename_i hm
    subst hm
    refine pure_need fun ⟨h0, h1, h2⟩ => pure_set fun aa w Γ rcs h g => ?_
    obtain ⟨hf, zz, how, hv⟩ := g.opoIs hx
    have hfe : e.free = true := by simpa [free] using hf
    obtain ⟨zo, zf⟩ := zz
    cases zo with
    | none =>
     have hx0 : xs = [] := how.1
     subst hx0
     have e1 : aa.eval x = .slice none 0 0 := hv
     refine ⟨.slice none 0 0, fun w' => hrun aa _ w' ?_, hf, (none, zf), ⟨by simp, rfl⟩, by simp [toV, single, Kd.cells, hdr]⟩
     rw [e1, run_sl hsl w' (run_bounds (len := 0) (cap := 0) g hl hu h0 h1 h2 (Nat.le_refl _) true w')]
     simp only [List.length_nil] at h2
     have : l.toNat = 0 ∧ u.toNat = 0 := by omega
     simp [this.1, this.2]
    | some q =>
     obtain ⟨b, off, cap⟩ := q
     have hcap : List.length xs ≤ cap := by obtain ⟨_, _, q, _⟩ := how; exact q
     have e1 : aa.eval x = .slice (some ⟨b, off, none⟩) (List.length xs) cap := hv
     have hlen : ((List.drop l.toNat xs).take (u.toNat - l.toNat)).length = u.toNat - l.toNat := by rw [List.length_take, List.length_drop]; omega
     refine ⟨_, fun w' => hrun aa _ w' (by rw [e1]; exact run_sl hsl w' (run_bounds (len := List.length xs) (cap := cap) g hl hu h0 h1 h2 hcap true w')), hf, _, win_own (l := l.toNat) (n := u.toNat - l.toNat) hfe how (by omega), ?_⟩
     simp only [toV, single, if_true, Kd.cells, List.getD_cons_zero, hlen]
     exact hdr_win.symm
   ·exact pure_bad
  ·exact pure_bad
 ·rename_i id p hx
  split
  ·rename_i c hc
   split
   ·rename_i t' e hole xs hg
    split
    ·rename_i l u te m hl hu hsl
     split
     ·rename_i hm
      subst hm
      refine pure_need fun ⟨h0, h1, h2⟩ => pure_set fun aa w Γ rcs h g => ?_
      obtain ⟨r, q, hr, hp, hv⟩ := g.opoIs hx
      obtain rfl := g.same hc hr
      have hget := pl_get p _ _ _ _ hp
      simp only [RC.ck] at hg
      rw [hget] at hg
      injection hg with hg
      obtain ⟨hq, _, how⟩ := g.ownAt hr hp
      obtain ⟨qK, qx, qz, qa⟩ := q
      simp only [Sigma.mk.injEq] at hg
      obtain ⟨rfl, hg⟩ := hg
      obtain rfl := eq_of_heq hg
      obtain ⟨zo, zf⟩ := qz
      cases zo with
      | none =>
       have hx0 : qx = [] := how.1
       subst hx0
       have e1 : aa.eval x = .slice none 0 0 := hv
       simp only [List.length_nil] at h2
       have hlu : l.toNat = 0 ∧ u.toNat = 0 := by omega
       refine ⟨.slice none 0 0, fun w' => hrun aa _ w' ?_, r, t', e, hole, [], (none, zf), qa, hr, hp, by simp [hlu.1, hlu.2], .inl ⟨by omega, .inl rfl⟩⟩
       rw [e1, run_sl hsl w' (run_bounds (len := 0) (cap := 0) g hl hu h0 h1 h2 (Nat.le_refl _) true w')]
       simp [hlu.1, hlu.2]
      | some q =>
       obtain ⟨b, off, cap⟩ := q
       have hcap : List.length qx ≤ cap := by obtain ⟨_, _, q, _⟩ := how; exact q
       have e1 : aa.eval x = .slice (some ⟨b, off, none⟩) (List.length qx) cap := hv
       refine ⟨_, fun w' => hrun aa _ w' (by rw [e1]; exact run_sl hsl w' (run_bounds (len := List.length qx) (cap := cap) g hl hu h0 h1 h2 hcap true w')), r, t', e, hole, qx, (some (b, off, cap), zf), qa, hr, hp, by omega, ?_⟩
       by_cases hn0 : u.toNat - l.toNat = 0
       ·refine .inl ⟨hn0, .inr ⟨b, off, cap, if cap = l.toNat then off else off + l.toNat * e.size, cap - l.toNat, rfl, ?_, by omega, ?_⟩⟩
        ·rw [hn0]
         split <;> simp [Addr.add_mid]
        ·split
         ·rename_i hc
          rw [← hc, Nat.sub_self, Nat.zero_mul]
          exact Nat.add_le_add_left (Nat.zero_le _) _
         ·rw [Nat.add_assoc, ← Nat.add_mul]
          exact Nat.add_le_add_left (Nat.mul_le_mul_right _ (by omega)) _
       ·refine .inr ⟨b, off, cap, rfl, ?_⟩
        rw [if_neg (by omega)]
        simp [Addr.add_mid]
     ·exact pure_bad
    ·exact pure_bad
   ·exact pure_bad
  ·exact pure_bad
 ·rename_i id p off len hx
  split
  ·rename_i c hc
   split
   ·rename_i t' e hole hg
    split
    ·rename_i l u te m hl hu hsl
     split
     ·rename_i hm
      subst hm
      refine pure_need fun ⟨h0, h1, h2⟩ => pure_set fun aa w Γ rcs h g => ?_
      obtain ⟨r, t1, e1, hole1, x', z', qa, hr, hp, hle, hv⟩ := g.opoIs hx
      obtain rfl := g.same hc hr
      have hsub := pl_sub p _ _ _ _ hp
      simp only [RC.ck] at hg
      rw [hsub] at hg
      simp only [Option.some.injEq, Kd.sl.injEq, true_and] at hg
      obtain ⟨rfl, rfl, rfl⟩ := hg
      obtain ⟨hq, _, how⟩ := g.ownAt hr hp
      rcases hv with ⟨h00, hv⟩ | ⟨b, o', cap, hz, hv⟩
      ·have hlu : l.toNat = 0 ∧ u.toNat = 0 := by omega
       subst h00
       have hA : ∃ A c, aa.eval x = .slice A 0 c := by
        rcases hv with hv | ⟨_, _, _, off2, cap2, _, hv, _⟩
        ·exact ⟨_, _, hv⟩
        ·exact ⟨_, _, hv⟩
       obtain ⟨A, c, hA⟩ := hA
       refine ⟨.slice A 0 c, fun w' => hrun aa _ w' ?_, r, t1, e1, hole1, x', z', qa, hr, hp, by omega, .inl ⟨by omega, ?_⟩⟩
       ·rw [hA, run_sl hsl w' (run_bounds (len := 0) (cap := c) g hl hu h0 h1 h2 (Nat.zero_le _) true w')]
        simp only [hlu.1, hlu.2, Nat.zero_mul, Nat.sub_zero]
        cases A with
        | none => simp
        | some ad => cases ad; simp [Addr.add]
       ·rw [← hA]; exact hv
      ·obtain ⟨zo, zf⟩ := z'
       simp only at hz
       subst hz
       have hcap : List.length x' ≤ cap := by obtain ⟨_, _, q, _⟩ := how; exact q
       refine ⟨_, fun w' => hrun aa _ w' (by rw [hv]; exact run_sl hsl w' (run_bounds (len := len) (cap := cap - off) g hl hu h0 h1 h2 (by omega) true w')), r, t1, e1, hole1, x', (some (b, o', cap), zf), qa, hr, hp, by omega, ?_⟩
       by_cases hn0 : u.toNat - l.toNat = 0
       ·refine .inl ⟨hn0, .inr ⟨b, o', cap, if cap - off = l.toNat then o' + off * e1.size else o' + off * e1.size + l.toNat * e1.size, cap - off - l.toNat, rfl, ?_, by omega, ?_⟩⟩
        ·rw [hn0]
         split <;> simp [Addr.add_mid]
        ·split
         ·rename_i hc
          rw [← hc, Nat.sub_self, Nat.zero_mul, Nat.add_zero]
          exact Nat.add_le_add_left (Nat.mul_le_mul_right _ (by omega)) _
         ·rw [Nat.add_assoc, Nat.add_assoc, ← Nat.add_mul, ← Nat.add_mul]
          exact Nat.add_le_add_left (Nat.mul_le_mul_right _ (by omega)) _
       ·refine .inr ⟨b, o', cap, rfl, ?_⟩
        rw [if_neg (by omega)]
        simp only [Option.map_some, Addr.add_mid, Nat.add_mul, Nat.sub_sub, Nat.add_assoc]
     ·exact pure_bad
    ·exact pure_bad
   ·exact pure_bad
  ·exact pure_bad
 ·exact pure_bad
end Go.Proofs.YtibammoednhnoaaE

