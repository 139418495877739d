/- The engine, part 9: addresses of elements, lengths, what else only computes. Conditions: none. -/
import Derived.Test.YtibammoednhnoaaE8
set_option linter.unusedVariables false
set_option linter.unusedSimpArgs false
namespace Go.Proofs.YtibammoednhnoaaE
open Kd
variable {α : Type}

theorem pl_get (p : List Sel) {K : Kd} (x : K.T) (z : K.Z) (a : Nat × Nat) (u : At) (h : pl K x z p a = some u) : getP K x p = some ⟨u.K, u.x⟩ := by
 fun_induction pl K x z p a <;> simp_all [getP]
 all_goals (subst h; exact ⟨rfl, HEq.rfl⟩)
theorem un_right {g h : HF} (d : HF.dj g h) {b : Nat} {v : Blk} (e : h b = some v) : (g.un h) b = some v := by
 rcases d b with q | q
 ·simp [HF.un, q, e]
 ·rw [e] at q; cases q
theorem own_pl {Γ : HF} (p : List Sel) {K : Kd} (x : K.T) (z : K.Z) (a : Nat × Nat) (q : At) (h : HF) (ho : K.Own Γ x z h) (hp : pl K x z p a = some q) : ∃ hq, (∀ b v, hq b = some v → h b = some v) ∧ q.K.Own Γ q.x q.z hq := by
 fun_induction pl K x z p a generalizing h
 case case1 => simp only [Option.some.injEq] at hp; subst hp; exact ⟨h, fun _ _ e => e, ho⟩
 case case2 ih =>
  obtain ⟨h1, h2, d, rfl, o1, o2⟩ := ho
  obtain ⟨hq, s, o⟩ := ih _ o1 hp
  exact ⟨hq, fun b v e => by simp [HF.un, s b v e], o⟩
 case case3 ih =>
  obtain ⟨h1, h2, d, rfl, o1, o2⟩ := ho
  obtain ⟨hq, s, o⟩ := ih _ o2 hp
  exact ⟨hq, fun b v e => un_right d (s b v e), o⟩
 case case4 ih =>
  obtain ⟨hr, hi', d, rfl, oi, _⟩ := Each.take (by assumption) ho.2
  obtain ⟨hq, s, o⟩ := ih _ oi hp
  exact ⟨hq, fun b v e => un_right d (s b v e), o⟩
 case case6 hz ih =>
  simp only [Own] at ho
  rw [hz] at ho
  obtain ⟨c, h2, _, _, _, _, he, hd⟩ := ho
  simp only [if_true] at hd
  obtain ⟨hd, rfl⟩ := hd
  obtain ⟨hr, hi', d, rfl, oi, _⟩ := Each.take (by assumption) he
  rw [if_neg (by simp)] at oi
  obtain ⟨hq, s, o⟩ := ih _ oi hp
  exact ⟨hq, fun b v e => un_right hd (un_right d (s b v e)), o⟩
 case case9 => simp only [Option.some.injEq] at hp; subst hp; exact ⟨HF.emp, fun b v e => by simp [HF.emp] at e, rfl⟩
 all_goals cases hp
theorem star_take {Γ : HF} : ∀ {rcs : List (Nat × RC)} {h : HF} {id : Nat} {r : RC}, Star Γ rcs h → look rcs id = some r →
  ∃ h1 hr, HF.dj h1 hr ∧ h = h1.un hr ∧ r.Own Γ h1
 | (k, r0) :: l, h, id, r, ⟨g1, g2, d, e, o, st⟩, hl => by
  simp only [look] at hl
  split at hl
  ·injection hl with hl
   subst hl
   exact ⟨g1, g2, d, e, o⟩
  ·obtain ⟨h1, hr, d1, rfl, o1⟩ := star_take st hl
   subst e
   obtain ⟨d2, d3⟩ := HF.dj_un.1 d
   refine ⟨h1, g1.un hr, HF.dj_un.2 ⟨d2.symm, d1⟩, ?_, o1⟩
   rw [← HF.un_assoc, ← HF.un_assoc, HF.un_comm d2]
theorem rc_own {Γ : HF} {r : RC} {h : HF} (ho : r.Own Γ h) : ∃ h2, (∀ b v, h2 b = some v → h b = some v) ∧ r.K.Own Γ r.x r.z h2 := by
 unfold RC.Own at ho
 split at ho
 ·obtain ⟨c, h2, d, rfl, o, _⟩ := ho
  refine ⟨h2, fun b v e => ?_, o⟩
  rcases d b with q | q
  ·simp [HF.un, q, e]
  ·rw [e] at q; cases q
 ·exact ⟨h, fun _ _ e => e, ho⟩
abbrev inb (j n : Int) : Prop := 0 ≤ j ∧ j < n

section
variable (P : Program)
def arrOf? (t : TypeId) : Option (Nat × Nat) := match P.underlying t with
 | some (.array n e) => match P.info? e with
  | some i => some (n, i.size)
  | none => none
 | _ => none
def slOf? (t : TypeId) : Option (TypeId × Nat) := match P.underlying t with
 | some (.slice e) => match P.info? e with
  | some i => some (e, i.size)
  | none => none
 | _ => none
variable {P}
theorem arrOf_spec {t : TypeId} {n m : Nat} (h : arrOf? P t = some (n, m)) : ∃ e i, P.underlying t = some (.array n e) ∧ P.info? e = some i ∧ i.size = m := by
 unfold arrOf? at h
 split at h
 ·rename_i n' e hu
  split at h
  ·rename_i i hi
   simp only [Option.some.injEq, Prod.mk.injEq] at h
   obtain ⟨rfl, rfl⟩ := h
   exact ⟨e, i, hu, hi, rfl⟩
  ·cases h
 ·cases h
theorem slOf_spec {t e : TypeId} {m : Nat} (h : slOf? P t = some (e, m)) : ∃ i, P.underlying t = some (.slice e) ∧ P.info? e = some i ∧ i.size = m := by
 unfold slOf? at h
 split at h
 ·rename_i e' hu
  split at h
  ·rename_i i hi
   simp only [Option.some.injEq, Prod.mk.injEq] at h
   obtain ⟨rfl, rfl⟩ := h
   exact ⟨i, hu, hi, rfl⟩
  ·cases h
 ·cases h
theorem run_indexArr {t : TypeId} {n m b o : Nat} {k : IntKind} {j : Int} (h : arrOf? P t = some (n, m)) (h0 : 0 ≤ j) (h1 : j < n) (w : World) :
  (Instr.indexAt t (.pointer (some ⟨b, o, none⟩)) (.int k j)).run P w = .ok (.pointer (some ⟨b, o + j.toNat * m, none⟩)) w := by
 obtain ⟨e, i, hu, hi, rfl⟩ := arrOf_spec h
 simp [Instr.indexAt, asIntOf, run_underlying hu, Instr.sureAddr, h0, h1, sizeOf, typeInfo, hi, Addr.add]
theorem run_indexSl {t e : TypeId} {m b o len cap : Nat} {k : IntKind} {j : Int} (h : slOf? P t = some (e, m)) (h0 : 0 ≤ j) (h1 : j < len) (w : World) :
  (Instr.indexAt t (.slice (some ⟨b, o, none⟩) len cap) (.int k j)).run P w = .ok (.pointer (some ⟨b, o + j.toNat * m, none⟩)) w := by
 obtain ⟨i, hu, hi, rfl⟩ := slOf_spec h
 simp [Instr.indexAt, asIntOf, run_underlying hu, h0, h1, sizeOf, typeInfo, hi, Addr.add]

theorem own_elem {Γ : HF} {t : TypeId} {e : Kd} {x : List e.T} {z : (Kd.sl false t e none).Z} {h : HF} (f : (Kd.sl false t e none).free = true) (ho : (Kd.sl false t e none).Own Γ x z h) {i : Nat} (hi : i < x.length) :
  ∃ b o cap c t', z.1 = some (b, o, cap) ∧ Γ b = some (.cel c t') ∧ Lie c (o + i * e.size) (e.cells (x.getD i e.dft) (z.2 i)) ∧ e.Own Γ (x.getD i e.dft) (z.2 i) HF.emp := by
 obtain ⟨zo, zf⟩ := z
 cases zo with
 | none => obtain ⟨hx, _⟩ := ho; rw [hx] at hi; simp at hi
 | some q =>
  obtain ⟨b, off, cap⟩ := q
  obtain ⟨c, h2, _, _, _, hl, he, hd⟩ := ho
  simp only [Bool.false_eq_true, if_false] at hd
  obtain ⟨_, hi', _, _, oi, _⟩ := Each.take hi he
  rw [if_neg (by simp)] at oi
  have fe : e.free = true := by simpa [free] using f
  rw [own_free fe oi] at oi
  obtain ⟨⟨t', hd⟩, _⟩ := hd
  exact ⟨b, off, cap, c, t', rfl, hd, hl i hi, oi⟩
theorem own_item {Γ : HF} {n : Nat} {e : Kd} {x : List e.T} {z : Nat → e.Z} {h : HF} (f : e.free = true) (ho : (Kd.arr n e).Own Γ x z h) {i : Nat} (hi : i < n) : e.Own Γ (x.getD i e.dft) (z i) HF.emp := by
 obtain ⟨_, hi', _, _, oi, _⟩ := Each.take hi ho.2
 have := own_free f oi
 subst this
 exact oi

def stIndex (n : Lim) (o : Oper) (t : TypeId) (x i : Operand) (s : St) (k : St → Tr α) : Tr α := match opo s x, opo s i with
 | some (.ptr id p), some (.val (.int _) j) => match look s.ck id, arrOf? P t with
  | some c, some (m, z) => match sub c.K p with
   | some (.arr m' e) => if m = m' ∧ z = e.size then .need (inb j m) (set n s o (.one (.ptr id (p ++ [.idx j.toNat]))) k) else .bad
   | _ => .bad
  | _, _ => .bad
 | some (.at id p), some (.val (.int _) j) => match look s.ck id, slOf? P t with
  | some c, some (_, z) => match getP c.K c.x p with
   | some ⟨.sl true _ e none, xs⟩ => if z = e.size then .need (inb j (List.length xs)) (set n s o (.one (.ptr id (p ++ [.idx j.toNat]))) k) else .bad
   | some ⟨.sl true _ e (some _), xs⟩ => if z = e.size ∧ e.size = 1 then .need (inb j (List.length xs)) (set n s o (.one (.ptr id (p ++ [.idx j.toNat]))) k) else .bad
   | _ => .bad
  | _, _ => .bad
 | some (.slc id p off len), some (.val (.int _) j) => match look s.ck id, slOf? P t with
  | some c, some (_, z) => match sub c.K p with
   | some (.sl true _ e none) => if z = e.size then .need (inb j len) (set n s o (.one (.ptr id (p ++ [.idx (off + j.toNat)]))) k) else .bad
   | _ => .bad
  | _, _ => .bad
 | some (.val (.sl false _ e none) xs), some (.val (.int _) j) => match slOf? P t with
  | some (_, z) => if z = e.size then .need (inb j (List.length xs)) (set n s o (.one (.eptr e (List.getD xs j.toNat e.dft))) k) else .bad
  | none => .bad
 | some (.eptr (.arr m' e) xs), some (.val (.int _) j) => match arrOf? P t with
  | some (m, z) => if m = m' ∧ z = e.size then .need (inb j m) (set n s o (.one (.eptr e (List.getD xs j.toNat e.dft))) k) else .bad
  | none => .bad
 | some (.val (.tl t' e) xs), some (.val (.int _) j) => match slOf? P t with
  | some (_, z) => if z = e.size + 1 then .need (inb j (List.length xs)) (set n s o (.one (.eptr (.tree t' e) (List.getD xs j.toNat (.mk e.dft [])))) k) else .bad
  | none => .bad
 | _, _ => .bad
theorem thru_idx (p : List Sel) {K e : Kd} {t : TypeId} {hole : Option Nat} {i : Nat} (h : sub K p = some (.sl true t e hole)) : thru K (p ++ [.idx i]) = true := by
 fun_induction sub K p <;> simp_all [thru]
theorem Good.same {F : Fr} {s : St} {a : Act} {w : World} {Γ : HF} {rcs : List (Nat × RC)} {h : HF} (g : Good F s a w Γ rcs h) {id : Nat} {c : Ck} {r : RC} (hc : look s.ck id = some c) (hr : look rcs id = some r) : c = r.ck := by
 have := g.chunk id
 rw [hc, hr] at this
 simpa using this
theorem stIndex_ok {F : Fr} {o : Oper} {t : TypeId} {x i : Operand} {s : St} {k : St → Tr α} (ho : o.op = .indexAddr t x i) : PureOK P F o s (stIndex (P := P) F.n o t x i s k) k := by
 unfold stIndex
 split
 ·rename_i id p ki j hx hi
  split
  ·rename_i c m z hc ha
   split
   ·rename_i m' e hs
    split
    ·rename_i hm
     obtain ⟨rfl, rfl⟩ := hm
     refine pure_need fun ⟨h0, h1⟩ => pure_set fun a w Γ rcs h g => ?_
     obtain ⟨r, q, hr, hp, hb, hv⟩ := g.opoIs hx
     obtain ⟨hj, _⟩ := is_int (g.opoIs hi)
     obtain rfl := g.same hc hr
     have hsub := pl_sub p _ _ _ _ hp
     simp only [RC.ck] at hs
     rw [hsub] at hs
     injection hs with hs
     obtain ⟨qK, qx, qz, qa⟩ := q
     simp only at hs
     subst hs
     refine ⟨_, fun w' => ?_, r, ⟨e, List.getD qx j.toNat e.dft, qz j.toNat, (qa.1, qa.2 + j.toNat * e.size)⟩, hr, ?_, fun e => thru_append p _ (hb e), rfl⟩
     ·simp only [execOp, ho, hv, hj]
      have := run_indexArr (P := P) (b := qa.1) (o := qa.2) (k := ki) ha h0 h1 w'
      simp [this]
     ·rw [pl_append p _ _ _ _ _ hp (.inl (by simp))]
      simp only [pl]
      rw [if_pos (show j.toNat < m by omega)]
    ·exact pure_bad
   ·exact pure_bad
  ·exact pure_bad
 ·rename_i id p ki j hx hi
  split
  ·rename_i c tt z hc ha
   split
   ·rename_i t' e xs hs
    split
    ·rename_i hm
     subst hm
     refine pure_need fun ⟨h0, h1⟩ => pure_set fun a w Γ rcs h g => ?_
     obtain ⟨r, q, hr, hp, hv⟩ := g.opoIs hx
     obtain ⟨hj, _⟩ := is_int (g.opoIs hi)
     obtain rfl := g.same hc hr
     have hsub := pl_sub p _ _ _ _ hp
     have hget := pl_get p _ _ _ _ hp
     simp only [RC.ck] at hs
     rw [hget] at hs
     injection hs with hs
     obtain ⟨qK, qx, qz, qa⟩ := q
     simp only [Sigma.mk.injEq] at hs
     obtain ⟨hs1, hs2⟩ := hs
     subst hs1
     obtain rfl := eq_of_heq hs2
     obtain ⟨zo, zf⟩ := qz
     have hlt : j.toNat < List.length qx := by omega
     obtain ⟨b, o', cap, rfl⟩ : ∃ b o cap, zo = some (b, o, cap) := by
      obtain ⟨h1, hr', _, _, o1⟩ := star_take g.star hr
      obtain ⟨h2, _, o2⟩ := rc_own o1
      obtain ⟨hq, _, o3⟩ := own_pl p _ _ _ _ _ o2 hp
      cases zo with
      | some y => exact ⟨_, _, _, rfl⟩
      | none => rw [show qx = [] from o3.1] at hlt; simp at hlt
     refine ⟨.pointer (some ⟨b, o' + j.toNat * e.size, none⟩), fun w' => ?_, r, ⟨e, List.getD qx j.toNat e.dft, zf j.toNat, (b, o' + j.toNat * e.size)⟩, hr, ?_, fun _ => thru_idx p hsub, rfl⟩
     ·simp only [execOp, ho, hv, hj]
      have := run_indexSl (P := P) (b := b) (o := o') (len := List.length qx) (cap := cap) (k := ki) ha h0 h1 w'
      simp [toV, single, cells, hdr, this]
     ·rw [pl_append p _ _ _ _ _ hp (.inl (by simp))]
      simp only [pl]
      rw [if_pos hlt]
    ·exact pure_bad
   ·rename_i t' e hole xs hs
    split
    ·rename_i hm
     obtain ⟨hm, hsz⟩ := hm
     subst hm
     refine pure_need fun ⟨h0, h1⟩ => pure_set fun a w Γ rcs h g => ?_
     obtain ⟨r, q, hr, hp, hv⟩ := g.opoIs hx
     obtain ⟨hj, _⟩ := is_int (g.opoIs hi)
     obtain rfl := g.same hc hr
     have hsub := pl_sub p _ _ _ _ hp
     have hget := pl_get p _ _ _ _ hp
     simp only [RC.ck] at hs
     rw [hget] at hs
     injection hs with hs
     obtain ⟨qK, qx, qz, qa⟩ := q
     simp only [Sigma.mk.injEq] at hs
     obtain ⟨hs1, hs2⟩ := hs
     subst hs1
     obtain rfl := eq_of_heq hs2
     obtain ⟨zo, zf⟩ := qz
     have hlt : j.toNat < List.length qx := by omega
     obtain ⟨b, o', cap, rfl⟩ : ∃ b o cap, zo = some (b, o, cap) := by
      obtain ⟨h1, hr', _, _, o1⟩ := star_take g.star hr
      obtain ⟨h2, _, o2⟩ := rc_own o1
      obtain ⟨hq, _, o3⟩ := own_pl p _ _ _ _ _ o2 hp
      cases zo with
      | some y => exact ⟨_, _, _, rfl⟩
      | none => rw [show qx = [] from o3.1] at hlt; simp at hlt
     refine ⟨.pointer (some ⟨b, o' + j.toNat * e.size, none⟩), fun w' => ?_, r, ⟨.un, (), (e.cells (List.getD qx j.toNat e.dft) (zf j.toNat)).getD 0 undef, (b, o' + j.toNat * e.size)⟩, hr, ?_, fun _ => thru_idx p hsub, rfl⟩
     ·simp only [execOp, ho, hv, hj]
      have := run_indexSl (P := P) (b := b) (o := o') (len := List.length qx) (cap := cap) (k := ki) ha h0 h1 w'
      simp [toV, single, cells, hdr, this]
     ·rw [pl_append p _ _ _ _ _ hp (.inl (by simp))]
      simp only [pl]
      rw [if_pos ⟨hlt, hsz⟩]
    ·exact pure_bad
   ·exact pure_bad
  ·exact pure_bad
 ·rename_i id p off len ki j hx hi
  split
  ·rename_i c tt z hc ha
   split
   ·rename_i t' e hs
    split
    ·rename_i hm
     subst hm
     refine pure_need fun ⟨h0, h1⟩ => pure_set fun a w Γ rcs h g => ?_
     obtain ⟨r, t2, e2, hole, x', z', qa, hr, hp, hl, hv⟩ := g.opoIs hx
     obtain ⟨hj, _⟩ := is_int (g.opoIs hi)
     obtain rfl := g.same hc hr
     have hsub := pl_sub p _ _ _ _ hp
     simp only [RC.ck] at hs
     rw [hsub] at hs
     simp only [Option.some.injEq, Kd.sl.injEq, true_and] at hs
     obtain ⟨rfl, rfl, rfl⟩ := hs
     rcases hv with ⟨q, _⟩ | ⟨b, o', cap, hz, hv⟩
     ·omega
     ·refine ⟨.pointer (some ⟨b, o' + off * e2.size + j.toNat * e2.size, none⟩), fun w' => ?_, r, ⟨e2, List.getD x' (off + j.toNat) e2.dft, z'.2 (off + j.toNat), (b, o' + (off + j.toNat) * e2.size)⟩, hr, ?_, fun _ => thru_idx p hsub, ?_⟩
      ·simp only [execOp, ho, hv, hj]
       have := run_indexSl (P := P) (b := b) (o := o' + off * e2.size) (len := len) (cap := cap - off) (k := ki) ha h0 h1 w'
       simp [this]
      ·rw [pl_append p _ _ _ _ _ hp (.inl (by simp))]
       simp only [pl]
       rw [hz]
       simp only
       rw [if_pos (show off + j.toNat < List.length x' by omega)]
      ·simp only [Nat.add_mul, Nat.add_assoc]
    ·exact pure_bad
   ·exact pure_bad
  ·exact pure_bad
 ·rename_i t' e xs ki j hx hi
  split
  ·rename_i tt z ha
   split
   ·rename_i hm
    subst hm
    refine pure_need fun ⟨h0, h1⟩ => pure_set fun a w Γ rcs h g => ?_
    obtain ⟨hf, zz, how, hv⟩ := g.opoIs hx
    obtain ⟨hj, _⟩ := is_int (g.opoIs hi)
    have hlt : j.toNat < List.length xs := by omega
    obtain ⟨b, o', cap, c, t2', hz, hc, hl, hown⟩ := own_elem hf how hlt
    refine ⟨.pointer (some ⟨b, o' + j.toNat * e.size, none⟩), fun w' => ?_, by simpa [free] using hf, zz.2 j.toNat, b, _, c, t2', hown, hc, hl, rfl⟩
    simp only [execOp, ho, hv, hj]
    have := run_indexSl (P := P) (b := b) (o := o') (len := List.length xs) (cap := cap) (k := ki) ha h0 h1 w'
    simp [toV, single, cells, hdr, hz, this]
   ·exact pure_bad
  ·exact pure_bad
 ·rename_i m' e xs ki j hx hi
  split
  ·rename_i m z ha
   split
   ·rename_i hm
    obtain ⟨rfl, rfl⟩ := hm
    refine pure_need fun ⟨h0, h1⟩ => pure_set fun a w Γ rcs h g => ?_
    obtain ⟨hf, zz, b, o', c, t', how, hc, hl, hv⟩ := g.opoIs hx
    obtain ⟨hj, _⟩ := is_int (g.opoIs hi)
    have hf' : e.free = true := by simpa [free] using hf
    have hlt : j.toNat < m := by omega
    refine ⟨.pointer (some ⟨b, o' + j.toNat * e.size, none⟩), fun w' => ?_, hf', zz j.toNat, b, _, c, t', own_item hf' how hlt, hc, (lie_flat (fun i => cells_length e _ _)).1 hl _ hlt, rfl⟩
    simp only [execOp, ho, hv, hj]
    have := run_indexArr (P := P) (b := b) (o := o') (k := ki) ha h0 h1 w'
    simp [this]
   ·exact pure_bad
  ·exact pure_bad
 ·rename_i t' e xs ki j hx hi
  split
  ·rename_i tt z ha
   split
   ·rename_i hm
    subst hm
    refine pure_need fun ⟨h0, h1⟩ => pure_set fun a w Γ rcs h g => ?_
    obtain ⟨hf, zz, ⟨_, how⟩, hv⟩ := g.opoIs hx
    obtain ⟨hj, _⟩ := is_int (g.opoIs hi)
    have hlt : j.toNat < List.length xs := by omega
    cases zz with
    | none => rw [show xs = [] from how] at hlt; simp at hlt
    | some y =>
     obtain ⟨⟨b, o', sp⟩, cap⟩ := y
     rcases how with ⟨rfl, _⟩ | ⟨hsp, c, t2', zf, hhf, k1, k2, k3, k4, k5, k6⟩
     ·simp at hlt
     ·have hsp' : sp = none := hsp
      subst hsp'
      refine ⟨.pointer (some ⟨b, o' + j.toNat * (e.size + 1), none⟩), fun w' => ?_, hf, (zf j.toNat, hhf j.toNat), b, _, c, t2', ⟨rfl, k6 _ hlt⟩, k4, k5 _ hlt, rfl⟩
      simp only [execOp, ho, hv, hj]
      have := run_indexSl (P := P) (b := b) (o := o') (len := List.length xs) (cap := cap) (k := ki) ha h0 h1 w'
      simp [toV, single, cells, hdrT, this]
   ·exact pure_bad
  ·exact pure_bad
 ·exact pure_bad

def lenOf (s : St) : SV → Option Int
 | .val .str x => some x.size
 | .val (.sl false _ _ none) x => some (List.length x)
 | .at id p => match look s.ck id with
  | some c => match getP c.K c.x p with
   | some ⟨.sl true _ _ _, xs⟩ => some (List.length xs)
   | _ => none
  | none => none
 | .slc _ _ _ len => some len
 | .nilS => some 0
 | .val (.tl _ _) x => some (List.length x)
 | _ => none
def strT (P : Program) (t : TypeId) : Bool := match P.underlying t with
 | some .string => true
 | _ => false
theorem sl_len {Γ : HF} {own : Bool} {t : TypeId} {e : Kd} {hole : Option Nat} {x : List e.T} {z : (Kd.sl own t e hole).Z} {h : HF} (o : (Kd.sl own t e hole).Own Γ x z h) : (∃ a c, hdr z.1 x.length = .slice a x.length c ∧ (a = none → x.length = 0)) ∧ x.length ≤ 9223372036854775807 := by
 obtain ⟨zo, zf⟩ := z
 cases zo with
 | none => obtain ⟨q, _⟩ := o; subst q; exact ⟨⟨none, 0, rfl, fun _ => rfl⟩, by simp⟩
 | some q =>
  obtain ⟨b, off, cap⟩ := q
  obtain ⟨c, h2, h1, h3, _⟩ := o
  exact ⟨⟨_, _, rfl, fun q => by cases q⟩, by omega⟩
theorem lenOf_is {F : Fr} {s : St} {a : Act} {w : World} {Γ : HF} {rcs : List (Nat × RC)} {h : HF} (g : Good F s a w Γ rcs h) {v : SV} {u : Value} {n : Int} (hu : v.is Γ rcs u) (hn : lenOf s v = some n) :
  ((∃ b, v = .val .str b ∧ u = .string b ∧ n = b.size) ∨ (∀ b, v ≠ .val .str b) ∧ ∃ m : Nat, n = m ∧ ∃ A c, u = .slice A m c ∧ (A = none → m = 0)) ∧ 0 ≤ n ∧ n ≤ 9223372036854775807 := by
 unfold lenOf at hn
 split at hn
 ·injection hn with hn; subst hn
  obtain ⟨e, hs⟩ := is_str hu
  exact ⟨.inl ⟨_, rfl, e, rfl⟩, by omega, by omega⟩
 ·injection hn with hn; subst hn
  obtain ⟨_, z, o, e⟩ := hu
  obtain ⟨⟨A, c, q, qn⟩, hl⟩ := sl_len o
  exact ⟨.inr ⟨(fun _ q => by cases q), _, rfl, A, c, by rw [e, ← q]; rfl, qn⟩, by omega, by omega⟩
 ·rename_i id p
  split at hn
  ·rename_i c hc
   split at hn
   ·rename_i t e hole xs hg
    injection hn with hn; subst hn
    obtain ⟨r, q, hr, hp, hv⟩ := hu
    obtain rfl := g.same hc hr
    have hget := pl_get p _ _ _ _ hp
    simp only [RC.ck] at hg
    rw [hget] at hg
    injection hg with hg
    obtain ⟨qK, qx, qz, qa⟩ := q
    simp only [Sigma.mk.injEq] at hg
    obtain ⟨hs1, hs2⟩ := hg
    subst hs1
    obtain rfl := eq_of_heq hs2
    obtain ⟨h1, hr', _, _, o1⟩ := star_take g.star hr
    obtain ⟨h2, _, o2⟩ := rc_own o1
    obtain ⟨hq, _, o3⟩ := own_pl p _ _ _ _ _ o2 hp
    obtain ⟨⟨A, c, q, qn⟩, hl⟩ := sl_len o3
    have hl' : List.length qx ≤ 9223372036854775807 := hl
    exact ⟨.inr ⟨(fun _ q => by cases q), _, rfl, A, c, by rw [hv, ← q]; rfl, qn⟩, by omega, by omega⟩
   ·cases hn
  ·cases hn
 ·injection hn with hn; subst hn
  obtain ⟨r, t, e, hole, x', z', qa, hr, hp, hl, hv⟩ := hu
  obtain ⟨h1, hr', _, _, o1⟩ := star_take g.star hr
  obtain ⟨h2, _, o2⟩ := rc_own o1
  obtain ⟨hq, _, o3⟩ := own_pl _ _ _ _ _ _ o2 hp
  obtain ⟨_, hl2⟩ := sl_len o3
  have hl3 : List.length x' ≤ 9223372036854775807 := hl2
  refine ⟨.inr ⟨(fun _ q => by cases q), _, rfl, ?_⟩, by omega, by omega⟩
  rcases hv with ⟨rfl, q | ⟨_, _, _, off2, cap2, _, q, _⟩⟩ | ⟨b, o, cap, _, q⟩
  ·exact ⟨none, 0, q, fun _ => rfl⟩
  ·exact ⟨_, _, q, fun _ => rfl⟩
  ·exact ⟨_, _, q, fun q => by cases q⟩
 ·injection hn with hn; subst hn
  exact ⟨.inr ⟨(fun _ q => by cases q), 0, rfl, none, 0, hu, fun _ => rfl⟩, by omega, by omega⟩
 ·injection hn with hn; subst hn
  rename_i t e x
  obtain ⟨_, z, ⟨_, o⟩, e'⟩ := hu
  have hl : List.length x ≤ 9223372036854775807 := by
   cases z with
   | none => rw [show x = [] from o]; exact Nat.zero_le _
   | some y =>
    rcases o with ⟨rfl, _⟩ | ⟨_, c, t', zf, hf, k1, k2, _⟩
    ·exact Nat.zero_le _
    ·exact Nat.le_trans k1 k2
  refine ⟨.inr ⟨(fun _ q => by cases q), List.length x, rfl, ?_⟩, by omega, by omega⟩
  cases z with
  | none =>
   have hx : x = [] := o
   subst hx
   exact ⟨none, 0, e', fun _ => rfl⟩
  | some y => exact ⟨some y.1, y.2, e', fun q => by cases q⟩
 ·cases hn
def stLen (n : Lim) (o : Oper) (c : Call) (s : St) (k : St → Tr α) : Tr α := match c.args.toList, c.argTypes.toList with
 | [x], [t] => match opo s x with
  | some v => match lenOf s v with
   | some m => match v with
    | .val .str _ => if strT P t then set n s o (.one (.val (.int .i64) m)) k else .bad
    | _ => if (slOf? P t).isSome then set n s o (.one (.val (.int .i64) m)) k else .bad
   | none => .bad
  | none => .bad
 | _, _ => .bad
theorem stLen_ok {F : Fr} {o : Oper} {c : Call} {s : St} {k : St → Tr α} (ho : o.op = .call c) (hb : c.callee = .builtin .len) : PureOK P F o s (stLen (P := P) F.n o c s k) k := by
 unfold stLen
 split
 ·rename_i x t hx ht
  have ha : c.args = #[x] := by rw [← Array.toList_inj]; exact hx
  have ha' : c.argTypes = #[t] := by rw [← Array.toList_inj]; exact ht
  split
  ·rename_i v hv
   split
   ·rename_i m hm
    have key : ∀ (d : (P.underlying t = some .string ∧ ∃ b, v = .val .str b) ∨ ((slOf? P t).isSome = true ∧ ¬ ∃ b, v = .val .str b)), PureOK P F o s (set F.n s o (.one (.val (.int .i64) m)) k) k := by
     intro d
     refine pure_set fun a w Γ rcs h g => ?_
     obtain ⟨hk, h0, h1⟩ := lenOf_is g (g.opoIs hv) hm
     refine ⟨.int .i64 m, fun w' => ?_, int_is (rcs := rcs) ⟨by show -(2 ^ 63 : Int) ≤ m; omega, by show m ≤ (2 ^ 63 - 1 : Int); omega⟩⟩
     rcases d with ⟨hu, b, rfl⟩ | ⟨hu, hnb⟩
     ·rcases hk with ⟨b', e1, e', hb'⟩ | ⟨hn, _⟩
      ·subst hb'
       simp [execOp, ho, resolve, hb, ha, ha', invoke, builtin, Builtin.len_, run_underlying hu, e', goInt]
      ·exact absurd rfl (hn b)
     ·obtain ⟨⟨e1, z1⟩, hs1⟩ := Option.isSome_iff_exists.1 hu
      obtain ⟨i, hu, _, _⟩ := slOf_spec hs1
      rcases hk with ⟨b', e1, e', hb'⟩ | ⟨_, m', hm', A, c', e', _⟩
      ·exact absurd ⟨b', e1⟩ hnb
      ·subst hm'
       simp [execOp, ho, resolve, hb, ha, ha', invoke, builtin, Builtin.len_, run_underlying hu, e', goInt]
    split
    ·split
     ·rename_i b hs
      refine key (.inl ⟨?_, _, rfl⟩)
      unfold strT at hs
      split at hs <;> first | assumption | cases hs
     ·exact pure_bad
    ·rename_i hne
     split
     ·rename_i hs
      exact key (.inr ⟨hs, fun ⟨b, e⟩ => hne b e⟩)
     ·exact pure_bad
   ·exact pure_bad
  ·exact pure_bad
 ·exact pure_bad

def stExtract (n : Lim) (o : Oper) (x : Operand) (i : Nat) (s : St) (k : St → Tr α) : Tr α := match opv s x with
 | some (.tup l) => match l[i]? with
  | some v => set n s o (.one v) k
  | none => .bad
 | _ => .bad
theorem stExtract_ok {F : Fr} {o : Oper} {x : Operand} {i : Nat} {s : St} {k : St → Tr α} (ho : o.op = .extract x i) : PureOK P F o s (stExtract F.n o x i s k) k := by
 unfold stExtract
 split
 ·rename_i l hx
  split
  ·rename_i v hv
   refine pure_set fun a w Γ rcs h g => ?_
   obtain ⟨vs, e, hl, hall⟩ := g.opvIs hx
   obtain ⟨u, hu, hi⟩ := hall i v hv
   exact ⟨u, fun w' => by simp [execOp, ho, Instr.extract, e, hu], hi⟩
  ·exact pure_bad
 ·exact pure_bad
def stNil (n : Lim) (o : Oper) (x : Operand) (s : St) (k : St → Tr α) : Tr α := match opo s x with
 | some (.ptr id p) => set n s o (.one (.ptr id p)) k
 | some (.eptr K y) => set n s o (.one (.eptr K y)) k
 | some (.val (.ep K) y) => .need (Option.isSome (α := K.T) y = true) (set n s o (.one (.val (.ep K) y)) k)
 | _ => .bad
theorem stNil_ok {F : Fr} {o : Oper} {x : Operand} {s : St} {k : St → Tr α} (ho : o.op = .nilCheck x) : PureOK P F o s (stNil F.n o x s k) k := by
 unfold stNil
 split
 ·rename_i id p hx
  refine pure_set fun a w Γ rcs h g => ?_
  have hi := g.opoIs hx
  have hi2 := hi
  obtain ⟨r, q, _, _, _, hv⟩ := hi2
  exact ⟨_, fun w' => by simp [execOp, ho, hv], hv ▸ hi⟩
 ·rename_i K y hx
  refine pure_set fun a w Γ rcs h g => ?_
  have hi := g.opoIs hx
  have hi2 := hi
  obtain ⟨_, _, b, o', c, t, _, _, _, hv⟩ := hi2
  exact ⟨_, fun w' => by simp [execOp, ho, hv], hv ▸ hi⟩
 ·rename_i K y hx
  refine pure_need fun hn => pure_set fun a w Γ rcs h g => ?_
  have hi := g.opoIs hx
  obtain ⟨y0, rfl⟩ := Option.isSome_iff_exists.1 hn
  have hi2 := hi
  obtain ⟨_, z, _, hv⟩ := hi2
  have hv' : a.eval x = .pointer (some ⟨z.2.1, z.2.2, none⟩) := hv
  exact ⟨_, fun w' => by simp [execOp, ho, hv'], hv' ▸ hi⟩
 ·exact pure_bad
def stUn (n : Lim) (o : Oper) (op : UnOp) (x : Operand) (s : St) (k : St → Tr α) : Tr α := match op, opo s x with
 | .not, some (.val .bool b) => set n s o (.one (.val .bool (!b))) k
 | .neg, some (.val (.int j) m) => set n s o (.one (.val (.int j) (j.wrap (0 - m)))) k
 | _, _ => .bad
theorem stUn_ok {F : Fr} {o : Oper} {op : UnOp} {t : TypeId} {x : Operand} {s : St} {k : St → Tr α} (ho : o.op = .unOp op t x) : PureOK P F o s (stUn F.n o op x s k) k := by
 unfold stUn
 split
 ·rename_i b hx
  refine pure_set fun a w Γ rcs h g => ⟨_, fun w' => ?_, bool_is (rcs := rcs)⟩
  have := is_bool (g.opoIs hx)
  simp [execOp, ho, Op.unary, this]
 ·rename_i j m hx
  refine pure_set fun a w Γ rcs h g => ⟨_, fun w' => ?_, int_is (rcs := rcs) (wrap_range _ _)⟩
  have := (is_int (g.opoIs hx)).1
  simp only [execOp, ho, Op.unary, this, Op.intArith]
  rfl
 ·exact pure_bad
def intT (P : Program) (t : TypeId) : Option IntKind := match P.underlying t with
 | some (.int k) => some k
 | _ => none
def stConv (n : Lim) (o : Oper) (src dst : TypeId) (x : Operand) (s : St) (k : St → Tr α) : Tr α := match opo s x, intT P src, intT P dst with
 | some (.val (.int _) m), some _, some j => set n s o (.one (.val (.int j) (j.wrap m))) k
 | _, _, _ => .bad
theorem stConv_ok {F : Fr} {o : Oper} {src dst : TypeId} {x : Operand} {s : St} {k : St → Tr α} (ho : o.op = .convert src dst x) : PureOK P F o s (stConv (P := P) F.n o src dst x s k) k := by
 unfold stConv
 split
 ·rename_i j0 m j1 j hx h1 h2
  refine pure_set fun a w Γ rcs h g => ⟨_, fun w' => ?_, int_is (rcs := rcs) (wrap_range _ _)⟩
  have := (is_int (g.opoIs hx)).1
  have hu1 : P.underlying src = some (.int j1) := by
   unfold intT at h1
   split at h1 <;> simp_all
  have hu2 : P.underlying dst = some (.int j) := by
   unfold intT at h2
   split at h2 <;> simp_all
  simp [execOp, ho, convert, run_underlying hu1, run_underlying hu2, this, Conv.intToInt]
 ·exact pure_bad
end
end Go.Proofs.YtibammoednhnoaaE

