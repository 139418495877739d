/- The engine, part 13: the store as an operation. Conditions: none. -/
import Derived.Test.YtibammoednhnoaaE12
set_option linter.unusedVariables false
set_option linter.unusedSimpArgs false
namespace Go.Proofs.YtibammoednhnoaaE
open Kd
variable {α : Type}

def noUn : Kd → Bool
 | .un => false
 | .pair a b => noUn a && noUn b
 | .arr _ e => noUn e
 | .tree _ e => noUn e
 | _ => true
theorem cells_one : ∀ (K : Kd) (x : K.T) (z : K.Z), noUn K = true → ∀ v ∈ K.cells x z, v.oneCell' = true
 | .int _, _, _, _, v, h => by simp [cells] at h; subst h; rfl
 | .bool, _, _, _, v, h => by simp [cells] at h; subst h; rfl
 | .str, _, _, _, v, h => by simp [cells] at h; subst h; rfl
 | .un, _, _, h, _, _ => by cases h
 | .unit, _, _, _, v, h => by simp [cells] at h
 | .tree t e, x, z, hu, v, h => by
  rcases List.mem_append.1 h with q | q
  ·exact cells_one e _ _ hu v q
  ·obtain rfl := List.mem_singleton.1 q
   cases z.2 with
   | none => rfl
   | some y => rfl
 | .tl t e, x, z, hu, v, h => by
  obtain rfl := List.mem_singleton.1 h
  cases z with
  | none => rfl
  | some y => rfl
 | .mp o t k, x, z, hu, v, h => by
  obtain rfl := List.mem_singleton.1 h
  rfl
 | .ep e, x, z, hu, v, h => by
  obtain rfl := List.mem_singleton.1 h
  rfl
 | .pair a b, x, z, hu, v, h => by
  simp only [noUn, Bool.and_eq_true] at hu
  rcases List.mem_append.1 h with e | e
  ·exact cells_one a _ _ hu.1 v e
  ·exact cells_one b _ _ hu.2 v e
 | .arr n e, x, z, hu, v, h => by
  obtain ⟨i, _, hi⟩ := List.mem_flatMap.1 h
  exact cells_one e _ _ hu v hi
 | .sl own t e hole, x, z, _, v, h => by
  have : v = hdr z.1 (List.length x) := by simpa [cells] using h
  subst this
  rcases z.1 with _ | ⟨b, o, c⟩ <;> rfl
theorem toV_cells (K : Kd) (x : K.T) (z : K.Z) (hu : noUn K = true) : (toV K (K.cells x z)).cells.toList = K.cells x z := by
 cases K with
 | un => cases hu
 | sl own t e hole =>
  show (hdr z.1 (List.length x)).cells.toList = [hdr z.1 (List.length x)]
  rcases z.1 with _ | ⟨b, o, c⟩ <;> rfl
 | tl t e =>
  show (hdrT z (List.length x)).cells.toList = [hdrT z (List.length x)]
  cases z <;> rfl
 | _ => rfl
theorem run_storeT {P : Program} {t : TypeId} {w : World} {b o : Nat} {v : Value} {cs : List Value} {sz : Nat} {bb : Bool} (hv : varT P t = some (bb, sz)) (hl : cs.length = sz) (hvc : v.cells.toList = cs)
  (ht : w.there b o cs.length) (h1 : ∀ u ∈ cs, u.oneCell' = true) : (Instr.storeAt t (.pointer (some ⟨b, o, none⟩)) v).run P w = .ok () (w.setCells b o cs) := by
 have := run_storeCells_cells (P := P) b o cs 0 w (fun j hj => by simpa using (ht j hj).1) (fun j hj => by simpa using (ht j hj).2) h1
 unfold varT at hv
 split at hv
 ·rename_i d i hu hi
  simp only [Option.some.injEq, Prod.mk.injEq] at hv
  have hs : v.cells.size = i.size := by rw [← Array.length_toList, hvc]; omega
  simp only [Nat.add_zero] at this
  simp [Instr.storeAt, Instr.sureAddr, storeVar, sizeOf, typeInfo, hi, hs, hvc, this]
 ·cases hv

def WorldOK (P : Program) (F : Fr) (o : Oper) (s : St) (t : Tr α) (k : St → Tr α) (e : Eff) : Prop := ∀ (K : α → Prop) (a : Act) (w : World) (Γ : HF) (rcs : List (Nat × RC)) (h : HF) (Q : Exit → Act → World → Prop), Good F s a w Γ rcs h → e.ok F.B → t.sat K →
 o.wp P a w (fun a' w' => ∃ s', R F s' a' w' ∧ (k s').sat K) Q
theorem world_bad {P : Program} {F : Fr} {o : Oper} {s : St} {k : St → Tr α} {e : Eff} : WorldOK P F o s .bad k e := fun _ _ _ _ _ _ _ _ _ h => h.elim
theorem off_of {F : Fr} {s : St} {a : Act} {w : World} {Γ : HF} {rcs : List (Nat × RC)} {h : HF} (g : Good F s a w Γ rcs h) {ids : List Nat} (he : (Eff.mk false ids).ok F.B) : Off F ids rcs := fun e hm => by
 have h1 := he e hm
 cases hid : e.id with
 | none => rw [hid] at h1; cases h1
 | some id => rw [hid] at h1; exact ⟨id, rfl, h1, (g.bx e hm).2 id hid⟩
theorem off_del {F : Fr} {rcs : List (Nat × RC)} {ids : List Nat} (hB : Off F ids rcs) {id2 : Nat} {r2 : RC} (hr : look rcs id2 = some r2) (hb : r2.box = none) : Off F ids (del rcs id2) := fun e hm => by
 obtain ⟨id, h1, h2, r, t, h3, h4⟩ := hB e hm
 refine ⟨id, h1, h2, r, t, ?_, h4⟩
 rw [look_del]
 ·exact h3
 ·intro q
  subst q
  rw [hr] at h3
  injection h3 with h3
  subst h3
  rw [hb] at h4
  cases h4
theorem del_look {β : Type} (l : List (Nat × β)) (id n : Nat) (r : β) (h : look (del l id) n = some r) : look l n = some r := by
 by_cases e : n = id
 ·subst e
  have : n ∈ (del l n).map (·.1) := List.mem_map.2 ⟨_, look_mem h, rfl⟩
  exfalso
  obtain ⟨x, hx, hn⟩ := List.mem_map.1 this
  have := (List.mem_filter.1 hx).2
  simp [hn] at this
 ·rwa [look_del _ e] at h
def ptrId (s : St) (x : Operand) : List Nat := match opo s x with
 | some (.ptr id _) => [id]
 | _ => []
def wrId (s : St) (x : Operand) : List Nat := match opo s x with
 | some (.ptr id p) => match look s.ck id with
  | some c => if thru c.K p = true then [] else [id]
  | none => [id]
 | _ => []
theorem offP_of {F : Fr} {s : St} {a : Act} {w : World} {Γ : HF} {rcs : List (Nat × RC)} {h : HF} (g : Good F s a w Γ rcs h) {x : Operand} {id : Nat} {p : List Sel} (hx : opo s x = some (.ptr id p)) (hB : Off F (wrId s x) rcs) : ∀ r, look rcs id = some r → OffP F id (thru r.K p) rcs := by
 intro r hr e he
 obtain ⟨id', h1, h2, h3⟩ := hB e he
 refine ⟨id', h1, ?_, h3⟩
 have hck : look s.ck id = some r.ck := by
  rw [← g.ck]
  have : ∀ (l : List (Nat × RC)), look (l.map fun r => (r.1, r.2.ck)) id = (look l id).map RC.ck := by
   intro l
   induction l with
   | nil => rfl
   | cons x l ih => simp only [List.map_cons, look]; split <;> first | rfl | exact ih
  rw [this, hr]
  rfl
 unfold wrId at h2
 rw [hx] at h2
 simp only [hck] at h2
 by_cases ht : thru r.K p = true
 ·exact .inr ht
 ·left
  rw [if_neg (show ¬ thru r.ck.K p = true from ht)] at h2
  simpa using h2
theorem offP_del {F : Fr} {rcs : List (Nat × RC)} {id : Nat} {th : Bool} (hB : OffP F id th rcs) {id2 : Nat} {r2 : RC} (hr : look rcs id2 = some r2) (hb : r2.box = none) : OffP F id th (del rcs id2) := fun e hm => by
 obtain ⟨id', h1, h2, r, t, h3, h4⟩ := hB e hm
 refine ⟨id', h1, h2, r, t, ?_, h4⟩
 rw [look_del]
 ·exact h3
 ·intro q
  subst q
  rw [hr] at h3
  injection h3 with h3
  subst h3
  rw [hb] at h4
  cases h4

def offS (id : Nat) : SV → Bool
 | .ptr i _ => i != id
 | .at i _ => i != id
 | .slc i _ _ _ => i != id
 | .clo _ caps => !caps.contains id
 | _ => true
def offA (id : Nat) : AV → Bool
 | .one v => offS id v
 | .tup l => l.all (offS id)
theorem offS_is {Γ : HF} {rcs : List (Nat × RC)} {id : Nat} {v : SV} {u : Value} (hk : offS id v = true) (hi : v.is Γ rcs u) : v.is Γ (del rcs id) u := by
 cases v with
 | ptr i p => obtain ⟨r, q, hr, x⟩ := hi; exact ⟨r, q, by rw [look_del _ (by simpa [offS] using hk)]; exact hr, x⟩
 | «at» i p => obtain ⟨r, q, hr, x⟩ := hi; exact ⟨r, q, by rw [look_del _ (by simpa [offS] using hk)]; exact hr, x⟩
 | slc i p off len => obtain ⟨r, t, e, hole, x', z', a, hr, x⟩ := hi; exact ⟨r, t, e, hole, x', z', a, by rw [look_del _ (by simpa [offS] using hk)]; exact hr, x⟩
 | val K x => exact hi
 | eptr K x => exact hi
 | nilS => exact hi
 | nilP => exact hi
 | bnd f K x => exact hi
 | clo f caps =>
  obtain ⟨vs, e, hl, hall⟩ := hi
  refine ⟨vs, e, hl, fun j i hj => ?_⟩
  obtain ⟨r, b, t, hr, x⟩ := hall j i hj
  refine ⟨r, b, t, ?_, x⟩
  rw [look_del]
  ·exact hr
  ·intro q
   subst q
   simp only [offS, Bool.not_eq_true', List.contains_eq_mem, decide_eq_false_iff_not] at hk
   exact hk (List.mem_of_getElem? hj)
theorem offA_is {Γ : HF} {rcs : List (Nat × RC)} {id : Nat} {v : AV} {u : Value} (hk : offA id v = true) (hi : v.is Γ rcs u) : v.is Γ (del rcs id) u := by
 cases v with
 | one v => exact offS_is hk hi
 | tup l =>
  obtain ⟨vs, e, hl, hall⟩ := hi
  refine ⟨vs, e, hl, fun i s hs' => ?_⟩
  obtain ⟨u', hu, h'⟩ := hall i s hs'
  exact ⟨u', hu, offS_is (List.all_eq_true.1 hk s (List.mem_of_getElem? hs')) h'⟩

def putAt (P : Program) (t : TypeId) (id : Nat) (p : List Sel) (K2 : Kd) (y : K2.T) (s : St) (k : St → Tr α) : Tr α := match look s.ck id with
 | some c => match mkC K2 c.K p with
  | some m => if m.K1.size = K2.size ∧ varT P t = some (single K2, K2.size) ∧ noUn K2 = true then
    .need m.cond (k ⟨s.tm.filter fun x => keepA id p c.K x.2, updL s.ck id ⟨c.box, m.K', m.c.put c.x y⟩⟩) else .bad
  | none => .bad
 | none => .bad
def stStore (P : Program) (o : Oper) (t : TypeId) (x y : Operand) (s : St) (k : St → Tr α) : Tr α := match o.dst, opo s x, opo s y with
 | none, some (.ptr id p), some (.val K2 v) => putAt P t id p K2 v s k
 | none, some (.ptr id p), some .nilS => match look s.ck id with
  | some c => match sub c.K p with
   | some (.sl true t' e none) => putAt P t id p (.sl true t' e none) [] s k
   | some (.sl false t' e none) => putAt P t id p (.sl false t' e none) [] s k
   | _ => .bad
  | none => .bad
 | none, some (.ptr id p), some (.at id2 []) => if id = id2 then .bad else match look s.ck id2 with
  | some c2 => match c2.box with
   | none => putAt P t id p c2.K c2.x ⟨s.tm.filter fun x => offA id2 x.2, del s.ck id2⟩ k
   | some _ => .bad
  | none => .bad
 | _, _, _ => .bad

theorem put_ok {P : Program} {F : Fr} {s s0 : St} {a : Act} {w : World} {Γ : HF} {rcs rcs0 : List (Nat × RC)} {h h0 hn : HF} (g : Good F s a w Γ rcs h)
  (hh : h = h0.un hn) (dn : HF.dj h0 hn) (st : Star Γ rcs0 h0) (nd : (rcs0.map (·.1)).Nodup) (hck : s0.ck = rcs0.map fun r => (r.1, r.2.ck)) (htm : ∀ x, x ∈ s0.tm → ∃ v, a.tmps[x.1]? = some v ∧ x.2.is Γ rcs0 v)
  {o : Oper} {t : TypeId} {x y : Operand} (ho : o.op = .store t x y) (hd : o.dst = none) {id : Nat} {p : List Sel} {K2 : Kd} {v : K2.T} {zv : K2.Z} {k : St → Tr α} {K : α → Prop} {Q : Exit → Act → World → Prop}
  (hx : (SV.ptr id p).is Γ rcs0 (a.eval x)) (hpl : ∀ r q, look rcs0 id = some r → pl r.K r.x r.z p ((r.box.getD (0, 0)).1, 0) = some q → (r.box = none → thru r.K p = true) → ∃ c t lo hi, w.heap[q.a.1]? = some (.cells c t (lo, hi)) ∧ (∀ o, o < c.size → ¬ (lo ≤ o ∧ o < hi)) ∧ Lie c q.a.2 (q.K.cells q.x q.z))
  (hy : K2.Own Γ v zv hn) (hyv : a.eval y = toV K2 (K2.cells v zv)) (hB : ∀ r, look rcs0 id = some r → OffP F id (thru r.K p) rcs0) (hsubL : ∀ n r, look rcs0 n = some r → look rcs n = some r) (hs : (putAt P t id p K2 v s0 k).sat K) :
  o.wp P a w (fun a' w' => ∃ s', R F s' a' w' ∧ (k s').sat K) Q := by
 unfold putAt at hs
 split at hs
 ·rename_i c hc
  split at hs
  ·rename_i m hm
   split at hs
   ·rename_i hcond
    obtain ⟨hsz, hvt, hnu⟩ := hcond
    obtain ⟨hmc, hk⟩ := hs
    obtain ⟨r, q, hr, hp, hb, hv⟩ := hx
    have hcr : c = r.ck := by
     rw [hck] at hc
     have : ∀ (l : List (Nat × RC)), look (l.map fun r => (r.1, r.2.ck)) id = (look l id).map RC.ck := by
      intro l
      induction l with
      | nil => rfl
      | cons x l ih => simp only [List.map_cons, look]; split <;> first | rfl | exact ih
     rw [this, hr] at hc
     simpa using hc.symm
    subst hcr
    have hm' : mkC K2 r.K p = some m := hm
    obtain ⟨cc, tt, lo, hi, hw, hnf, hlie⟩ := hpl r q hr hp hb
    obtain ⟨hw1, hval, hloc, hKq⟩ := mkC_spec p hm' r.x r.z _ q hp hmc
    have hqs : q.K.size = K2.size := by
     rw [← hsz, hKq]
    have hth : w.there q.a.1 q.a.2 (K2.cells v zv).length := by
     intro j hj
     rw [cells_length, ← hqs, ← cells_length q.K q.x q.z] at hj
     have h1 := hlie j hj
     rw [cell_at hw, h1, List.getElem?_eq_getElem hj]
     refine ⟨rfl, ?_⟩
     have hlt : q.a.2 + j < cc.size := by
      rcases Nat.lt_or_ge (q.a.2 + j) cc.size with z | z
      ·exact z
      ·rw [Array.getElem?_eq_none z, List.getElem?_eq_getElem hj] at h1; cases h1
     have := hnf _ hlt
     simp only [World.frozen?, hw]
     simpa using this
    have hrun := run_storeT (P := P) (w := w) (b := q.a.1) (o := q.a.2) (v := a.eval y) hvt (cells_length _ _ _) (by rw [hyv]; exact toV_cells K2 v zv hnu) hth (cells_one K2 v zv hnu)
    have hR := g.write (p := p) (q := q) (m := m) (y := v) (zy := zv) (tm := s0.tm.filter fun x => keepA id p r.K x.2) hh dn st nd hr hp hb hm' hmc hsz hy (fun t av hmem => by
     obtain ⟨h1, h2⟩ := List.mem_filter.1 hmem
     exact ⟨h2, htm _ h1⟩) (hB r hr) hsubL
    unfold Oper.wp
    simp only [execOp, ho, hv]
    have hsem : (do Instr.storeAt t (.pointer (some ⟨q.a.1, q.a.2, none⟩)) (a.eval y); pure Next.skip : Sem Next).run P w = .ok .skip (w.setCells q.a.1 q.a.2 (K2.cells v zv)) := by
     simp [hrun]
    rw [hsem, Oper.upon_skip, hd]
    refine ⟨_, hR, ?_⟩
    rw [← hck]
    exact hk
   ·exact hs.elim
  ·exact hs.elim
 ·exact hs.elim

theorem stStore_ok {P : Program} {F : Fr} {o : Oper} {t : TypeId} {x y : Operand} {s : St} {k : St → Tr α} (ho : o.op = .store t x y) : WorldOK P F o s (stStore P o t x y s k) k ⟨false, wrId s x⟩ := by
 unfold stStore
 split
 ·rename_i id p K2 v hd hx hy
  intro K a w Γ rcs h Q g he hs
  have hBo := offP_of g hx (off_of g he)
  obtain ⟨hf, zv, how, hyv⟩ := g.opoIs hy
  exact put_ok g (HF.un_emp h).symm (HF.dj_emp h) g.star g.nodup g.ck.symm (fun x hx => g.tm x.1 x.2 hx) ho hd (g.opoIs hx) (fun r q hr hp hb => g.place hr hp hb) how hyv hBo (fun _ _ e => e) hs
 ·rename_i id p hd hx hy
  split
  ·rename_i c hc
   split
   ·rename_i t' e hsub
    intro K a w Γ rcs h Q g he hs
    have hBo := offP_of g hx (off_of g he)
    have hyv : a.eval y = .slice none 0 0 := g.opoIs hy
    exact put_ok (K2 := .sl true t' e none) (v := []) (zv := (none, fun _ => e.zd)) g (HF.un_emp h).symm (HF.dj_emp h) g.star g.nodup g.ck.symm (fun x hx => g.tm x.1 x.2 hx) ho hd (g.opoIs hx) (fun r q hr hp hb => g.place hr hp hb) ⟨rfl, rfl⟩ hyv hBo (fun _ _ e => e) hs
   ·rename_i t' e hsub
    intro K a w Γ rcs h Q g he hs
    have hBo := offP_of g hx (off_of g he)
    have hyv : a.eval y = .slice none 0 0 := g.opoIs hy
    exact put_ok (K2 := .sl false t' e none) (v := []) (zv := (none, fun _ => e.zd)) g (HF.un_emp h).symm (HF.dj_emp h) g.star g.nodup g.ck.symm (fun x hx => g.tm x.1 x.2 hx) ho hd (g.opoIs hx) (fun r q hr hp hb => g.place hr hp hb) ⟨rfl, rfl⟩ hyv hBo (fun _ _ e => e) hs
   ·exact world_bad
  ·exact world_bad
 ·rename_i id p id2 hd hx hy
  split
  ·exact world_bad
  ·rename_i hne
   split
   ·rename_i c2 hc2
    split
    ·rename_i hbox
     intro K a w Γ rcs h Q g he hs
     have hBo := offP_of g hx (off_of g he)
     obtain ⟨r2, q2, hr2, hp2, hyv⟩ := g.opoIs hy
     obtain rfl := g.same hc2 hr2
     simp only [pl, Option.some.injEq] at hp2
     subst hp2
     have hb2 : r2.box = none := by
      cases hb : r2.box with
      | none => rfl
      | some bt => simp [RC.ck, hb] at hbox
     obtain ⟨h1, hr', d1, hh, o1, _, dl⟩ := star_upd g.star hr2 g.nodup
     have o2 : r2.K.Own Γ r2.x r2.z h1 := by simpa [RC.Own, hb2] using o1
     have hxi := offS_is (id := id2) (by simp [offS, hne]) (g.opoIs hx)
     have nd' : ((del rcs id2).map (·.1)).Nodup := by
      refine List.Nodup.sublist ?_ g.nodup
      exact List.Sublist.map _ (List.filter_sublist)
     refine put_ok (h0 := hr') (hn := h1) (rcs0 := del rcs id2) (s0 := ⟨s.tm.filter fun x => offA id2 x.2, del s.ck id2⟩) g (by rw [hh, HF.un_comm d1]) d1.symm dl nd' ?_ ?_ ho hd hxi ?_ o2 hyv (fun r hr => offP_del (hBo r (del_look rcs id2 id r hr)) hr2 hb2) (del_look rcs id2) hs
     ·show del s.ck id2 = _
      rw [← g.ck]
      simp only [del, List.filter_map]
      rfl
     ·intro x hx
      obtain ⟨e1, e2⟩ := List.mem_filter.1 hx
      obtain ⟨v, hv, hi⟩ := g.tm x.1 x.2 e1
      exact ⟨v, hv, offA_is e2 hi⟩
     ·intro r q hr hp hb
      by_cases hid : id = id2
      ·exact absurd hid hne
      ·rw [look_del _ hid] at hr
       exact g.place hr hp hb
    ·exact world_bad
   ·exact world_bad
 ·exact world_bad
theorem setCell_same {w : World} {b o : Nat} {v : Value} (h : w.cell? ⟨b, o, none⟩ = some v) : w.setCell ⟨b, o, none⟩ v = w := by
 unfold World.setCell
 have : w.heap.modify b (fun
   | .cells c elem frozen => .cells (if (none : Option Nat).isSome then c else c.setIfInBounds o v) elem frozen
   | o => o) = w.heap := by
  refine Array.ext (by simp) fun i h1 h2 => ?_
  rw [Array.getElem_modify]
  split
  ·rename_i hi
   subst hi
   unfold World.cell? at h
   simp only [Array.getElem?_eq_getElem h2] at h
   split
   ·rename_i c elem fr hc
    rw [hc] at h
    have h' : c[o]? = some v := by simpa using h
    simp only [Option.isSome_none, Bool.false_eq_true, if_false]
    obtain ⟨hlt, hv⟩ := Array.getElem?_eq_some_iff.1 h'
    subst hv
    rw [hc]
    congr 1
    refine Array.ext (by simp) fun j h3 h4 => ?_
    rw [Array.getElem_setIfInBounds]
    split
    ·rename_i e; subst e; rfl
    ·rfl
   ·rfl
  ·rfl
 exact congrArg (fun q => { w with heap := q }) this
theorem setCells_back {w : World} {b : Nat} : ∀ {cs : List Value} {o : Nat}, w.rangeAt b o cs → w.setCells b o cs = w
 | [], o, _ => rfl
 | v :: cs, o, h => by
  have h0 := h 0 v rfl
  rw [Nat.add_zero] at h0
  rw [World.setCells, setCell_same h0]
  exact setCells_back fun j u hu => by
   have := h (j + 1) u (by simpa using hu)
   rwa [show o + (j + 1) = o + 1 + j by omega] at this
def selfId (s : St) (x y : Operand) : Option Nat := match opo s x, opo s y with
 | some (.ptr id []), some (.at id2 []) => if id = id2 then some id else none
 | _, _ => none
theorem selfId_ok {s : St} {x y : Operand} {id : Nat} (h : selfId s x y = some id) : opo s x = some (.ptr id []) ∧ opo s y = some (.at id []) := by
 unfold selfId at h
 split at h
 ·rename_i i i2 h1 h2
  split at h
  ·rename_i e
   injection h with h
   subst h
   subst e
   exact ⟨h1, h2⟩
  ·cases h
 ·cases h
def stSelf (P : Program) (o : Oper) (t : TypeId) (id : Nat) (s : St) (k : St → Tr α) : Tr α := match look s.ck id with
 | some c => if varT P t = some (single c.K, c.K.size) ∧ noUn c.K = true ∧ o.dst = none then k s else .bad
 | none => .bad
theorem stSelf_ok {P : Program} {F : Fr} {o : Oper} {t : TypeId} {x y : Operand} {s : St} {k : St → Tr α} {id : Nat} {e : Eff} (ho : o.op = .store t x y) (hi : selfId s x y = some id) : WorldOK P F o s (stSelf P o t id s k) k e := by
 unfold stSelf
 split
 ·rename_i c hc
  split
  ·rename_i hcond
   obtain ⟨hvt, hnu, hd⟩ := hcond
   obtain ⟨hx, hy⟩ := selfId_ok hi
   intro K a w Γ rcs h Q g _ hk
   obtain ⟨r, q, hr, hp, hb, hv⟩ := g.opoIs hx
   obtain ⟨r2, q2, hr2, hp2, hyv⟩ := g.opoIs hy
   rw [hr] at hr2
   injection hr2 with hr2
   subst hr2
   rw [hp] at hp2
   injection hp2 with hp2
   subst hp2
   obtain rfl := g.same hc hr
   obtain ⟨cc, tt, lo, hi', hw, hnf, hlie⟩ := g.place hr hp hb
   simp only [pl, Option.some.injEq] at hp
   subst hp
   have hra := range_of hw hlie
   have hth : w.there ((r.box.getD (0, 0)).1) 0 (r.K.cells r.x r.z).length := by
    intro j hj
    have h1 := hlie j hj
    rw [cell_at hw, h1, List.getElem?_eq_getElem hj]
    refine ⟨rfl, ?_⟩
    have hlt : 0 + j < cc.size := by
     rcases Nat.lt_or_ge (0 + j) cc.size with z | z
     ·exact z
     ·rw [Array.getElem?_eq_none z, List.getElem?_eq_getElem hj] at h1; cases h1
    have := hnf _ hlt
    simp only [World.frozen?, hw]
    simpa using this
   have e2 : w.setCells (r.box.getD (0, 0)).1 0 (r.K.cells r.x r.z) = w := setCells_back hra
   have hrun : (Instr.storeAt t (.pointer (some ⟨(r.box.getD (0, 0)).1, 0, none⟩)) (a.eval y)).run P w = .ok () (w.setCells (r.box.getD (0, 0)).1 0 (r.K.cells r.x r.z)) := run_storeT (P := P) (w := w) (b := (r.box.getD (0, 0)).1) (o := 0) (v := a.eval y) hvt (cells_length _ _ _) (by rw [hyv]; exact toV_cells r.K r.x r.z hnu) hth (cells_one r.K r.x r.z hnu)
   rw [e2] at hrun
   unfold Oper.wp
   simp only [execOp, ho, hv]
   have hsem : (do Instr.storeAt t (.pointer (some ⟨(r.box.getD (0, 0)).1, 0, none⟩)) (a.eval y); pure Next.skip : Sem Next).run P w = .ok .skip w := by
    simp [hrun]
   rw [hsem, Oper.upon_skip, hd]
   exact ⟨s, ⟨Γ, rcs, h, g⟩, hk⟩
  ·exact world_bad
 ·exact world_bad
end Go.Proofs.YtibammoednhnoaaE

