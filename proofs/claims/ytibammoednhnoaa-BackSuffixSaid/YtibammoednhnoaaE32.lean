/- The engine, part 32: a call keeps the frame. Conditions: none. -/
import Derived.Test.YtibammoednhnoaaE31
set_option linter.unusedVariables false
set_option linter.unusedSimpArgs false
namespace Go.Proofs.YtibammoednhnoaaE
open Kd
variable {α : Type}

theorem pack_is {Γ : HF} {RF : List (Nat × RC)} {l : List SV} {vs : List Value} (hlen : l.length = vs.length) (h : ∀ (i : Nat) (s : SV), l[i]? = some s → ∃ u, vs[i]? = some u ∧ s.is Γ RF u) : (packA l).is Γ RF (packV vs) := by
 match l, vs, hlen, h with
 | [s], [u], _, h =>
  obtain ⟨u', h1, h2⟩ := h 0 s rfl
  simp only [List.getElem?_cons_zero, Option.some.injEq] at h1
  subst h1
  exact h2
 | [], [], _, h => exact ⟨[], rfl, rfl, fun i s hi => by simp at hi⟩
 | s :: s2 :: l, u :: u2 :: vs, hl, h => exact ⟨u :: u2 :: vs, rfl, by simpa using hl.symm, h⟩
theorem ids_is {Γ : HF} {rcs RF : List (Nat × RC)} {keys : List Nat} {av : AV} {v : Value} (hk : ∀ c ∈ keys, offA c av = true) (hi : av.is Γ rcs v) (h : ∀ id r, id ∉ keys → look rcs id = some r → look RF id = some r) : av.is Γ RF v := by
 have one : ∀ {s : SV} {u : Value}, (∀ c ∈ keys, offS c s = true) → s.is Γ rcs u → s.is Γ RF u := by
  intro s u hk hi
  cases s with
  | val K x => exact hi
  | eptr K x => exact hi
  | nilS => exact hi
  | nilP => exact hi
  | bnd f K x => exact hi
  | ptr i p =>
   obtain ⟨r, q, hr, x⟩ := hi
   exact ⟨r, q, h i r (fun hm => by have := hk i hm; simp [offS] at this) hr, x⟩
  | «at» i p =>
   obtain ⟨r, q, hr, x⟩ := hi
   exact ⟨r, q, h i r (fun hm => by have := hk i hm; simp [offS] at this) hr, x⟩
  | slc i p off len =>
   obtain ⟨r, t, e, hole, x', z', a, hr, x⟩ := hi
   exact ⟨r, t, e, hole, x', z', a, h i r (fun hm => by have := hk i hm; simp [offS] at this) hr, x⟩
  | clo f caps =>
   obtain ⟨vs, e, hl, hall⟩ := hi
   refine ⟨vs, e, hl, fun j id hj => ?_⟩
   obtain ⟨r, b, t, hr, x⟩ := hall j id hj
   refine ⟨r, b, t, h id r (fun hm => ?_) hr, x⟩
   have := hk id hm
   simp only [offS, Bool.not_eq_true', List.contains_eq_mem, decide_eq_false_iff_not] at this
   exact this (List.mem_of_getElem? hj)
 cases av with
 | one s => exact one hk hi
 | tup l =>
  obtain ⟨vs, e, hl, hall⟩ := hi
  refine ⟨vs, e, hl, fun i s hs => ?_⟩
  obtain ⟨u, hu, h'⟩ := hall i s hs
  exact ⟨u, hu, one (fun c hc => List.all_eq_true.1 (hk c hc) s (List.mem_of_getElem? hs)) h'⟩
theorem ars_is {a : Act} {Γ : HF} {rcs : List (Nat × RC)} {us : List Value} {ids : List Nat} (hul : us.length = ids.length) (hall : ∀ (i id : Nat), ids[i]? = some id → ∃ r b t, look rcs id = some r ∧ r.box = some (b, t) ∧ us[i]? = some (.pointer (some ⟨b, 0, none⟩))) (xs : List Operand) :
  ArIs a rcs (xs.map .op ++ ids.map .cap) (xs.map a.eval ++ us) := by
 induction xs with
 | cons x xs ih => exact ⟨_, rfl, ih⟩
 | nil =>
  simp only [List.map_nil, List.nil_append]
  induction ids generalizing us with
  | nil =>
   have : us = [] := List.eq_nil_of_length_eq_zero hul
   exact this
  | cons id ids ih =>
   obtain ⟨r, b, t, h1, h2, h3⟩ := hall 0 id rfl
   cases us with
   | nil => cases hul
   | cons u us =>
    simp only [List.getElem?_cons_zero, Option.some.injEq] at h3
    subst h3
    exact ⟨us, r, b, t, rfl, h1, h2, ih (by simpa using hul) fun i id' hi => by
     obtain ⟨r', b', t', q1, q2, q3⟩ := hall (i + 1) id' (by simpa using hi)
     exact ⟨r', b', t', q1, q2, by simpa using q3⟩⟩
theorem run_call {P : Program} {o : Oper} {c : Call} {x : Operand} {a : Act} {f : Nat} {fs us : List Value} (ho : o.op = .call c) (hc : c.callee = .value x) (hv : a.eval x = .func (.func f) fs.toArray us.toArray) (hf : Callable P f) (w : World) :
  (execOp a.eval o).run P w = .ok (.enter f (fs.toArray ++ c.args.map a.eval ++ us.toArray)) w := by
 simp [execOp, ho, resolve, hc, hv, Deferred.ofValue, invoke, Sem.run_bind, run_callFunc hf]
theorem call_end {F : Fr} {s : St} {a : Act} {w : World} {Γ : HF} {rcs : List (Nat × RC)} {h : HF} (g : Good F s a w Γ rcs h) {sp : Spec} {xs : AT sp.ps} {g' : Got} {rcs' : List (Nat × RC)} {h' hL : HF} {Rl : List (Nat × RC)} {vals : List Value}
  (A : ArgsOK F a Γ rcs rcs h 0 sp.ps vals ⟨s, [], [], [], []⟩ g' xs rcs' h' hL Rl) {r : RT sp.rs × OT sp.ps} {v : Value} {w' : World} {Γc Γ' Γn hN : HF} {vs : List Value} {lR lO : List (Nat × RC)}
  (AF : After Γc hL w Rl sp r v w' Γ' hN vs lR lO) (n1 : ∀ b v, Γ b = some v → Γn b = some v) (n2 : ∀ b v, Γn b = some v → Γ' b = some v) (n3 : HF.dj Γn h') (n4 : ∀ b, Γn.has b → Γ.has b ∨ hL.has b ∨ w.heap.size ≤ b)
  (n5 : Star Γn (lR ++ lO) hN) (n6 : ResIs Γn sp.rs r.1 vs lR) {d : Nat} (hd : d < F.n.n) (hB : ∀ e ∈ F.B, (e.id = none → hL = HF.emp) ∧ ∀ id, e.id = some id → id ∉ g'.tk ∧ id ∉ rids d sp.rs.length)
  {k : St → Tr α} {Kp : α → Prop} {l : List SV} {rcl : List (Nat × RC)} (hk : (callK sp s d g' r k l (rcl.map fun y => (y.1, y.2.ck))).sat Kp) (hsl : (rcl.map (·.2)).Sublist (lR.map (·.2))) (hlen : l.length = vs.length)
  (hres : ∀ RF, (∀ y ∈ rcl, look RF y.1 = some y.2) → ∀ (i : Nat) (s : SV), l[i]? = some s → ∃ u, vs[i]? = some u ∧ s.is Γn RF u) : ∃ s', R F s' (a.put (some d) v) w' ∧ (k s').sat Kp := by
 unfold callK at hk
 split at hk
 ·rename_i hc
  simp only [Bool.and_eq_true] at hc
  obtain ⟨⟨⟨hnd, hrid⟩, hnl⟩, hbi⟩ := hc
  have ndl := nodupB_ok hnl
  have hkeys : (rcl.map fun y => (y.1, y.2.ck)).map (·.1) = rcl.map (·.1) := by rw [List.map_map]; rfl
  obtain ⟨bk1, bk2⟩ := back_ok (l := g'.l) sp.ps 0 xs r.2 lO AF.back (fun j _ => by rw [← A.ck]; exact (look_map Rl j).symm)
  have hfil : ((rcs'.filter fun x => !(rcl.map (·.1)).contains x.1).map fun y => (y.1, y.2.ck)) = g'.s.ck.filter fun x => !((rcl.map fun y => (y.1, y.2.ck)).map (·.1)).contains x.1 := by
   rw [A.u.ck, hkeys, List.filter_map]
   rfl
  have hck : (rcl ++ (lO.map (ren g'.l) ++ rcs'.filter fun x => !(rcl.map (·.1)).contains x.1)).map (fun y => (y.1, y.2.ck)) = (rcl.map fun y => (y.1, y.2.ck)) ++ (backCk g'.l 0 sp.ps r.2 ++ g'.s.ck.filter fun x => !((rcl.map fun y => (y.1, y.2.ck)).map (·.1)).contains x.1) := by
   rw [List.map_append, List.map_append, bk1, hfil]
  have nd := nodupB_ok hnd
  rw [← hck] at nd
  have hmm : ((rcl ++ (lO.map (ren g'.l) ++ rcs'.filter fun x => !(rcl.map (·.1)).contains x.1)).map (fun y => (y.1, y.2.ck))).map (·.1) = (rcl ++ (lO.map (ren g'.l) ++ rcs'.filter fun x => !(rcl.map (·.1)).contains x.1)).map (·.1) := by rw [List.map_map]; rfl
  rw [hmm] at nd
  rw [← hck] at hk
  generalize hRN : rcl ++ (lO.map (ren g'.l) ++ rcs'.filter fun x => !(rcl.map (·.1)).contains x.1) = RN at *
  have mem1 : ∀ y ∈ rcl, look RN y.1 = some y.2 := fun y hy => look_of_mem nd (by rw [← hRN]; exact List.mem_append_left _ hy)
  have mem2 : ∀ y ∈ lO, look RN (ren g'.l y).1 = some y.2 := fun y hy => look_of_mem nd (by rw [← hRN]; exact List.mem_append_right _ (List.mem_append_left _ (List.mem_map.2 ⟨y, hy, rfl⟩)))
  have mem3 : ∀ id r, id ∉ rcl.map (·.1) → look rcs' id = some r → look RN id = some r := fun id r hn hr => look_of_mem nd (by
   rw [← hRN]
   refine List.mem_append_right _ (List.mem_append_right _ (List.mem_filter.2 ⟨look_mem hr, ?_⟩))
   simpa using hn)
  have memX : ∀ n rc, look RN n = some rc → (n ∈ rcl.map (·.1)) ∨ (∃ y ∈ lO, n = (look g'.l y.1).getD 0 ∧ rc = y.2) ∨ look rcs' n = some rc := by
   intro n rc hn
   have hm := look_mem hn
   rw [← hRN] at hm
   rcases List.mem_append.1 hm with e | e
   ·exact .inl (List.mem_map.2 ⟨_, e, rfl⟩)
   ·rcases List.mem_append.1 e with e | e
    ·obtain ⟨y, hy, he⟩ := List.mem_map.1 e
     injection he with e1 e2
     exact .inr (.inl ⟨y, hy, e1.symm, e2.symm⟩)
    ·exact .inr (.inr (look_of_mem A.u.nd (List.mem_filter.1 e).1))
  have hridK : ∀ n ∈ rcl.map (·.1), n ∈ rids d sp.rs.length := by
   intro n hn
   obtain ⟨y, hy, rfl⟩ := List.mem_map.1 hn
   have := List.all_eq_true.1 hrid _ (List.mem_map.2 ⟨y, hy, rfl⟩)
   simpa using this
  have hrid6 : ∀ n ∈ rids d sp.rs.length, 1000000 ≤ n := by
   intro n hn
   obtain ⟨j, _, rfl⟩ := List.mem_map.1 hn
   unfold rid
   omega
  -- what comes back
  have lentR : ∀ id, id ∈ g'.l.map (·.2) → ∃ r0 n r', look rcs id = some r0 ∧ look Rl n = some r0 ∧ look RN id = some r' ∧ r'.head = r0.head ∧ r'.K = r0.K ∧ r'.box.isSome = r0.box.isSome := by
   intro id hid
   obtain ⟨⟨n, id'⟩, hm, rfl⟩ := List.mem_map.1 hid
   rcases A.lent _ hm with e | ⟨⟨r0, e1, e2⟩, e3⟩
   ·cases e
   ·obtain ⟨r', q1, q2, q3, q4⟩ := bk2 n r0 e1 (Nat.zero_le _) e3
    have hln : look g'.l n = some id' := look_of_mem ndl hm
    have := mem2 _ q1
    simp only [ren, hln, Option.getD_some] at this
    exact ⟨r0, n, r', e2, e1, this, q2, q3, q4⟩
  have boxR : ∀ {r0 r' : RC} {b : Nat} {t : TypeId}, r'.head = r0.head → r'.box.isSome = r0.box.isSome → r0.box = some (b, t) → ∃ t', r'.box = some (b, t') := by
   intro r0 r' b t e1 e2 e3
   rw [e3] at e2
   obtain ⟨⟨b', t'⟩, e4⟩ := Option.isSome_iff_exists.1 (show r'.box.isSome = true from e2)
   simp only [RC.head, e3, e4] at e1
   injection e1 with e1
   injection e1 with e1
   injection e1 with e1
   subst e1
   exact ⟨t', e4⟩
  have restG : ∀ id r, look rcs' id = some r → look rcs id = some r := A.subL
  -- fragments
  have stR : ∃ hN', Star Γn (rcl ++ lO.map (ren g'.l)) hN' ∧ ∀ b v, hN' b = some v → hN b = some v := by
   refine star_some ?_ n5
   rw [List.map_append, List.map_append]
   refine List.Sublist.append hsl ?_
   rw [List.map_map]
   exact List.Sublist.refl _
  obtain ⟨hN', stN, subN⟩ := stR
  obtain ⟨hr, stH, subH⟩ : ∃ hr, Star Γn (rcs'.filter fun x => !(rcl.map (·.1)).contains x.1) hr ∧ ∀ b v, hr b = some v → h' b = some v :=
   star_some (List.Sublist.map _ List.filter_sublist) (star_mono n1 A.u.st)
  have hL_h : ∀ b v, hL b = some v → h b = some v := fun b v e => A.sub b v (un_left e)
  have h'_h : ∀ b v, h' b = some v → h b = some v := fun b v e => A.sub b v (un_right A.dj e)
  have hlt : ∀ b, h'.has b → b < w.heap.size := fun b hb => g.mem.lt (has_sub h'_h b hb)
  have dN : HF.dj hN' hr := HF.dj_iff.2 fun b hb hx => by
   have hb' := has_sub subH b hx
   rcases AF.own b (has_sub subN b hb) with e | e
   ·exact HF.dj_iff.1 A.dj b e hb'
   ·have := hlt b hb'; omega
  have same : ∀ b, h'.has b → w'.heap[b]? = w.heap[b]? := fun b hb => AF.keep b (hlt b hb) fun e => HF.dj_iff.1 A.dj b e hb
  have memr : Mem hr w' := by
   intro b x e
   have hb : h'.has b := has_sub subH b (by unfold HF.has; rw [e]; simp)
   exact (g.mem b x (h'_h b _ (subH b _ e))).same (same b hb)
  have hnew : ∀ b, (hN'.un hr).has b → h.has b ∨ w.heap.size ≤ b := by
   intro b hb
   rcases HF.has_un.1 hb with e | e
   ·rcases AF.own b (has_sub subN b e) with q | q
    ·exact .inl (has_sub hL_h b q)
    ·exact .inr q
   ·exact .inl (has_sub h'_h b (has_sub subH b e))
  refine ⟨_, ⟨Γn, RN, hN'.un hr, ?_⟩, hk⟩
  refine ⟨rfl, nd, ?_, (Mem.un dN).2 ⟨AF.mem.mono subN, memr⟩, fun b x e => AF.memR b x (n2 b _ e), ?_, g.defers, by simp [Act.put, g.tsz], ?_, Nat.le_trans g.size AF.size, ?_, ?_, ?_, fun b x e => n1 b x (g.ro0 b x e), AF.os.trans g.os, AF.tape.trans g.tape, AF.output.trans g.output, (fun x hx => n1 x.1 _ (g.sg x hx)), ?_, ?_⟩
  ·rw [← hRN, ← List.append_assoc]
   exact star_append stN stH dN
  ·refine HF.dj_un.2 ⟨?_, ?_⟩
   ·exact HF.dj_iff.2 fun b hb hx => HF.dj_iff.1 AF.dj b (has_sub n2 b hb) (has_sub subN b hx)
   ·exact HF.dj_iff.2 fun b hb hx => HF.dj_iff.1 n3 b hb (has_sub subH b hx)
  ·intro t av hm
   rcases List.mem_cons.1 hm with e | e
   ·injection e with e1 e2
    subst e1; subst e2
    refine ⟨v, by simp [Act.put, g.tsz, hd], ?_⟩
    rw [AF.v]
    exact pack_is hlen (hres RN mem1)
   ·rcases List.mem_append.1 e with e | e
    ·obtain ⟨e1, e2⟩ := List.mem_filter.1 e
     simp only [Bool.and_eq_true, bne_iff_ne, ne_eq] at e2
     obtain ⟨e2, e3⟩ := e2
     obtain ⟨u, hu, hi⟩ := g.tm t av e1
     refine ⟨u, by simp only [Act.put]; rw [Array.getElem?_setIfInBounds_ne (Ne.symm e2)]; exact hu, ?_⟩
     cases av with
     | tup l => cases e3
     | one sv =>
      cases sv with
      | ptr id p =>
       simp only [keepV, Bool.and_eq_true, List.contains_eq_mem, decide_eq_true_eq] at e3
       obtain ⟨e4, e5⟩ := e3
       obtain ⟨r1, q, hr1, hp, hb, hv⟩ := hi
       obtain ⟨r0, n, r', f1, f2, f3, f4, f5, f6⟩ := lentR id e4
       rw [hr1] at f1
       injection f1 with f1
       subst f1
       have hcc : look s.ck id = some r1.ck := by rw [g.chunk id, hr1]; rfl
       rw [hcc] at e5
       simp only [Bool.and_eq_true, RC.ck, Option.isSome_map] at e5
       obtain ⟨e5, e6⟩ := e5
       obtain ⟨off, hoff⟩ := Option.isSome_iff_exists.1 e5
       obtain ⟨⟨b, t1⟩, hbx⟩ := Option.isSome_iff_exists.1 e6
       obtain ⟨t', hbx'⟩ := boxR f4 f6 hbx
       obtain ⟨q1, g1, g2⟩ := offOf_pl p r1.x r1.z ((r1.box.getD (0, 0)).1, 0) off hoff
       rw [hp] at g1
       injection g1 with g1
       subst g1
       obtain ⟨q2, g3, g4⟩ := offOf_pl p (K := r'.K) r'.x r'.z ((r'.box.getD (0, 0)).1, 0) off (by rw [f5]; exact hoff)
       refine ⟨r', q2, f3, g3, fun e => (by rw [hbx'] at e; cases e), ?_⟩
       rw [hv, g2, g4, hbx, hbx']
       rfl
      | «at» id p =>
       cases p with
       | cons _ _ => cases e3
       | nil =>
        simp only [keepV, Bool.and_eq_true, List.contains_eq_mem, decide_eq_true_eq] at e3
        obtain ⟨e4, e5⟩ := e3
        obtain ⟨r1, q, hr1, hp, hv⟩ := hi
        obtain ⟨r0, n, r', f1, f2, f3, f4, f5, f6⟩ := lentR id e4
        rw [hr1] at f1
        injection f1 with f1
        subst f1
        have hcc : look s.ck id = some r1.ck := by rw [g.chunk id, hr1]; rfl
        rw [hcc] at e5
        simp only [RC.ck, Option.isNone_map, Option.isNone_iff_eq_none] at e5
        rw [e5] at f6
        have hb' : r'.box = none := by cases hq : r'.box with
         | none => rfl
         | some x => rw [hq] at f6; cases f6
        simp only [pl, Option.some.injEq] at hp
        subst hp
        simp only [RC.head, e5, hb'] at f4
        exact ⟨r', ⟨r'.K, r'.x, r'.z, ((r'.box.getD (0, 0)).1, 0)⟩, f3, by simp [pl], hv.trans f4.symm⟩
      | clo f ids =>
       simp only [keepV, List.all_eq_true, Bool.and_eq_true, List.contains_eq_mem, decide_eq_true_eq] at e3
       obtain ⟨us, hv, hul, hall⟩ := hi
       refine ⟨us, hv, hul, fun j id hj => ?_⟩
       obtain ⟨r1, b, t1, hr1, hbx, hvv⟩ := hall j id hj
       obtain ⟨e4, e5⟩ := e3 id (List.mem_of_getElem? hj)
       obtain ⟨r0, n, r', f1, f2, f3, f4, f5, f6⟩ := lentR id e4
       rw [hr1] at f1
       injection f1 with f1
       subst f1
       obtain ⟨t', hbx'⟩ := boxR f4 f6 hbx
       exact ⟨r', b, t', f3, hbx', hvv⟩
      | _ => cases e3
    ·obtain ⟨e1, e2⟩ := List.mem_filter.1 e
     simp only [Bool.and_eq_true, bne_iff_ne, ne_eq, List.all_eq_true] at e2
     obtain ⟨e2, e3⟩ := e2
     obtain ⟨u, hu, hi⟩ := A.u.tm (t, av) e1
     refine ⟨u, by simp only [Act.put]; rw [Array.getElem?_setIfInBounds_ne (Ne.symm e2)]; exact hu, ?_⟩
     refine AV.is_mono n1 (ids_is (keys := rcl.map (·.1)) (fun c hc => ?_) hi mem3)
     obtain ⟨y, hy, rfl⟩ := List.mem_map.1 hc
     exact e3 _ (List.mem_map.2 ⟨y, hy, rfl⟩)
  ·intro b hb1 hb2
   have : ¬ hL.has b := fun e => by
    rcases g.own b (has_sub hL_h b e) with q | q
    ·exact hb2 q
    ·omega
   rw [AF.keep b (Nat.lt_of_lt_of_le hb1 g.size) this]
   exact g.keep b hb1 hb2
  ·intro b hb
   rcases hnew b hb with e | e
   ·exact g.own b e
   ·exact .inr (Nat.le_trans g.size e)
  ·intro b hb
   rcases n4 b hb with e | e | e
   ·exact g.ro b e
   ·exact .inr (g.own b (has_sub hL_h b e))
   ·exact .inr (.inr (Nat.le_trans g.size e))
  ·intro e he
   obtain ⟨b1, b2⟩ := hB e he
   obtain ⟨⟨c1, c2⟩, c3⟩ := g.bx e he
   cases hid : e.id with
   | none =>
    have hemp := b1 hid
    refine ⟨⟨?_, Nat.lt_of_lt_of_le c2 AF.size⟩, fun id hid' => by rw [hid] at hid'; cases hid'⟩
    rw [AF.keep e.b c2 (by rw [hemp]; simp [HF.has, HF.emp])]
    exact c1
   | some id =>
    obtain ⟨b3, b4⟩ := b2 id hid
    obtain ⟨r1, t1, q1, q2⟩ := c3 id hid
    have q3 : look rcs' id = some r1 := by rw [A.taken id b3]; exact q1
    have q4 := mem3 id r1 (fun hm => b4 (hridK id hm)) q3
    obtain ⟨h3, h4, _, e4, o⟩ := star_take A.u.st q3
    have hbh : h'.has e.b := by rw [e4]; exact HF.has_un.2 (.inl (box_has o q2))
    refine ⟨⟨by rw [same _ hbh]; exact c1, Nat.lt_of_lt_of_le c2 AF.size⟩, fun id' hid' => ?_⟩
    rw [hid] at hid'
    injection hid' with hid'
    subst hid'
    exact ⟨r1, t1, q4, q2⟩
  ·intro m hm r1 hr1
   have hm6 := (F.hM m hm).2
   rcases memX _ _ hr1 with e | ⟨y, hy, e1, e2⟩ | e
   ·have := hrid6 _ (hridK _ e); omega
   ·obtain ⟨i1, r0, i2, i3⟩ := back_idx sp.ps 0 r.2 lO AF.back y hy
    obtain ⟨id, hid⟩ := Option.isSome_iff_exists.1 (List.all_eq_true.1 hbi _ i1)
    rw [hid, Option.getD_some] at e1
    subst e2
    rcases A.lent _ (look_mem hid) with q | ⟨⟨r2, q1, q2⟩, _⟩
    ·cases q
    ·simp only at q1 q2
     rw [i2] at q1
     injection q1 with q1
     subst q1
     rw [i3]
     exact g.md m hm r0 (by rw [e1]; exact q2)
   ·exact g.md m hm r1 (restG _ _ e)
 ·exact hk.elim

theorem stCall_ok {P : Program} {F : Fr} {cfg : Nat → Option Spec} (hcfg : ∀ f sp, cfg f = some sp → Callable P f ∧ Valid P f sp) {o : Oper} {c : Call} {s : St} {k : St → Tr α} (ho : o.op = .call c) : WorldOK P F o s (stCall cfg F.n o c s k) k (effCall cfg s c o.dst) := by
 unfold stCall
 split
 ·rename_i f ids pre d hcal hd
  split
  ·rename_i sp hsp
   intro Kp a w Γ rcs h Q g he hs
   obtain ⟨hf, hval⟩ := hcfg f sp hsp
   -- the callee
   obtain ⟨x, hcx, fs, us, hv, har⟩ : ∃ x, c.callee = .value x ∧ ∃ fs us : List Value, a.eval x = .func (.func f) fs.toArray us.toArray ∧ ArIs a rcs (ars c ids pre) (fs ++ (c.args.toList.map a.eval ++ us)) := by
    unfold calleeOf at hcal
    split at hcal
    ·rename_i x hx
     split at hcal
     ·rename_i f' ids' hx'
      injection hcal with hcal
      injection hcal with e1 e2
      injection e2 with e2 e3
      subst e1; subst e2; subst e3
      obtain ⟨us, hv, hul, hall⟩ := g.opoIs hx'
      exact ⟨x, hx, [], us, hv, ars_is (a := a) (Γ := Γ) hul hall c.args.toList⟩
     ·rename_i f' K' x' hx'
      injection hcal with hcal
      injection hcal with e1 e2
      injection e2 with e2 e3
      subst e1; subst e2; subst e3
      obtain ⟨hfr, z, hown, hv⟩ := g.opoIs hx'
      exact ⟨x, hx, [toV K' (K'.cells x' z)], [], hv, _, z, rfl, hfr, hown, ars_is (a := a) (Γ := Γ) (us := []) (ids := []) rfl (fun i id h => by simp at h) c.args.toList⟩
     ·cases hcal
    ·cases hcal
   obtain ⟨xs, g', rcs', h', hL, Rl, A, hs1⟩ := argsT_ok (w := w) sp.ps (ars c ids pre) 0 ⟨s, [], [], [], []⟩ rcs h _ g.sub (fun _ _ e => e) har hs
   split at hs1
   ·rename_i hok
    simp only [callOK, Bool.and_eq_true, Bool.or_eq_true, decide_eq_true_eq] at hok
    obtain ⟨⟨⟨⟨ok1, ok2⟩, ok3⟩, ok4⟩, hdn⟩ := hok
    obtain ⟨r, hr, hs2⟩ := hs1
    have dLh := A.dj
    have hL_h : ∀ b v, hL b = some v → h b = some v := fun b v e => A.sub b v (un_left e)
    have h'_h : ∀ b v, h' b = some v → h b = some v := fun b v e => A.sub b v (un_right A.dj e)
    -- what is watched
    have hB : ∀ e ∈ F.B, (e.id = none → hL = HF.emp) ∧ ∀ id, e.id = some id → id ∉ g'.tk ∧ id ∉ rids d sp.rs.length := by
     intro e hm
     have h1 := he e hm
     have heff : effCall cfg s c o.dst = ⟨(argIds s sp.ps (ars c ids pre)).isEmpty, argIds s sp.ps (ars c ids pre) ++ rids d sp.rs.length⟩ := by
      simp only [effCall, hcal, hsp, hd, Option.getD_some]
     refine ⟨fun hid => ?_, fun id hid => ?_⟩
     ·rw [hid] at h1
      simp only at h1
      rw [h1] at ok4
      refine A.none ?_
      rcases ok4 with q | q
      ·have : g'.tk = [] := by simpa using q
       rw [this]
      ·cases q
     ·rw [hid] at h1
      simp only at h1
      refine ⟨fun q => ?_, fun q => ?_⟩
      ·have := List.all_eq_true.1 ok3 id q
       simp only [List.contains_eq_mem, decide_eq_true_eq] at this
       exact h1 this
      ·rw [heff] at h1
       exact h1 (List.mem_append_right _ q)
    have hcs : ∀ x ∈ g'.cs, ∃ r, look Rl x.1 = some r ∧ look rcs x.2 = some r := by
     intro x hx
     have := List.all_eq_true.1 ok1 x hx
     simp only [beq_iff_eq] at this
     rcases A.lent _ (look_mem this) with q | ⟨⟨r, q1, q2⟩, _⟩
     ·cases q
     ·exact ⟨r, q1, q2⟩
    have main : ∀ (Γc : HF), (∀ b v, Γ b = some v → Γc b = some v) → (g'.vw ≠ [] → ∀ b v, h' b = some v → Γc b = some v) → MemR Γc w → HF.dj Γc hL →
      (∀ (Γ' hN : HF) (v : Value) (w' : World) (vs : List Value) (lR lO : List (Nat × RC)), After Γc hL w Rl sp r v w' Γ' hN vs lR lO → ∃ Γn : HF, (∀ b v, Γ b = some v → Γn b = some v) ∧ (∀ b v, Γn b = some v → Γ' b = some v) ∧ HF.dj Γn h' ∧ (∀ b, Γn.has b → Γ.has b ∨ hL.has b ∨ w.heap.size ≤ b) ∧ Star Γn (lR ++ lO) hN ∧ ResIs Γn sp.rs r.1 vs lR) →
      o.wp P a w (fun a' w' => ∃ s', R F s' a' w' ∧ (k s').sat Kp) Q := by
     intro Γc hc1 hc2 hc3 hc4 hc5
     unfold Oper.wp
     rw [run_call ho hcx hv hf, Oper.upon_enter, hd]
     have hentry := A.entry Γc Rl hc1 hc2 (fun _ _ e => e) hcs
     refine (hval xs r hr w Γc hL Rl _ (by simpa using hentry) A.ck (star_mono hc1 A.st) (g.mem.mono hL_h) hc3 hc4).mono ?_
     rintro e w' ⟨v, Γ', hN, vs, lR, lO, rfl, AF⟩
     obtain ⟨Γn, n1, n2, n3, n4, n5, n6⟩ := hc5 Γ' hN v w' vs lR lO AF
     obtain ⟨l, rcl, hk, hsl, hlen, hres⟩ := resSV_ok sp.rs 0 r.1 vs lR n6 hs2
     exact call_end g A AF n1 n2 n3 n4 n5 n6 hdn hB hk hsl hlen hres
    have djh : HF.dj Γ hL := HF.dj_iff.2 fun b hb hx => HF.dj_iff.1 g.dj b hb (has_sub hL_h b hx)
    have djh' : HF.dj Γ h' := HF.dj_iff.2 fun b hb hx => HF.dj_iff.1 g.dj b hb (has_sub h'_h b hx)
    by_cases hvw : g'.vw = []
    ·refine main Γ (fun _ _ e => e) (fun q => absurd hvw q) g.memR djh ?_
     intro Γ' hN v w' vs lR lO AF
     refine ⟨Γ', AF.ro, fun _ _ e => e, ?_, AF.rd, AF.star, AF.res⟩
     refine HF.dj_iff.2 fun b hb hx => ?_
     rcases AF.rd b hb with q | q | q
     ·exact HF.dj_iff.1 djh' b q hx
     ·exact HF.dj_iff.1 A.dj b q hx
     ·have := g.mem.lt (has_sub h'_h b hx); omega
    ·have hsh : sp.ps.all parSh = true ∧ (sp.rs.all fun r => noSh (rsKind r)) = true := by
      rcases ok2 with q | q
      ·exact absurd (by simpa using q) hvw
      ·exact q
     have sh1 : ∀ p ∈ sp.ps, parSh p = true := fun p hp => List.all_eq_true.1 hsh.1 p hp
     have sh2 : ∀ r ∈ sp.rs, noSh (rsKind r) = true := fun r hr => List.all_eq_true.1 hsh.2 r hr
     refine main (Γ.un h') (fun b v e => un_left e) (fun _ b v e => un_right djh' e) ?_ (HF.un_dj.2 ⟨djh, A.dj.symm⟩) ?_
     ·intro b x e
      cases e1 : Γ b with
      | some q =>
       simp only [HF.un, e1, Option.some_or, Option.some.injEq] at e
       subst e
       exact g.memR b _ e1
      | none =>
       simp only [HF.un, e1, Option.none_or] at e
       exact (g.mem b x (h'_h b _ e)).r
     ·intro Γ' hN v w' vs lR lO AF
      refine ⟨Γ'.minus h', fun b v e => ?_, fun b v e => (minus_sub e).1, ?_, fun b hb => ?_, star_indep ?_ AF.star, resIs_indep sh2 AF.res⟩
      ·have h1 := AF.ro b v (un_left e)
       have h2 : h' b = none := by
        rcases djh' b with q | q
        ·rw [q] at e; cases e
        ·exact q
       unfold HF.minus
       rw [h2]
       exact h1
      ·intro b
       cases hb : h' b with
       | none => exact .inr rfl
       | some x => left; unfold HF.minus; rw [hb]
      ·cases e : (Γ'.minus h') b with
       | none => exact absurd e hb
       | some x =>
        obtain ⟨e1, e2⟩ := minus_sub e
        rcases AF.rd b (by unfold HF.has; rw [e1]; simp) with q | q | q
        ·rcases HF.has_un.1 q with q | q
         ·exact .inl q
         ·exact absurd e2 q
        ·exact .inr (.inl q)
        ·exact .inr (.inr q)
      ·intro y hy
       rcases List.mem_append.1 hy with q | q
       ·exact resIs_kinds sh2 AF.res y q
       ·exact back_kinds sh1 AF.back y q
   ·exact hs1.elim
  ·exact world_bad
 ·exact world_bad
end Go.Proofs.YtibammoednhnoaaE

