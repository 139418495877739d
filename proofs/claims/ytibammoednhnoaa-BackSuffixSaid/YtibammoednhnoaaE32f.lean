/- The engine, part 32f: maps: a key's number is set, how many keys, nil. Conditions: none. -/
import Derived.Test.YtibammoednhnoaaE32e
set_option linter.unusedVariables false
set_option linter.unusedSimpArgs false
namespace Go.Proofs.YtibammoednhnoaaE
open Kd
variable {α : Type}

theorem putM_none {key : ByteArray} {v : Int} : ∀ {l : List (ByteArray × Int)}, idxM l key = none → putM l key v = l ++ [(key, v)]
 | [], _ => rfl
 | p :: l, h => by
  unfold idxM at h
  split at h
  ·cases h
  ·rename_i hk
   have h' : idxM l key = none := by simpa using h
   unfold putM
   rw [if_neg hk, putM_none h']
   rfl
theorem putM_some {key : ByteArray} {v : Int} : ∀ {l : List (ByteArray × Int)} {i : Nat} {u : Int}, idxM l key = some (i, u) → i < l.length ∧ putM l key v = l.set i (key, v) ∧ l[i]?.map (·.1) = some key
 | [], i, u, h => by cases h
 | p :: l, i, u, h => by
  unfold idxM at h
  unfold putM
  split at h
  ·rename_i hk
   injection h with h
   injection h with h1 h2
   subst h1
   rw [if_pos hk]
   exact ⟨by simp, by simp [hk], by simp [hk]⟩
  ·rename_i hk
   obtain ⟨q, hq, e⟩ := Option.map_eq_some_iff.1 h
   obtain ⟨j, u'⟩ := q
   injection e with e1 e2
   subst e1
   obtain ⟨g1, g2, g3⟩ := putM_some (v := v) hq
   rw [if_neg hk, g2]
   exact ⟨by simpa using g1, by simp, by simpa using g3⟩
theorem run_update_map {P : Program} {t : TypeId} {k : IntKind} (ht : mapOf? P t = some k) {w : World} {z : Nat} {es : Array MapEntry} {clk : Nat} {l : List (ByteArray × Int)} (hz : w.heap[z]? = some (.map es clk)) (he : EntsP k l es) {key : ByteArray} {v : Int} (hk : key.size ≤ 9223372036854775807) (hv : k.min ≤ v ∧ v ≤ k.max) :
  ∃ es' clk', (Instr.mapUpdate t (.map (some z)) (.string key) (.int k v)).run P w = .ok () (World.setMap w z es' clk') ∧ EntsP k (putM l key v) es' := by
 obtain ⟨kt, et, i, h1, h2, h3, h4, h5⟩ := mapOf_spec ht
 have hf := MapKept.run_findKey (w := w) h2 (find_ents l es.toList 0 he.1 (key := key))
 have hck := MapKept.run_checkKey (P := P) (w := w) h2 (k := .string key) (by simp [MapKept.IsKey]) false 9999
 have hset := fun o => MapKept.run_setObj_map (P := P) (w := w) o hz
 cases hx : idxM l key with
 | none =>
  rw [hx] at hf
  refine ⟨es.push { key := .string key, val := .int k v, born := clk }, clk + 1, ?_, ?_, fun p hp => ?_⟩
  ·unfold Instr.mapUpdate
   simp only [Sem.run_bind, run_underlying h1, Result.andThen_ok, MapKept.run_getObj_map hz, hck, hf, Option.map_none, hset]
   rfl
  ·rw [putM_none hx]
   simp [he.1]
  ·rw [putM_none hx] at hp
   rcases List.mem_append.1 hp with g | g
   ·exact he.2 p g
   ·rw [List.mem_singleton.1 g]
    exact ⟨hk, hv⟩
 | some q =>
  obtain ⟨j, u⟩ := q
  rw [hx] at hf
  obtain ⟨g1, g2, g3⟩ := putM_some (v := v) hx
  have hlen : es.toList.length = l.length := by have := congrArg List.length he.1; simpa using this
  have hkey : ((es[j]?).map (·.key)).getD (.string key) = .string key := by
   have h0 := congrArg (fun L => L[j]?) he.1
   simp only [List.getElem?_map, Array.getElem?_toList] at h0
   cases he2 : es[j]? with
   | none => rfl
   | some e =>
    rw [he2] at h0
    cases hl : l[j]? with
    | none => rw [hl] at h0; simp at h0
    | some p =>
     rw [hl] at h0 g3
     simp only [Option.map_some, Option.some.injEq, Prod.mk.injEq] at h0 g3
     simp [h0.1, g3]
  refine ⟨es.modify j fun e => { e with key := .string key, val := .int k v }, clk, ?_, ?_, fun p hp => ?_⟩
  ·have hstay : (Instr.keyThatStays (.string key) (.string key)).run P w = .ok (.string key) w := by
    unfold Instr.keyThatStays
    have : Instr.sameBits 10000 (.string key) (.string key) = true := by
     show (key == key) = true
     exact (MapKept.bytes_beq _ _).2 rfl
    simp [this]
   unfold Instr.mapUpdate
   simp only [Sem.run_bind, run_underlying h1, Result.andThen_ok, MapKept.run_getObj_map hz, hck, hf, Option.map_some, Nat.zero_add, hkey, hstay, hset]
   rfl
  ·rw [g2]
   have hm : (es.modify j fun e => { e with key := .string key, val := .int k v }).toList = es.toList.modify j fun e => { e with key := .string key, val := .int k v } := Array.toList_modify ..
   rw [hm]
   refine List.ext_getElem? fun n => ?_
   have h0 := congrArg (fun L => L[n]?) he.1
   simp only [List.getElem?_map] at h0
   simp only [List.getElem?_map, List.getElem?_modify, List.getElem?_set]
   by_cases hn : j = n
   ·subst hn
    have hj2 : j < es.toList.length := by omega
    have hj3 : j < es.size := by simpa using hj2
    simp [g1, hj3]
   ·simp only [if_neg hn]
    cases hL : es.toList[n]? with
    | none => rw [hL] at h0; simpa using h0
    | some e => rw [hL] at h0; simpa using h0
  ·rw [g2] at hp
   rcases List.mem_or_eq_of_mem_set hp with g | g
   ·exact he.2 p g
   ·rw [g]; exact ⟨hk, hv⟩
def stUpd (P : Program) (o : Oper) (t : TypeId) (x y u : Operand) (s : St) (k : St → Tr α) : Tr α := match o.dst, opo s x, opo s y, opo s u with
 | none, some (.at id p), some (.val .str key), some (.val (.int j) v) => match look s.ck id with
  | some c => match mkMP c.K p with
   | some m => if j = m.kind ∧ mapOf? P t = some m.kind then
     .need ((m.get c.x).isSome = true) (k ⟨s.tm.filter fun x => keepMA id x.2, updL s.ck id ⟨c.box, c.K, m.put c.x (putM ((m.get c.x).getD []) key v)⟩⟩) else .bad
   | none => .bad
  | none => .bad
 | _, _, _, _ => .bad
def atId (s : St) (x : Operand) : List Nat := match opo s x with
 | some (.at id _) => [id]
 | _ => []
theorem stUpd_ok {P : Program} {F : Fr} {o : Oper} {t : TypeId} {x y u : Operand} {s : St} {k : St → Tr α} (ho : o.op = .mapUpdate t x y u) :
  WorldOK P F o s (stUpd P o t x y u s k) k ⟨false, atId s x⟩ := by
 unfold stUpd
 split
 ·rename_i id p key j v hd hx hy hu
  split
  ·rename_i c hc
   split
   ·rename_i m hm
    split
    ·rename_i hcond
     obtain ⟨rfl, ht⟩ := hcond
     intro K' a w Γ rcs h Q g he hs
     obtain ⟨hsome, hs⟩ := hs
     have hoff : Off F [id] rcs := by
      have : atId s x = [id] := by unfold atId; rw [hx]
      rw [this] at he
      exact off_of g he
     obtain ⟨r, q, hr, hp, hv⟩ := g.opoIs hx
     have hcr := g.same hc hr
     subst hcr
     obtain ⟨l, hl⟩ := Option.isSome_iff_exists.1 hsome
     have hpath := mkMP_path hm
     obtain ⟨a', epl⟩ := mp_pl m r.x r.z ((r.box.getD (0, 0)).1, 0)
     rw [hpath] at epl
     have epl' : pl r.K r.x r.z p ((r.box.getD (0, 0)).1, 0) = some ⟨.mp true m.ty m.kind, m.get r.x, m.blk r.z, a'⟩ := epl
     rw [epl'] at hp
     injection hp with hp
     subst hp
     have hl' : m.get r.x = some l := hl
     have ev : a.eval x = .map (some (m.blk r.z)) := by
      rw [hv]
      show Value.map (Option.map (fun _ => m.blk r.z) (m.get r.x)) = _
      rw [hl']
      rfl
     obtain ⟨h1, hR, d1, hh, o1⟩ := star_take g.star hr
     obtain ⟨hq, es, clk, d2, e2, hE, _⟩ := rc_mp hl' o1
     have hz : w.heap[m.blk r.z]? = some (.map es clk) := g.mem _ (.mp es clk) (by
      rw [hh]
      refine un_left ?_
      rw [e2]
      exact un_right d2 (if_pos rfl))
     obtain ⟨ey, hky⟩ := is_str (g.opoIs hy)
     obtain ⟨eu, hvu⟩ := is_int (g.opoIs hu)
     obtain ⟨es', clk', hrun, hE'⟩ := run_update_map ht hz hE hky hvu (key := key) (v := v)
     have hR2 := g.mapPut (es' := es') (clk' := clk') hr hl' hE' (tm := s.tm.filter fun x => keepMA id x.2) (fun t av hm' => by
      obtain ⟨q1, q2⟩ := List.mem_filter.1 hm'
      exact ⟨q2, q1⟩) hoff
     have hgd : (m.get r.ck.x).getD [] = l := by
      show (m.get r.x).getD [] = l
      rw [hl']
      rfl
     rw [hgd] at hs
     unfold Oper.wp
     have hex : (execOp a.eval o).run P w = .ok .skip (World.setMap w (m.blk r.z) es' clk') := by
      simp only [execOp, ho, ev, ey, eu, Sem.run_bind, hrun, Result.andThen_ok, Sem.run_pure]
     rw [hex, Oper.upon_skip, hd]
     exact ⟨_, hR2, hs⟩
    ·exact world_bad
   ·exact world_bad
  ·exact world_bad
 ·exact world_bad
theorem stLenM_ok {P : Program} {F : Fr} {o : Oper} {c : Call} {s : St} {k : St → Tr α} {e : Eff} (ho : o.op = .call c) (hb : c.callee = .builtin .len) : WorldOK P F o s (stLenM P F.n o c s k) k e := by
 unfold stLenM
 split
 ·rename_i x t hx ht
  have ha : c.args = #[x] := by rw [← Array.toList_inj]; exact hx
  have ha' : c.argTypes = #[t] := by rw [← Array.toList_inj]; exact ht
  split
  ·rename_i id p hv
   split
   ·rename_i ck hc
    split
    ·rename_i t' kk y hg
     split
     ·rename_i hm
      intro K' a w Γ rcs h Q g he hs
      obtain ⟨hlen, hs⟩ := hs
      refine world_ask (e := e) (fun a w Γ rcs h g => ?_) K' a w Γ rcs h Q g he hs
      obtain ⟨z, ev, hl⟩ := g.mapAt hv hc hg
      obtain ⟨kt, et, i, h1, h2, h3, h4, h5⟩ := mapOf_spec hm
      refine ⟨_, ?_, int_is (rcs := rcs) ⟨by show -(2 ^ 63 : Int) ≤ _; omega, by show _ ≤ (2 ^ 63 - 1 : Int); omega⟩⟩
      cases y with
      | none =>
       have ev' : a.eval x = .map none := ev
       simp [execOp, ho, resolve, hb, ha, ha', invoke, builtin, Builtin.len_, run_underlying h1, ev', goInt]
      | some l =>
       obtain ⟨es, clk, hz, hE⟩ := hl l rfl
       have ev' : a.eval x = .map (some z) := ev
       have hsz : es.size = l.length := by have := congrArg List.length hE.1; simpa using this
       simp [execOp, ho, resolve, hb, ha, ha', invoke, builtin, Builtin.len_, run_underlying h1, ev', goInt, MapKept.run_getObj_map hz, hsz]
     ·exact world_bad
    ·exact world_bad
   ·exact world_bad
  ·exact world_bad
 ·exact world_bad
def isNilM : Operand → Bool
 | .const (.map none) => true
 | _ => false
def stMapNil (P : Program) (n : Lim) (o : Oper) (op : BinOp) (t : TypeId) (x : Operand) (s : St) (k : St → Tr α) : Tr α := match opo s x with
 | some (.at id p) => match look s.ck id with
  | some c => match getP c.K c.x p with
   | some ⟨.mp true _ kk, y⟩ => if mapOf? P t = some kk then (match op with
    | .eql => set n s o (.one (.val .bool (!y.isSome))) k
    | .neq => set n s o (.one (.val .bool y.isSome)) k
    | _ => .bad) else .bad
   | _ => .bad
  | none => .bad
 | _ => .bad
theorem stMapNil_ok {P : Program} {F : Fr} {o : Oper} {op : BinOp} {t t2 : TypeId} {x y : Operand} {s : St} {k : St → Tr α} (ho : o.op = .binOp op t x y t2) (hy : isNilM y = true) : PureOK P F o s (stMapNil P F.n o op t x s k) k := by
 have hy' : y = .const (.map none) := by
  unfold isNilM at hy
  split at hy
  ·rfl
  ·cases hy
 subst hy'
 unfold stMapNil
 split
 ·rename_i id p hv
  split
  ·rename_i c hc
   split
   ·rename_i t' kk y hg
    split
    ·rename_i hm
     obtain ⟨kt, et, i, h1, h2, h3, h4, h5⟩ := mapOf_spec hm
     split
     ·refine pure_set fun a w Γ rcs h g => ?_
      obtain ⟨z, ev, _⟩ := g.mapAt hv hc hg
      refine ⟨_, fun w' => ?_, bool_is (rcs := rcs)⟩
      cases y with
      | none =>
       have ev' : a.eval x = .map none := ev
       have ey : a.eval (.const (.map none)) = .map none := rfl
       simp [execOp, ho, ev', ey, eqGuard, binOp, run_equal_map_nil w' t kt et _ h1]
      | some l =>
       have ev' : a.eval x = .map (some z) := ev
       have ey : a.eval (.const (.map none)) = .map none := rfl
       simp [execOp, ho, ev', ey, eqGuard, binOp, run_equal_map_nil w' t kt et _ h1]
     ·refine pure_set fun a w Γ rcs h g => ?_
      obtain ⟨z, ev, _⟩ := g.mapAt hv hc hg
      refine ⟨_, fun w' => ?_, bool_is (rcs := rcs)⟩
      cases y with
      | none =>
       have ev' : a.eval x = .map none := ev
       have ey : a.eval (.const (.map none)) = .map none := rfl
       simp [execOp, ho, ev', ey, eqGuard, binOp, run_equal_map_nil w' t kt et _ h1]
      | some l =>
       have ev' : a.eval x = .map (some z) := ev
       have ey : a.eval (.const (.map none)) = .map none := rfl
       simp [execOp, ho, ev', ey, eqGuard, binOp, run_equal_map_nil w' t kt et _ h1]
     ·exact pure_bad
    ·exact pure_bad
   ·exact pure_bad
  ·exact pure_bad
 ·exact pure_bad
end Go.Proofs.YtibammoednhnoaaE

