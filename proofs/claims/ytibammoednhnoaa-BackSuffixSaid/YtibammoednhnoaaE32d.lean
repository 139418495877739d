/- The engine, part 32d: maps from strings to numbers: made, asked, written. Conditions: none. -/
import Derived.Test.YtibammoednhnoaaE32c
import Derived.MapKept
import Derived.Carry
import Derived.WideLaws
import Derived.Laws.Cover3
set_option linter.unusedVariables false
set_option linter.unusedSimpArgs false
namespace Go.Proofs.YtibammoednhnoaaE
open Kd
variable {α : Type}

def mapOf? (P : Program) (t : TypeId) : Option IntKind := match P.underlying t with
 | some (.map kt et) => match P.underlying kt, P.underlying et, P.info? et with
  | some .string, some (.int k), some i => (match i.zero with
   | some v => if veq v (.int k 0) = true then some k else none
   | none => none)
  | _, _, _ => none
 | _ => none
theorem mapOf_spec {P : Program} {t : TypeId} {k : IntKind} (h : mapOf? P t = some k) : ∃ kt et i, P.underlying t = some (.map kt et) ∧ P.underlying kt = some .string ∧ P.underlying et = some (.int k) ∧ P.info? et = some i ∧ i.zero = some (.int k 0) := by
 unfold mapOf? at h
 split at h
 ·rename_i kt et hu
  split at h
  ·rename_i k' i h1 h2 h3
   split at h
   ·rename_i v hv
    split at h
    ·rename_i hz
     injection h with h
     subst h
     exact ⟨kt, et, i, hu, h1, h2, h3, by rw [hv, veq_eq hz]⟩
    ·cases h
   ·cases h
  ·cases h
 ·cases h
def idxM : List (ByteArray × Int) → ByteArray → Option (Nat × Int)
 | [], _ => none
 | p :: l, key => if key = p.1 then some (0, p.2) else (idxM l key).map fun q => (q.1 + 1, q.2)
def findM (l : List (ByteArray × Int)) (key : ByteArray) : Int × Bool := match idxM l key with
 | some q => (q.2, true)
 | none => (0, false)
def putM : List (ByteArray × Int) → ByteArray → Int → List (ByteArray × Int)
 | [], key, v => [(key, v)]
 | p :: l, key, v => if key = p.1 then (p.1, v) :: l else p :: putM l key v
theorem find_ents {k : IntKind} {key : ByteArray} : ∀ (l : List (ByteArray × Int)) (L : List MapEntry) (i : Nat), (L.map fun e => (e.key, e.val)) = (l.map fun p => (Value.string p.1, Value.int k p.2)) →
  Instr.findNow .string (.string key) L i = some ((idxM l key).map fun q => (i + q.1, Value.int k q.2))
 | [], [], i, _ => rfl
 | [], _ :: _, _, h => by cases h
 | _ :: _, [], _, h => by cases h
 | p :: l, e :: L, i, h => by
  simp only [List.map_cons, List.cons.injEq, Prod.mk.injEq] at h
  obtain ⟨⟨h1, h2⟩, h3⟩ := h
  have ih := find_ents (k := k) (key := key) l L (i + 1) h3
  unfold Instr.findNow idxM
  rw [h1]
  have hs : Instr.sameNow .string (.string key) (.string p.1) = some (key == p.1) := rfl
  rw [hs]
  by_cases hk : key = p.1
  ·rw [(MapKept.bytes_beq _ _).2 hk, if_pos hk]
   simp [h2]
  ·have : (key == p.1) = false := by
    cases hb : (key == p.1) with
    | false => rfl
    | true => exact absurd ((MapKept.bytes_beq _ _).1 hb) hk
   rw [this, if_neg hk]
   simp only
   rw [ih]
   cases idxM l key with
   | none => rfl
   | some q =>
    simp
    omega
theorem Good.mapAt {F : Fr} {s : St} {a : Act} {w : World} {Γ : HF} {rcs : List (Nat × RC)} {h : HF} (g : Good F s a w Γ rcs h) {x : Operand} {id : Nat} {p : List Sel} {t : TypeId} {k : IntKind} {c : Ck} {y : (Kd.mp true t k).T} (hx : opo s x = some (.at id p)) (hc : look s.ck id = some c) (hg : getP c.K c.x p = some ⟨.mp true t k, y⟩) :
  ∃ z : Nat, a.eval x = .map (Option.map (fun _ => z) y) ∧ ∀ l, y = some l → ∃ es clk, w.heap[z]? = some (.map es clk) ∧ EntsP k l es := by
 obtain ⟨r, q, hr, hp, hv⟩ := g.opoIs hx
 have hcr := g.same hc hr
 subst hcr
 have hget := pl_get p _ _ _ _ hp
 simp only [RC.ck] at hg
 rw [hget] at hg
 injection hg with hg
 obtain ⟨hq, hsub, o⟩ := g.ownAt hr hp
 obtain ⟨qK, qx, qz, qa⟩ := q
 simp only [Sigma.mk.injEq] at hg
 obtain ⟨hs1, hs2⟩ := hg
 subst hs1
 obtain rfl := eq_of_heq hs2
 refine ⟨qz, hv, fun l hl => ?_⟩
 subst hl
 obtain ⟨es, clk, e1, e2⟩ := o
 refine ⟨es, clk, ?_, e2⟩
 have := g.mem qz (.mp es clk) (hsub _ _ (by rw [e1]; simp [HF.onem]))
 exact this
theorem run_lookup_map {P : Program} {t : TypeId} {k : IntKind} (ht : mapOf? P t = some k) {w : World} {z : Nat} {es : Array MapEntry} {clk : Nat} {l : List (ByteArray × Int)} (hz : w.heap[z]? = some (.map es clk)) (he : EntsP k l es) (key : ByteArray) :
  (Instr.lookup t (.map (some z)) (.string key) true).run P w = .ok (.tuple #[.int k (findM l key).1, .bool (findM l key).2]) w := by
 obtain ⟨kt, et, i, h1, h2, h3, h4, h5⟩ := mapOf_spec ht
 have hf := MapKept.run_findKey (w := w) h2 (find_ents l es.toList 0 he.1 (key := key))
 have hk := MapKept.run_checkKey (P := P) (w := w) h2 (k := .string key) (by simp [MapKept.IsKey]) es.isEmpty 9999
 unfold Instr.lookup findM
 simp only [Sem.run_bind, run_underlying h1, Result.andThen_ok, MapKept.run_getObj_map hz, Sem.run_pure, hk, hf]
 cases idxM l key with
 | none => simp [zeroValue, typeInfo, h4, h5]
 | some q => simp
theorem run_lookup_nil {P : Program} {t : TypeId} {k : IntKind} (ht : mapOf? P t = some k) {w : World} (key : ByteArray) :
  (Instr.lookup t (.map none) (.string key) true).run P w = .ok (.tuple #[.int k 0, .bool false]) w := by
 obtain ⟨kt, et, i, h1, h2, h3, h4, h5⟩ := mapOf_spec ht
 have hf := MapKept.run_findKey (w := w) h2 (find_ents (k := k) [] [] 0 rfl (key := key))
 have hk := fun b => MapKept.run_checkKey (P := P) (w := w) h2 (k := .string key) (by simp [MapKept.IsKey]) b 9999
 unfold Instr.lookup
 simp only [Sem.run_bind, run_underlying h1, Result.andThen_ok, Sem.run_pure, hk]
 have hf' : (Instr.findKey kt (.string key) ([] : List MapEntry)).run P w = .ok none w := hf
 simp [hf', zeroValue, typeInfo, h4, h5]
theorem world_ask {P : Program} {F : Fr} {o : Oper} {s : St} {av : AV} {k : St → Tr α} {e : Eff} (hv : ∀ (a : Act) (w : World) (Γ : HF) (rcs : List (Nat × RC)) (h : HF), Good F s a w Γ rcs h → ∃ v, (execOp a.eval o).run P w = .ok (.value v) w ∧ av.is Γ rcs v) :
  WorldOK P F o s (set F.n s o av k) k e := fun K a w Γ rcs h Q g he hs => by
 obtain ⟨v, hr, hi⟩ := hv a w Γ rcs h g
 obtain ⟨s', r, q⟩ := set_ok hs g hi
 unfold Oper.wp
 rw [hr, Oper.upon_value]
 exact ⟨s', r, q⟩
def stLookup (P : Program) (n : Lim) (o : Oper) (t : TypeId) (x i : Operand) (s : St) (k : St → Tr α) : Tr α := match opo s x, opo s i with
 | some (.at id p), some (.val .str key) => match look s.ck id with
  | some c => match getP c.K c.x p with
   | some ⟨.mp true t' kk, y⟩ => if mapOf? P t = some kk then set n s o (.tup [.val (.int kk) (findM (y.getD []) key).1, .val .bool (findM (y.getD []) key).2]) k else .bad
   | _ => .bad
  | none => .bad
 | _, _ => .bad
theorem findM_range {k : IntKind} {l : List (ByteArray × Int)} (h : ∀ p ∈ l, p.1.size ≤ 9223372036854775807 ∧ k.min ≤ p.2 ∧ p.2 ≤ k.max) (key : ByteArray) : k.min ≤ (findM l key).1 ∧ (findM l key).1 ≤ k.max := by
 have h0 : k.min ≤ 0 ∧ 0 ≤ k.max := min_max k
 have key2 : ∀ l : List (ByteArray × Int), (∀ p ∈ l, p.1.size ≤ 9223372036854775807 ∧ k.min ≤ p.2 ∧ p.2 ≤ k.max) → ∀ q, idxM l key = some q → k.min ≤ q.2 ∧ q.2 ≤ k.max := by
  intro l
  induction l with
  | nil => intro _ q hq; cases hq
  | cons p l ih =>
   intro h q hq
   unfold idxM at hq
   split at hq
   ·injection hq with hq
    subst hq
    exact (h p List.mem_cons_self).2
   ·obtain ⟨q', hq', e⟩ := Option.map_eq_some_iff.1 hq
    subst e
    exact ih (fun p hp => h p (List.mem_cons_of_mem _ hp)) q' hq'
 unfold findM
 split
 ·rename_i q hq
  exact key2 l h q hq
 ·exact h0
theorem stLookup_ok {P : Program} {F : Fr} {o : Oper} {t : TypeId} {x i : Operand} {s : St} {k : St → Tr α} {e : Eff} (ho : o.op = .lookup t x i true) : WorldOK P F o s (stLookup P F.n o t x i s k) k e := by
 unfold stLookup
 split
 ·rename_i id p key hx hi
  split
  ·rename_i c hc
   split
   ·rename_i t' kk y hg
    split
    ·rename_i ht
     refine world_ask fun a w Γ rcs h g => ?_
     obtain ⟨z, ev, hl⟩ := g.mapAt hx hc hg
     have ei := (is_str (g.opoIs hi)).1
     have tup : ∀ (u : Int) (b : Bool), kk.min ≤ u ∧ u ≤ kk.max → (AV.tup [.val (.int kk) u, .val .bool b]).is Γ rcs (.tuple #[.int kk u, .bool b]) := fun u b hu => by
      refine ⟨[.int kk u, .bool b], rfl, rfl, fun j sv hj => ?_⟩
      match j with
      | 0 =>
       simp only [List.getElem?_cons_zero, Option.some.injEq] at hj
       subst hj
       exact ⟨_, rfl, int_is hu⟩
      | 1 =>
       simp only [List.getElem?_cons_succ, List.getElem?_cons_zero, Option.some.injEq] at hj
       subst hj
       exact ⟨_, rfl, bool_is⟩
      | j + 2 => simp at hj
     cases y with
     | none =>
      refine ⟨_, ?_, tup 0 false (min_max kk)⟩
      have ev' : a.eval x = .map none := ev
      simp only [execOp, ho, ev', ei, Sem.run_bind, run_lookup_nil ht, Result.andThen_ok, Sem.run_pure]
     | some l =>
      obtain ⟨es, clk, hz, he⟩ := hl l rfl
      refine ⟨_, ?_, tup _ _ (findM_range he.2 key)⟩
      have ev' : a.eval x = .map (some z) := ev
      simp only [execOp, ho, ev', ei, Sem.run_bind, run_lookup_map ht hz he, Result.andThen_ok, Sem.run_pure]
      rfl
    ·exact world_bad
   ·exact world_bad
  ·exact world_bad
 ·exact world_bad
def stMkMap (P : Program) (n : Lim) (o : Oper) (t : TypeId) (s : St) (k : St → Tr α) : Tr α := match o.dst, mapOf? P t with
 | some d, some kk => if n.lo ≤ d ∧ d < n.n then k ⟨(d, .one (.at d [])) :: (fresh s d).tm, (d, ⟨none, .mp true t kk, some []⟩) :: del s.ck d⟩ else .bad
 | _, _ => .bad
theorem stMkMap_ok {P : Program} {F : Fr} {o : Oper} {t : TypeId} {s : St} {k : St → Tr α} (ho : o.op = .makeMap t none) : WorldOK P F o s (stMkMap P F.n o t s k) k ⟨false, dstL o⟩ := by
 unfold stMkMap
 split
 ·rename_i d kk hd ht
  split
  ·rename_i hlt
   intro K' a w Γ rcs h Q g he hs
   have hoff : Off F [d] rcs := by rw [dstL_some hd] at he; exact off_of g he
   have hne : ∀ b, h.has b → b < w.heap.size := fun b hb => g.mem.lt hb
   have heap1 : (w.alloc (.map #[] 0)).heap[w.heap.size]? = some (.map #[] 0) := heap_alloc_new w _
   have hR := g.renew (w' := w.alloc (.map #[] 0)) (h0 := h) (rcs0 := rcs) (hm := HF.onem w.heap.size #[] 0) (r := ⟨none, .mp true t kk, some [], w.heap.size⟩) (d := d) (v := .map (some w.heap.size)) (av := .at d []) (tm := (fresh s d).tm)
    (fun _ _ e => e) g.star g.nodup hlt.2 hlt.1 hoff (fun _ _ e => e) (fun b hb _ => heap_alloc w _ b (Nat.ne_of_lt hb))
    (⟨#[], 0, rfl, rfl, fun p hp => by cases hp⟩)
    (HF.dj_iff.2 fun b hb hx => by
     have := HF.has_onem.1 hb
     have := hne b hx
     omega) (Mem.onem.2 heap1) (g.mem.alloc _) (g.memR.alloc _) (by simp) (fun b hb _ => heap_alloc w _ b (Nat.ne_of_lt hb)) (fun b hb => .inr (Nat.le_of_eq (HF.has_onem.1 hb).symm)) rfl rfl rfl
    ⟨⟨none, .mp true t kk, some [], w.heap.size⟩, ⟨_, some [], w.heap.size, (0, 0)⟩, by simp [look], by simp only [pl]; rfl, rfl⟩ (Good.fresh (F := F) (fun x hx => g.tm x.1 x.2 hx))
   unfold Oper.wp
   have hrun : (execOp a.eval o).run P w = .ok (.value (.map (some w.heap.size))) (w.alloc (.map #[] 0)) := by
    have hm : (Instr.makeMap t none).run P w = .ok (.map (some w.heap.size)) (w.alloc (.map #[] 0)) := rfl
    simp only [execOp, ho, Option.map_none, Sem.run_bind, hm, Result.andThen_ok, Sem.run_pure]
   rw [hrun, Oper.upon_value, hd]
   rw [g.ck] at hR
   exact ⟨_, hR, hs⟩
  ·exact world_bad
 ·exact world_bad
def stLenM (P : Program) (n : Lim) (o : Oper) (c : Call) (s : St) (k : St → Tr α) : Tr α := match c.args.toList, c.argTypes.toList with
 | [x], [t] => match opo s x with
  | some (.at id p) => match look s.ck id with
   | some ck => match getP ck.K ck.x p with
    | some ⟨.mp true _ kk, y⟩ => if mapOf? P t = some kk then .need (((y.getD []).length : Int) ≤ 9223372036854775807) (set n s o (.one (.val (.int .i64) ((y.getD []).length : Int))) k) else .bad
    | _ => .bad
   | none => .bad
  | _ => .bad
 | _, _ => .bad
end Go.Proofs.YtibammoednhnoaaE

