/- The engine, part 33: all operations together. Conditions: none. -/
import Derived.Test.YtibammoednhnoaaE32f
import Derived.Test.YtibammoednhnoaaE10b
set_option linter.unusedVariables false
set_option linter.unusedSimpArgs false
namespace Go.Proofs.YtibammoednhnoaaE
open Kd
variable {α : Type}

def stIdxA (P : Program) (n : Lim) (o : Oper) (t : TypeId) (x i : Operand) (s : St) (k : St → Tr α) : Tr α := match opo s x, opo s i with
 | some (.val (.arr m e) xs), some (.val (.int _) j) => match P.underlying t with
  | some (.array m' te) => match varT P te with
   | some (b, sz) => if m = m' ∧ b = true ∧ sz = 1 ∧ single e = true then .need (inb j m) (set n s o (.one (.val e (List.getD xs j.toNat e.dft))) k) else .bad
   | none => .bad
  | _ => .bad
 | _, _ => .bad
theorem stIdxA_ok {P : Program} {F : Fr} {o : Oper} {t : TypeId} {x i : Operand} {s : St} {k : St → Tr α} (ho : o.op = .index t x i) : PureOK P F o s (stIdxA P F.n o t x i s k) k := by
 unfold stIdxA
 split
 ·rename_i m e xs kj j hx hi
  split
  ·rename_i m' te hu
   split
   ·rename_i b sz hv
    split
    ·rename_i hc
     obtain ⟨rfl, rfl, rfl, hse⟩ := hc
     refine pure_need fun ⟨h0, h1⟩ => pure_set fun a w Γ rcs h g => ?_
     obtain ⟨hf, z, how, hxv⟩ := g.opoIs hx
     obtain ⟨hj, _⟩ := is_int (g.opoIs hi)
     have hfe : e.free = true := by simpa [free] using hf
     have h0' : @LE.le Int _ 0 j := h0
     have h1' : @LT.lt Int _ j m := h1
     have hlt : Int.toNat j < m := by omega
     have hsz : e.size = 1 := single_size e hse
     unfold varT at hv
     split at hv
     ·rename_i d it hut hit
      simp only [Option.some.injEq, Prod.mk.injEq, Bool.not_eq_eq_eq_not, Bool.not_true] at hv
      obtain ⟨hrow, hits⟩ := hv
      have hagg : ∀ w', (isAgg te).run P w' = .ok false w' := by
       intro w'
       unfold isAgg
       rw [Sem.run_bind, run_underlying hut w']
       cases d <;> simp_all
      have hcell : ((Kd.arr m e).cells xs z).toArray[Int.toNat j]? = some (toV e (e.cells (List.getD xs (Int.toNat j) e.dft) (z (Int.toNat j)))) := by
       have h2 : Lie ((Kd.arr m e).cells xs z).toArray 0 ((Kd.arr m e).cells xs z) := fun j hj => by simp
       have := lie_arr h2 hlt
       rw [hsz, Nat.mul_one, Nat.zero_add] at this
       have h3 := this 0 (by rw [cells_length, hsz]; exact Nat.one_pos)
       rw [Nat.add_zero] at h3
       rw [h3]
       simp only [toV, hse, if_true]
       exact getElem?_zero_getD (by rw [cells_length, hsz]; exact Nat.one_pos) undef
      refine ⟨_, fun w' => ?_, hfe, z (Int.toNat j), own_item hfe how hlt, rfl⟩
      have hxv' : a.eval x = .agg ((Kd.arr m e).cells xs z).toArray := hxv
      have hpart : (Instr.index t (.agg ((Kd.arr m e).cells xs z).toArray) (.int kj j)).run P w' = .ok (toV e (e.cells (List.getD xs (Int.toNat j) e.dft) (z (Int.toNat j)))) w' := by
       simp only [Instr.index, asIntOf, Sem.run_bind, Sem.run_pure, Result.andThen_ok, run_underlying hu, h0', h1', and_self, if_true, sizeOf, typeInfo, part, hagg]
       have hcell' : ((Kd.arr m e).cells xs z)[Int.toNat j]? = some (toV e (e.cells (List.getD xs (Int.toNat j) e.dft) (z (Int.toNat j)))) := by simpa using hcell
       simp [hit, hits, hcell']
      simp only [execOp, ho, hxv', hj]
      simp [hpart]
     ·cases hv
    ·exact pure_bad
   ·exact pure_bad
  ·exact pure_bad
 ·exact pure_bad

def isArrT (P : Program) (t : TypeId) : Bool := match P.underlying t with
 | some (.array _ _) => true
 | _ => false
def mapLen (P : Program) (c : Call) : Bool := match c.argTypes.toList with
 | [t] => (mapOf? P t).isSome
 | _ => false
def clsOf (P : Program) (o : Oper) : Cls := match o.op with
 | .load _ _ => .read
 | .move _ | .assign _ | .pick _ _ _ | .binOp _ _ _ _ _ | .unOp _ _ _ | .fieldAddr _ _ _ | .indexAddr _ _ _ | .index _ _ _ | .nilCheck _ | .extract _ _ | .makeFunc _ _ _ => .pure
 | .convert src dst _ => if (intT P src).isSome && (intT P dst).isSome then .pure else .world
 | .slice t _ _ _ none => if isArrT P t then .world else .pure
 | .call c => match c.callee with
  | .builtin .len => if mapLen P c then .world else .pure
  | .builtin .min | .builtin .max => .pure
  | _ => .world
 | _ => .world
def rdOf (o : Oper) (s : St) : Option (Option Nat) := match o.op with
 | .load _ x => rdB s x
 | _ => some none
def effOf (cfg : Nat → Option Spec) (o : Oper) (s : St) : Eff := match o.op with
 | .store _ x _ => ⟨false, wrId s x ++ effL (eats o) s⟩
 | .box _ _ => ⟨true, dstL o ++ effL (eats o) s⟩
 | .build _ _ => ⟨true, dstL o ++ effL (eats o) s⟩
 | .buildSlice _ _ _ => ⟨true, dstL o ++ effL (eats o) s⟩
 | .convert _ _ _ => ⟨true, []⟩
 | .slice _ x _ _ _ => ⟨true, ptrId s x⟩
 | .makeMap _ _ => ⟨false, dstL o⟩
 | .mapUpdate _ x _ _ => ⟨false, atId s x⟩
 | .call c => match c.callee with
  | .builtin .append => ⟨false, dstL o ++ effL (eats o) s⟩
  | _ => ⟨(effCall2 cfg s c o.dst).all, (effCall2 cfg s c o.dst).ids ++ effL (callEats cfg s c) s⟩
 | _ => ⟨true, dstL o⟩
def stepOf (P : Program) (cfg : Nat → Option Spec) (n : Lim) {α : Type} (o : Oper) (s : St) (k : St → Tr α) : Tr α := match o.op with
 | .move x => stMove n o x s fun s' => k (frzO n o s')
 | .assign x => stMove n o x s k
 | .pick c x y => stPick n o c x y s k
 | .alloc t => stAlloc P n o t s k
 | .box t x => eatT (eats o) s ⟨true, dstL o⟩ (fun _ => ⟨true, dstL o⟩) fun s => stBox P n o t x s k
 | .build t parts => eatT (eats o) s ⟨true, dstL o⟩ (fun _ => ⟨true, dstL o⟩) fun s => stBuild P n o t parts s fun s' => k (frzO n o (foldO o s'))
 | .buildSlice t len parts => eatT (eats o) s ⟨true, dstL o⟩ (fun s => ⟨true, dstL o ++ frzL ((eats o).map (·.1)) s⟩) fun s => frzT ((eats o).map (·.1)) s fun s => stLitB P n o t len parts s fun s' => k (frzO n o (foldO o s'))
 | .load t x => stLoad P n o t x s fun s' => k (foldO o s')
 | .store t x y => match selfId s x y with
  | some id => stSelf P o t id s k
  | none => eatT (eats o) s ⟨false, wrId s x⟩ (fun s => ⟨false, wrId s x⟩) fun s => stStore P o t x y s k
 | .nilCheck x => stNil n o x s k
 | .binOp op t x y _ => if isNilM y then stMapNil P n o op t x s k else stBin P n o op t x y s k
 | .makeMap t none => stMkMap P n o t s k
 | .lookup t x i true => stLookup P n o t x i s k
 | .mapUpdate t x y u => stUpd P o t x y u s k
 | .unOp op _ x => stUn n o op x s k
 | .convert src dst x => if (intT P src).isSome && (intT P dst).isSome then stConv (P := P) n o src dst x s k else stBStr P n o src dst x s k
 | .makeFunc fn first captured => stFunc n o fn first captured s k
 | .makeSlice t l c => stMake P n o t l c s k
 | .slice t x lo hi none => if isArrT P t then (match opo s x, lo, hi with
   | some (.ptr id []), none, none => stArrSl P n o t id s k
   | _, _, _ => .bad) else stSlice P n o t x lo hi s k
 | .fieldAddr t x f => stFieldB (P := P) n o t x f s k
 | .indexAddr t x i => stIndex (P := P) n o t x i s k
 | .index t x i => if strT P t then stIdx P n o t x i s k else stIdxA P n o t x i s k
 | .extract x i => stExtract n o x i s k
 | .call c => match c.callee with
  | .builtin .len => if mapLen P c then stLenM P n o c s k else stLen (P := P) n o c s k
  | .builtin .min => stMin n o c s k
  | .builtin .max => stMax n o c s k
  | .builtin .append => eatT (eats o) s ⟨false, dstL o⟩ (fun _ => ⟨false, dstL o⟩) fun s => stAppend P n o c s k
  | .value _ => eatT (callEats cfg s c) s (effCall2 cfg s c o.dst) (fun s => effCall cfg s c o.dst) fun s => stCall cfg n o c s fun s' => k (frzO n o s')
  | _ => .bad
 | _ => .bad
def riskyOf (cfg : Nat → Option Spec) (o : Oper) (s : St) : Bool := match o.op with
 | .store _ _ _ => true
 | .mapUpdate _ _ _ _ => true
 | .call c => match c.callee with
  | .builtin .append => true
  | .builtin _ => false
  | _ => match calleeOf s c with
   | some (f, _, _) => (match cfg f with
    | some sp => sp.ps.any fun p => match p with
     | .val _ => false
     | _ => true
    | none => true)
   | none => true
 | _ => false
def stepper (P : Program) (cfg : Nat → Option Spec) (n : Lim) : Stepper := ⟨clsOf P, rdOf, effOf cfg, stepOf P cfg n, n.n, riskyOf cfg, n.hz⟩

theorem look_setB {s : St} {t : Nat} {b : Bool} (h : boolAt s t = some b) (t' : Nat) : look (s.setB t b).tm t' = look s.tm t' := by
 unfold boolAt at h
 split at h
 ·rename_i x hl
  injection h with h
  subst h
  unfold St.setB
  simp only [look]
  split
  ·rename_i e
   simp at e
   subst e
   exact hl.symm
  ·rename_i e
   exact look_del _ (by simp at e; exact fun q => e q.symm)
 ·cases h
theorem opo_setB {s : St} {t : Nat} {b : Bool} (h : boolAt s t = some b) (x : Operand) : opo (s.setB t b) x = opo s x := by
 have : opv (s.setB t b) x = opv s x := by
  unfold opv
  split <;> first | rfl | exact look_setB h _
 unfold opo
 rw [this]
theorem argIds_setB {s : St} {t : Nat} {b : Bool} (h : boolAt s t = some b) : ∀ (ps : List Par) (ar : List Ar), argIds (s.setB t b) ps ar = argIds s ps ar
 | [], _ => by simp only [argIds]
 | p :: ps, [] => by cases p <;> simp only [argIds]
 | p :: ps, y :: ar => by
  have ih := argIds_setB h ps ar
  cases p <;> cases y <;> simp only [argIds, ih, opo_setB h]
theorem argIds2_setB {s : St} {t : Nat} {b : Bool} (h : boolAt s t = some b) : ∀ (ps : List Par) (ar : List Ar), argIds2 (s.setB t b) ps ar = argIds2 s ps ar
 | [], _ => by simp only [argIds2]
 | p :: ps, [] => by cases p <;> simp only [argIds2]
 | p :: ps, y :: ar => by
  have ih := argIds2_setB h ps ar
  cases p <;> cases y <;> simp only [argIds2, ih, opo_setB h]
theorem rdOf_setB (o : Oper) (s : St) (t : Nat) (b : Bool) (h : boolAt s t = some b) : rdOf o (s.setB t b) = rdOf o s := by
 unfold rdOf
 split
 ·unfold rdB boxAt
  rw [opo_setB h]
  rfl
 ·rfl
theorem effOf_setB (cfg : Nat → Option Spec) (o : Oper) (s : St) (t : Nat) (b : Bool) (h : boolAt s t = some b) : effOf cfg o (s.setB t b) = effOf cfg o s := by
 unfold effOf
 split
 ·rw [effL_setB (look_setB h)]; unfold wrId; rw [opo_setB h]; rfl
 ·rw [effL_setB (look_setB h)]
 ·rw [effL_setB (look_setB h)]
 ·rw [effL_setB (look_setB h)]
 ·rfl
 ·unfold ptrId; rw [opo_setB h]
 ·rfl
 ·unfold atId; rw [opo_setB h]
 ·split
  ·rw [effL_setB (look_setB h)]
  ·rw [effL_setB (look_setB h)]
   unfold effCall2 callEats calleeOf
   simp only [opo_setB h, argIds_setB h, argIds2_setB h]
 ·rfl
theorem stepper_ok {P : Program} {cfg : Nat → Option Spec} (hcfg : ∀ f sp, cfg f = some sp → Callable P f ∧ Valid P f sp) (F : Fr) : StepOK P F (stepper P cfg F.n) := by
 refine ⟨rfl, ?_⟩
 intro B G α o s k K a w ⟨Γ, rcs, h, g⟩ hs
 have P1 : ∀ {t : Tr α}, PureOK P ((F.withG G).with B) o s t k → t.sat K → ∃ v s', (∀ w', (execOp a.eval o).run P w' = .ok (.value v) w') ∧ R ((F.withG G).with B) s' (a.put o.dst v) w ∧ (k s').sat K := fun hp ht => hp K a w Γ rcs h g ht
 have W1 : ∀ {t : Tr α} {e : Eff}, WorldOK P ((F.withG G).with B) o s t k e → t.sat K → e.ok B → ∀ Q, o.wp P a w (fun a' w' => ∃ s', R ((F.withG G).with B) s' a' w' ∧ (k s').sat K) Q := fun hp ht he Q => hp K a w Γ rcs h Q g he ht
 cases ho : o.op <;> simp only [stepper, clsOf, stepOf, effOf, rdOf, ho] at hs ⊢ <;> try exact hs.elim
 case move x => exact P1 (pure_map (n := F.n) (stMove_ok (F := (F.withG G).with B) (.inl ho))) hs
 case assign x => exact P1 (stMove_ok (F := (F.withG G).with B) (.inr ho)) hs
 case pick c x y => exact P1 (stPick_ok (F := (F.withG G).with B) ho) hs
 case alloc t => exact W1 (stAlloc_ok (F := (F.withG G).with B) ho) hs
 case box t x => exact W1 (eat_ok fun s' => stBox_ok (F := (F.withG G).with B) ho) hs
 case build t parts => exact W1 (eat_ok fun s' => world_map (n := F.n) (world_fold (stBuild_ok (F := (F.withG G).with B) ho))) hs
 case buildSlice t len parts => exact W1 (eat_ok fun s' => world_map (n := F.n) (frz_ok (e := ⟨true, dstL o⟩) fun s'' => world_fold (stLitB_ok (F := (F.withG G).with B) ho))) hs
 case load t x => exact read_fold (stLoad_ok (F := (F.withG G).with B) ho) K a w Γ rcs h g hs
 case store t x y =>
  split at hs
  ·rename_i id hi
   exact W1 (stSelf_ok (F := (F.withG G).with B) ho hi) hs
  ·exact W1 (eat_ok fun s' => stStore_ok (F := (F.withG G).with B) ho) hs
 case nilCheck x => exact P1 (stNil_ok (F := (F.withG G).with B) ho) hs
 case binOp op t x y t2 =>
  split at hs
  ·rename_i hn
   exact P1 (stMapNil_ok (F := (F.withG G).with B) ho hn) hs
  ·exact P1 (stBin_ok (F := (F.withG G).with B) ho) hs
 case makeMap t rs =>
  cases rs with
  | some m => exact hs.elim
  | none => exact W1 (stMkMap_ok (F := (F.withG G).with B) ho) hs
 case lookup t x i ok =>
  cases ok with
  | false => exact hs.elim
  | true => exact W1 (stLookup_ok (F := (F.withG G).with B) ho) hs
 case mapUpdate t x y u => exact W1 (stUpd_ok (F := (F.withG G).with B) ho) hs
 case unOp op t x => exact P1 (stUn_ok (F := (F.withG G).with B) ho) hs
 case convert src dst x =>
  split at hs
  ·rename_i hc
   simp only [hc, if_true]
   exact P1 (stConv_ok (P := P) (F := (F.withG G).with B) ho) hs
  ·rename_i hc
   simp only [hc, Bool.false_eq_true, if_false]
   exact W1 (stBStr_ok (F := (F.withG G).with B) ho) hs
 case makeFunc fn first captured => exact P1 (stFunc_ok (F := (F.withG G).with B) ho) hs
 case makeSlice t l c => exact W1 (stMake_ok (F := (F.withG G).with B) ho) hs
 case slice t x lo hi mx =>
  cases mx with
  | some m => exact hs.elim
  | none =>
   simp only at hs ⊢
   split at hs
   ·rename_i hc
    simp only [hc, if_true]
    split at hs
    ·rename_i id hx
     simp only [ptrId, hx]
     exact W1 (stArrSl_ok (F := (F.withG G).with B) ho hx) hs
    ·exact hs.elim
   ·rename_i hc
    simp only [hc, Bool.false_eq_true, if_false]
    exact P1 (stSlice_ok (F := (F.withG G).with B) ho) hs
 case fieldAddr t x f => exact P1 (stFieldB_ok (P := P) (F := (F.withG G).with B) ho) hs
 case indexAddr t x i => exact P1 (stIndex_ok (P := P) (F := (F.withG G).with B) ho) hs
 case index t x i =>
  split at hs
  ·exact P1 (stIdx_ok (F := (F.withG G).with B) ho) hs
  ·exact P1 (stIdxA_ok (F := (F.withG G).with B) ho) hs
 case extract x i => exact P1 (stExtract_ok (F := (F.withG G).with B) ho) hs
 case call c =>
  cases hc : c.callee with
  | value x => simp only [hc] at hs ⊢; exact W1 (eat_ok fun s' => world_map (n := F.n) (stCall_ok (F := (F.withG G).with B) hcfg ho)) hs
  | invoke r m => simp only [hc] at hs; exact hs.elim
  | builtin b =>
   cases b <;> simp only [hc] at hs ⊢ <;> try exact hs.elim
   case len =>
    split at hs
    ·rename_i hm
     simp only [hm, if_true]
     exact W1 (stLenM_ok (F := (F.withG G).with B) ho hc) hs
    ·rename_i hm
     simp only [hm, Bool.false_eq_true, if_false]
     exact P1 (stLen_ok (P := P) (F := (F.withG G).with B) ho hc) hs
   all_goals first | exact P1 (stMin_ok (F := (F.withG G).with B) ho hc) hs | exact P1 (stMax_ok (F := (F.withG G).with B) ho hc) hs | exact W1 (eat_ok fun s' => stAppend_ok (F := (F.withG G).with B) ho hc) hs
end Go.Proofs.YtibammoednhnoaaE

