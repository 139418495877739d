/- The engine, part 24: what was the frame's own becomes what is only read; the slice of an array; bytes as a string; functions as values. Conditions: none. -/
import Derived.Test.YtibammoednhnoaaE23
set_option linter.unusedVariables false
set_option linter.unusedSimpArgs false
namespace Go.Proofs.YtibammoednhnoaaE
open Kd
variable {α : Type}

theorem tOwn_mono {β ζ : Type} {pO pO' : β → ζ → Prop} {pc : β → ζ → List Value} {n : Nat} {d : Tree β} {Γ Γ' : HF} (hg : ∀ b v, Γ b = some v → Γ' b = some v) (hp : ∀ a z, pO a z → pO' a z) {x : Tree β} {z : ζ} {h : Option (Addr × Nat)}
  (o : TOwn pO pc n d Γ x z h) : TOwn pO' pc n d Γ' x z h := by
 induction o with
 | nil h => exact .nil (hp _ _ h)
 | void h => exact .void (hp _ _ h)
 | row zf hf h h1 h2 h3 h4 h5 _ ih => exact .row zf hf (hp _ _ h) h1 h2 h3 (hg _ _ h4) h5 ih
theorem lOwn_mono {β ζ : Type} {pO pO' : β → ζ → Prop} {pc : β → ζ → List Value} {n : Nat} {d : Tree β} {Γ Γ' : HF} (hg : ∀ b v, Γ b = some v → Γ' b = some v) (hp : ∀ a z, pO a z → pO' a z) {l : List (Tree β)} {h : Option (Addr × Nat)}
  (o : LOwn pO pc n d Γ l h) : LOwn pO' pc n d Γ' l h := by
 unfold LOwn at o ⊢
 split
 ·exact o
 ·refine o.imp id fun ⟨h0, c, t', zf, hf, h1, h2, h3, h4, h5, h6⟩ => ⟨h0, c, t', zf, hf, h1, h2, h3, hg _ _ h4, h5, fun i hi => tOwn_mono hg hp (h6 i hi)⟩
theorem own_mono {Γ Γ' : HF} (hg : ∀ b v, Γ b = some v → Γ' b = some v) : ∀ {K : Kd} {x : K.T} {z : K.Z} {h : HF}, K.Own Γ x z h → K.Own Γ' x z h
 | .int _, _, _, _, o => o
 | .bool, _, _, _, o => o
 | .str, _, _, _, o => o
 | .un, _, _, _, o => o
 | .unit, _, _, _, o => o
 | .tree _ e, _, _, _, o => ⟨o.1, tOwn_mono hg (fun _ _ h => own_mono (K := e) hg h) o.2⟩
 | .tl _ e, _, _, _, o => ⟨o.1, lOwn_mono hg (fun _ _ h => own_mono (K := e) hg h) o.2⟩
 | .ep _, none, _, _, o => o
 | .ep e, some y, z, _, o => by
  obtain ⟨o1, o2, c, t, o3, o4⟩ := o
  exact ⟨o1, own_mono (K := e) hg o2, c, t, hg _ _ o3, o4⟩
 | .mp _ _ _, none, _, _, o => o
 | .mp true _ _, some _, _, _, o => o
 | .mp false _ _, some _, _, _, o => by
  obtain ⟨es, clk, e, he⟩ := o
  exact ⟨es, clk, ⟨hg _ _ e.1, e.2⟩, he⟩
 | .pair a b, x, z, h, o => by
  obtain ⟨h1, h2, d, e, o1, o2⟩ := o
  exact ⟨h1, h2, d, e, own_mono hg o1, own_mono hg o2⟩
 | .arr n e, x, z, h, o => ⟨o.1, Each.congr (fun i _ h' p => own_mono (K := e) hg p) o.2⟩
 | .sl own t e hole, x, z, h, o => by
  obtain ⟨zo, zf⟩ := z
  cases zo with
  | none => exact o
  | some q =>
   obtain ⟨b, off, cap⟩ := q
   obtain ⟨c, h2, h1, h3, h4, hl, he, hd⟩ := o
   refine ⟨c, h2, h1, h3, h4, hl, Each.congr (fun i _ h' p => ?_) he, ?_⟩
   ·split
    ·rename_i hh; rw [if_pos hh] at p; exact p
    ·rename_i hh; rw [if_neg hh] at p; exact own_mono (K := e) hg p
   ·cases own with
    | true => exact hd
    | false =>
     simp only [Bool.false_eq_true, if_false] at hd ⊢
     obtain ⟨⟨t', hd⟩, e⟩ := hd
     exact ⟨⟨t', hg _ _ hd⟩, e⟩
theorem star_mono {Γ Γ' : HF} (hg : ∀ b v, Γ b = some v → Γ' b = some v) : ∀ {rcs : List (Nat × RC)} {h : HF}, Star Γ rcs h → Star Γ' rcs h
 | [], _, o => o
 | r :: l, h, ⟨h1, h2, d, e, o, st⟩ => by
  refine ⟨h1, h2, d, e, ?_, star_mono hg st⟩
  obtain ⟨i, rb, rK, rx, rz⟩ := r
  cases rb with
  | some bt =>
   obtain ⟨c, h2, d, e, o, hl⟩ := o
   exact ⟨c, h2, d, e, own_mono hg o, hl⟩
  | none => exact own_mono (K := rK) (x := rx) (z := rz) hg o
theorem SV.is_mono {Γ Γ' : HF} (hg : ∀ b v, Γ b = some v → Γ' b = some v) {rcs : List (Nat × RC)} {v : Value} : ∀ {s : SV}, s.is Γ rcs v → s.is Γ' rcs v
 | .val _ _, ⟨f, z, o, e⟩ => ⟨f, z, own_mono hg o, e⟩
 | .ptr _ _, i => i
 | .at _ _, i => i
 | .slc _ _ _ _, i => i
 | .eptr _ _, ⟨f, z, b, o, c, t, how, hc, hl, e⟩ => ⟨f, z, b, o, c, t, own_mono hg how, hg _ _ hc, hl, e⟩
 | .nilS, i => i
 | .nilP, i => i
 | .bnd _ _ _, i => i
 | .clo _ _, i => i
theorem AV.is_mono {Γ Γ' : HF} (hg : ∀ b v, Γ b = some v → Γ' b = some v) {rcs : List (Nat × RC)} {v : Value} : ∀ {s : AV}, s.is Γ rcs v → s.is Γ' rcs v
 | .one _, i => SV.is_mono hg i
 | .tup _, ⟨vs, e, hl, i⟩ => ⟨vs, e, hl, fun j s hj => let ⟨u, hu, i1⟩ := i j s hj; ⟨u, hu, SV.is_mono hg i1⟩⟩

theorem Good.freeze {F : Fr} {s : St} {a : Act} {w : World} {Γ : HF} {rcs : List (Nat × RC)} {h : HF} (g : Good F s a w Γ rcs h) {id : Nat} {r : RC} (hr : look rcs id = some r)
  (hB : ∀ e ∈ F.B, ∀ id', e.id = some id' → id' ≠ id) : ∃ h1 hr', HF.dj h1 hr' ∧ h = h1.un hr' ∧ r.Own Γ h1 ∧ (∀ b v, Γ b = some v → (Γ.un h1) b = some v) ∧ (∀ b v, h1 b = some v → (Γ.un h1) b = some v) ∧
   ∀ tm, (∀ t av, (t, av) ∈ tm → ∃ v, a.tmps[t]? = some v ∧ av.is (Γ.un h1) (del rcs id) v) → Good F ⟨tm, del s.ck id⟩ a w (Γ.un h1) (del rcs id) hr' := by
 obtain ⟨h1, hr', d1, hh, o1, _, dl⟩ := star_upd g.star hr g.nodup
 have m := (Mem.un d1).1 (hh ▸ g.mem)
 have dj2 := g.dj
 rw [hh] at dj2
 obtain ⟨dG1, dGr⟩ := HF.dj_un.1 dj2
 have hg : ∀ b v, Γ b = some v → (Γ.un h1) b = some v := fun b v e => un_left e
 refine ⟨h1, hr', d1, hh, o1, hg, fun b v e => un_right dG1 e, fun tm htm => ⟨(del_ck g id), del_nodup g.nodup id, star_mono hg dl, m.2, ?_, HF.un_dj.2 ⟨dGr, d1⟩, g.defers, g.tsz, htm, g.size, g.keep, ?_, ?_, fun b x e => hg b x (g.ro0 b x e), g.os, g.tape, g.output, (fun x hx => hg x.1 _ (g.sg x hx)), ?_, fun m' hm r' hr' => g.md m' hm r' (del_look rcs id _ _ hr')⟩⟩
 ·intro b x e
  cases e1 : Γ b with
  | some q =>
   simp only [HF.un, e1, Option.some_or, Option.some.injEq] at e
   subst e
   exact g.memR b _ e1
  | none =>
   simp only [HF.un, e1, Option.none_or] at e
   exact (m.1 b x e).r
 ·intro b hb
  exact g.own b (by rw [hh]; exact HF.has_un.2 (.inr hb))
 ·intro b hb
  rcases HF.has_un.1 hb with e | e
  ·exact g.ro b e
  ·exact .inr (g.own b (by rw [hh]; exact HF.has_un.2 (.inl e)))
 ·intro e he
  refine ⟨(g.bx e he).1, fun id' hid => ?_⟩
  obtain ⟨r', t', h1', h2'⟩ := (g.bx e he).2 id' hid
  exact ⟨r', t', by rw [look_del _ (hB e he id' hid)]; exact h1', h2'⟩

def stArrSl (P : Program) (n : Lim) (o : Oper) (t : TypeId) (id : Nat) (s : St) (k : St → Tr α) : Tr α := match look s.ck id, P.underlying t with
 | some ⟨some _, .arr m e, xs⟩, some (.array m' te) => match P.info? te, o.dst with
  | some ie, some d => if m = m' ∧ ie.size = e.size ∧ e.free = true ∧ m ≤ 9223372036854775807 ∧ d < n.n then
    k ⟨(d, .one (.val (.sl false te e none) xs)) :: del (s.tm.filter fun x => offA id x.2) d, del s.ck id⟩ else .bad
  | _, _ => .bad
 | _, _ => .bad
theorem stArrSl_ok {P : Program} {F : Fr} {o : Oper} {t : TypeId} {x : Operand} {s : St} {k : St → Tr α} (ho : o.op = .slice t x none none none) {id : Nat} (hx : opo s x = some (.ptr id [])) : WorldOK P F o s (stArrSl P F.n o t id s k) k ⟨true, [id]⟩ := by
 unfold stArrSl
 split
 ·rename_i t0 m e xs m' te hck hu
  split
  ·rename_i ie d hie hd
   split
   ·rename_i hcond
    obtain ⟨rfl, hsz, hf, hm, hlt⟩ := hcond
    intro Kp a w Γ rcs h Q g he hs
    obtain ⟨r, q, hr, hp, _, hv⟩ := g.opoIs hx
    obtain hc := g.same hck hr
    simp only [pl, Option.some.injEq] at hp
    subst hp
    obtain ⟨rb, rK, rx, rz⟩ := r
    simp only [RC.ck, Ck.mk.injEq] at hc
    obtain ⟨hb, hK, hxx⟩ := hc
    subst hK
    obtain rfl := eq_of_heq hxx
    cases rb with
    | none => cases hb
    | some bt =>
    obtain ⟨b, tb⟩ := bt
    have hB : ∀ e ∈ F.B, ∀ id', e.id = some id' → id' ≠ id := fun e hm id' hid => by
     have := he e hm
     rw [hid] at this
     simpa using this
    obtain ⟨h1, hr', d1, hh, o1, hg1, hg2, mk⟩ := g.freeze hr hB
    obtain ⟨c, h2, d2, hh1, o2, hl⟩ := o1
    have h2e : h2 = HF.emp := own_free (by simpa [free] using hf) o2
    have hcb : (Γ.un h1) b = some (.cel c tb) := hg2 b _ (by rw [hh1]; exact one_self)
    have hrun : (execOp a.eval o).run P w = .ok (.value (.slice (some ⟨b, 0, none⟩) m m)) w := by
     simp only [Option.getD_some] at hv
     simp [execOp, ho, hv, Instr.sliceAt, run_underlying hu, Instr.sureAddr, Instr.sliceBounds, sizeOf, typeInfo, hie, Addr.add]
    have hxl : List.length xs = m := o2.1
    have hav : (AV.one (SV.val (.sl false te e none) xs)).is (Γ.un h1) (del rcs id) (.slice (some ⟨b, 0, none⟩) m m) := by
     refine ⟨by simpa [free] using hf, (some (b, 0, m), rz), ⟨c, HF.emp, by rw [hxl]; exact Nat.le_refl _, hm, ?_, ?_, ?_, ?_⟩, ?_⟩
     ·rw [← Array.length_toList, hl]
      simp only [cells_length, Kd.size]
      omega
     ·intro i hi
      rw [Nat.zero_add]
      have h0 : Lie c 0 ((Kd.arr m e).cells xs rz) := fun j hj => by rw [← hl]; simp
      have := lie_arr h0 (show i < m by rw [← hxl]; exact hi)
      rwa [Nat.zero_add] at this
     ·rw [hxl]
      refine each_emp fun i hi => ?_
      rw [if_neg (by simp)]
      exact own_mono hg1 (own_item hf o2 hi)
     ·simp only [Bool.false_eq_true, if_false]
      exact ⟨⟨tb, hcb⟩, trivial⟩
     ·simp [toV, single, Kd.cells, hdr, hxl]
    unfold Oper.wp
    rw [hrun, Oper.upon_value, hd]
    have g1 := mk (s.tm.filter fun x => offA id x.2) fun t av hm => by
     obtain ⟨e1, e2⟩ := List.mem_filter.1 hm
     obtain ⟨v, hv, hi⟩ := g.tm t av e1
     exact ⟨v, hv, AV.is_mono hg1 (offA_is e2 hi)⟩
    exact ⟨_, ⟨_, _, _, g1.put hlt hav⟩, hs⟩
   ·exact world_bad
  ·exact world_bad
 ·exact world_bad

def bstr (ns : List Int) : ByteArray := ⟨(ns.map fun n => UInt8.ofNat n.toNat).toArray⟩
theorem foldl_bstr : ∀ (ns : List Int) (s : ByteArray), ns.foldl (fun r n => r.push (UInt8.ofNat n.toNat)) s = ⟨s.data ++ (ns.map fun n => UInt8.ofNat n.toNat).toArray⟩
 | [], s => by cases s; simp
 | n :: ns, s => by
  rw [List.foldl_cons, foldl_bstr ns]
  cases s
  simp [ByteArray.push]
def bytesT (P : Program) (t : TypeId) : Bool := match P.underlying t with
 | some (.slice e) => match P.underlying e with
  | some (.int .u8) => true
  | _ => false
 | _ => false
def stBStr (P : Program) (n : Lim) (o : Oper) (src dst : TypeId) (x : Operand) (s : St) (k : St → Tr α) : Tr α := if bytesT P src && strT P dst && (slOf? P src).isSome then (match opo s x with
 | some .nilS => set n s o (.one (.val .str ByteArray.empty)) k
 | some v => match srcList s v with
  | some ⟨.int .u8, ns⟩ => .need (List.length ns ≤ 9223372036854775807) (set n s o (.one (.val .str (bstr ns))) k)
  | _ => .bad
 | none => .bad) else .bad
theorem bstr_size (ns : List Int) : (bstr ns).size = ns.length := by
 show (ns.map fun n => UInt8.ofNat n.toNat).toArray.size = _
 simp
theorem stBStr_ok {P : Program} {F : Fr} {o : Oper} {src dst : TypeId} {x : Operand} {s : St} {k : St → Tr α} (ho : o.op = .convert src dst x) : WorldOK P F o s (stBStr P F.n o src dst x s k) k ⟨true, []⟩ := by
 unfold stBStr
 split
 ·rename_i hc
  simp only [Bool.and_eq_true] at hc
  obtain ⟨⟨hc1, hc2⟩, hc3⟩ := hc
  have hd : P.underlying dst = some .string := by
   unfold strT at hc2
   split at hc2 <;> first | assumption | cases hc2
  obtain ⟨e, hs1, he1⟩ : ∃ e, P.underlying src = some (.slice e) ∧ P.underlying e = some (.int .u8) := by
   unfold bytesT at hc1
   split at hc1
   ·split at hc1
    ·exact ⟨_, by assumption, by assumption⟩
    ·cases hc1
   ·cases hc1
  have fin : ∀ (K : α → Prop) (a : Act) (w : World) (Γ : HF) (rcs : List (Nat × RC)) (h : HF) (Q : Exit → Act → World → Prop) (b : ByteArray), Good F s a w Γ rcs h → b.size ≤ 9223372036854775807 → (convert src dst (a.eval x)).run P w = .ok (.string b) w →
    (set F.n s o (.one (.val .str b)) k).sat K → o.wp P a w (fun a' w' => ∃ s', R F s' a' w' ∧ (k s').sat K) Q := by
   intro K a w Γ rcs h Q b g hb hrun hs
   unfold Oper.wp
   have : (execOp a.eval o).run P w = .ok (.value (.string b)) w := by simp [execOp, ho, hrun]
   rw [this, Oper.upon_value]
   exact set_ok hs g (str_is (rcs := rcs) hb)
  split
  ·rename_i hx
   intro K a w Γ rcs h Q g he hs
   have hv : a.eval x = .slice none 0 0 := g.opoIs hx
   refine fin K a w Γ rcs h Q _ g (by decide) ?_ hs
   rw [hv, run_convert_bytes_string w src dst e none 0 0 hs1 he1 hd]
   simp [Conv.bytesToString, Sem.run_pure]
  ·rename_i v hnn hx
   split
   ·rename_i ns hsrc
    intro K a w Γ rcs h Q g he hs
    obtain ⟨hlen, hs⟩ := hs
    obtain ⟨zg, hS, _⟩ := src_is (P := P) g (g.opoIs hx) hsrc rfl rfl hs1
    refine fin K a w Γ rcs h Q _ g (by rw [bstr_size]; exact hlen) ?_ hs
    have hrow : rowCells (.int .u8) ns zg = ns.map (Value.int .u8) := by
     unfold rowCells
     have : ∀ (l : List Nat), (∀ i ∈ l, i < ns.length) → l.flatMap (fun i => (Kd.int .u8).cells (ns.getD i (Kd.int .u8).dft) (zg i)) = l.map fun i => Value.int .u8 (ns.getD i 0) := by
      intro l
      induction l with
      | nil => intro _; rfl
      | cons i l ih => intro hl; rw [List.flatMap_cons, ih fun j hj => hl j (List.mem_cons_of_mem _ hj)]; rfl
     rw [this _ fun i hi => List.mem_range.1 hi]
     refine List.ext_getElem? fun j => ?_
     rcases Nat.lt_or_ge j ns.length with q | q
     ·simp [q]
     ·simp [q]
    obtain ⟨A, l, c, hu⟩ : ∃ A l c, a.eval x = .slice A l c := by
     have hv := g.opoIs hx
     cases v with
     | val K y =>
      cases K with
      | sl o t e hole => obtain ⟨_, zz, _, e'⟩ := hv; obtain ⟨zo, zf⟩ := zz; cases zo with
       | none => exact ⟨none, 0, 0, e'⟩
       | some q => exact ⟨_, _, _, e'⟩
      | _ => simp [srcList] at hsrc
     | «at» id p =>
      simp only [srcList] at hsrc
      split at hsrc
      ·rename_i cc hcc
       split at hsrc
       ·rename_i t e0 ys0 hg
        obtain ⟨r, q, hr, hp, hu⟩ := hv
        obtain rfl := g.same hcc hr
        have hget := pl_get p _ _ _ _ hp
        simp only [RC.ck] at hg
        rw [hget] at hg
        injection hg with hg
        obtain ⟨qK, qx, qz, qa⟩ := q
        simp only [Sigma.mk.injEq] at hg
        obtain ⟨rfl, hg⟩ := hg
        obtain ⟨zo, zf⟩ := qz
        cases zo with
        | none => exact ⟨none, 0, 0, hu⟩
        | some q => exact ⟨_, _, _, hu⟩
       ·cases hsrc
      ·cases hsrc
     | slc id p off len =>
      obtain ⟨r, t1, e1, hole, x', z', qa, hr, hp, hle, hu⟩ := hv
      rcases hu with ⟨_, hu | ⟨_, _, _, off2, cap2, _, hu, _⟩⟩ | ⟨b, o', cap, _, hu⟩
      ·exact ⟨_, _, _, hu⟩
      ·exact ⟨_, _, _, hu⟩
      ·exact ⟨_, _, _, hu⟩
     | _ => simp [srcList] at hsrc
    rw [hu] at hS ⊢
    rw [run_convert_bytes_string w src dst e A l c hs1 he1 hd]
    have hcells := hS.cells
    have hl := hS.len w
    simp [Builtin.lenOf] at hl
    cases A with
    | none =>
     rw [run_firstCells_none] at hcells
     rw [hrow] at hcells
     simp at hcells
     have : ns = [] := by simpa using hcells
     subst this
     simp [Conv.bytesToString, Sem.run_pure]
     rfl
    | some ad =>
     have hload : (loadCells ad l).run P w = .ok (ns.map (Value.int .u8)).toArray w := by
      have := hcells
      simp only [Builtin.firstCells, hrow, Kd.size, Nat.mul_one] at this
      rw [hl]
      exact this
     rw [run_bytesToString w ad l c ns hload, foldl_bstr]
     simp [bstr, ByteArray.empty, ByteArray.emptyWithCapacity]
     rfl
   ·exact world_bad
  ·exact world_bad
 ·exact world_bad

def pureK : Kd → Bool
 | .int _ | .bool | .str | .unit => true
 | .pair a b => pureK a && pureK b
 | .arr _ e => pureK e
 | _ => false
theorem own_pure {Γ Γ' : HF} : ∀ {K : Kd} {x : K.T} {z : K.Z} {h : HF}, pureK K = true → K.Own Γ x z h → K.Own Γ' x z h
 | .int _, _, _, _, _, o => o
 | .bool, _, _, _, _, o => o
 | .str, _, _, _, _, o => o
 | .unit, _, _, _, _, o => o
 | .pair a b, x, z, h, f, o => by
  simp only [pureK, Bool.and_eq_true] at f
  obtain ⟨h1, h2, d, e, o1, o2⟩ := o
  exact ⟨h1, h2, d, e, own_pure f.1 o1, own_pure f.2 o2⟩
 | .arr n e, x, z, h, f, o => ⟨o.1, Each.congr (fun i _ h' p => own_pure (K := e) f p) o.2⟩
def capId (s : St) (x : Operand) : Option Nat := match opo s x with
 | some (.ptr id []) => match look s.ck id with
  | some c => if c.box.isSome then some id else none
  | none => none
 | _ => none
def stFunc (n : Lim) (o : Oper) (fn : Fn) (first captured : Array Operand) (s : St) (k : St → Tr α) : Tr α := match fn, first.toList, captured.toList.mapM (capId s) with
 | .func f, [], some ids => set n s o (.one (.clo f ids)) k
 | .func f, [x], some [] => match opo s x with
  | some (.val K y) => if pureK K then set n s o (.one (.bnd f K y)) k else .bad
  | _ => .bad
 | _, _, _ => .bad
theorem stFunc_ok {P : Program} {F : Fr} {o : Oper} {fn : Fn} {first captured : Array Operand} {s : St} {k : St → Tr α} (ho : o.op = .makeFunc fn first captured) : PureOK P F o s (stFunc F.n o fn first captured s k) k := by
 unfold stFunc
 split
 ·rename_i f ids hf hc
  refine pure_set fun a w Γ rcs h g => ?_
  have hf' : first = #[] := by rw [← Array.toList_inj]; exact hf
  subst hf'
  refine ⟨.func (.func f) #[] (captured.map a.eval), fun w' => ?_, captured.toList.map a.eval, ?_, ?_, ?_⟩
  ·simp [execOp, ho, Instr.makeFunc, Sem.run_pure]
  ·rw [← Array.toList_map]
  ·rw [List.length_map]
   have key : ∀ (l : List Operand) (ids : List Nat), l.mapM (capId s) = some ids → l.length = ids.length := by
    intro l
    induction l with
    | nil => intro ids h; simp at h; subst h; rfl
    | cons x l ih =>
     intro ids h
     simp only [List.mapM_cons, Option.bind_eq_bind, Option.bind_eq_some_iff, Option.pure_def, Option.some.injEq] at h
     obtain ⟨i, _, is, h2, rfl⟩ := h
     simp [ih is h2]
   exact key _ _ hc
  ·have key : ∀ (l : List Operand) (ids : List Nat), l.mapM (capId s) = some ids → ∀ (i id : Nat), ids[i]? = some id → ∃ r b t, look rcs id = some r ∧ r.box = some (b, t) ∧ (l.map a.eval)[i]? = some (.pointer (some ⟨b, 0, none⟩)) := by
    intro l
    induction l with
    | nil => intro ids h i id hi; simp at h; subst h; simp at hi
    | cons x l ih =>
     intro ids h i id hi
     simp only [List.mapM_cons, Option.bind_eq_bind, Option.bind_eq_some_iff, Option.pure_def, Option.some.injEq] at h
     obtain ⟨j, hj, is, h2, rfl⟩ := h
     cases i with
     | zero =>
      simp only [List.getElem?_cons_zero, Option.some.injEq] at hi
      subst hi
      unfold capId at hj
      split at hj
      ·rename_i id hx
       split at hj
       ·rename_i c hck
        split at hj
        ·rename_i hb
         injection hj with hj
         subst hj
         obtain ⟨r, q, hr, hp, _, hv⟩ := g.opoIs hx
         obtain rfl := g.same hck hr
         simp only [pl, Option.some.injEq] at hp
         subst hp
         obtain ⟨⟨b, t⟩, hbx⟩ := Option.isSome_iff_exists.1 (show r.box.isSome = true by simpa [RC.ck] using hb)
         refine ⟨r, b, t, hr, hbx, ?_⟩
         simp [hv, hbx]
        ·cases hj
       ·cases hj
      ·cases hj
     | succ i =>
      obtain ⟨r, b, t, h3, h4, h5⟩ := ih is h2 i id (by simpa using hi)
      exact ⟨r, b, t, h3, h4, by simpa using h5⟩
   exact key _ _ hc
 ·rename_i f x hf hc
  split
  ·rename_i K y hx
   split
   ·rename_i hp
    refine pure_set fun a w Γ rcs h g => ?_
    have hf' : first = #[x] := by rw [← Array.toList_inj]; exact hf
    have hc' : captured = #[] := by
     rw [← Array.toList_inj]
     cases hcl : captured.toList with
     | nil => rfl
     | cons c l =>
      rw [hcl] at hc
      simp only [List.mapM_cons, Option.bind_eq_bind, Option.bind_eq_some_iff, Option.pure_def, Option.some.injEq] at hc
      obtain ⟨i, _, is, _, hh⟩ := hc
      cases hh
    subst hf'; subst hc'
    obtain ⟨hfr, z, ho', hv⟩ := g.opoIs hx
    exact ⟨.func (.func f) #[a.eval x] #[], fun w' => by simp [execOp, ho, Instr.makeFunc, Sem.run_pure], hfr, z, own_pure hp ho', by rw [hv]⟩
   ·exact pure_bad
  ·exact pure_bad
 ·exact pure_bad
end Go.Proofs.YtibammoednhnoaaE

