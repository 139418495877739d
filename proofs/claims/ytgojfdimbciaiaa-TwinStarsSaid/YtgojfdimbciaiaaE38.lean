/- The engine, part 38: a loop over a text's scalars. Conditions: none. -/
import Derived.Test.YtgojfdimbciaiaaE36
import Derived.Laws.RangeAny
set_option linter.unusedVariables false
set_option linter.unusedSimpArgs false
namespace Go.Proofs.YtgojfdimbciaiaaE
open Kd
variable {α : Type}

/-! ### The walker: an object of the heap that is no row of cells -/
theorem run_next_at {P : Program} (W : World) (g : Nat) (s : ByteArray) (pos : Nat) (hb : W.heap[g]? = some (.stringIter s pos)) (h : pos < s.size) :
    ∃ W1 : World, (∀ ty, (Instr.next (.pointer (some ⟨g, 0, none⟩)) true ty).run P W = .ok (.tuple #[.bool true, .int .i64 pos, .int .i32 (Utf8.decode s pos).1]) W1) ∧
      W1.heap[g]? = some (.stringIter s (pos + (Utf8.decode s pos).2)) ∧ W1.heap.size = W.heap.size ∧ (∀ k, k ≠ g → W1.heap[k]? = W.heap[k]?) ∧ W1.os = W.os ∧ W1.tape = W.tape ∧ W1.output = W.output := by
  have hg : g < W.heap.size := by
    rcases Nat.lt_or_ge g W.heap.size with q | q
    · exact q
    · rw [Array.getElem?_eq_none q] at hb; cases hb
  refine ⟨{ W with heap := W.heap.setIfInBounds g (.stringIter s (pos + (Utf8.decode s pos).2)) }, fun ty => ?_, by simp [hg], by simp, fun k hk => ?_, rfl, rfl, rfl⟩
  · simp only [Instr.next, getObj, setObj, Sem.run_bind, Sem.run, hb, Result.andThen, h, if_true]
    simp [goInt]
  · simp [Array.getElem?_setIfInBounds, Ne.symm hk]
theorem run_next_over {P : Program} (W : World) (g : Nat) (s : ByteArray) (pos : Nat) (hb : W.heap[g]? = some (.stringIter s pos)) (h : ¬ pos < s.size) (ty : TypeId) :
    (Instr.next (.pointer (some ⟨g, 0, none⟩)) true ty).run P W = .ok (.tuple #[.bool false]) W := by
  simp [Instr.next, getObj, Sem.run, hb, h]
/-- Another world, that is the same but for what is no row of cells. -/
theorem R.other {F : Fr} (hB : F.B = []) {s : St} {a : Act} {w w1 : World} (r : R F s a w) {b : Nat} (hb : ∀ c t f, w.heap[b]? ≠ some (.cells c t f)) (hw0 : F.w0.heap.size ≤ b) (hk : ∀ k, k ≠ b → k < w.heap.size → w1.heap[k]? = w.heap[k]?)
    (hs : w.heap.size ≤ w1.heap.size) (ho : w1.os = w.os) (ht : w1.tape = w.tape) (hou : w1.output = w.output) : R F s a w1 := by
  obtain ⟨Γ, rcs, h, g⟩ := r
  have lt : ∀ {k : Nat} {x : Obj}, w.heap[k]? = some x → k < w.heap.size := fun {k x} e => by
    rcases Nat.lt_or_ge k w.heap.size with q | q
    · exact q
    · rw [Array.getElem?_eq_none q] at e; cases e
  refine ⟨Γ, rcs, h, g.ck, g.nodup, g.star, ?_, ?_, g.dj, g.defers, g.tsz, g.tm, Nat.le_trans g.size hs, ?_, g.own, g.ro, g.ro0, ho.trans g.os, ht.trans g.tape, hou.trans g.output, g.sg, ?_, g.md⟩
  · intro k c t e
    obtain ⟨lo, hi, e1, e2⟩ := g.mem k c t e
    exact ⟨lo, hi, by rw [hk k (fun q => by subst q; exact hb _ _ _ e1) (lt e1)]; exact e1, e2⟩
  · intro k c t e
    obtain ⟨f, e1⟩ := g.memR k c t e
    exact ⟨f, by rw [hk k (fun q => by subst q; exact hb _ _ _ e1) (lt e1)]; exact e1⟩
  · intro k h1 h2
    rw [hk k (by omega) (Nat.lt_of_lt_of_le h1 g.size)]
    exact g.keep k h1 h2
  · rw [hB]
    intro e he
    cases he
/-- From here on: the world stays but for what is owned. -/
theorem R.rebase {F : Fr} (hB : F.B = []) {s : St} {a : Act} {w : World} (r : R F s a w) : ∃ F1 : Fr, F1.n = F.n ∧ F1.B = [] ∧ R F1 s a w ∧
    ∀ s' a' w', R F1 s' a' w' → R F s' a' w' ∧ w.heap.size ≤ w'.heap.size ∧ ∀ b, b < w.heap.size → (∀ c t f, w.heap[b]? ≠ some (.cells c t f)) → w'.heap[b]? = w.heap[b]? := by
  obtain ⟨Γ, rcs, h, g⟩ := r
  refine ⟨⟨w, h, Γ, F.n, [], F.M, F.G, F.hM⟩, rfl, rfl, ⟨Γ, rcs, h, g.ck, g.nodup, g.star, g.mem, g.memR, g.dj, g.defers, g.tsz, g.tm, Nat.le_refl _, fun _ _ _ => rfl, fun _ hb => .inl hb, fun _ hb => .inl hb, fun _ _ e => e, rfl, rfl, rfl, g.sg, fun e he => (by cases he), g.md⟩, ?_⟩
  rintro s' a' w' ⟨Γ', rcs', h', g'⟩
  have keep : ∀ b, b < w.heap.size → ¬ h.has b → w'.heap[b]? = w.heap[b]? := g'.keep
  refine ⟨⟨Γ', rcs', h', g'.ck, g'.nodup, g'.star, g'.mem, g'.memR, g'.dj, g'.defers, g'.tsz, g'.tm, Nat.le_trans g.size g'.size, ?_, ?_, ?_, fun b x e => g'.ro0 b x (g.ro0 b x e), g'.os.trans g.os, g'.tape.trans g.tape, g'.output.trans g.output, g'.sg, (by rw [hB]; intro e he; cases he), g'.md⟩, g'.size, fun b hb hc => keep b hb ?_⟩
  · intro b h1 h2
    rw [keep b (Nat.lt_of_lt_of_le h1 g.size)]
    · exact g.keep b h1 h2
    · intro hb
      rcases g.own b hb with q | q
      · exact h2 q
      · omega
  · intro b hb
    rcases g'.own b hb with q | q
    · exact g.own b q
    · exact .inr (Nat.le_trans g.size q)
  · intro b hb
    rcases g'.ro b hb with q | q | q
    · exact g.ro b q
    · exact .inr (g.own b q)
    · exact .inr (.inr (Nat.le_trans g.size q))
  · intro hx
    cases e : h b with
    | none => exact hx e
    | some x =>
      obtain ⟨lo, hi, e1, _⟩ := g.mem b x.1 x.2 e
      exact hc _ _ _ e1

/-! ### The code of such a loop -/
structure SRI where
  X : Operand
  t7 : Nat
  t8 : Nat
  t9 : Nat
  t10 : Nat
  xb : Nat
  b2 : Code
def is7 (o : Oper) : Option (Operand × Nat) := match o.op, o.dst, o.guard with
  | .move X, some d, none => some (X, d)
  | _, _, _ => none
def is8 (P : Program) (o : Oper) : Option (Nat × Nat) := match o.op, o.dst, o.guard with
  | .range ty (.tmp t), some d, none => match P.underlying ty with
    | some .string => some (t, d)
    | _ => none
  | _, _, _ => none
def is9 (o : Oper) : Option (Nat × Nat) := match o.op, o.dst, o.guard with
  | .next (.tmp t) true, some d, none => some (t, d)
  | _, _, _ => none
def is10 (o : Oper) : Option (Nat × Nat) := match o.op, o.dst, o.guard with
  | .extract (.tmp t) 0, some d, none => some (t, d)
  | _, _, _ => none
def srOps (P : Program) (l1 l2 : List Oper) (t xb : Nat) (b2 : Code) : Option SRI := match l1, l2 with
  | [o7, o8], [o9, o10] => match is7 o7, is8 P o8, is9 o9, is10 o10 with
    | some (X, t7), some (t7', t8), some (t8', t9), some (t9', t10) => if t7 = t7' ∧ t8 = t8' ∧ t9 = t9' ∧ t10 = t then some ⟨X, t7, t8, t9, t10, xb, b2⟩ else none
    | _, _, _, _ => none
  | _, _ => none
def srInfo (P : Program) : Code → Option SRI
  | .seq (.region _ ops1 false) (.block xb (.loop (.seq (.region _ ops2 false) (.seq (.cond (.tmp t) .skip (.exit xb')) b2)))) => if xb = xb' then srOps P ops1.toList ops2.toList t xb b2 else none
  | _ => none

/-! ### What is told -/
/-- The walker's pointer is held as something that is not looked into. -/
def addIt (s : St) (t7 t8 nid : Nat) : St := ⟨(t8, .one (.at nid [])) :: del (del s.tm t7) t8, (nid, ⟨none, .un, ()⟩) :: s.ck⟩
def itSt (s : St) (t9 t10 : Nat) (pos : Nat) (r : Nat) : St := ⟨(t10, .one (.val .bool true)) :: del ((t9, .tup [.val .bool true, .val (.int .i64) (pos : Int), .val (.int .i32) (r : Int)]) :: del s.tm t9) t10, s.ck⟩
def overSt (s : St) (t9 t10 : Nat) : St := ⟨del (del s.tm t9) t10, s.ck⟩
def rngK (f : Frag) (sh' : Shape) (xb : Nat) (rec : sh'.V → Option (PT f.outs)) (e : Ex) (s : St) : Tr (PT f.outs) := match e with
  | .normal => match sh'.enter s with
    | some v => .bind (rec v) .leaf
    | none => .bad
  | .exit i => if i = xb then injO f.outs .normal s else injO f.outs (.exit i) s
  | .ret => injO f.outs .ret s
def rune (s : ByteArray) (pos : Nat) : Nat := (Utf8.decode s pos).1
def width (s : ByteArray) (pos : Nat) : Nat := (Utf8.decode s pos).2
def rngT (P : Program) (S : Stepper) (p : Plan) (I : SRI) (f : Frag) (sh' : Shape) (rec : Nat → sh'.V → Option (PT f.outs)) (s : ByteArray) (pos : Nat) (v : sh'.V) : Tr (PT f.outs) :=
  .split (decide (pos < s.size)) (body P S p I.b2 (itSt (sh'.st v) I.t9 I.t10 pos (rune s pos)) (rngK f sh' I.xb (rec (pos + width s pos)))) (injO f.outs .normal (overSt (sh'.st v) I.t9 I.t10))

section
variable {P : Program} {cfg : Nat → Option Spec} {n : Lim}
/-- The frame that watches the walker's pointer. -/
def Fr.watch (F : Fr) (u : Value) (hbig : F.n.n < 1000000) : Fr := { F with
  M := (F.n.n, u) :: F.M.filter fun m => m.1 != F.n.n
  hM := fun m hm => by
    rcases List.mem_cons.1 hm with e | e
    · subst e; exact ⟨.inr (Nat.le_refl _), hbig⟩
    · exact F.hM m (List.mem_filter.1 e).1 }
theorem noCk {s : St} {rcs : List (Nat × RC)} (h : rcs.map (fun r => (r.1, r.2.ck)) = s.ck) {id : Nat} (hno : look s.ck id = none) : look rcs id = none := by
  rw [← h, look_mapC] at hno
  cases e : look rcs id with
  | none => rfl
  | some r => rw [e] at hno; cases hno
theorem R.addIt {F : Fr} (hB : F.B = []) {s : St} {a : Act} {w : World} (r : R F s a w) {t7 t8 : Nat} {u v7 : Value} (h8 : t8 < F.n.n) (hno : look s.ck F.n.n = none) (hbig : F.n.n < 1000000) :
    R (F.watch u hbig) (YtgojfdimbciaiaaE.addIt s t7 t8 F.n.n) ((a.put (some t7) v7).put (some t8) u) w := by
  obtain ⟨Γ, rcs, h, g⟩ := r
  have g1 := g.forget t7 v7
  have hnr := noCk g.ck hno
  have lk : ∀ id r, id ∉ ([] : List Nat) → look rcs id = some r → look ((F.n.n, (⟨none, .un, (), u⟩ : RC)) :: rcs) id = some r := fun id r _ e => by
    simp only [look]
    rw [if_neg (by intro q; have := eq_of_beq q; rw [this, e] at hnr; cases hnr)]
    exact e
  refine ⟨Γ, (F.n.n, ⟨none, .un, (), u⟩) :: rcs, h, ?_, ?_, ⟨HF.emp, h, HF.emp_dj _, (HF.emp_un _).symm, rfl, g.star⟩, g.mem, g.memR, g.dj, g.defers, ?_, ?_, g.size, g.keep, g.own, g.ro, g.ro0, g.os, g.tape, g.output, g.sg, ?_, ?_⟩
  · show _ = (F.n.n, _) :: s.ck
    rw [List.map_cons, g.ck]
    rfl
  · rw [List.map_cons, List.nodup_cons]
    refine ⟨fun hm => ?_, g.nodup⟩
    obtain ⟨y, hy, e⟩ := List.mem_map.1 hm
    have := look_of_mem g.nodup (show (y.1, y.2) ∈ rcs from hy)
    rw [e, hnr] at this
    cases this
  · simp [Act.put, g.tsz, Fr.watch]
  · intro t av hm
    rcases List.mem_cons.1 hm with e | e
    · injection e with e1 e2
      subst e1; subst e2
      refine ⟨u, by simp [Act.put, g.tsz, h8], ⟨none, .un, (), u⟩, ⟨.un, (), u, (0, 0)⟩, by simp [look], by simp [pl], rfl⟩
    · obtain ⟨e1, e2⟩ := List.mem_filter.1 e
      simp at e2
      obtain ⟨x, hx, hi⟩ := g1.tm t av e1
      refine ⟨x, by simp only [Act.put] at hx ⊢; rw [Array.getElem?_setIfInBounds_ne (Ne.symm e2)]; exact hx, ids_is (keys := []) (fun c hc => by cases hc) hi lk⟩
  · show ∀ e ∈ F.B, _
    rw [hB]
    intro e he
    cases he
  · intro m hm r hr
    rcases List.mem_cons.1 hm with e | e
    · subst e
      simp only [look, beq_self_eq_true, if_true, Option.some.injEq] at hr
      subst hr
      rfl
    · obtain ⟨e1, e2⟩ := List.mem_filter.1 e
      have q : ¬ F.n.n = m.1 := fun q => by simp [q] at e2
      refine g.md m e1 r ?_
      simp only [look] at hr
      rwa [if_neg (by simpa using q)] at hr
theorem R.backIt {F : Fr} {s : St} {a : Act} {w : World} {u : Value} {hbig : F.n.n < 1000000} (r : R (F.watch u hbig) s a w) (hno : look s.ck F.n.n = none) : R F s a w := by
  obtain ⟨Γ, rcs, h, g⟩ := r
  have hnr := noCk g.ck hno
  refine ⟨Γ, rcs, h, g.ck, g.nodup, g.star, g.mem, g.memR, g.dj, g.defers, g.tsz, g.tm, g.size, g.keep, g.own, g.ro, g.ro0, g.os, g.tape, g.output, g.sg, g.bx, fun m hm r hr => ?_⟩
  by_cases q : m.1 = F.n.n
  · rw [q, hnr] at hr
    cases hr
  · exact g.md m (List.mem_cons_of_mem _ (List.mem_filter.2 ⟨hm, by simpa using q⟩)) r hr
/-- The pointer is there. -/
theorem R.walker {F : Fr} {s : St} {a : Act} {w : World} {u : Value} {hbig : F.n.n < 1000000} (r : R (F.watch u hbig) s a w) {t8 : Nat} (h1 : look s.tm t8 = some (.one (.at F.n.n []))) (h2 : look s.ck F.n.n = some ⟨none, .un, ()⟩) : a.eval (.tmp t8) = u := by
  obtain ⟨Γ, rcs, h, g⟩ := r
  obtain ⟨r, q, hr, hp, hv⟩ := g.tmpIs h1
  have hc := g.same h2 hr
  have hm := g.md (F.n.n, u) List.mem_cons_self r hr
  simp only [pl, Option.some.injEq] at hp
  subst hp
  obtain ⟨rb, rK, rx, rz⟩ := r
  simp only [RC.ck, Ck.mk.injEq] at hc
  obtain ⟨hb, hK, _⟩ := hc
  cases rb with
  | some x => cases hb
  | none =>
    rw [hv]
    exact hm
theorem outs_no {outs : List (Ex × Shape)} {id : Nat} (h : (outs.all fun o => !(o.2.cks.map (·.1)).contains id) = true) (r : PT outs) : look (outOf outs r).2.ck id = none := by
  have one : ∀ (sh : Shape) (v : sh.V), (sh.cks.map (·.1)).contains id = false → look (sh.st v).ck id = none := by
    intro sh v hc
    unfold Shape.st
    have key : ∀ (l : List (Nat × Option TypeId × Kd)) (v : VC l), (l.map (·.1)).contains id = false → look (ckSt l v) id = none := by
      intro l
      induction l with
      | nil => intro v _; rfl
      | cons y l ih =>
        intro v hh
        obtain ⟨i, b, K⟩ := y
        simp only [List.map_cons, List.contains_cons, Bool.or_eq_false_iff] at hh
        simp only [ckSt, look]
        rw [if_neg (by intro q; have := eq_of_beq q; subst this; simp at hh)]
        exact ih v.2 hh.2
    exact key sh.cks v.2 hc
  match outs, r with
  | [], r => cases r
  | [o], r =>
    simp only [List.all_cons, List.all_nil, Bool.and_true, Bool.not_eq_true'] at h
    exact one o.2 r h
  | o :: o2 :: l, .inl x =>
    rw [List.all_cons, Bool.and_eq_true, Bool.not_eq_true'] at h
    exact one o.2 x h.1
  | o :: o2 :: l, .inr y =>
    rw [List.all_cons, Bool.and_eq_true] at h
    exact outs_no (outs := o2 :: l) h.2 y
theorem srInfo_spec {c : Code} {I : SRI} (h : srInfo P c = some I) : ∃ (i1 i2 : Nat) (o7 o8 o9 o10 : Oper) (ty : TypeId),
    c = .seq (.region i1 #[o7, o8] false) (.block I.xb (.loop (.seq (.region i2 #[o9, o10] false) (.seq (.cond (.tmp I.t10) .skip (.exit I.xb)) I.b2)))) ∧
    (o7.op = .move I.X ∧ o7.dst = some I.t7 ∧ o7.guard = none) ∧ (o8.op = .range ty (.tmp I.t7) ∧ o8.dst = some I.t8 ∧ o8.guard = none) ∧ (o9.op = .next (.tmp I.t8) true ∧ o9.dst = some I.t9 ∧ o9.guard = none) ∧
    (o10.op = .extract (.tmp I.t9) 0 ∧ o10.dst = some I.t10 ∧ o10.guard = none) ∧ P.underlying ty = some .string := by
  unfold srInfo at h
  split at h
  · rename_i i1 ops1 xb i2 ops2 t xb' b2
    split at h
    · rename_i hxb
      subst hxb
      unfold srOps at h
      split at h
      · rename_i o7 o8 o9 o10 h1 h2
        split at h
        · rename_i X t7 t7' t8 t8' t9 t9' t10 e7 e8 e9 e10
          split at h
          · rename_i hc
            obtain ⟨rfl, rfl, rfl, rfl⟩ := hc
            injection h with h
            subst h
            have a1 : ops1 = #[o7, o8] := by rw [← Array.toList_inj]; exact h1
            have a2 : ops2 = #[o9, o10] := by rw [← Array.toList_inj]; exact h2
            subst a1; subst a2
            have s7 : o7.op = .move X ∧ o7.dst = some t7 ∧ o7.guard = none := by
              unfold is7 at e7
              split at e7
              · rename_i f1 f2 f3
                injection e7 with e7
                injection e7 with g1 g2
                subst g1; subst g2
                exact ⟨f1, f2, f3⟩
              · cases e7
            have s8 : ∃ ty, (o8.op = .range ty (.tmp t7) ∧ o8.dst = some t8 ∧ o8.guard = none) ∧ P.underlying ty = some .string := by
              unfold is8 at e8
              split at e8
              · rename_i ty tt d f1 f2 f3
                split at e8
                · rename_i hu
                  injection e8 with e8
                  injection e8 with g1 g2
                  subst g1; subst g2
                  exact ⟨ty, ⟨f1, f2, f3⟩, hu⟩
                · cases e8
              · cases e8
            have s9 : o9.op = .next (.tmp t8) true ∧ o9.dst = some t9 ∧ o9.guard = none := by
              unfold is9 at e9
              split at e9
              · rename_i f1 f2 f3
                injection e9 with e9
                injection e9 with g1 g2
                subst g1; subst g2
                exact ⟨f1, f2, f3⟩
              · cases e9
            have s10 : o10.op = .extract (.tmp t9) 0 ∧ o10.dst = some t10 ∧ o10.guard = none := by
              unfold is10 at e10
              split at e10
              · rename_i f1 f2 f3
                injection e10 with e10
                injection e10 with g1 g2
                subst g1; subst g2
                exact ⟨f1, f2, f3⟩
              · cases e10
            obtain ⟨ty, s8, hu⟩ := s8
            exact ⟨i1, i2, o7, o8, o9, o10, ty, rfl, s7, s8, s9, s10, hu⟩
          · cases h
        · cases h
      · cases h
    · cases h
  · cases h
theorem put_self {a : Act} {t : Nat} {v : Value} (h : t < a.tmps.size) : (a.put (some t) v).eval (.tmp t) = v := by
  simp [Act.put, Act.eval, h]
theorem wpOps_two {o o' : Oper} {Q : Exit → Act → World → Prop} {a : Act} {w : World} (g : o.guard = none) (g' : o'.guard = none)
    (h : o.wp P a w (fun a1 w1 => o'.wp P a1 w1 (fun a2 w2 => Q .normal a2 w2) Q) Q) : wpOps P #[o, o'] Q (List.range (#[o, o'] : Array Oper).size) a w := by
  show wpOps P #[o, o'] Q [0, 1] a w
  have e0 : (#[o, o'] : Array Oper)[0]? = some o := rfl
  have e1 : (#[o, o'] : Array Oper)[1]? = some o' := rfl
  simp only [wpOps, e0, e1]
  rw [if_pos (by simp [Region.wanted, g])]
  refine .inl (Oper.wp_mono (fun a1 w1 h1 => ?_) h)
  rw [if_pos (by simp [Region.wanted, g'])]
  exact .inl h1
theorem range_ok (hcfg : ∀ f sp, cfg f = some sp → Callable P f ∧ Valid P f sp) {f : Frag} {c : Code} {I : SRI} (hi : srInfo P c = some I) {p : Plan} (hp : PlanOK P n p I.b2) {sh' : Shape} (str : f.sh.V → ByteArray) (init : f.sh.V → sh'.V)
    (lp : ByteArray → Nat → Nat → sh'.V → Option (PT f.outs)) (N : Nat) (hlim : decide (n.n < 1000000 ∧ I.t7 < n.n ∧ I.t8 < n.n ∧ I.t9 < n.n ∧ I.t10 < n.n) = true) (himpl : ∀ v, f.impl v = lp (str v) N 0 (init v)) (h0 : ∀ s pos v, lp s 0 pos v = none)
    (hno : ∀ v, look (f.sh.st v).ck n.n = none) (hX : ∀ v, opo (f.sh.st v) I.X = some (.val .str (str v))) (hinit : ∀ v, sh'.enter (addIt (f.sh.st v) I.t7 I.t8 n.n) = some (init v))
    (hat : ∀ v, look (sh'.st v).tm I.t8 = some (.one (.at n.n [])) ∧ look (sh'.st v).ck n.n = some ⟨none, .un, ()⟩) (hout : (f.outs.all fun o => !(o.2.cks.map (·.1)).contains n.n) = true)
    (hs : ∀ s m pos v, lp s (m + 1) pos v = (rngT P (stepper P cfg n) p I f sh' (lp s m) s pos v).eval ∧ (rngT P (stepper P cfg n) p I f sh' (lp s m) s pos v).left = (rngT P (stepper P cfg n) p I f sh' (lp s m) s pos v).right) : FragOK P n f c := by
  intro v r hr F hn hB a w hR
  subst hn
  obtain ⟨hbig, l7, l8, l9, l10⟩ := of_decide_eq_true hlim
  obtain ⟨i1, i2, o7, o8, o9, o10, ty, rfl, ⟨p7, d7, g7⟩, ⟨p8, d8, g8⟩, ⟨p9, d9, g9⟩, ⟨p10, d10, g10⟩, hu⟩ := srInfo_spec hi
  rw [himpl] at hr
  obtain ⟨str', hstr⟩ : ∃ x, x = str v := ⟨_, rfl⟩
  rw [← hstr] at hr
  have hx := hX v
  rw [← hstr] at hx
  have ⟨Γ, rcs, h, g⟩ := hR
  obtain ⟨ev, hsz⟩ := is_str (g.opoIs hx)
  have tsz : a.tmps.size = F.n.n := g.tsz
  have hw0 : F.w0.heap.size ≤ w.heap.size := g.size
  refine wp_seq (wp_region (wpOps_two g7 g8 ?_))
  have r7 : (execOp a.eval o7).run P w = .ok (.value (.string str')) w := by simp [execOp, p7, ev, Sem.run_pure]
  unfold Oper.wp
  rw [r7, Oper.upon_value, d7]
  have e7 : (a.put (some I.t7) (.string str')).eval (.tmp I.t7) = .string str' := put_self (by rw [tsz]; exact l7)
  have r8 : (execOp (a.put (some I.t7) (.string str')).eval o8).run P w = .ok (.value (.pointer (some ⟨w.heap.size, 0, none⟩))) (w.iter str' 0) := by
    simp [execOp, p8, e7, Sem.run_bind, run_range_string w ty str' hu]
  rw [r8, Oper.upon_value, d8]
  show (Code.block I.xb _).wp P _ _ _
  have hB2 : (F.watch (.pointer (some ⟨w.heap.size, 0, none⟩)) hbig).B = [] := hB
  have hsize1 : (w.iter str' 0).heap.size = w.heap.size + 1 := by
    show (w.heap.push _).size = _
    simp
  have R1 : R F (f.sh.st v) a (w.iter str' 0) := hR.other hB (b := w.heap.size) (fun c t f e => by rw [Array.getElem?_eq_none (Nat.le_refl _)] at e; cases e) hw0
    (fun k _ hk => by
      show (w.heap.push _)[k]? = _
      simp [Array.getElem?_push, Nat.ne_of_lt hk]) (by omega) rfl rfl rfl
  have R2 := enter_ok hB2 (R1.addIt hB (t7 := I.t7) (t8 := I.t8) (u := .pointer (some ⟨w.heap.size, 0, none⟩)) (v7 := .string str') l8 (hno v) hbig) (hinit v)
  have hit : (w.iter str' 0).heap[w.heap.size]? = some (.stringIter str' 0) := World.iter_heap _ _ _
  obtain ⟨b, hb⟩ : ∃ b, b = w.heap.size := ⟨_, rfl⟩
  simp only [← hb] at R2 hit hw0 hB2 ⊢
  clear R1 hsize1 r8 e7 r7
  generalize w.iter str' 0 = w2 at R2 hit ⊢
  generalize (a.put (some I.t7) (.string str')).put (some I.t8) (.pointer (some ⟨b, 0, none⟩)) = a2 at R2 ⊢
  refine wp_block (wp_loop_rounds N ?_)
  generalize init v = v2 at hr R2
  have key : ∀ (m pos : Nat) (v : sh'.V) (a : Act) (w : World), lp str' m pos v = some r → R (F.watch (.pointer (some ⟨b, 0, none⟩)) hbig) (sh'.st v) a w → w.heap[b]? = some (.stringIter str' pos) →
      Code.rounds P (.seq (.region i2 #[o9, o10] false) (.seq (.cond (.tmp I.t10) .skip (.exit I.xb)) I.b2)) (Exit.inBlock I.xb fun e a' w' => e = (outOf f.outs r).1.to ∧ R F (outOf f.outs r).2 a' w') m a w := by
    intro m
    induction m with
    | zero => intro pos v a w h _ _; rw [h0] at h; cases h
    | succ m ih =>
      intro pos v a w h hR hit
      obtain ⟨e1, e2⟩ := hs str' m pos v
      rw [e1] at h
      have hsat := Tr.eval_sat _ e2 h (K := (· = r)) rfl
      have hnc : ∀ c t f, w.heap[b]? ≠ some (.cells c t f) := fun c t f e => by rw [hit] at e; cases e
      have tsz : a.tmps.size = F.n.n := by obtain ⟨_, _, _, g⟩ := hR; exact g.tsz
      rw [rounds_succ]
      refine wp_seq (wp_region (wpOps_two g9 g10 ?_))
      have e8 := hR.walker (hat v).1 (hat v).2
      by_cases hlt : pos < str'.size
      · have hsA := hsat.1 (decide_eq_true hlt)
        obtain ⟨w1, hrun, hit1, hsz1, hk1, ho, ht, hou⟩ := run_next_at (P := P) w b str' pos hit hlt
        have r9 : (execOp a.eval o9).run P w = .ok (.value (.tuple #[.bool true, .int .i64 pos, .int .i32 (Utf8.decode str' pos).1])) w1 := by
          simp [execOp, p9, e8, Sem.run_bind, hrun]
        unfold Oper.wp
        rw [r9, Oper.upon_value, d9]
        have e9 := put_self (a := a) (t := I.t9) (v := .tuple #[.bool true, .int .i64 pos, .int .i32 (Utf8.decode str' pos).1]) (by rw [tsz]; exact l9)
        have r10 : (execOp (a.put (some I.t9) (.tuple #[.bool true, .int .i64 pos, .int .i32 (Utf8.decode str' pos).1])).eval o10).run P w1 = .ok (.value (.bool true)) w1 := by
          simp [execOp, p10, e9, Instr.extract, Sem.run_bind]
        rw [r10, Oper.upon_value, d10]
        have R1 : R (F.watch (.pointer (some ⟨b, 0, none⟩)) hbig) (itSt (sh'.st v) I.t9 I.t10 pos (rune str' pos)) ((a.put (some I.t9) (.tuple #[.bool true, .int .i64 pos, .int .i32 (Utf8.decode str' pos).1])).put (some I.t10) (.bool true)) w1 := by
          obtain ⟨Γ, rcs, hh, g⟩ := hR.other hB2 hnc hw0 (fun k h1 _ => hk1 k h1) (by omega) ho ht hou
          refine ⟨Γ, rcs, hh, (g.put (d := I.t9) (av := .tup [.val .bool true, .val (.int .i64) (pos : Int), .val (.int .i32) (rune str' pos : Int)]) l9 ?_).put (d := I.t10) (av := .one (.val .bool true)) l10 (bool_is (rcs := rcs))⟩
          refine ⟨[.bool true, .int .i64 pos, .int .i32 (Utf8.decode str' pos).1], rfl, rfl, fun i s hi => ?_⟩
          have hdl := decode_le str' pos
          match i, hi with
          | 0, hi => injection hi with hi; subst hi; exact ⟨_, rfl, bool_is (rcs := rcs)⟩
          | 1, hi => injection hi with hi; subst hi; exact ⟨_, rfl, int_is (rcs := rcs) ⟨by simp only [IntKind.min, IntKind.signed, IntKind.bits]; omega, by simp only [IntKind.max, IntKind.signed, IntKind.bits]; omega⟩⟩
          | 2, hi => injection hi with hi; subst hi; exact ⟨_, rfl, int_is (rcs := rcs) ⟨by simp only [IntKind.min, IntKind.signed, IntKind.bits, rune]; omega, by simp only [IntKind.max, IntKind.signed, IntKind.bits, rune]; omega⟩⟩
        have ht10 := put_self (a := a.put (some I.t9) (.tuple #[.bool true, .int .i64 pos, .int .i32 (Utf8.decode str' pos).1])) (t := I.t10) (v := .bool true) (by simp [Act.put, tsz]; exact l10)
        refine wp_seq (wp_cond (t := true) ht10 (wp_skip ?_))
        obtain ⟨F3, hn3, hB3, R3, back⟩ := R1.rebase hB2
        refine wp_mono (body_sound hcfg (F := F3) hn3 hB3 I.b2 p _ _ _ w1 hp R3 hsA) ?_
        rintro e a' w' ⟨ex, s', rfl, r', hk⟩
        obtain ⟨R4, hs4, hk4⟩ := back s' a' w' r'
        have hit4 : w'.heap[b]? = some (.stringIter str' (pos + width str' pos)) := by
          rw [hk4 b ?_ (fun c t f e => by rw [hit1] at e; cases e)]
          · exact hit1
          · rcases Nat.lt_or_ge b w1.heap.size with q | q
            · exact q
            · rw [Array.getElem?_eq_none q] at hit1; cases hit1
        cases ex with
        | normal =>
          simp only [rngK] at hk
          split at hk
          · rename_i v' hv'
            obtain ⟨q, hq, he⟩ := hk
            have he' : q = r := he
            subst he'
            exact ih _ v' a' w' hq (enter_ok hB2 R4 hv') hit4
          · exact hk.elim
        | exit i =>
          simp only [rngK] at hk
          show if i = I.xb then _ else _
          split at hk
          · rename_i hix
            rw [if_pos hix]
            obtain ⟨q, hq, h1, h2⟩ := injO_ok hB2 R4 hk
            have hq' : q = r := hq
            subst hq'
            exact ⟨by rw [h1]; rfl, h2.backIt (outs_no hout q)⟩
          · rename_i hix
            rw [if_neg hix]
            obtain ⟨q, hq, h1, h2⟩ := injO_ok hB2 R4 hk
            have hq' : q = r := hq
            subst hq'
            exact ⟨by rw [h1]; rfl, h2.backIt (outs_no hout q)⟩
        | ret =>
          obtain ⟨q, hq, h1, h2⟩ := injO_ok hB2 R4 hk
          have hq' : q = r := hq
          subst hq'
          exact ⟨by rw [h1], h2.backIt (outs_no hout q)⟩
      · have hsB := hsat.2 (decide_eq_false hlt)
        have hrun := run_next_over (P := P) w b str' pos hit hlt
        have r9 : (execOp a.eval o9).run P w = .ok (.value (.tuple #[.bool false])) w := by
          simp [execOp, p9, e8, Sem.run_bind, hrun]
        unfold Oper.wp
        rw [r9, Oper.upon_value, d9]
        have e9 := put_self (a := a) (t := I.t9) (v := .tuple #[.bool false]) (by rw [tsz]; exact l9)
        have r10 : (execOp (a.put (some I.t9) (.tuple #[.bool false])).eval o10).run P w = .ok (.value (.bool false)) w := by
          simp [execOp, p10, e9, Instr.extract, Sem.run_bind]
        rw [r10, Oper.upon_value, d10]
        have R1 : R (F.watch (.pointer (some ⟨b, 0, none⟩)) hbig) (overSt (sh'.st v) I.t9 I.t10) ((a.put (some I.t9) (.tuple #[.bool false])).put (some I.t10) (.bool false)) w := by
          obtain ⟨Γ, rcs, hh, g⟩ := hR
          exact ⟨Γ, rcs, hh, (g.forget I.t9 _).forget I.t10 _⟩
        have ht10 := put_self (a := a.put (some I.t9) (.tuple #[.bool false])) (t := I.t10) (v := .bool false) (by simp [Act.put, tsz]; exact l10)
        refine wp_seq (wp_cond (t := false) ht10 (wp_exit ?_))
        obtain ⟨q, hq, h1, h2⟩ := injO_ok hB2 R1 hsB
        have hq' : q = r := hq
        subst hq'
        show if I.xb = I.xb then _ else _
        rw [if_pos rfl]
        exact ⟨by rw [h1]; rfl, h2.backIt (outs_no hout q)⟩
  exact key N 0 v2 a2 w2 hr R2 hit
end
end Go.Proofs.YtgojfdimbciaiaaE
