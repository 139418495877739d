/- The engine, part 10: loads. Conditions: none. -/
import Derived.Test.YtibammoednhnoaaE9
import Derived.Deep.MidRow
set_option linter.unusedVariables false
set_option linter.unusedSimpArgs false
namespace Go.Proofs.YtibammoednhnoaaE
open Kd
variable {α : Type}

theorem lie_arr {n : Nat} {e : Kd} {x : (Kd.arr n e).T} {z : (Kd.arr n e).Z} {c : Array Value} {o i : Nat} (l : Lie c o ((Kd.arr n e).cells x z)) (hi : i < n) : Lie c (o + i * e.size) (e.cells (List.getD x i e.dft) (z i)) :=
 (lie_flat (c := c) (o := o) (n := n) (s := e.size) (f := fun i => e.cells (List.getD x i e.dft) (z i)) (fun i => cells_length e _ _)).1 l i hi
theorem lie_pl {Γ : HF} (p : List Sel) {K : Kd} (x : K.T) (z : K.Z) (a : Nat × Nat) (q : At) (h : HF) (c0 : Array Value) (t0 : TypeId) (ho : K.Own Γ x z h) (hp : pl K x z p a = some q)
  (hl : thru K p = true ∨ Lie c0 a.2 (K.cells x z)) : ∃ c t, ((thru K p = true ∧ h q.a.1 = some (.cel c t)) ∨ (thru K p = false ∧ q.a.1 = a.1 ∧ c = c0 ∧ t = t0)) ∧ Lie c q.a.2 (q.K.cells q.x q.z) := by
 fun_induction pl K x z p a generalizing h c0 t0
 case case1 K x z a =>
  simp only [Option.some.injEq] at hp; subst hp
  have : thru K [] = false := by cases K <;> simp [thru]
  refine ⟨c0, t0, .inr ⟨this, rfl, rfl, rfl⟩, hl.resolve_left (by simp [this])⟩
 case case2 ih =>
  obtain ⟨h1, h2, d, rfl, o1, o2⟩ := ho
  obtain ⟨c, t, e, l⟩ := ih _ _ t0 o1 hp (hl.imp (fun e => by simpa [thru] using e) (fun l => Lie.left l))
  refine ⟨c, t, e.imp (fun e => ⟨by simpa [thru] using e.1, by simp [HF.un, e.2]⟩) (fun e => ⟨by simpa [thru] using e.1, e.2⟩), l⟩
 case case3 ih =>
  obtain ⟨h1, h2, d, rfl, o1, o2⟩ := ho
  obtain ⟨c, t, e, l⟩ := ih _ _ t0 o2 hp (hl.imp (fun e => by simpa [thru] using e) (fun l => by have := Lie.right l; rwa [cells_length] at this))
  refine ⟨c, t, e.imp (fun e => ⟨by simpa [thru] using e.1, un_right d e.2⟩) (fun e => ⟨by simpa [thru] using e.1, e.2⟩), l⟩
 case case4 ih =>
  obtain ⟨hr, hi', d, rfl, oi, _⟩ := Each.take (by assumption) ho.2
  obtain ⟨c, t, e, l⟩ := ih _ _ t0 oi hp (hl.imp (fun e => by simpa [thru] using e) (fun l => lie_arr l (by assumption)))
  refine ⟨c, t, e.imp (fun e => ⟨by simpa [thru] using e.1, un_right d e.2⟩) (fun e => ⟨by simpa [thru] using e.1, e.2⟩), l⟩
 case case6 hz ih =>
  simp only [Own] at ho
  rw [hz] at ho
  obtain ⟨cc, h2, _, _, _, hls, he, hd⟩ := ho
  simp only [if_true] at hd
  obtain ⟨hd, rfl⟩ := hd
  have hlt := ‹_ < _›
  obtain ⟨hr, hi', d, rfl, oi, _⟩ := Each.take hlt he
  rw [if_neg (by simp)] at oi
  obtain ⟨c, t, e, l⟩ := ih _ cc _ oi hp (.inr (hls _ hlt))
  refine ⟨c, t, .inl ⟨rfl, ?_⟩, l⟩
  rcases e with ⟨_, e⟩ | ⟨_, e1, rfl, rfl⟩
  ·exact un_right hd (un_right d e)
  ·rw [e1]; exact one_self
 case case9 e v i _ b o cap x z hlt hz =>
  simp only [Option.some.injEq] at hp; subst hp
  simp only [Own] at ho
  rw [hz] at ho
  obtain ⟨cc, h2, _, _, _, hls, he, hd⟩ := ho
  simp only [if_true] at hd
  obtain ⟨hd, rfl⟩ := hd
  refine ⟨cc, _, .inl ⟨rfl, one_self⟩, ?_⟩
  intro j hj
  simp only [Kd.cells, List.length_singleton] at hj
  obtain rfl : j = 0 := by omega
  have hlen : 0 < (e.cells (List.getD x i e.dft) (z.2 i)).length := by rw [cells_length, hlt.2]; exact Nat.one_pos
  rw [hls _ hlt.1 0 hlen]
  exact getElem?_zero_getD hlen undef
 all_goals cases hp

theorem cell_at {w : World} {b : Nat} {c : Array Value} {t : TypeId} {f : Nat × Nat} (h : w.heap[b]? = some (.cells c t f)) (j : Nat) : w.cell? ⟨b, j, none⟩ = c[j]? := by
 simp [World.cell?, h]
theorem range_of {w : World} {b o : Nat} {c : Array Value} {t : TypeId} {f : Nat × Nat} {cs : List Value} (h : w.heap[b]? = some (.cells c t f)) (l : Lie c o cs) : w.rangeAt b o cs := fun j v hv => by
 rw [cell_at h, l j (by
  rcases Nat.lt_or_ge j cs.length with q | q
  ·exact q
  ·rw [List.getElem?_eq_none q] at hv; cases hv)]
 exact hv
theorem Good.place {F : Fr} {s : St} {a : Act} {w : World} {Γ : HF} {rcs : List (Nat × RC)} {h : HF} (g : Good F s a w Γ rcs h) {id : Nat} {p : List Sel} {r : RC} {q : At} (hr : look rcs id = some r)
  (hp : pl r.K r.x r.z p ((r.box.getD (0, 0)).1, 0) = some q) (hb : r.box = none → thru r.K p = true) : ∃ c t lo hi, w.heap[q.a.1]? = some (.cells c t (lo, hi)) ∧ (∀ o, o < c.size → ¬ (lo ≤ o ∧ o < hi)) ∧ Lie c q.a.2 (q.K.cells q.x q.z) := by
 obtain ⟨h1, hr', d, e, o1⟩ := star_take g.star hr
 have m1 : Mem h1 w := ((Mem.un d).1 (e ▸ g.mem)).1
 cases hbx : r.box with
 | none =>
  have o2 : r.K.Own Γ r.x r.z h1 := by simpa [RC.Own, hbx] using o1
  obtain ⟨c, t, hc, l⟩ := lie_pl p _ _ _ _ _ #[] 0 o2 hp (.inl (hb hbx))
  rcases hc with ⟨_, hc⟩ | ⟨hc, _⟩
  ·obtain ⟨lo, hi, m, nf⟩ := m1.cel _ _ _ hc
   exact ⟨c, t, lo, hi, m, nf, l⟩
  ·rw [hb hbx] at hc; cases hc
 | some bt =>
  obtain ⟨b, t0⟩ := bt
  simp only [RC.Own, hbx] at o1
  obtain ⟨c0, h2, d2, rfl, o2, hl⟩ := o1
  have hl' : Lie c0 0 (r.K.cells r.x r.z) := fun j hj => by rw [← hl]; simp
  rw [hbx] at hp
  obtain ⟨c, t, hc, l⟩ := lie_pl p _ _ _ _ _ c0 t0 o2 hp (.inr hl')
  rcases hc with ⟨_, hc⟩ | ⟨_, e1, rfl, rfl⟩
  ·obtain ⟨lo, hi, m, nf⟩ := m1.cel _ _ _ (un_right d2 hc)
   exact ⟨c, t, lo, hi, m, nf, l⟩
  ·simp only [Option.getD_some] at e1
   obtain ⟨lo, hi, m, nf⟩ := m1.cel b c t one_self
   exact ⟨c, t, lo, hi, by rw [e1]; exact m, nf, l⟩

def ReadOK (P : Program) (F : Fr) (o : Oper) (s : St) (t : Tr α) (k : St → Tr α) (rd : Option (Option Nat)) : Prop := ∀ (K : α → Prop) (a : Act) (w : World) (Γ : HF) (rcs : List (Nat × RC)) (h : HF), Good F s a w Γ rcs h → t.sat K →
 ∃ (v : Value) (s' : St) (E : List Ent) (G' : List (Nat × Array Value × TypeId)), (∀ e ∈ E, rd = some e.id ∧ w.heap[e.b]? = e.ob) ∧ (∀ w', (∀ e ∈ E, w'.heap[e.b]? = e.ob) → (∀ x ∈ G', stab x w') → (execOp a.eval o).run P w' = .ok (.value v) w') ∧ R ((F.withG (G' ++ F.G)).with (E ++ F.B)) s' (a.put o.dst v) w ∧ (k s').sat K
theorem Good.watch {F : Fr} {s : St} {a : Act} {w : World} {Γ : HF} {rcs : List (Nat × RC)} {h : HF} (g : Good F s a w Γ rcs h) {E : List Ent} {G' : List (Nat × Array Value × TypeId)} (hE : ∀ e ∈ E, e.ok w rcs) (hG : ∀ x ∈ G', Γ x.1 = some (.cel x.2.1 x.2.2)) : Good ((F.withG (G' ++ F.G)).with (E ++ F.B)) s a w Γ rcs h :=
 ⟨g.ck, g.nodup, g.star, g.mem, g.memR, g.dj, g.defers, g.tsz, g.tm, g.size, g.keep, g.own, g.ro, g.ro0, g.os, g.tape, g.output, (fun x hx => (List.mem_append.1 hx).elim (hG x) (g.sg x)), fun e he => (List.mem_append.1 he).elim (hE e) (g.bx e), g.md⟩
theorem read_set {P : Program} {F : Fr} {o : Oper} {s : St} {av : AV} {k : St → Tr α} {rd : Option (Option Nat)} (hv : ∀ (a : Act) (w : World) (Γ : HF) (rcs : List (Nat × RC)) (h : HF), Good F s a w Γ rcs h →
   ∃ (v : Value) (E : List Ent) (G' : List (Nat × Array Value × TypeId)), (∀ e ∈ E, rd = some e.id ∧ e.ok w rcs) ∧ (∀ x ∈ G', Γ x.1 = some (.cel x.2.1 x.2.2)) ∧ (∀ w', (∀ e ∈ E, w'.heap[e.b]? = e.ob) → (∀ x ∈ G', stab x w') → (execOp a.eval o).run P w' = .ok (.value v) w') ∧ av.is Γ rcs v) :
  ReadOK P F o s (set F.n s o av k) k rd := fun K a w Γ rcs h g hs =>
 let ⟨v, E, G', hE, hG, hr, hi⟩ := hv a w Γ rcs h g
 let ⟨s', r, q⟩ := set_ok (F := (F.withG (G' ++ F.G)).with (E ++ F.B)) hs (g.watch (fun e he => (hE e he).2) hG) hi
 ⟨v, s', E, G', fun e he => ⟨(hE e he).1, (hE e he).2.1.1⟩, hr, r, q⟩
theorem read_bad {P : Program} {F : Fr} {o : Oper} {s : St} {k : St → Tr α} {rd : Option (Option Nat)} : ReadOK P F o s .bad k rd := fun _ _ _ _ _ _ _ h => h.elim
def boxAt (s : St) (x : Operand) : Option Nat := match opo s x with
 | some (.ptr id p) => match look s.ck id with
  | some c => if c.box.isSome && !thru c.K p then some id else none
  | none => none
 | _ => none
def rdB (s : St) (x : Operand) : Option (Option Nat) := match opo s x with
 | some (.eptr _ _) => none
 | _ => some (boxAt s x)

def varT (P : Program) (t : TypeId) : Option (Bool × Nat) := match P.underlying t, P.info? t with
 | some d, some i => some (!d.isRow, i.size)
 | _, _ => none
theorem run_loadT {P : Program} {t : TypeId} {w : World} {b o : Nat} {K : Kd} {cs : List Value} (hv : varT P t = some (single K, K.size)) (hl : cs.length = K.size) (h1 : single K = true → K.size = 1) (hr : w.rangeAt b o cs) :
  (Instr.loadAt t (.pointer (some ⟨b, o, none⟩))).run P w = .ok (toV K cs) w := by
 unfold varT at hv
 split at hv
 ·rename_i d i hu hi
  simp only [Option.some.injEq, Prod.mk.injEq] at hv
  obtain ⟨h2, h3⟩ := hv
  cases hd : d.isRow with
  | true =>
   rw [hd] at h2
   rw [run_loadAt_mid w b o t cs d hr hu hd (by rw [hi]; simp [h3, hl])]
   simp [toV, ← h2]
  | false =>
   rw [hd] at h2
   simp only [Bool.not_false] at h2
   have h4 := h1 h2.symm
   rw [h4] at hl
   match cs, hl with
   | [v], _ =>
    have hc : w.cell? ⟨b, o, none⟩ = some v := hr 0 v rfl
    have hagg : (isAgg t).run P w = .ok false w := by
     unfold isAgg
     rw [Sem.run_bind, run_underlying hu w]
     cases d <;> simp_all
    simp [Instr.loadAt, Instr.sureAddr, loadVar, Sem.run_bind, hagg, hc, toV, ← h2]
 ·cases hv
def stLoad (P : Program) (n : Lim) (o : Oper) (t : TypeId) (x : Operand) (s : St) (k : St → Tr α) : Tr α := match opo s x with
 | some (.ptr id p) => match look s.ck id with
  | some c => match getP c.K c.x p with
   | some ⟨K, y⟩ => if varT P t = some (single K, K.size) ∧ K ≠ .un then (if K.free then set n s o (.one (.val K y)) k else set n s o (.one (.at id p)) k) else .bad
   | none => .bad
  | none => .bad
 | some (.eptr K y) => if varT P t = some (single K, K.size) then set n s o (.one (.val K y)) k else .bad
 | _ => .bad
theorem single_size : ∀ (K : Kd), single K = true → K.size = 1
 | .int _, _ => rfl
 | .bool, _ => rfl
 | .str, _ => rfl
 | .un, _ => rfl
 | .sl _ _ _ _, _ => rfl
 | .tl _ _, _ => rfl
 | .mp _ _ _, _ => rfl
 | .ep _, _ => rfl
theorem thru_box {K : Kd} (p : List Sel) : ∀ {K : Kd} (x : K.T) (z : K.Z) (a : Nat × Nat) (q : At), thru K p = false → pl K x z p a = some q → q.a.1 = a.1 := by
 intro K x z a q ht hp
 fun_induction pl K x z p a <;> simp_all [thru]
 all_goals (try (subst hp; rfl))
theorem stLoad_ok {P : Program} {F : Fr} {o : Oper} {t : TypeId} {x : Operand} {s : St} {k : St → Tr α} (ho : o.op = .load t x) : ReadOK P F o s (stLoad P F.n o t x s k) k (rdB s x) := by
 unfold stLoad
 split
 ·rename_i id p hx
  split
  ·rename_i c hc
   split
   ·rename_i K y hg
    split
    ·rename_i hv
     obtain ⟨hv, hun⟩ := hv
     have key : ∀ (a : Act) (w : World) (Γ : HF) (rcs : List (Nat × RC)) (h : HF), Good F s a w Γ rcs h → ∃ (r : RC) (q : At), look rcs id = some r ∧ pl r.K r.x r.z p ((r.box.getD (0, 0)).1, 0) = some q ∧ (⟨q.K, q.x⟩ : (K' : Kd) × K'.T) = ⟨K, y⟩ ∧
       (∃ E : List Ent, (∀ e ∈ E, rdB s x = some e.id ∧ e.ok w rcs) ∧ ∀ w', (∀ e ∈ E, w'.heap[e.b]? = e.ob) → (execOp a.eval o).run P w' = .ok (.value (toV q.K (q.K.cells q.x q.z))) w') ∧ ∃ h2, q.K.Own Γ q.x q.z h2 := by
      intro a w Γ rcs h g
      obtain ⟨r, q, hr, hp, hb, hv'⟩ := g.opoIs hx
      obtain rfl := g.same hc hr
      have hget := pl_get p _ _ _ _ hp
      simp only [RC.ck] at hg
      rw [hget] at hg
      injection hg with hg
      obtain ⟨cc, tt, lo, hi, m, _, l⟩ := g.place hr hp hb
      obtain ⟨h1, hr', _, _, o1⟩ := star_take g.star hr
      obtain ⟨h2, _, o2⟩ := rc_own o1
      obtain ⟨hq, _, o3⟩ := own_pl p _ _ _ _ _ o2 hp
      refine ⟨r, q, hr, hp, hg, ⟨[⟨boxAt s x, q.a.1, w.heap[q.a.1]?⟩], ?_, ?_⟩, hq, o3⟩
      ·intro e he
       rw [List.mem_singleton] at he
       subst he
       refine ⟨by simp [rdB, hx], ⟨rfl, (Array.getElem?_eq_some_iff.1 m).1⟩, ?_⟩
       intro id' hid'
       simp only [boxAt, hx, hc] at hid'
       split at hid'
       ·rename_i hcond
        injection hid' with hid'
        subst hid'
        simp only [RC.ck, Option.isSome_map, Bool.and_eq_true, Bool.not_eq_true'] at hcond
        obtain ⟨⟨b, t0⟩, hbx⟩ := Option.isSome_iff_exists.1 hcond.1
        refine ⟨r, t0, hr, ?_⟩
        have := thru_box (K := r.K) p r.x r.z _ q hcond.2 hp
        rw [this, hbx]
        rfl
       ·cases hid'
      ·intro w' hw'
       have m' : w'.heap[q.a.1]? = some (.cells cc tt (lo, hi)) := by
        rw [hw' _ (List.mem_singleton.2 rfl)]; exact m
       obtain ⟨qK, qx, qz, qa⟩ := q
       simp only [Sigma.mk.injEq] at hg
       obtain ⟨rfl, _⟩ := hg
       have := run_loadT (P := P) hv (cells_length _ _ _) (single_size _) (range_of m' l)
       simp [execOp, ho, hv', this]
     split
     ·rename_i hf
      refine read_set fun a w Γ rcs h g => ?_
      obtain ⟨r, q, hr, hp, hg, ⟨E, hE, hrun⟩, h2, how⟩ := key a w Γ rcs h g
      obtain ⟨qK, qx, qz, qa⟩ := q
      simp only [Sigma.mk.injEq] at hg
      obtain ⟨rfl, hg⟩ := hg
      obtain rfl := eq_of_heq hg
      have := own_free hf how
      subst this
      exact ⟨_, E, [], hE, (fun x hx => by cases hx), (fun w' h1 _ => hrun w' h1), hf, qz, how, rfl⟩
     ·refine read_set fun a w Γ rcs h g => ?_
      obtain ⟨r, q, hr, hp, hg, ⟨E, hE, hrun⟩, h2, how⟩ := key a w Γ rcs h g
      exact ⟨_, E, [], hE, (fun x hx => by cases hx), (fun w' h1 _ => hrun w' h1), r, q, hr, hp, rfl⟩
    ·exact read_bad
   ·exact read_bad
  ·exact read_bad
 ·rename_i K y hx
  split
  ·rename_i hv
   refine read_set fun a w Γ rcs h g => ?_
   obtain ⟨hf, z, b, o', c, t', how, hc, hl, hv'⟩ := g.opoIs hx
   refine ⟨_, [], [(b, c, t')], (fun e he => by cases he), (fun x hx => by rw [List.mem_singleton] at hx; subst hx; exact hc), fun w' _ hw' => ?_, hf, z, how, rfl⟩
   ·obtain ⟨f, m'⟩ : ∃ f, w'.heap[b]? = some (.cells c t' f) := hw' _ (List.mem_singleton.2 rfl)
    have := run_loadT (P := P) hv (cells_length _ _ _) (single_size _) (range_of m' hl)
    simp [execOp, ho, hv', this]
  ·exact read_bad
 ·exact read_bad
end Go.Proofs.YtibammoednhnoaaE

