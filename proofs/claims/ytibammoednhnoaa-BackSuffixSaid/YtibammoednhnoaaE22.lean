/- The engine, part 22: structs, arrays and slices out of parts. Conditions: none. -/
import Derived.Test.YtibammoednhnoaaE21
import Derived.Laws.Tables
set_option linter.unusedVariables false
set_option linter.unusedSimpArgs false
namespace Go.Proofs.YtibammoednhnoaaE
open Kd
variable {α : Type}

theorem zip_wr : ∀ (l : List Value) (n off : Nat) (cs : Array Value), (l.zipIdx n).foldl (fun cs (x : Value × Nat) => cs.setIfInBounds (off + x.2) x.1) cs = wr cs (off + n) l
 | [], _, _, _ => rfl
 | v :: l, n, off, cs => by
  rw [List.zipIdx_cons, List.foldl_cons, zip_wr l (n + 1) off, wr]
  simp only [Nat.add_assoc]
theorem fill_wr (v : Value) (off : Nat) (cells : Array Value) : v.cells.zipIdx.foldl (fun cs (c, j) => cs.setIfInBounds (off + j) c) cells = wr cells off v.cells.toList := by
 rw [← Array.foldl_toList, Array.toList_zipIdx]
 exact zip_wr v.cells.toList 0 off cells

def offOf : Kd → List Sel → Option Nat
 | _, [] => some 0
 | .pair a _, .fst :: p => offOf a p
 | .pair a b, .snd :: p => (offOf b p).map (a.size + ·)
 | .arr n e, .idx i :: p => if i < n then (offOf e p).map (i * e.size + ·) else none
 | _, _ :: _ => none
theorem offOf_pl : ∀ (p : List Sel) {K : Kd} (x : K.T) (z : K.Z) (a : Nat × Nat) (o : Nat), offOf K p = some o → ∃ q, pl K x z p a = some q ∧ q.a = (a.1, a.2 + o)
 | [], K, x, z, a, o, h => by
  simp only [offOf, Option.some.injEq] at h
  subst h
  exact ⟨⟨K, x, z, a⟩, by simp [pl], by simp⟩
 | .fst :: p, .pair k b, x, z, a, o, h => by
  obtain ⟨q, h1, h2⟩ := offOf_pl p (K := k) x.1 z.1 a o (by simpa [offOf] using h)
  exact ⟨q, by simpa [pl] using h1, h2⟩
 | .snd :: p, .pair k b, x, z, a, o, h => by
  simp only [offOf, Option.map_eq_some_iff] at h
  obtain ⟨o', h', rfl⟩ := h
  obtain ⟨q, h1, h2⟩ := offOf_pl p (K := b) x.2 z.2 (a.1, a.2 + k.size) o' h'
  exact ⟨q, by simpa [pl] using h1, by rw [h2, Nat.add_assoc]⟩
 | .idx i :: p, .arr n e, x, z, a, o, h => by
  simp only [offOf] at h
  split at h
  ·rename_i hi
   simp only [Option.map_eq_some_iff] at h
   obtain ⟨o', h', rfl⟩ := h
   obtain ⟨q, h1, h2⟩ := offOf_pl p (K := e) (List.getD x i e.dft) (z i) (a.1, a.2 + i * e.size) o' h'
   exact ⟨q, by simp only [pl, if_pos hi]; exact h1, by rw [h2, Nat.add_assoc]⟩
  ·cases h
theorem put_virtual {Γ : HF} {K K2 : Kd} {p : List Sel} {m : MC K2 K} {x : K.T} {z : K.Z} {y : K2.T} {zy : K2.Z} {h hn : HF} {c0 : Array Value} {b0 off : Nat}
  (hm : mkC K2 K p = some m) (hc : m.cond) (hs : m.K1.size = K2.size) (hoff : offOf K p = some off) (ho : K.Own Γ x z h) (hy : K2.Own Γ y zy hn) (hd : HF.dj h hn) (hl : c0.toList = K.cells x z)
  (hb : ¬ h.has b0) (hbn : ¬ hn.has b0) :
  ∃ z' h', m.K'.Own Γ (m.c.put x y) z' h' ∧ (∀ b v, h' b = some v → (h.un hn) b = some v) ∧ (wr c0 off (K2.cells y zy)).toList = m.K'.cells (m.c.put x y) z' := by
 obtain ⟨q, hp, hqa⟩ := offOf_pl p x z (b0, 0) off hoff
 obtain ⟨hw, hv, hloc, _⟩ := mkC_spec p hm x z _ q hp hc
 have hl' : Lie c0 0 (K.cells x z) := fun j hj => by rw [← hl]; simp
 obtain ⟨hr, ho', s⟩ := chg_own hs m.c x z h b0 0 c0 0 hw hv ho hl' hb
 obtain ⟨sd, rfl, sown, sat, slie, sput⟩ := s
 rw [hloc, hqa] at sat slie sput
 simp only [Nat.zero_add] at sat slie sput
 obtain ⟨d1, d2⟩ := HF.un_dj.1 hd
 have hbr : ¬ hr.has b0 := fun e => hb (HF.has_un.2 (.inl e))
 have done : HF.dj (HF.one b0 c0 0) hn := HF.dj_iff.2 fun bb hbb hh => by rw [HF.has_one] at hbb; subst hbb; exact hbn hh
 obtain ⟨p1, p2⟩ := sput y zy hn hy (HF.un_dj.2 ⟨done, d1⟩)
 rw [HF.upd_not hbr] at p1
 refine ⟨_, _, p1, ?_, ?_⟩
 ·exact un_mono hd (fun b v e => un_left e) (fun b v e => e)
 ·rw [wrIf_pos (at_ := (b0, off)) rfl] at p2
  have hsz : c0.size = (m.K'.cells (m.c.put x y) (m.c.putZ x z zy)).length := by
   rw [cells_length, ← Chg.size_eq hs m.c, ← cells_length K x z, ← hl]; simp
  refine List.ext_getElem? fun j => ?_
  rcases Nat.lt_or_ge j (m.K'.cells (m.c.put x y) (m.c.putZ x z zy)).length with hj | hj
  ·have := p2 j hj
   rw [Nat.zero_add] at this
   rw [← this]; simp
  ·rw [List.getElem?_eq_none hj, List.getElem?_eq_none (by simp [wr_size]; omega)]

def putP (sz : Nat → Option (Nat × Nat)) (p : List Sel) (i : Nat) (K : Kd) (x : K.T) (K2 : Kd) (v : K2.T) (k : (K' : Kd) → K'.T → Tr α) : Tr α := match mkC K2 K p, sz i, offOf K p with
 | some m, some (off, size), some off' => if m.K1.size = K2.size ∧ noUn K2 = true ∧ off = off' ∧ size = K2.size then .need m.cond (k m.K' (m.c.put x v)) else .bad
 | _, _, _ => .bad
def partsT (sz : Nat → Option (Nat × Nat)) (pos : Nat → List Sel) : List (Nat × Operand) → (K : Kd) → K.T → St → ((K' : Kd) → K'.T → St → Tr α) → Tr α
 | [], K, x, s, k => k K x s
 | (i, y) :: l, K, x, s, k => match opo s y with
  | some (.val K2 v) => putP sz (pos i) i K x K2 v fun K' x' => partsT sz pos l K' x' s k
  | some .nilS => match sub K (pos i) with
   | some (.sl own t' e none) => putP sz (pos i) i K x (.sl own t' e none) [] fun K' x' => partsT sz pos l K' x' s k
   | _ => .bad
  | some (.at id2 []) => match look s.ck id2 with
   | some ⟨none, K2, v⟩ => putP sz (pos i) i K x K2 v fun K' x' => partsT sz pos l K' x' (dropC s id2) k
   | _ => .bad
  | _ => .bad
theorem Sub.opo_is {F : Fr} {s : St} {a : Act} {w : World} {Γ : HF} {rcs : List (Nat × RC)} {h : HF} (u : Sub F s a Γ rcs h) {x : Operand} {sv : SV} (hx : opo s x = some sv) : sv.is Γ rcs (a.eval x) := by
 unfold YtibammoednhnoaaE.opo at hx
 split at hx
 ·rename_i v hv
  injection hx with hx; subst hx
  have key : ∀ av, opv s x = some av → av.is Γ rcs (a.eval x) := by
   intro av hx
   unfold YtibammoednhnoaaE.opv at hx
   split at hx
   ·rename_i t
    obtain ⟨v, hv, hi⟩ := u.tm _ (look_mem hx)
    have : a.eval (.tmp t) = v := by simp [Act.eval, hv]
    rw [this]
    exact hi
   ·injection hx with hx; subst hx; exact ⟨rfl, (), rfl, rfl⟩
   ·split at hx
    ·rename_i hr
     injection hx with hx; subst hx; exact ⟨rfl, (), ⟨rfl, hr.1, hr.2⟩, rfl⟩
    ·cases hx
   ·split at hx
    ·rename_i hr
     injection hx with hx; subst hx; exact ⟨rfl, (), ⟨rfl, hr⟩, rfl⟩
    ·cases hx
   ·injection hx with hx; subst hx; rfl
   ·injection hx with hx; subst hx; rfl
   ·injection hx with hx; subst hx; exact ⟨[], rfl, rfl, fun i id h => by simp at h⟩
   ·cases hx
  exact key _ hv
 ·cases hx
theorem parts_ok {F : Fr} {s0 : St} {a : Act} {w : World} {Γ : HF} {rcs : List (Nat × RC)} {h : HF} (g : Good F s0 a w Γ rcs h) {sz : Nat → Option (Nat × Nat)} {pos : Nat → List Sel} {od : Option Nat}
  {k : (K' : Kd) → K'.T → St → Tr α} {Kp : α → Prop} : ∀ (l : List (Nat × Operand)) (K : Kd) (x : K.T) (z : K.Z) (hK : HF) (s : St) (rcs1 : List (Nat × RC)) (h1 : HF) (c0 : Array Value),
  Sub F s a Γ rcs1 h1 → K.Own Γ x z hK → HF.dj hK h1 → (∀ b v, (hK.un h1) b = some v → h b = some v) → c0.toList = K.cells x z → (∀ n r, look rcs1 n = some r → look rcs n = some r) →
  (∀ d, od = some d → Off' F d rcs1) → (partsT sz pos l K x s k).sat Kp →
  ∃ (K' : Kd) (x' : K'.T) (z' : K'.Z) (hK' : HF) (s' : St) (rcs' : List (Nat × RC)) (h' : HF) (c' : Array Value), Instr.fill sz c0 (l.map fun y => (y.1, a.eval y.2)) = some c' ∧ K'.Own Γ x' z' hK' ∧ HF.dj hK' h' ∧ (∀ b v, (hK'.un h') b = some v → h b = some v) ∧
   c'.toList = K'.cells x' z' ∧ Sub F s' a Γ rcs' h' ∧ (∀ n r, look rcs' n = some r → look rcs n = some r) ∧ (∀ d, od = some d → Off' F d rcs') ∧ (k K' x' s').sat Kp
 | [], K, x, z, hK, s, rcs1, h1, c0, u, ho, hd, hsub, hl, hL, hB, hs => ⟨K, x, z, hK, s, rcs1, h1, c0, rfl, ho, hd, hsub, hl, u, hL, hB, hs⟩
 | (i, y) :: l, K, x, z, hK, s, rcs1, h1, c0, u, ho, hd, hsub, hl, hL, hB, hs => by
  have step : ∀ (K2 : Kd) (v : K2.T) (zv : K2.Z) (hn : HF) (s2 : St) (rcs2 : List (Nat × RC)) (h2 : HF), K2.Own Γ v zv hn → a.eval y = toV K2 (K2.cells v zv) → HF.dj hn h2 → (∀ b v, (hn.un h2) b = some v → h1 b = some v) → Sub F s2 a Γ rcs2 h2 →
    (∀ n r, look rcs2 n = some r → look rcs n = some r) → (∀ d, od = some d → Off' F d rcs2) → (putP sz (pos i) i K x K2 v fun K' x' => partsT sz pos l K' x' s2 k).sat Kp →
    ∃ (K' : Kd) (x' : K'.T) (z' : K'.Z) (hK' : HF) (s' : St) (rcs' : List (Nat × RC)) (h' : HF) (c' : Array Value), Instr.fill sz c0 (((i, y) :: l).map fun y => (y.1, a.eval y.2)) = some c' ∧ K'.Own Γ x' z' hK' ∧ HF.dj hK' h' ∧ (∀ b v, (hK'.un h') b = some v → h b = some v) ∧
     c'.toList = K'.cells x' z' ∧ Sub F s' a Γ rcs' h' ∧ (∀ n r, look rcs' n = some r → look rcs n = some r) ∧ (∀ d, od = some d → Off' F d rcs') ∧ (k K' x' s').sat Kp := by
   intro K2 v zv hn s2 rcs2 h2 hy hyv dn hsub2 u2 hL2 hB2 hs
   unfold putP at hs
   split at hs
   ·rename_i m off size off' hm hsz hoff
    split at hs
    ·rename_i hcond
     obtain ⟨hs1, hnu, rfl, rfl⟩ := hcond
     obtain ⟨hc, hs⟩ := hs
     have hn1 : ∀ b v, hn b = some v → h1 b = some v := fun b v e => hsub2 b v (un_left e)
     have hfr : ∀ x : HF, (∀ b v, x b = some v → h b = some v) → ¬ x.has w.heap.size := fun x hx e => by
      have := g.mem.lt (has_sub hx _ e)
      omega
     have dKn : HF.dj hK hn := HF.dj_iff.2 fun b hb hx => HF.dj_iff.1 hd b hb (has_sub hn1 b hx)
     obtain ⟨z', h', o', s', cl⟩ := put_virtual (b0 := w.heap.size) hm hc hs1 hoff ho hy dKn hl (hfr hK fun b v e => hsub b v (un_left e)) (hfr hn fun b v e => hsub b v (un_right hd (hn1 b v e)))
     have d' : HF.dj h' h2 := HF.dj_iff.2 fun b hb hx => by
      rcases HF.has_un.1 (has_sub s' b hb) with e | e
      ·exact HF.dj_iff.1 hd b e (has_sub (fun b v e => hsub2 b v (un_right dn e)) b hx)
      ·exact HF.dj_iff.1 dn b e hx
     have sub' : ∀ b v, (h'.un h2) b = some v → h b = some v := fun b v e => by
      refine hsub b v ?_
      cases e1 : h' b with
      | some q =>
       simp only [HF.un, e1, Option.some_or, Option.some.injEq] at e
       subst e
       have := s' b q e1
       cases e2 : hK b with
       | some q' => simp only [HF.un, e2, Option.some_or] at this ⊢; exact this
       | none => simp only [HF.un, e2, Option.none_or] at this ⊢; exact hn1 b q this
      | none =>
       simp only [HF.un, e1, Option.none_or] at e
       exact un_right hd (hsub2 b v (un_right dn e))
     obtain ⟨K', x', z'', hK', s'', rcs', h'', c', hf, rest⟩ := parts_ok g l m.K' (m.c.put x v) z' h' s2 rcs2 h2 (wr c0 off (K2.cells v zv)) u2 o' d' sub' cl hL2 hB2 hs
     refine ⟨K', x', z'', hK', s'', rcs', h'', c', ?_, rest⟩
     have hcell : (a.eval y).cells.toList = K2.cells v zv := by rw [hyv]; exact toV_cells K2 v zv hnu
     have hcs : (a.eval y).cells.size = K2.size := by rw [← Array.length_toList, hcell, cells_length]
     have hfit : off + K2.size ≤ c0.size := by
      obtain ⟨q, hp, hqa⟩ := offOf_pl (pos i) x z (0, 0) off hoff
      have hcl : c0.size = K.size := by rw [← Array.length_toList, hl, cells_length]
      have hb0 : ¬ hK.has w.heap.size := hfr hK fun b v e => hsub b v (un_left e)
      obtain ⟨hw', hv', hloc', _⟩ := mkC_spec (pos i) hm x z _ q hp hc
      obtain ⟨q2, hp2, hqa2⟩ := offOf_pl (pos i) x z (w.heap.size, 0) off hoff
      obtain ⟨hw2, hv2, hloc2, _⟩ := mkC_spec (pos i) hm x z _ q2 hp2 hc
      obtain ⟨hr2, ho2, sp⟩ := chg_own hs1 m.c x z hK w.heap.size 0 c0 0 hw2 hv2 ho (fun j hj => by rw [← hl]; simp) hb0
      have := sp.at_
      rw [hloc2, hqa2] at this
      simp only [Nat.zero_add] at this
      rcases this with ⟨_, _, e⟩ | ⟨e, _⟩
      ·omega
      ·exact absurd rfl e
     simp only [List.map_cons, Instr.fill, hsz]
     rw [if_neg (by simp [hcs]; omega), fill_wr, hcell]
     exact hf
    ·exact hs.elim
   ·exact hs.elim
  simp only [partsT] at hs
  split at hs
  ·rename_i K2 v hy
   obtain ⟨hf, zv, how, hyv⟩ := u.opo_is hy (w := w)
   exact step K2 v zv HF.emp s rcs1 h1 how hyv (HF.emp_dj _) (by rw [HF.emp_un]; exact fun _ _ e => e) u hL hB hs
  ·rename_i hy
   have hyv : a.eval y = .slice none 0 0 := u.opo_is hy (w := w)
   split at hs
   ·rename_i own t' e hsub'
    exact step (.sl own t' e none) [] (none, fun _ => e.zd) HF.emp s rcs1 h1 ⟨rfl, rfl⟩ hyv (HF.emp_dj _) (by rw [HF.emp_un]; exact fun _ _ e => e) u hL hB hs
   ·exact hs.elim
  ·rename_i id2 hy
   split at hs
   ·rename_i K2 v hck
    obtain ⟨zv, hA, hr, hlr, dA, e1, hown, u2⟩ := u.drop hck
    obtain ⟨r0, q, hr0, hp, hyv⟩ := u.opo_is hy (w := w)
    rw [hlr] at hr0
    injection hr0 with hr0
    subst hr0
    simp only [pl, Option.some.injEq] at hp
    subst hp
    refine step K2 v zv hA (dropC s id2) (del rcs1 id2) hr hown hyv dA (by rw [e1]; exact fun _ _ e => e) u2 (fun n r e => hL n r (del_look rcs1 id2 n r e)) (fun d hd' => off'_del (hB d hd') hlr rfl) hs
   ·exact hs.elim
  ·exact hs.elim

def szOf (P : Program) (t : TypeId) : Option ((Nat → Option (Nat × Nat)) × (Nat → List Sel)) := match P.underlying t with
 | some (.array _ e) => match P.info? e with
  | some ie => some (fun i => some (i * ie.size, ie.size), fun i => [.idx i])
  | none => none
 | some (.struct fields) => match fields.toList.mapM (fun f => (P.info? f.type).map fun i => (f.offset, i.size)) with
  | some places => some ((places.toArray[·]?), fldSel)
  | none => none
 | _ => none
def newBare (n : Lim) (o : Oper) (K : Kd) (x : K.T) (s : St) (k : St → Tr α) : Tr α :=
 if K.free then set n s o (.one (.val K x)) k else match o.dst with
  | some d => if n.lo ≤ d ∧ d < n.n then k ⟨(d, .one (.at d [])) :: (fresh s d).tm, (d, ⟨none, K, x⟩) :: del s.ck d⟩ else .bad
  | none => .bad
def stBuild (P : Program) (n : Lim) (o : Oper) (t : TypeId) (parts : Array (Nat × Operand)) (s : St) (k : St → Tr α) : Tr α := match kdAt P n o t, szOf P t with
 | some K0, some (sz, pos) => if zeroOK P t K0 && unfOK K0 then partsT sz pos parts.toList (unfK K0) (unfT K0 (zv K0)) s (fun K' x' s' => if single K' then .bad else newBare n o K' x' s' k) else .bad
 | _, _ => .bad
theorem Good.bare {F : Fr} {s : St} {a : Act} {w : World} {Γ : HF} {rcs rcs0 : List (Nat × RC)} {h h0 hn : HF} (g : Good F s a w Γ rcs h)
  (hsub : ∀ b v, (hn.un h0) b = some v → h b = some v) (dn : HF.dj hn h0) (st : Star Γ rcs0 h0) (nd : (rcs0.map (·.1)).Nodup)
  {d : Nat} (hd : d < F.n.n) (hlo : F.n.lo ≤ d) (hB : Off' F d rcs0) (hsubL : ∀ n r, look rcs0 n = some r → look rcs n = some r) {r : RC} (hr : r.Own Γ hn) {v : Value} {av : SV} (hav : av.is Γ ((d, r) :: del rcs0 d) v)
  {tm : List (Nat × AV)} (htm : ∀ t av, (t, av) ∈ tm → offA d av = true ∧ t ≠ d ∧ ∃ v, a.tmps[t]? = some v ∧ av.is Γ rcs0 v) :
  R F ⟨(d, .one av) :: tm, (d, r.ck) :: del (rcs0.map fun r => (r.1, r.2.ck)) d⟩ (a.put (some d) v) w := by
 obtain ⟨h1, st1, sub1⟩ := star_del st nd d
 have d1n : HF.dj hn h1 := HF.dj_iff.2 fun b hb hx => HF.dj_iff.1 dn b hb (has_sub sub1 b hx)
 have hs1 : ∀ b v, (hn.un h1) b = some v → h b = some v := fun b v e => hsub b v (un_mono dn (fun _ _ e => e) sub1 b v e)
 refine ⟨Γ, (d, r) :: del rcs0 d, hn.un h1, ?_, ?_, ⟨hn, h1, d1n, rfl, hr, st1⟩, g.mem.mono hs1, g.memR, ?_, g.defers, by simp [Act.put, g.tsz], ?_, g.size, g.keep, fun b hb => g.own b (has_sub hs1 b hb), g.ro, g.ro0, g.os, g.tape, g.output, g.sg, bx_new hB fun e he => (g.bx e he).1, md_new g (.inl ⟨hlo, hd⟩) hsubL⟩
 ·simp only [List.map_cons, List.cons.injEq, true_and, del, List.filter_map]
  rfl
 ·rw [List.map_cons, List.nodup_cons]
  exact ⟨del_not _ _, del_nodup nd d⟩
 ·exact HF.dj_iff.2 fun b hb hx => HF.dj_iff.1 g.dj b hb (has_sub hs1 b hx)
 ·intro t' av' hm
  rcases List.mem_cons.1 hm with e | e
  ·injection e with e1 e2
   subst e1; subst e2
   exact ⟨v, by simp [Act.put, g.tsz, hd], hav⟩
  ·obtain ⟨ho, hne, u, hu, hi⟩ := htm t' av' e
   exact ⟨u, by simp only [Act.put]; rw [Array.getElem?_setIfInBounds_ne (Ne.symm hne)]; exact hu, cons_is ho (offA_is ho hi)⟩
theorem Good.ofSub {F : Fr} {s0 s : St} {a : Act} {w : World} {Γ : HF} {rcs rcs1 : List (Nat × RC)} {h h1 : HF} (g : Good F s0 a w Γ rcs h) (u : Sub F s a Γ rcs1 h1) (hsub : ∀ b v, h1 b = some v → h b = some v)
  (hL : ∀ n r, look rcs1 n = some r → look rcs n = some r) (hB : ∀ e ∈ F.B, ∀ id, e.id = some id → ∃ r t, look rcs1 id = some r ∧ r.box = some (e.b, t)) : Good F s a w Γ rcs1 h1 :=
 ⟨u.ck.symm, u.nd, u.st, g.mem.mono hsub, g.memR, HF.dj_iff.2 fun b hb hx => HF.dj_iff.1 g.dj b hb (has_sub hsub b hx), g.defers, g.tsz, fun t av hm => u.tm (t, av) hm, g.size, g.keep, fun b hb => g.own b (has_sub hsub b hb), g.ro, g.ro0, g.os, g.tape, g.output, g.sg,
  fun e he => ⟨(g.bx e he).1, hB e he⟩, fun m hm r hr => g.md m hm r (hL _ _ hr)⟩
theorem newBare_ok {P : Program} {F : Fr} {s0 s : St} {a : Act} {w : World} {Γ : HF} {rcs rcs1 : List (Nat × RC)} {h h1 hn : HF} (g : Good F s0 a w Γ rcs h) (u : Sub F s a Γ rcs1 h1) (dn : HF.dj hn h1) (hsub : ∀ b v, (hn.un h1) b = some v → h b = some v)
  (hL : ∀ n r, look rcs1 n = some r → look rcs n = some r) {o : Oper} (hB : ∀ d, o.dst = some d → Off' F d rcs1) {K : Kd} {x : K.T} {z : K.Z} (ho : K.Own Γ x z hn) {v : Value} (hv : v = toV K (K.cells x z))
  (hrun : (execOp a.eval o).run P w = .ok (.value v) w) {k : St → Tr α} {Kp : α → Prop} {Q : Exit → Act → World → Prop} (hs : (newBare F.n o K x s k).sat Kp) :
  o.wp P a w (fun a' w' => ∃ s', R F s' a' w' ∧ (k s').sat Kp) Q := by
 unfold newBare at hs
 unfold Oper.wp
 rw [hrun, Oper.upon_value]
 split at hs
 ·rename_i hf
  have := own_free hf ho
  subst this
  rw [HF.emp_un] at hsub
  have hd : ∃ d, o.dst = some d := by
   unfold set at hs
   split at hs
   ·exact ⟨_, by assumption⟩
   ·exact hs.elim
  obtain ⟨d, hd⟩ := hd
  have g' := g.ofSub u hsub hL fun e he id hid => (hB d hd e he id hid).2
  exact set_ok hs g' ⟨hf, z, ho, hv⟩
 ·split at hs
  ·rename_i d hd
   split at hs
   ·rename_i hlt
    rw [hd]
    have hR := g.bare (d := d) (r := ⟨none, K, x, z⟩) (v := v) (av := .at d []) (tm := (fresh s d).tm) hsub dn u.st u.nd hlt.2 hlt.1 (hB d hd) hL (by simpa only [RC.Own] using ho)
     ⟨⟨none, K, x, z⟩, ⟨K, x, z, (0, 0)⟩, by simp [look], by simp [pl], hv⟩ (Good.fresh (F := F) u.tm)
    rw [← u.ck] at hR
    exact ⟨_, hR, hs⟩
   ·exact hs.elim
  ·exact hs.elim
theorem stBuild_ok {P : Program} {F : Fr} {o : Oper} {t : TypeId} {parts : Array (Nat × Operand)} {s : St} {k : St → Tr α} (ho : o.op = .build t parts) : WorldOK P F o s (stBuild P F.n o t parts s k) k ⟨true, dstL o⟩ := by
 unfold stBuild
 split
 ·rename_i K0 sz pos hK hsz
  split
  ·rename_i hz
   rw [Bool.and_eq_true] at hz
   obtain ⟨hz, hu⟩ := hz
   intro Kp a w Γ rcs h Q g he hs
   obtain ⟨it, z0, hit, hz0, hcl⟩ := zeroOK_spec hz
   obtain ⟨zu, ou, cu⟩ := unf_own hu (zero_own (Γ := Γ) K0)
   have hB : ∀ d, o.dst = some d → Off' F d rcs := fun d hd => by rw [dstL_some hd] at he; exact off'_of g he
   obtain ⟨K', x', z', hK', s', rcs', h', c', hf, o', d', sub', cl, u', hL', hB', hs'⟩ := parts_ok g (od := o.dst) parts.toList (unfK K0) (unfT K0 (zv K0)) zu HF.emp s rcs h z0.cells g.sub ou (HF.emp_dj _) (by rw [HF.emp_un]; exact fun _ _ e => e) (hcl.trans cu.symm) (fun _ _ e => e) hB hs
   split at hs'
   ·exact hs'.elim
   ·rename_i hsg
    refine newBare_ok g u' d' sub' hL' hB' o' (v := .agg c') ?_ ?_ hs'
    ·simp only [toV, hsg, Bool.false_eq_true, if_false, ← cl]
    ·have hb : P.built t (parts.map fun y => (y.1, a.eval y.2)).toList = some c' := by
      rw [Array.toList_map]
      unfold szOf at hsz
      unfold Program.built
      split at hsz
      ·rename_i n e hu
       split at hsz
       ·rename_i ie hie
        simp only [Option.some.injEq, Prod.mk.injEq] at hsz
        obtain ⟨rfl, rfl⟩ := hsz
        simp only [hit, hu, hz0, hie]
        exact hf
       ·cases hsz
      ·rename_i fields hu
       split at hsz
       ·rename_i places hpl
        simp only [Option.some.injEq, Prod.mk.injEq] at hsz
        obtain ⟨rfl, rfl⟩ := hsz
        simp only [hit, hu, hz0, hpl]
        exact hf
       ·cases hsz
      ·cases hsz
     have := run_build w t _ c' hb
     simp only [execOp, ho]
     simp [this]
  ·exact world_bad
 ·exact world_bad
end Go.Proofs.YtibammoednhnoaaE

