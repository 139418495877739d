/- The engine, part 17: a row that grows. Conditions: none. -/
import Derived.Test.YtibammoednhnoaaE16
set_option linter.unusedVariables false
set_option linter.unusedSimpArgs false
namespace Go.Proofs.YtibammoednhnoaaE
open Kd
variable {α : Type}

theorem Good.renew {F : Fr} {s : St} {a : Act} {w w' : World} {Γ : HF} {rcs rcs0 : List (Nat × RC)} {h h0 hm : HF} (g : Good F s a w Γ rcs h)
  (hsub : ∀ b v, h0 b = some v → h b = some v) (st : Star Γ rcs0 h0) (nd : (rcs0.map (·.1)).Nodup)
  {d : Nat} (hd : d < F.n.n) (hlo : F.n.lo ≤ d) (hB : Off F [d] rcs0) (hsubL : ∀ n r, look rcs0 n = some r → look rcs n = some r) (hk0 : ∀ b, b < w.heap.size → h0.has b → w'.heap[b]? = w.heap[b]?) {r : RC} (hr : r.Own Γ hm) (dm : HF.dj hm h0) (mm : Mem hm w') (m0 : Mem h0 w') (mR : MemR Γ w') (hsz : w.heap.size ≤ w'.heap.size)
  (hoth : ∀ b, b < w.heap.size → ¬ h.has b → w'.heap[b]? = w.heap[b]?) (hdom : ∀ b, hm.has b → h.has b ∨ w.heap.size ≤ b) (hos : w'.os = w.os) (htape : w'.tape = w.tape) (hout : w'.output = w.output)
  {v : Value} {av : SV} (hav : av.is Γ ((d, r) :: del rcs0 d) v)
  {tm : List (Nat × AV)} (htm : ∀ t av, (t, av) ∈ tm → offA d av = true ∧ t ≠ d ∧ ∃ v, a.tmps[t]? = some v ∧ av.is Γ rcs0 v) :
  R F ⟨(d, .one av) :: tm, (d, r.ck) :: del (rcs0.map fun r => (r.1, r.2.ck)) d⟩ (a.put (some d) v) w' := by
 obtain ⟨h1, st1, sub1⟩ := star_del st nd d
 have d1 : HF.dj hm h1 := HF.dj_iff.2 fun b hb hx => by
  refine HF.dj_iff.1 dm b hb ?_
  cases e : h1 b with
  | none => exact absurd e hx
  | some x => unfold HF.has; rw [sub1 b x e]; simp
 have hh1 : ∀ b, h1.has b → h.has b := fun b hb => by
  cases e : h1 b with
  | none => exact absurd e hb
  | some x => unfold HF.has; rw [hsub b x (sub1 b x e)]; simp
 have hdomA : ∀ b, (hm.un h1).has b → h.has b ∨ w.heap.size ≤ b := fun b hb => by
  rcases HF.has_un.1 hb with e | e
  ·exact hdom b e
  ·exact .inl (hh1 b e)
 refine ⟨Γ, (d, r) :: del rcs0 d, hm.un h1, ?_, ?_, ⟨hm, h1, d1, rfl, hr, st1⟩, (Mem.un d1).2 ⟨mm, m0.mono sub1⟩, mR, ?_, g.defers, by simp [Act.put, g.tsz], ?_, Nat.le_trans g.size hsz, ?_, ?_, g.ro, g.ro0, hos.trans g.os, htape.trans g.tape, hout.trans g.output, g.sg, bx_new (fun e he id hid => ?_) fun e he => ?_, md_new g (.inl ⟨hlo, hd⟩) hsubL⟩
 ·simp only [List.map_cons, List.cons.injEq, true_and, del, List.filter_map]
  rfl
 ·rw [List.map_cons, List.nodup_cons]
  exact ⟨del_not _ _, del_nodup nd d⟩
 ·refine HF.dj_iff.2 fun b hb hx => ?_
  rcases hdomA b hx with e | e
  ·exact HF.dj_iff.1 g.dj b hb e
  ·exact absurd (g.memR.lt hb) (Nat.not_lt.2 e)
 ·intro t' av' hm'
  rcases List.mem_cons.1 hm' with e | e
  ·injection e with e1 e2
   subst e1; subst e2
   exact ⟨v, by simp [Act.put, g.tsz, hd], hav⟩
  ·obtain ⟨ho, hne, u, hu, hi⟩ := htm t' av' e
   exact ⟨u, by simp only [Act.put]; rw [Array.getElem?_setIfInBounds_ne (Ne.symm hne)]; exact hu, cons_is ho (offA_is ho hi)⟩
 ·intro b hb1 hb2
  rw [hoth b (Nat.lt_of_lt_of_le hb1 g.size) fun e => by
   rcases g.own b e with f | f
   ·exact hb2 f
   ·omega]
  exact g.keep b hb1 hb2
 ·intro b hb
  rcases hdomA b hb with e | e
  ·exact g.own b e
  ·exact .inr (Nat.le_trans g.size e)
 ·obtain ⟨id', h1, h2, h3⟩ := hB e he
  rw [hid] at h1
  injection h1 with h1
  subst h1
  exact ⟨by simpa using h2, h3⟩
 ·have h1 := (g.bx e he).1
  obtain ⟨id', _, _, r', t', h3, h4⟩ := hB e he
  obtain ⟨f1, _, _, ef, of⟩ := star_take st h3
  have hh : h0.has e.b := by rw [ef]; exact HF.has_un.2 (.inl (box_has of h4))
  exact ⟨by rw [hk0 _ h1.2 hh]; exact h1.1, Nat.lt_of_lt_of_le h1.2 hsz⟩

theorem Each.append {p q r : Nat → HF → Prop} {m : Nat} : ∀ {n : Nat} {h1 h2 : HF}, HF.dj h1 h2 → Each p m h1 → Each q n h2 → (∀ i, i < m → ∀ h, p i h → r i h) → (∀ i, i < n → ∀ h, q i h → r (m + i) h) → Each r (m + n) (h1.un h2)
 | 0, h1, h2, d, e1, e2, hp, hq => by
  rw [show h2 = HF.emp from e2, HF.un_emp]
  exact Each.congr hp e1
 | n + 1, h1, h2, d, e1, e2, hp, hq => by
  obtain ⟨g1, g2, dg, rfl, eg, qg⟩ := e2
  obtain ⟨da, db⟩ := HF.dj_un.1 d
  refine ⟨h1.un g1, g2, HF.un_dj.2 ⟨db, dg⟩, (HF.un_assoc _ _ _).symm, Each.append da e1 eg hp (fun i hi => hq i (by omega)), hq n (by omega) _ qg⟩
theorem getD_append_left' {α : Type} {l m : List α} {i : Nat} {d : α} (h : i < l.length) : (l ++ m).getD i d = l.getD i d := by
 rw [List.getD_eq_getElem?_getD, List.getElem?_append_left h, List.getD_eq_getElem?_getD]
theorem getD_append_right' {α : Type} {l m : List α} {i : Nat} {d : α} : (l ++ m).getD (l.length + i) d = m.getD i d := by
 rw [List.getD_eq_getElem?_getD, List.getElem?_append_right (by omega), List.getD_eq_getElem?_getD]
 congr 2
 omega
def joinZ {Z : Type} (m : Nat) (f g : Nat → Z) : Nat → Z := fun i => if i < m then f i else g (i - m)

theorem own_room {Γ : HF} {t : TypeId} {e : Kd} {xs ys : List e.T} {b off cap : Nat} {zf zg : Nat → e.Z} {h hn : HF}
  (ho : (Kd.sl true t e none).Own Γ xs (some (b, off, cap), zf) h) (hy : Each (fun i hi => e.Own Γ (ys.getD i e.dft) (zg i) hi) ys.length hn) (dn : HF.dj h hn) (hroom : xs.length + ys.length ≤ cap)
  {news : List Value} (hnl : news.length = ys.length * e.size) (hnews : ∀ i, i < ys.length → ∀ j, j < e.size → news[i * e.size + j]? = (e.cells (ys.getD i e.dft) (zg i))[j]?) :
  (Kd.sl true t e none).Own Γ (xs ++ ys) (some (b, off, cap), joinZ xs.length zf zg) ((h.upd b (off + xs.length * e.size) news).un hn) ∧ h.has b ∧
   ∃ c t', h b = some (.cel c t') ∧ off + xs.length * e.size + news.length ≤ c.size := by
 obtain ⟨c, h2, hle, hcap, hfit, hl, he, hd⟩ := ho
 simp only [if_true] at hd
 obtain ⟨hd, rfl⟩ := hd
 have hb2 : ¬ h2.has b := fun q => HF.dj_iff.1 hd b (HF.has_one.2 rfl) q
 obtain ⟨dn1, dn2⟩ := HF.un_dj.1 dn
 have hmul : xs.length * e.size + ys.length * e.size ≤ cap * e.size := by
  rw [← Nat.add_mul]; exact Nat.mul_le_mul_right _ hroom
 refine ⟨⟨wr c (off + xs.length * e.size) news, h2.un hn, ?_, hcap, by rw [wr_size]; exact hfit, ?_, ?_, ?_⟩, HF.has_un.2 (.inl (HF.has_one.2 rfl)), c, t, one_self, by omega⟩
 ·rw [List.length_append]; exact hroom
 ·intro i hi
  rw [List.length_append] at hi
  simp only [joinZ]
  rcases Nat.lt_or_ge i xs.length with h' | h'
  ·rw [if_pos h', getD_append_left' h']
   refine Lie.wr_other (hl i h') (.inl ?_)
   rw [cells_length]
   have := Nat.mul_le_mul_right e.size (Nat.succ_le_of_lt h')
   rw [Nat.succ_mul] at this
   omega
  ·obtain ⟨j, rfl⟩ : ∃ j, i = xs.length + j := ⟨i - xs.length, by omega⟩
   rw [if_neg (by omega), getD_append_right', Nat.add_sub_cancel_left]
   intro q hq
   rw [cells_length] at hq
   have hjl : j < ys.length := by omega
   have hlt : j * e.size + q < news.length := by
    have := Nat.mul_le_mul_right e.size (Nat.succ_le_of_lt hjl)
    rw [Nat.succ_mul] at this
    rw [hnl]; omega
   rw [show off + (xs.length + j) * e.size + q = off + xs.length * e.size + (j * e.size + q) by rw [Nat.add_mul]; omega, wr_in _ _ _ _ hlt (by omega)]
   exact hnews j hjl q hq
 ·rw [List.length_append]
  refine Each.append dn2 he hy (fun i hi h' ho' => ?_) (fun i hi h' ho' => ?_)
  ·rw [if_neg (by simp)] at ho' ⊢
   simp only [joinZ]
   rw [if_pos hi, getD_append_left' hi]; exact ho'
  ·rw [if_neg (by simp)]
   simp only [joinZ]
   rw [if_neg (by omega), getD_append_right', Nat.add_sub_cancel_left]; exact ho'
 ·simp only [if_true]
  refine ⟨?_, ?_⟩
  ·refine HF.dj_un.2 ⟨?_, ?_⟩
   ·rw [← HF.upd_one]; exact HF.upd_dj.2 hd
   ·rw [← HF.upd_one]; exact HF.upd_dj.2 dn1
  ·rw [HF.upd_un, HF.upd_one, HF.upd_not hb2, HF.un_assoc]

def rowCells (e : Kd) (xs : List e.T) (zf : Nat → e.Z) : List Value := (List.range xs.length).flatMap fun i => e.cells (xs.getD i e.dft) (zf i)
theorem rowCells_length (e : Kd) (xs : List e.T) (zf : Nat → e.Z) : (rowCells e xs zf).length = xs.length * e.size := by
 rw [rowCells, Kd.length_flatMap_const _ _ e.size (fun i _ => cells_length e _ _), List.length_range]
theorem rowCells_lie {e : Kd} {xs : List e.T} {zf : Nat → e.Z} {c : Array Value} {o : Nat} : Lie c o (rowCells e xs zf) ↔ ∀ i, i < xs.length → Lie c (o + i * e.size) (e.cells (xs.getD i e.dft) (zf i)) :=
 lie_flat fun i => cells_length e _ _
theorem rowCells_get {e : Kd} {xs : List e.T} {zf : Nat → e.Z} {i j : Nat} (hi : i < xs.length) (hj : j < e.size) : (rowCells e xs zf)[i * e.size + j]? = (e.cells (xs.getD i e.dft) (zf i))[j]? := by
 have h : Lie (rowCells e xs zf).toArray 0 (rowCells e xs zf) := fun k hk => by simp
 have := rowCells_lie.1 h i hi j (by rw [cells_length]; exact hj)
 rw [Nat.zero_add] at this
 simpa using this
theorem own_grow {Γ : HF} {t : TypeId} {e : Kd} {xs ys : List e.T} {zo : Option (Nat × Nat × Nat)} {zf zg : Nat → e.Z} {h hn : HF}
  (ho : (Kd.sl true t e none).Own Γ xs (zo, zf) h) (hy : Each (fun i hi => e.Own Γ (ys.getD i e.dft) (zg i) hi) ys.length hn) (dn : HF.dj h hn) :
  ∃ h2 : HF, (∀ b v, h2 b = some v → h b = some v) ∧ ∀ (B cap : Nat) (C : Array Value) (rest : List Value), C.toList = rowCells e xs zf ++ rowCells e ys zg ++ rest → xs.length + ys.length ≤ cap → cap ≤ 9223372036854775807 → cap * e.size ≤ C.size →
   HF.dj (HF.one B C t) (h2.un hn) → (Kd.sl true t e none).Own Γ (xs ++ ys) (some (B, 0, cap), joinZ xs.length zf zg) ((HF.one B C t).un (h2.un hn)) := by
 have key : ∃ h2 : HF, (∀ b v, h2 b = some v → h b = some v) ∧ Each (fun i hi => e.Own Γ (xs.getD i e.dft) (zf i) hi) xs.length h2 := by
  cases zo with
  | none =>
   obtain ⟨hx, rfl⟩ := ho
   subst hx
   exact ⟨HF.emp, fun _ _ e => e, rfl⟩
  | some q =>
   obtain ⟨b, off, cap⟩ := q
   obtain ⟨c, h2, hle, hcap, hfit, hl, he, hd⟩ := ho
   simp only [if_true] at hd
   obtain ⟨hd, rfl⟩ := hd
   exact ⟨h2, fun b v e => un_right hd e, Each.congr (fun i hi h' ho => by rw [if_neg (by simp)] at ho; exact ho) he⟩
 obtain ⟨h2, hs, he⟩ := key
 have d2 : HF.dj h2 hn := HF.dj_iff.2 fun b hb hx => by
  refine HF.dj_iff.1 dn b ?_ hx
  cases e : h2 b with
  | none => exact absurd e hb
  | some x => unfold HF.has; rw [hs b x e]; simp
 refine ⟨h2, hs, fun B cap C rest hC hle hcap hsz dB => ⟨C, h2.un hn, by rw [List.length_append]; exact hle, hcap, by rw [Nat.zero_add]; exact hsz, ?_, ?_, ?_⟩⟩
 ·have hL : Lie C 0 (rowCells e xs zf ++ rowCells e ys zg) := fun j hj => by
   have : C[0 + j]? = C.toList[j]? := by simp
   rw [this, hC, List.getElem?_append_left hj]
  have hL1 := rowCells_lie.1 hL.left
  have hL2 := hL.right
  rw [rowCells_length] at hL2
  have hL2' := rowCells_lie.1 hL2
  intro i hi
  rw [List.length_append] at hi
  simp only [joinZ]
  rcases Nat.lt_or_ge i xs.length with h' | h'
  ·rw [if_pos h', getD_append_left' h']
   exact hL1 i h'
  ·obtain ⟨j, rfl⟩ : ∃ j, i = xs.length + j := ⟨i - xs.length, by omega⟩
   rw [if_neg (by omega), getD_append_right', Nat.add_sub_cancel_left]
   have := hL2' j (by omega)
   rw [Nat.add_mul, ← Nat.add_assoc]
   exact this
 ·rw [List.length_append]
  refine Each.append d2 he hy (fun i hi h' ho' => ?_) (fun i hi h' ho' => ?_)
  ·rw [if_neg (by simp)]
   simp only [joinZ]
   rw [if_pos hi, getD_append_left' hi]; exact ho'
  ·rw [if_neg (by simp)]
   simp only [joinZ]
   rw [if_neg (by omega), getD_append_right', Nat.add_sub_cancel_left]; exact ho'
 ·simp only [if_true]
  exact ⟨dB, trivial⟩
theorem nextcap_le (n o : Nat) (h : o < n) : Builtin.nextslicecap n o ≤ 2 * n := by
 unfold Builtin.nextslicecap
 split
 ·omega
 ·split
  ·omega
  ·have key : ∀ r c, c ≤ 2 * n → Builtin.growBy n r c ≤ 2 * n := by
    intro r
    induction r with
    | zero => exact fun c hc => hc
    | succ r ih =>
     intro c hc
     simp only [Builtin.growBy]
     split
     ·exact hc
     ·rename_i hlt
      refine ih _ ?_
      have : c < n := by omega
      omega
   exact key 4 o (by omega)
end Go.Proofs.YtibammoednhnoaaE

