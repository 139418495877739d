/- The engine, part 18: append. Conditions: none. -/
import Derived.Test.YtibammoednhnoaaE17
set_option linter.unusedVariables false
set_option linter.unusedSimpArgs false
namespace Go.Proofs.YtibammoednhnoaaE
open Kd
variable {α : Type}

theorem has_sub {h h' : HF} (s : ∀ b v, h' b = some v → h b = some v) (b : Nat) (hb : h'.has b) : h.has b := by
 cases e : h' b with
 | none => exact absurd e hb
 | some x => unfold HF.has; rw [s b x e]; simp
theorem append_core {P : Program} {F : Fr} {s s0 : St} {a : Act} {w : World} {Γ : HF} {rcs rcs0 : List (Nat × RC)} {h hd hn hr : HF} (g : Good F s a w Γ rcs h)
  (hh : ∀ b v, ((hd.un hn).un hr) b = some v → h b = some v) (d1 : HF.dj hd hn) (d2 : HF.dj (hd.un hn) hr) (st : Star Γ rcs0 hr) (nd : (rcs0.map (·.1)).Nodup) (hck : s0.ck = rcs0.map fun r => (r.1, r.2.ck)) (htm : ∀ x, x ∈ s0.tm → ∃ v, a.tmps[x.1]? = some v ∧ x.2.is Γ rcs0 v)
  {o : Oper} {c : Call} {x y : Operand} {t t2 : TypeId} (ho : o.op = .call c) (hb : c.callee = .builtin .append) (ha : c.args = #[x, y]) (hat : c.argTypes = #[t, t2])
  {te : TypeId} {e : Kd} {xs ys : List e.T} {zo : Option (Nat × Nat × Nat)} {zf zg : Nat → e.Z} (hsl : slOf? P t = some (te, e.size)) (hnu : noUn e = true)
  (hx : a.eval x = hdr zo xs.length) (hox : (Kd.sl true te e none).Own Γ xs (zo, zf) hd) {u : Value} (hu : a.eval y = u) (hsrc : ∀ i, P.info? te = some i → Src P i.size t2 u ys.length (rowCells e ys zg) w)
  (hoy : Each (fun i hi => e.Own Γ (ys.getD i e.dft) (zg i) hi) ys.length hn)
  (hsz : (xs.length + ys.length) * (bytesOf P te * 2) ≤ 281474976710656) (h63 : xs.length + ys.length ≤ 9223372036854775807) (hz : ∃ i v, P.info? te = some i ∧ i.zero = some v ∧ v.cells.size = e.size)
  (hB : ∀ d, o.dst = some d → Off F [d] rcs0) (hsubL : ∀ n r, look rcs0 n = some r → look rcs n = some r)
  {k : St → Tr α} {K : α → Prop} {Q : Exit → Act → World → Prop} (hs : (newRowT F.n o te e (xs ++ ys) s0 k).sat K) : o.wp P a w (fun a' w' => ∃ s', R F s' a' w' ∧ (k s').sat K) Q := by
 obtain ⟨i, hun, hi, hisz⟩ := slOf_spec hsl
 have hsr := hsrc i hi
 unfold newRowT at hs
 split at hs
 ·rename_i d hd'
  split at hs
  ·rename_i hlt
   have hmem : Mem ((hd.un hn).un hr) w := g.mem.mono hh
   have mdn := (Mem.un d2).1 hmem
   have md := (Mem.un d1).1 mdn.1
   have hsub : ∀ b v, hr b = some v → h b = some v := fun b v e' => hh b v (un_right d2 e')
   obtain ⟨d3, d4⟩ := HF.un_dj.1 d2
   have hexec : ∀ (v : Value) (w' : World), (Builtin.append_ #[t, t2] o.type #[a.eval x, a.eval y]).run P w = .ok v w' → (execOp a.eval o).run P w = .ok (.value v) w' := by
    intro v w' hrun
    simp [execOp, ho, resolve, hb, ha, hat, invoke, builtin, hrun]
   have fin : ∀ (z' : Option (Nat × Nat × Nat)) (zj : Nat → e.Z) (hm : HF) (w' : World) (v : Value), v = hdr z' (xs ++ ys).length → (Kd.sl true te e none).Own Γ (xs ++ ys) (z', zj) hm → HF.dj hm hr → Mem hm w' → Mem hr w' → MemR Γ w' → w.heap.size ≤ w'.heap.size →
     (∀ b, b < w.heap.size → ¬ h.has b → w'.heap[b]? = w.heap[b]?) → (∀ b, hm.has b → h.has b ∨ w.heap.size ≤ b) → (∀ b, b < w.heap.size → hr.has b → w'.heap[b]? = w.heap[b]?) → w'.os = w.os → w'.tape = w.tape → w'.output = w.output →
     (Builtin.append_ #[t, t2] o.type #[a.eval x, a.eval y]).run P w = .ok v w' → o.wp P a w (fun a' w' => ∃ s', R F s' a' w' ∧ (k s').sat K) Q := by
    intro z' zj hm w' v hv how dm mm m0 mR hss hoth hdom hk0 ho1 ho2 ho3 hrun
    have hR := g.renew (d := d) (r := ⟨none, .sl true te e none, xs ++ ys, (z', zj)⟩) (v := v) (av := .at d []) (tm := (fresh s0 d).tm) hsub st nd hlt.2 hlt.1 (hB d hd') hsubL hk0
     (by simpa only [RC.Own] using how) dm mm m0 mR hss hoth hdom ho1 ho2 ho3
     ⟨⟨none, .sl true te e none, xs ++ ys, (z', zj)⟩, ⟨.sl true te e none, xs ++ ys, (z', zj), (0, 0)⟩, by simp [look], by simp [pl], hv⟩ (Good.fresh (F := F) htm)
    unfold Oper.wp
    rw [hexec v w' hrun, Oper.upon_value, hd']
    rw [← hck] at hR
    exact ⟨_, hR, hs⟩
   have hasd : ∀ b, hd.has b → h.has b := fun b hb => has_sub hh b (HF.has_un.2 (.inl (HF.has_un.2 (.inl hb))))
   have hasn : ∀ b, hn.has b → h.has b := fun b hb => has_sub hh b (HF.has_un.2 (.inl (HF.has_un.2 (.inr hb))))
   have grow : ∀ (base : Option Addr) (sCap : Nat), a.eval x = .slice base xs.length sCap → sCap < xs.length + ys.length →
     (Builtin.firstCells i.size xs.length (.slice base xs.length sCap)).run P w.drew = .ok (rowCells e xs zf).toArray w.drew → o.wp P a w (fun a' w' => ∃ s', R F s' a' w' ∧ (k s').sat K) Q := by
    intro base sCap hxv hlt' hold
    obtain ⟨zi, zv0, hzi, hzv, hzs⟩ := hz
    rw [hi] at hzi
    injection hzi with hzi
    subst hzi
    have hbytes : bytesOf P te = i.bytes := by simp [bytesOf, hi]
    have hfit : Builtin.nextslicecap (xs.length + ys.length) sCap * i.bytes ≤ 281474976710656 := by
     have h1 := nextcap_le _ _ hlt'
     have h2 := Nat.mul_le_mul_right i.bytes h1
     rw [hbytes] at hsz
     have h3 : 2 * (xs.length + ys.length) * i.bytes = (xs.length + ys.length) * (i.bytes * 2) := by
      rw [Nat.mul_comm 2, Nat.mul_assoc, Nat.mul_comm 2]
     omega
    have hrun := run_append_grow_src (P := P) w t t2 o.type te i zv0 hun hi hzv base xs.length sCap (rowCells e xs zf) hold u ys.length (rowCells e ys zg) hsr hlt' (by omega) hfit
    rw [← hxv, ← hu] at hrun
    obtain ⟨h2, hs2, mk⟩ := own_grow (t := te) hox hoy d1
    have hcapv : xs.length + ys.length ≤ grownCap w (xs.length + ys.length) sCap te ∧ grownCap w (xs.length + ys.length) sCap te ≤ 9223372036854775807 := by
     have hq : grownCap w (xs.length + ys.length) sCap te = (xs.length + ys.length) + w.tape w.drawn (.appendCap (xs.length + ys.length) sCap te) % (2 ^ 63 - (xs.length + ys.length)) := rfl
     rw [hq]
     have := Nat.mod_lt (w.tape w.drawn (.appendCap (xs.length + ys.length) sCap te)) (show 0 < 2 ^ 63 - (xs.length + ys.length) by omega)
     omega
    generalize grownCap w (xs.length + ys.length) sCap te = cap at hrun hcapv
    have hzl : (Builtin.zeroCells zv0.cells (cap - (xs.length + ys.length))).size = (cap - (xs.length + ys.length)) * e.size := by simp [Builtin.zeroCells, hzs]
    generalize Builtin.zeroCells zv0.cells (cap - (xs.length + ys.length)) = rest at hrun hzl
    have lt2 : ∀ {x : HF}, Mem x w → HF.dj (HF.one w.heap.size ((rowCells e xs zf ++ rowCells e ys zg).toArray ++ rest) te) x := fun {x} m => HF.dj_iff.2 fun b hb hx => by
     rw [HF.has_one] at hb
     subst hb
     exact Nat.lt_irrefl _ (m.lt hx)
    have d2n : HF.dj h2 hn := HF.dj_iff.2 fun b hb hx => by
     refine HF.dj_iff.1 d1 b ?_ hx
     cases e' : h2 b with
     | none => exact absurd e' hb
     | some x => unfold HF.has; rw [hs2 b x e']; simp
    have d2r : HF.dj h2 hr := HF.dj_iff.2 fun b hb hx => by
     refine HF.dj_iff.1 d3 b ?_ hx
     cases e' : h2 b with
     | none => exact absurd e' hb
     | some x => unfold HF.has; rw [hs2 b x e']; simp
    have m2 : Mem h2 w := md.1.mono hs2
    have m2n : Mem (h2.un hn) w := (Mem.un d2n).2 ⟨m2, md.2⟩
    have how := mk w.heap.size cap ((rowCells e xs zf ++ rowCells e ys zg).toArray ++ rest) rest.toList (by simp) hcapv.1 hcapv.2 (by
     simp only [Array.size_append, List.size_toArray, List.length_append, rowCells_length, hzl]
     rw [← Nat.add_mul, ← Nat.add_mul]
     exact Nat.mul_le_mul_right _ (by omega)) (lt2 m2n)
    refine fin (some (w.heap.size, 0, cap)) _ _ (w.drew.alloc (Obj.cells ((rowCells e xs zf ++ rowCells e ys zg).toArray ++ rest) te)) (Value.slice (some { block := w.heap.size, off := 0 }) (xs.length + ys.length) cap) ?_ how ?_ ?_ ?_ ?_ ?_ ?_ ?_ (fun b hb _ => heap_alloc w.drew _ _ (Nat.ne_of_lt hb)) rfl rfl rfl hrun
    ·simp [hdr, List.length_append]
    ·exact HF.un_dj.2 ⟨lt2 mdn.2, HF.un_dj.2 ⟨d2r, d4⟩⟩
    ·exact (Mem.un (lt2 m2n)).2 ⟨Mem.one.2 ⟨0, 0, heap_alloc_new w.drew _, fun o _ => by omega⟩, Mem.alloc (w := w.drew) m2n _⟩
    ·exact Mem.alloc (w := w.drew) mdn.2 _
    ·exact MemR.alloc (w := w.drew) g.memR _
    ·simp
    ·intro b hb _
     exact heap_alloc w.drew _ _ (Nat.ne_of_lt hb)
    ·intro b hb
     rcases HF.has_un.1 hb with hb | hb
     ·rw [HF.has_one] at hb; right; omega
     ·rcases HF.has_un.1 hb with hb | hb
      ·left
       refine hasd b ?_
       cases e' : h2 b with
       | none => exact absurd e' hb
       | some x => unfold HF.has; rw [hs2 b x e']; simp
      ·exact .inl (hasn b hb)
   cases zo with
   | none =>
    obtain ⟨hx0, hd0⟩ := hox
    have hx0' : xs = [] := hx0
    by_cases hy0 : ys.length = 0
    ·have hy0' : ys = [] := List.eq_nil_of_length_eq_zero hy0
     subst hx0'; subst hy0'
     have hn0 : hn = HF.emp := hoy
     refine fin none zf HF.emp w (.slice none 0 0) rfl ⟨rfl, rfl⟩ (HF.emp_dj _) (Mem.emp w) mdn.2 g.memR (Nat.le_refl _) (fun _ _ _ => rfl) (fun b hb => by simp [HF.has, HF.emp] at hb) (fun _ _ _ => rfl) rfl rfl rfl ?_
     rw [hx, hu]
     have hlen := hsr.len w
     have hcl := hsr.cells
     rcases hsr.kind with ⟨e', hk⟩ | hk <;> simp [hdr, Builtin.append_, run_underlying hun, run_underlying hk, sizeOf, typeInfo, hi, hlen, hcl] <;> simp_all
    ·refine grow none 0 (by rw [hx, hx0']; rfl) (by omega) ?_
     rw [run_firstCells_none]
     subst hx0'
     rfl
   | some q =>
    obtain ⟨b, off, cap⟩ := q
    have hxv : a.eval x = .slice (some ⟨b, off, none⟩) xs.length cap := hx
    by_cases hroom : xs.length + ys.length ≤ cap
    ·obtain ⟨how, hhas, c0, t0, hc0, hfits⟩ := own_room (news := rowCells e ys zg) hox hoy d1 hroom (rowCells_length e ys zg) (fun i hi j hj => rowCells_get hi hj)
     obtain ⟨lo, hi', hm0, hnf⟩ := md.1.cel b c0 t0 hc0
     have hrun := run_append_room_src (P := P) w t t2 o.type te i hun hi b off xs.length cap u ys.length (rowCells e ys zg) hsr hroom
      (fun j hj => by rw [hisz, cell_at hm0, Array.getElem?_eq_getElem (by omega)]; rfl)
      (fun j hj => by
       rw [hisz]
       have := hnf (off + xs.length * e.size + j) (by omega)
       simp only [World.frozen?, hm0]
       simpa using this)
     rw [hisz, ← hxv, ← hu] at hrun
     obtain ⟨e1, e2, e3, e4, e5⟩ := setCells_same b (rowCells e ys zg) (off + xs.length * e.size) w
     have hbn : ¬ hn.has b := fun f => HF.dj_iff.1 d1 b hhas f
     have hbr : ¬ hr.has b := fun f => HF.dj_iff.1 d3 b hhas f
     refine fin (some (b, off, cap)) _ _ _ _ ?_ how ?_ ?_ ?_ ?_ ?_ ?_ ?_ (fun b' _ hb' => heap_setCells_ne _ _ _ _ _ fun f => hbr (by subst f; exact hb')) e1 e2 e4 hrun
     ·simp [hdr, List.length_append]
     ·exact HF.un_dj.2 ⟨HF.upd_dj.2 d3, d4⟩
     ·have := Mem.upd (b := b) (off := off + xs.length * e.size) (vs := rowCells e ys zg) mdn.1
      rw [HF.upd_un, HF.upd_not hbn] at this
      exact this
     ·have := Mem.upd (b := b) (off := off + xs.length * e.size) (vs := rowCells e ys zg) mdn.2
      rw [HF.upd_not hbr] at this
      exact this
     ·exact MemR.upd g.memR fun f => HF.dj_iff.1 g.dj b f (hasd b hhas)
     ·rw [e5]; exact Nat.le_refl _
     ·intro b' _ hb'
      exact heap_setCells_ne _ _ _ _ _ fun f => hb' (f ▸ hasd b hhas)
     ·intro b' hb'
      rcases HF.has_un.1 hb' with f | f
      ·exact .inl (hasd b' (HF.upd_has.1 f))
      ·exact .inl (hasn b' f)
    ·refine grow (some ⟨b, off, none⟩) cap hxv (by omega) ?_
     refine run_firstCells_some w.drew i.size xs.length ⟨b, off, none⟩ xs.length cap (rowCells e xs zf) (by rw [rowCells_length, hisz]) ?_
     obtain ⟨c0, h2, _, _, _, hl, _, hdd⟩ := hox
     simp only [if_true] at hdd
     obtain ⟨hdd, rfl⟩ := hdd
     obtain ⟨lo, hi', hm0, hnf⟩ := md.1.cel b c0 te one_self
     intro j v hv
     have := range_of hm0 (rowCells_lie.2 hl) j v hv
     rw [Addr.add_mid]
     exact this
  ·exact hs.elim
 ·exact hs.elim

def srcList (s : St) : SV → Option ((e : Kd) × List e.T)
 | .val (.sl false _ e none) ys => some ⟨e, ys⟩
 | .at id p => match look s.ck id with
  | some c => match getP c.K c.x p with
   | some ⟨.sl true _ e none, ys⟩ => some ⟨e, ys⟩
   | _ => none
  | none => none
 | .slc id p off len => match look s.ck id with
  | some c => match getP c.K c.x p with
   | some ⟨.sl true _ e none, ys⟩ => some ⟨e, (List.drop off ys).take len⟩
   | _ => none
  | none => none
 | _ => none
theorem Good.ownAt {F : Fr} {s : St} {a : Act} {w : World} {Γ : HF} {rcs : List (Nat × RC)} {h : HF} (g : Good F s a w Γ rcs h) {id : Nat} {p : List Sel} {r : RC} {q : At} (hr : look rcs id = some r)
  (hp : pl r.K r.x r.z p ((r.box.getD (0, 0)).1, 0) = some q) : ∃ hq, (∀ b v, hq b = some v → h b = some v) ∧ q.K.Own Γ q.x q.z hq := by
 obtain ⟨h1, hr', d, e, o1⟩ := star_take g.star hr
 obtain ⟨h2, s2, o2⟩ := rc_own o1
 obtain ⟨hq, s3, o3⟩ := own_pl p _ _ _ _ _ o2 hp
 exact ⟨hq, fun b v e' => by rw [e]; exact un_left (s2 b v (s3 b v e')), o3⟩
theorem each_free {Γ : HF} {e : Kd} {xs : List e.T} {zf : Nat → e.Z} (hf : e.free = true) : ∀ {n : Nat} {h : HF} {hole : Option Nat}, hole = none → Each (fun i hi => if hole = some i then hi = HF.emp else e.Own Γ (xs.getD i e.dft) (zf i) hi) n h → ∀ i, i < n → e.Own Γ (xs.getD i e.dft) (zf i) HF.emp
 | n, h, hole, hh, he, i, hi => by
  subst hh
  obtain ⟨_, hi', _, _, oi, _⟩ := Each.take hi he
  rw [if_neg (by simp)] at oi
  have := own_free hf oi
  subst this
  exact oi
theorem getD_window {α : Type} {l : List α} {off len i : Nat} {d : α} (hi : i < len) : ((l.drop off).take len).getD i d = l.getD (off + i) d := by
 simp [List.getD_eq_getElem?_getD, List.getElem?_take, hi, List.getElem?_drop]
theorem src_is {P : Program} {F : Fr} {s : St} {a : Act} {w : World} {Γ : HF} {rcs : List (Nat × RC)} {h : HF} (g : Good F s a w Γ rcs h) {v : SV} {u : Value} (hv : v.is Γ rcs u) {e : Kd} {ys : List e.T} (hs : srcList s v = some ⟨e, ys⟩) (hf : e.free = true) (hnu : noUn e = true)
  {t2 e' : TypeId} (hk : P.underlying t2 = some (.slice e')) : ∃ zg : Nat → e.Z, Src P e.size t2 u ys.length (rowCells e ys zg) w ∧ ∀ i, i < ys.length → e.Own Γ (ys.getD i e.dft) (zg i) HF.emp := by
 have one : ∀ (ys : List e.T) (zg : Nat → e.Z), ∀ x ∈ rowCells e ys zg, x.oneCell' = true := fun ys zg x hx => by
  obtain ⟨i, _, hi⟩ := List.mem_flatMap.1 hx
  exact cells_one e _ _ hnu x hi
 have nil : ∀ c : Nat, Src P e.size t2 (.slice none 0 c) ([] : List e.T).length (rowCells e [] fun _ => e.zd) w := fun c => Src.ofNil w hk c
 have some_ : ∀ (ys : List e.T) (zg : Nat → e.Z) (b o c : Nat) (cc : Array Value) (t : TypeId) (f : Nat × Nat), w.heap[b]? = some (.cells cc t f) → (∀ i, i < ys.length → Lie cc (o + i * e.size) (e.cells (ys.getD i e.dft) (zg i))) → Src P e.size t2 (.slice (some ⟨b, o, none⟩) ys.length c) ys.length (rowCells e ys zg) w := by
  intro ys zg b o c cc t f hw hl
  refine Src.ofSlice w hk ⟨b, o, none⟩ ys.length c _ (rowCells_length e ys zg) (fun j x hx => ?_) (one ys zg)
  rw [Addr.add_mid]
  exact range_of hw (rowCells_lie.2 hl) j x hx
 unfold srcList at hs
 split at hs
 ·rename_i t e0 ys0
  simp only [Option.some.injEq, Sigma.mk.injEq] at hs
  obtain ⟨rfl, hs⟩ := hs
  obtain rfl := eq_of_heq hs
  obtain ⟨_, ⟨zo, zf⟩, o, hu⟩ := hv
  cases zo with
  | none =>
   obtain ⟨hx, _⟩ := o
   have hx' : ys0 = [] := hx
   subst hx'
   exact ⟨fun _ => e0.zd, by rw [hu]; exact nil 0, fun i hi => by simp at hi⟩
  | some q =>
   obtain ⟨b, off, cap⟩ := q
   obtain ⟨c, h2, _, _, _, hl, he, hd⟩ := o
   simp only [Bool.false_eq_true, if_false] at hd
   obtain ⟨⟨t', hd⟩, _⟩ := hd
   obtain ⟨f, hw⟩ := g.memR.cel b c t' hd
   exact ⟨zf, by rw [hu]; exact some_ ys0 zf b off cap c t' f hw hl, each_free hf rfl he⟩
 ·rename_i id p
  split at hs
  ·rename_i c hc
   split at hs
   ·rename_i t e0 ys0 hg
    simp only [Option.some.injEq, Sigma.mk.injEq] at hs
    obtain ⟨rfl, hs⟩ := hs
    obtain rfl := eq_of_heq hs
    obtain ⟨r, q, hr, hp, hu⟩ := hv
    obtain rfl := g.same hc hr
    have hget := pl_get p _ _ _ _ hp
    simp only [RC.ck] at hg
    rw [hget] at hg
    injection hg with hg
    obtain ⟨hq, hsub, how⟩ := g.ownAt hr hp
    obtain ⟨qK, qx, qz, qa⟩ := q
    simp only [Sigma.mk.injEq] at hg
    obtain ⟨rfl, hg⟩ := hg
    obtain rfl := eq_of_heq hg
    obtain ⟨zo, zf⟩ := qz
    cases zo with
    | none =>
     obtain ⟨hx, _⟩ := how
     have hx' : qx = [] := hx
     subst hx'
     exact ⟨fun _ => e0.zd, by rw [hu]; exact nil 0, fun i hi => by simp at hi⟩
    | some q =>
     obtain ⟨b, off, cap⟩ := q
     obtain ⟨c, h2, _, _, _, hl, he, hd⟩ := how
     simp only [if_true] at hd
     obtain ⟨hd, rfl⟩ := hd
     obtain ⟨lo, hi', hw, _⟩ := g.mem.cel b c t (hsub b _ one_self)
     exact ⟨zf, by rw [hu]; exact some_ qx zf b off cap c t _ hw hl, each_free hf rfl he⟩
   ·cases hs
  ·cases hs
 ·rename_i id p off len
  split at hs
  ·rename_i c hc
   split at hs
   ·rename_i t e0 ys0 hg
    simp only [Option.some.injEq, Sigma.mk.injEq] at hs
    obtain ⟨rfl, hs⟩ := hs
    obtain rfl := eq_of_heq hs
    obtain ⟨r, t1, e1, hole, x', z', qa, hr, hp, hle, hu⟩ := hv
    obtain rfl := g.same hc hr
    have hget := pl_get p _ _ _ _ hp
    simp only [RC.ck] at hg
    rw [hget] at hg
    simp only [Option.some.injEq, Sigma.mk.injEq, Kd.sl.injEq, true_and] at hg
    obtain ⟨⟨rfl, rfl, rfl⟩, hg⟩ := hg
    obtain rfl := eq_of_heq hg
    obtain ⟨hq, hsub, how⟩ := g.ownAt hr hp
    have hlen : (List.take len (List.drop off x')).length = len := by
     rw [List.length_take, List.length_drop]; omega
    obtain ⟨zo, zf⟩ := z'
    rcases hu with ⟨rfl, hu⟩ | ⟨b, o', cap, hz, hu⟩
    ·refine ⟨fun _ => e1.zd, ?_, fun i hi => by simp at hi⟩
     simp only [List.take_zero]
     rcases hu with hu | ⟨_, _, _, off2, cap2, _, hu, _⟩
     ·rw [hu]; exact nil 0
     ·rw [hu]; exact Src.ofSlice w hk _ 0 cap2 [] (by simp) (fun j x hx => by simp at hx) (fun x hx => by cases hx)
    ·simp only at hz
     subst hz
     obtain ⟨c, h2, _, _, _, hl, he, hd⟩ := how
     simp only [if_true] at hd
     obtain ⟨hd, rfl⟩ := hd
     obtain ⟨lo, hi', hw, _⟩ := g.mem.cel b c t1 (hsub b _ one_self)
     have hef := each_free hf rfl he
     refine ⟨fun i => zf (off + i), ?_, fun i hi => ?_⟩
     ·have := some_ (List.take len (List.drop off x')) (fun i => zf (off + i)) b (o' + off * e1.size) (cap - off) c t1 _ hw (fun i hi => by
       rw [hlen] at hi
       rw [getD_window hi, Nat.add_assoc, ← Nat.add_mul]
       exact hl (off + i) (show off + i < List.length x' by omega))
      rw [hlen] at this
      rw [hu, hlen]
      exact this
     ·rw [hlen] at hi
      rw [getD_window hi]
      exact hef (off + i) (show off + i < List.length x' by omega)
   ·cases hs
  ·cases hs
 ·cases hs
end Go.Proofs.YtibammoednhnoaaE

