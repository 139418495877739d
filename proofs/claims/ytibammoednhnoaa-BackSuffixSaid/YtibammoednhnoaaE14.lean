/- The engine, part 14: new variables and rows. Conditions: none. -/
import Derived.Test.YtibammoednhnoaaE13
set_option linter.unusedVariables false
set_option linter.unusedSimpArgs false
namespace Go.Proofs.YtibammoednhnoaaE
open Kd
variable {α : Type}

theorem heap_alloc (w : World) (o : Obj) (b : Nat) (h : b ≠ w.heap.size) : (w.alloc o).heap[b]? = w.heap[b]? := by
 show (w.heap.push o)[b]? = _
 rw [Array.getElem?_push, if_neg h]
theorem heap_alloc_new (w : World) (o : Obj) : (w.alloc o).heap[w.heap.size]? = some o := by
 show (w.heap.push o)[w.heap.size]? = _
 rw [Array.getElem?_push, if_pos rfl]
theorem Mem.lt {h : HF} {w : World} (m : Mem h w) {b : Nat} (hb : h.has b) : b < w.heap.size := by
 cases e : h b with
 | none => exact absurd e hb
 | some x =>
  obtain ⟨o, q⟩ := (m b x e).r.some
  rcases Nat.lt_or_ge b w.heap.size with g | g
  ·exact g
  ·rw [Array.getElem?_eq_none g] at q; cases q
theorem MemR.lt {h : HF} {w : World} (m : MemR h w) {b : Nat} (hb : h.has b) : b < w.heap.size := by
 cases e : h b with
 | none => exact absurd e hb
 | some x =>
  obtain ⟨o, q⟩ := (m b x e).some
  rcases Nat.lt_or_ge b w.heap.size with g | g
  ·exact g
  ·rw [Array.getElem?_eq_none g] at q; cases q
theorem Mem.alloc {h : HF} {w : World} (m : Mem h w) (o : Obj) : Mem h (w.alloc o) := fun b x e =>
 (m b x e).same (heap_alloc _ _ _ (Nat.ne_of_lt (m.lt (b := b) (by unfold HF.has; rw [e]; simp))))
theorem MemR.alloc {h : HF} {w : World} (m : MemR h w) (o : Obj) : MemR h (w.alloc o) := fun b x e =>
 (m b x e).same (heap_alloc _ _ _ (Nat.ne_of_lt (m.lt (b := b) (by unfold HF.has; rw [e]; simp))))

theorem star_del {Γ : HF} {rcs : List (Nat × RC)} {h : HF} (st : Star Γ rcs h) (nd : (rcs.map (·.1)).Nodup) (id : Nat) : ∃ h', Star Γ (del rcs id) h' ∧ ∀ b v, h' b = some v → h b = some v := by
 cases hl : look rcs id with
 | none =>
  refine ⟨h, ?_, fun _ _ e => e⟩
  have : del rcs id = rcs := by
   refine del_none fun hm => ?_
   obtain ⟨x, hx, e⟩ := List.mem_map.1 hm
   have key : ∀ (l : List (Nat × RC)), x ∈ l → look l id ≠ none := by
    intro l
    induction l with
    | nil => intro q; cases q
    | cons y l ih =>
     intro q
     simp only [look]
     split
     ·simp
     ·rename_i hne
      rcases List.mem_cons.1 q with q | q
      ·subst q; simp [e] at hne
      ·exact ih q
   exact key rcs hx hl
  rw [this]
  exact st
 | some r =>
  obtain ⟨h1, hr, d, rfl, _, _, dl⟩ := star_upd st hl nd
  exact ⟨hr, dl, fun b v e => un_right d e⟩
theorem del_nodup {rcs : List (Nat × RC)} (nd : (rcs.map (·.1)).Nodup) (id : Nat) : ((del rcs id).map (·.1)).Nodup :=
 List.Nodup.sublist (List.Sublist.map _ (List.filter_sublist)) nd
theorem del_not {α : Type} (l : List (Nat × α)) (id : Nat) : id ∉ (del l id).map (·.1) := by
 intro h
 obtain ⟨x, hx, e⟩ := List.mem_map.1 h
 have := (List.mem_filter.1 hx).2
 simp [e] at this
theorem del_ck {F : Fr} {s : St} {a : Act} {w : World} {Γ : HF} {rcs : List (Nat × RC)} {h : HF} (g : Good F s a w Γ rcs h) (id : Nat) : (del rcs id).map (fun r => (r.1, r.2.ck)) = del s.ck id := by
 rw [← g.ck]
 simp only [del, List.filter_map]
 rfl

theorem cons_is {Γ : HF} {rcs : List (Nat × RC)} {id : Nat} {r : RC} {v : AV} {u : Value} (hk : offA id v = true) (hi : v.is Γ rcs u) : v.is Γ ((id, r) :: rcs) u := by
 have one : ∀ {v : SV} {u : Value}, offS id v = true → v.is Γ rcs u → v.is Γ ((id, r) :: rcs) u := by
  intro v u hk hi
  have hl : ∀ i, (i != id) = true → look ((id, r) :: rcs) i = look rcs i := fun i h => by
   simp only [look]
   rw [if_neg]
   simp at h ⊢
   exact fun e => h e.symm
  cases v with
  | ptr i p => obtain ⟨r, q, hr, x⟩ := hi; exact ⟨r, q, by rw [hl i hk]; exact hr, x⟩
  | «at» i p => obtain ⟨r, q, hr, x⟩ := hi; exact ⟨r, q, by rw [hl i hk]; exact hr, x⟩
  | slc i p off len => obtain ⟨r, t, e, hole, x', z', a, hr, x⟩ := hi; exact ⟨r, t, e, hole, x', z', a, by rw [hl i hk]; exact hr, x⟩
  | val K x => exact hi
  | eptr K x => exact hi
  | nilS => exact hi
  | nilP => exact hi
  | bnd f K x => exact hi
  | clo f caps =>
   obtain ⟨vs, e, hlen, hall⟩ := hi
   refine ⟨vs, e, hlen, fun j i hj => ?_⟩
   obtain ⟨r, b, t, hr, x⟩ := hall j i hj
   refine ⟨r, b, t, ?_, x⟩
   rw [hl i]
   ·exact hr
   ·simp only [offS, Bool.not_eq_true', List.contains_eq_mem, decide_eq_false_iff_not] at hk
    simp only [bne_iff_ne, ne_eq]
    intro q
    subst q
    exact hk (List.mem_of_getElem? hj)
 cases v with
 | one v => exact one hk hi
 | tup l =>
  obtain ⟨vs, e, hl, hall⟩ := hi
  refine ⟨vs, e, hl, fun i s hs' => ?_⟩
  obtain ⟨u', hu, h'⟩ := hall i s hs'
  exact ⟨u', hu, one (List.all_eq_true.1 hk s (List.mem_of_getElem? hs')) h'⟩

def Off' (F : Fr) (d : Nat) (rcs0 : List (Nat × RC)) : Prop := ∀ e ∈ F.B, ∀ id, e.id = some id → id ≠ d ∧ ∃ r t, look rcs0 id = some r ∧ r.box = some (e.b, t)
theorem off'_of {F : Fr} {s : St} {a : Act} {w : World} {Γ : HF} {rcs : List (Nat × RC)} {h : HF} (g : Good F s a w Γ rcs h) {d : Nat} {b : Bool} (he : (Eff.mk b [d]).ok F.B) : Off' F d rcs := fun e hm id hid => by
 have h1 := he e hm
 rw [hid] at h1
 exact ⟨by simpa using h1, (g.bx e hm).2 id hid⟩
theorem off'_del {F : Fr} {rcs : List (Nat × RC)} {d : Nat} (hB : Off' F d rcs) {id2 : Nat} {r2 : RC} (hr : look rcs id2 = some r2) (hb : r2.box = none) : Off' F d (del rcs id2) := fun e hm id hid => by
 obtain ⟨h2, r, t, h3, h4⟩ := hB e hm id hid
 refine ⟨h2, r, t, ?_, h4⟩
 rw [look_del]
 ·exact h3
 ·intro q
  subst q
  rw [hr] at h3
  injection h3 with h3
  subst h3
  rw [hb] at h4
  cases h4
theorem look_cons_ne {β : Type} {l : List (Nat × β)} {d n : Nat} {r : β} (h : n ≠ d) : look ((d, r) :: del l d) n = look l n := by
 simp only [look]
 rw [if_neg (by simpa using Ne.symm h), look_del _ h]
theorem bx_new {F : Fr} {d : Nat} {rcs0 : List (Nat × RC)} {r : RC} {w' : World} (hB : Off' F d rcs0) (hw : ∀ e ∈ F.B, w'.heap[e.b]? = e.ob ∧ e.b < w'.heap.size) : ∀ e ∈ F.B, e.ok w' ((d, r) :: del rcs0 d) := fun e he => by
 refine ⟨hw e he, fun id hid => ?_⟩
 obtain ⟨hne, r', t, h1, h2⟩ := hB e he id hid
 exact ⟨r', t, by rw [look_cons_ne hne]; exact h1, h2⟩
theorem md_new {F : Fr} {s : St} {a : Act} {w : World} {Γ : HF} {rcs rcs0 : List (Nat × RC)} {h : HF} (g : Good F s a w Γ rcs h) {d : Nat} (hlo : (F.n.lo ≤ d ∧ d < F.n.n) ∨ 1000000 ≤ d) {r : RC} (hsubL : ∀ n r, look rcs0 n = some r → look rcs n = some r) :
  ∀ m ∈ F.M, ∀ r', look ((d, r) :: del rcs0 d) m.1 = some r' → r'.head = m.2 := fun m hm r' hr' => by
 have hne : m.1 ≠ d := fun e => by have := F.hM m hm; omega
 rw [look_cons_ne hne] at hr'
 exact g.md m hm r' (hsubL _ _ hr')

theorem Good.allocX {F : Fr} {s : St} {a : Act} {w : World} {Γ : HF} {rcs rcs0 : List (Nat × RC)} {h h0 hn : HF} (g : Good F s a w Γ rcs h)
  (hsub : ∀ b v, (h0.un hn) b = some v → h b = some v) (dn : HF.dj h0 hn) (st : Star Γ rcs0 h0) (nd : (rcs0.map (·.1)).Nodup)
  {d : Nat} (hd : d < F.n.n) (hlo : F.n.lo ≤ d) (hB : Off' F d rcs0) (hsubL : ∀ n r, look rcs0 n = some r → look rcs n = some r) {r : RC} {c : Array Value} {t : TypeId} (hr : ∀ hb, hb = HF.one w.heap.size c t → HF.dj hb hn → r.Own Γ (hb.un hn)) {v : Value} {av : SV} (hav : av.is Γ ((d, r) :: del rcs0 d) v)
  {tm : List (Nat × AV)} (htm : ∀ t av, (t, av) ∈ tm → t ≠ d ∧ ∃ v, a.tmps[t]? = some v ∧ av.is Γ ((d, r) :: del rcs0 d) v) :
  R F ⟨(d, .one av) :: tm, (d, r.ck) :: del (rcs0.map fun r => (r.1, r.2.ck)) d⟩ (a.put (some d) v) (w.alloc (.cells c t)) := by
 obtain ⟨h1, st1, sub1⟩ := star_del st nd d
 have m0 : Mem (h0.un hn) w := g.mem.mono hsub
 have dnew : ∀ x : HF, Mem x w → HF.dj (HF.one w.heap.size c t) x := fun x m => HF.dj_iff.2 fun b hb hx => by
  rw [HF.has_one] at hb
  subst hb
  exact Nat.lt_irrefl _ (m.lt hx)
 have mn : Mem hn w := ((Mem.un dn).1 m0).2
 have m1 : Mem h1 w := ((Mem.un dn).1 m0).1.mono sub1
 have d1n : HF.dj h1 hn := HF.dj_iff.2 fun b hb hx => by
  refine HF.dj_iff.1 dn b ?_ hx
  cases e : h1 b with
  | none => exact absurd e hb
  | some x => unfold HF.has; rw [sub1 b x e]; simp
 have hsz : (w.alloc (.cells c t)).heap.size = w.heap.size + 1 := by simp
 have has_sub : ∀ b, ((((HF.one w.heap.size c t).un hn)).un h1).has b → b = w.heap.size ∨ h.has b := by
  intro b hb
  rcases HF.has_un.1 hb with hb | hb
  ·rcases HF.has_un.1 hb with hb | hb
   ·exact .inl (HF.has_one.1 hb)
   ·right
    cases e : hn b with
    | none => exact absurd e hb
    | some x => unfold HF.has; rw [hsub b x (un_right dn e)]; simp
  ·right
   cases e : h1 b with
   | none => exact absurd e hb
   | some x => unfold HF.has; rw [hsub b x (un_left (sub1 b x e))]; simp
 refine ⟨Γ, (d, r) :: del rcs0 d, ((HF.one w.heap.size c t).un hn).un h1, ?_, ?_, ?_, ?_, g.memR.alloc _, ?_, g.defers, by simp [Act.put, g.tsz], ?_, ?_, ?_, ?_, ?_, g.ro0, g.os, g.tape, g.output, g.sg, bx_new hB fun e he => ?_, md_new g (.inl ⟨hlo, hd⟩) hsubL⟩
 ·simp only [List.map_cons, List.cons.injEq, true_and, del, List.filter_map]
  rfl
 ·rw [List.map_cons, List.nodup_cons]
  exact ⟨del_not _ _, del_nodup nd d⟩
 ·exact ⟨_, h1, HF.un_dj.2 ⟨dnew h1 m1, d1n.symm⟩, rfl, hr _ rfl (dnew hn mn), st1⟩
 ·refine (Mem.un (HF.un_dj.2 ⟨dnew h1 m1, d1n.symm⟩)).2 ⟨(Mem.un (dnew hn mn)).2 ⟨Mem.one.2 ⟨0, 0, heap_alloc_new w _, fun o _ => by omega⟩, mn.alloc _⟩, m1.alloc _⟩
 ·refine HF.dj_iff.2 fun b hb hx => ?_
  rcases has_sub b hx with e | e
  ·subst e; exact Nat.lt_irrefl _ (g.memR.lt hb)
  ·exact HF.dj_iff.1 g.dj b hb e
 ·intro t' av' hm
  rcases List.mem_cons.1 hm with e | e
  ·injection e with e1 e2
   subst e1; subst e2
   exact ⟨v, by simp [Act.put, g.tsz, hd], hav⟩
  ·obtain ⟨hne, u, hu, hi⟩ := htm t' av' e
   exact ⟨u, by simp only [Act.put]; rw [Array.getElem?_setIfInBounds_ne (Ne.symm hne)]; exact hu, hi⟩
 ·rw [hsz]; exact Nat.le_succ_of_le g.size
 ·intro b hb1 hb2
  rw [heap_alloc _ _ _ (Nat.ne_of_lt (Nat.lt_of_lt_of_le hb1 g.size))]
  exact g.keep b hb1 hb2
 ·intro b hb
  rcases has_sub b hb with e | e
  ·right; rw [e]; exact g.size
  ·exact g.own b e
 ·exact g.ro
 ·have h1 := (g.bx e he).1
  exact ⟨by rw [heap_alloc _ _ _ (Nat.ne_of_lt h1.2)]; exact h1.1, by rw [hsz]; omega⟩
theorem Good.alloc {F : Fr} {s : St} {a : Act} {w : World} {Γ : HF} {rcs rcs0 : List (Nat × RC)} {h h0 hn : HF} (g : Good F s a w Γ rcs h)
  (hsub : ∀ b v, (h0.un hn) b = some v → h b = some v) (dn : HF.dj h0 hn) (st : Star Γ rcs0 h0) (nd : (rcs0.map (·.1)).Nodup)
  {d : Nat} (hd : d < F.n.n) (hlo : F.n.lo ≤ d) (hB : Off' F d rcs0) (hsubL : ∀ n r, look rcs0 n = some r → look rcs n = some r) {r : RC} {c : Array Value} {t : TypeId} (hr : ∀ hb, hb = HF.one w.heap.size c t → HF.dj hb hn → r.Own Γ (hb.un hn)) {v : Value} {av : SV} (hav : av.is Γ ((d, r) :: del rcs0 d) v)
  {tm : List (Nat × AV)} (htm : ∀ t av, (t, av) ∈ tm → offA d av = true ∧ t ≠ d ∧ ∃ v, a.tmps[t]? = some v ∧ av.is Γ rcs0 v) :
  R F ⟨(d, .one av) :: tm, (d, r.ck) :: del (rcs0.map fun r => (r.1, r.2.ck)) d⟩ (a.put (some d) v) (w.alloc (.cells c t)) :=
 g.allocX hsub dn st nd hd hlo hB hsubL hr hav fun t av hm => let ⟨ho, hne, u, hu, hi⟩ := htm t av hm; ⟨hne, u, hu, cons_is ho (offA_is ho hi)⟩
end Go.Proofs.YtibammoednhnoaaE

