/- The engine, part 26: what a function promises, told by typed values; how it begins, how it ends. Conditions: none. -/
import Derived.Test.YtibammoednhnoaaE25
set_option linter.unusedVariables false
set_option linter.unusedSimpArgs false
namespace Go.Proofs.YtibammoednhnoaaE
open Kd
variable {α : Type}

inductive Par where
 | val (K : Kd)
 | own (K : Kd)
 | mut (K : Kd)
 | ptr (t : TypeId) (K : Kd) (p : List Sel)
 | cap (t : TypeId) (K : Kd)
 | clo (f : Nat) (caps : List Nat)
inductive Rs where
 | val (K : Kd)
 | own (K : Kd)
 | ownN (K : Kd)
 | box (t : TypeId) (K : Kd)
@[reducible] def Par.T : Par → Type
 | .val K | .own K | .mut K | .ptr _ K _ | .cap _ K => K.T
 | .clo _ _ => Unit
@[reducible] def Rs.T : Rs → Type
 | .val K | .own K | .ownN K | .box _ K => K.T
@[reducible] def AT : List Par → Type
 | [] => Unit
 | .clo _ _ :: ps => AT ps
 | .val K :: ps | .own K :: ps | .mut K :: ps | .ptr _ K _ :: ps | .cap _ K :: ps => K.T × AT ps
@[reducible] def RT : List Rs → Type
 | [] => Unit
 | .val K :: rs | .own K :: rs | .ownN K :: rs | .box _ K :: rs => K.T × RT rs
@[reducible] def OT : List Par → Type
 | [] => Unit
 | .mut K :: ps | .ptr _ K _ :: ps | .cap _ K :: ps => K.T × OT ps
 | .val _ :: ps | .own _ :: ps | .clo _ _ :: ps => OT ps
structure Spec where
 ps : List Par
 rs : List Rs
 impl : AT ps → Option (RT rs × OT ps)

def Entry (Γ : HF) (Rl : List (Nat × RC)) : Nat → (ps : List Par) → AT ps → List Value → Prop
 | _, [], _, vs => vs = []
 | i, .val K :: ps, x, vs => ∃ v vs', vs = v :: vs' ∧ (SV.val K x.1).is Γ Rl v ∧ Entry Γ Rl (i + 1) ps x.2 vs'
 | i, .own K :: ps, x, vs => ∃ v vs' z, vs = v :: vs' ∧ look Rl i = some ⟨none, K, x.1, z⟩ ∧ (SV.at i []).is Γ Rl v ∧ Entry Γ Rl (i + 1) ps x.2 vs'
 | i, .mut K :: ps, x, vs => ∃ v vs' z, vs = v :: vs' ∧ look Rl i = some ⟨none, K, x.1, z⟩ ∧ (SV.at i []).is Γ Rl v ∧ Entry Γ Rl (i + 1) ps x.2 vs'
 | i, .ptr t K p :: ps, x, vs => ∃ v vs' b z, vs = v :: vs' ∧ look Rl i = some ⟨some (b, t), K, x.1, z⟩ ∧ (SV.ptr i p).is Γ Rl v ∧ Entry Γ Rl (i + 1) ps x.2 vs'
 | i, .cap t K :: ps, x, vs => (∃ b z, look Rl i = some ⟨some (b, t), K, x.1, z⟩) ∧ Entry Γ Rl (i + 1) ps x.2 vs
 | i, .clo f caps :: ps, x, vs => ∃ v vs', vs = v :: vs' ∧ (SV.clo f caps).is Γ Rl v ∧ Entry Γ Rl (i + 1) ps x vs'
def entryCk : Nat → (ps : List Par) → AT ps → List (Nat × Ck)
 | _, [], _ => []
 | i, .val K :: ps, x => entryCk (i + 1) ps x.2
 | i, .own K :: ps, x => (i, ⟨none, K, x.1⟩) :: entryCk (i + 1) ps x.2
 | i, .mut K :: ps, x => (i, ⟨none, K, x.1⟩) :: entryCk (i + 1) ps x.2
 | i, .ptr t K p :: ps, x => (i, ⟨some t, K, x.1⟩) :: entryCk (i + 1) ps x.2
 | i, .cap t K :: ps, x => (i, ⟨some t, K, x.1⟩) :: entryCk (i + 1) ps x.2
 | i, .clo f caps :: ps, x => entryCk (i + 1) ps x
def entryTm : Nat → Nat → (ps : List Par) → AT ps → List (Nat × AV)
 | _, _, [], _ => []
 | i, j, .val K :: ps, x => (j, .one (.val K x.1)) :: entryTm (i + 1) (j + 1) ps x.2
 | i, j, .own K :: ps, x => (j, .one (.at i [])) :: entryTm (i + 1) (j + 1) ps x.2
 | i, j, .mut K :: ps, x => (j, .one (.at i [])) :: entryTm (i + 1) (j + 1) ps x.2
 | i, j, .ptr t K p :: ps, x => (j, .one (.ptr i p)) :: entryTm (i + 1) (j + 1) ps x.2
 | i, j, .cap t K :: ps, x => entryTm (i + 1) j ps x.2
 | i, j, .clo f caps :: ps, x => (j, .one (.clo f caps)) :: entryTm (i + 1) (j + 1) ps x
def entrySt (ps : List Par) (x : AT ps) : St := ⟨entryTm 0 0 ps x, entryCk 0 ps x⟩

def nilOK (K : Kd) (x : K.T) (v : Value) : Prop := match K, x with
 | .sl _ _ _ _, x => x = [] → v = .slice none 0 0
 | _, _ => True
def ResIs (Γ : HF) : (rs : List Rs) → RT rs → List Value → List (Nat × RC) → Prop
 | [], _, vs, l => vs = [] ∧ l = []
 | .val K :: rs, x, vs, l => ∃ v vs', vs = v :: vs' ∧ (SV.val K x.1).is Γ [] v ∧ ResIs Γ rs x.2 vs' l
 | .own K :: rs, x, vs, l => ∃ v vs' z l', vs = v :: vs' ∧ l = (0, ⟨none, K, x.1, z⟩) :: l' ∧ v = toV K (K.cells x.1 z) ∧ ResIs Γ rs x.2 vs' l'
 | .ownN K :: rs, x, vs, l => ∃ v vs' z l', vs = v :: vs' ∧ l = (0, ⟨none, K, x.1, z⟩) :: l' ∧ v = toV K (K.cells x.1 z) ∧ nilOK K x.1 v ∧ ResIs Γ rs x.2 vs' l'
 | .box t K :: rs, x, vs, l => ∃ v vs' b z l', vs = v :: vs' ∧ l = (0, ⟨some (b, t), K, x.1, z⟩) :: l' ∧ v = .pointer (some ⟨b, 0, none⟩) ∧ ResIs Γ rs x.2 vs' l'
def Back (Rl : List (Nat × RC)) : Nat → (ps : List Par) → OT ps → List (Nat × RC) → Prop
 | _, [], _, l => l = []
 | i, .val K :: ps, o, l => Back Rl (i + 1) ps o l
 | i, .own K :: ps, o, l => Back Rl (i + 1) ps o l
 | i, .clo f caps :: ps, o, l => Back Rl (i + 1) ps o l
 | i, .mut K :: ps, o, l => ∃ r z l', look Rl i = some r ∧ l = (i, ⟨none, K, o.1, z⟩) :: l' ∧ (⟨none, K, o.1, z⟩ : RC).head = r.head ∧ Back Rl (i + 1) ps o.2 l'
 | i, .ptr t K p :: ps, o, l => ∃ r b z l', look Rl i = some r ∧ l = (i, ⟨some (b, t), K, o.1, z⟩) :: l' ∧ (⟨some (b, t), K, o.1, z⟩ : RC).head = r.head ∧ Back Rl (i + 1) ps o.2 l'
 | i, .cap t K :: ps, o, l => ∃ r b z l', look Rl i = some r ∧ l = (i, ⟨some (b, t), K, o.1, z⟩) :: l' ∧ (⟨some (b, t), K, o.1, z⟩ : RC).head = r.head ∧ Back Rl (i + 1) ps o.2 l'
def packV : List Value → Value
 | [v] => v
 | l => .tuple l.toArray
structure After (Γ lent : HF) (w : World) (Rl : List (Nat × RC)) (sp : Spec) (r : RT sp.rs × OT sp.ps) (v : Value) (w' : World) (Γ' h' : HF) (vs : List Value) (lR lO : List (Nat × RC)) : Prop where
 v : v = packV vs
 res : ResIs Γ' sp.rs r.1 vs lR
 back : Back Rl 0 sp.ps r.2 lO
 star : Star Γ' (lR ++ lO) h'
 mem : Mem h' w'
 memR : MemR Γ' w'
 dj : HF.dj Γ' h'
 ro : ∀ b x, Γ b = some x → Γ' b = some x
 size : w.heap.size ≤ w'.heap.size
 keep : ∀ b, b < w.heap.size → ¬ lent.has b → w'.heap[b]? = w.heap[b]?
 own : ∀ b, h'.has b → lent.has b ∨ w.heap.size ≤ b
 rd : ∀ b, Γ'.has b → Γ.has b ∨ lent.has b ∨ w.heap.size ≤ b
 os : w'.os = w.os
 tape : w'.tape = w.tape
 output : w'.output = w.output
def Post (Γ lent : HF) (w : World) (Rl : List (Nat × RC)) (sp : Spec) (r : RT sp.rs × OT sp.ps) (e : Ending) (w' : World) : Prop := ∃ v Γ' h' vs lR lO, e = .returned v ∧ After Γ lent w Rl sp r v w' Γ' h' vs lR lO
def Valid (P : Program) (f : Nat) (sp : Spec) : Prop := ∀ (x : AT sp.ps) (r : RT sp.rs × OT sp.ps), sp.impl x = some r → ∀ (w : World) (Γ lent : HF) (Rl : List (Nat × RC)) (args : Array Value),
 Entry Γ Rl 0 sp.ps x args.toList → Rl.map (fun y => (y.1, y.2.ck)) = entryCk 0 sp.ps x → Star Γ Rl lent → Mem lent w → MemR Γ w → HF.dj Γ lent → Calls P f args w (Post Γ lent w Rl sp r)

theorem entryCk_ids : ∀ (i : Nat) (ps : List Par) (x : AT ps), ((entryCk i ps x).map (·.1)).Pairwise (· < ·) ∧ ∀ y ∈ (entryCk i ps x).map (·.1), i ≤ y ∧ y < i + ps.length
 | _, [], _ => ⟨.nil, fun y h => by cases h⟩
 | i, .val K :: ps, x => by
  obtain ⟨h1, h2⟩ := entryCk_ids (i + 1) ps x.2
  exact ⟨h1, fun y hy => by have := h2 y hy; simp only [List.length_cons]; omega⟩
 | i, .clo f caps :: ps, x => by
  obtain ⟨h1, h2⟩ := entryCk_ids (i + 1) ps x
  exact ⟨h1, fun y hy => by have := h2 y hy; simp only [List.length_cons]; omega⟩
 | i, .own K :: ps, x => by
  obtain ⟨h1, h2⟩ := entryCk_ids (i + 1) ps x.2
  refine ⟨List.pairwise_cons.2 ⟨fun y hy => ?_, h1⟩, fun y hy => ?_⟩
  ·have := h2 y hy; show i < y; omega
  ·simp only [List.length_cons]
   rcases List.mem_cons.1 hy with e | e
   ·simp only at e; omega
   ·have := h2 y e; omega
 | i, .mut K :: ps, x => by
  obtain ⟨h1, h2⟩ := entryCk_ids (i + 1) ps x.2
  refine ⟨List.pairwise_cons.2 ⟨fun y hy => ?_, h1⟩, fun y hy => ?_⟩
  ·have := h2 y hy; show i < y; omega
  ·simp only [List.length_cons]
   rcases List.mem_cons.1 hy with e | e
   ·simp only at e; omega
   ·have := h2 y e; omega
 | i, .ptr t K p :: ps, x => by
  obtain ⟨h1, h2⟩ := entryCk_ids (i + 1) ps x.2
  refine ⟨List.pairwise_cons.2 ⟨fun y hy => ?_, h1⟩, fun y hy => ?_⟩
  ·have := h2 y hy; show i < y; omega
  ·simp only [List.length_cons]
   rcases List.mem_cons.1 hy with e | e
   ·simp only at e; omega
   ·have := h2 y e; omega
 | i, .cap t K :: ps, x => by
  obtain ⟨h1, h2⟩ := entryCk_ids (i + 1) ps x.2
  refine ⟨List.pairwise_cons.2 ⟨fun y hy => ?_, h1⟩, fun y hy => ?_⟩
  ·have := h2 y hy; show i < y; omega
  ·simp only [List.length_cons]
   rcases List.mem_cons.1 hy with e | e
   ·simp only at e; omega
   ·have := h2 y e; omega
theorem entry_len : ∀ (ps : List Par) (i j : Nat) (Γ : HF) (Rl : List (Nat × RC)) (x : AT ps) (vs : List Value), Entry Γ Rl i ps x vs → vs.length ≤ ps.length
 | [], _, _, _, _, _, vs, h => by rw [show vs = [] from h]; exact Nat.le_refl _
 | .val K :: ps, i, j, Γ, Rl, x, vs, ⟨v, vs', e, _, h⟩ => by subst e; simp only [List.length_cons]; have := entry_len ps _ j _ _ _ _ h; omega
 | .own K :: ps, i, j, Γ, Rl, x, vs, ⟨v, vs', z, e, _, _, h⟩ => by subst e; simp only [List.length_cons]; have := entry_len ps _ j _ _ _ _ h; omega
 | .mut K :: ps, i, j, Γ, Rl, x, vs, ⟨v, vs', z, e, _, _, h⟩ => by subst e; simp only [List.length_cons]; have := entry_len ps _ j _ _ _ _ h; omega
 | .ptr t K p :: ps, i, j, Γ, Rl, x, vs, ⟨v, vs', b, z, e, _, _, h⟩ => by subst e; simp only [List.length_cons]; have := entry_len ps _ j _ _ _ _ h; omega
 | .cap t K :: ps, i, j, Γ, Rl, x, vs, ⟨_, h⟩ => by simp only [List.length_cons]; have := entry_len ps _ j _ _ _ _ h; omega
 | .clo f caps :: ps, i, j, Γ, Rl, x, vs, ⟨v, vs', e, _, h⟩ => by subst e; simp only [List.length_cons]; have := entry_len ps _ j _ _ _ _ h; omega
theorem entry_tm : ∀ (ps : List Par) (i j : Nat) {Γ : HF} {Rl : List (Nat × RC)} (x : AT ps) (vs pre : List Value), Entry Γ Rl i ps x vs → pre.length = j → ∀ t av, (t, av) ∈ entryTm i j ps x → ∃ v, (pre ++ vs)[t]? = some v ∧ av.is Γ Rl v
 | [], i, j, Γ, Rl, x, vs, pre, h, hj, t, av, hm => by cases hm
 | .val K :: ps, i, j, Γ, Rl, x, vs, pre, ⟨v, vs', e, hv, h⟩, hj, t, av, hm => by
  subst e; subst hj
  rcases List.mem_cons.1 hm with e | e
  ·injection e with e1 e2; subst e1; subst e2
   exact ⟨v, by simp, hv⟩
  ·obtain ⟨v', h1, h2⟩ := entry_tm ps (i + 1) (pre.length + 1) x.2 vs' (pre ++ [v]) h (by simp) t av e
   exact ⟨v', by simpa using h1, h2⟩
 | .own K :: ps, i, j, Γ, Rl, x, vs, pre, ⟨v, vs', z, e, _, hv, h⟩, hj, t, av, hm => by
  subst e; subst hj
  rcases List.mem_cons.1 hm with e | e
  ·injection e with e1 e2; subst e1; subst e2
   exact ⟨v, by simp, hv⟩
  ·obtain ⟨v', h1, h2⟩ := entry_tm ps (i + 1) (pre.length + 1) x.2 vs' (pre ++ [v]) h (by simp) t av e
   exact ⟨v', by simpa using h1, h2⟩
 | .mut K :: ps, i, j, Γ, Rl, x, vs, pre, ⟨v, vs', z, e, _, hv, h⟩, hj, t, av, hm => by
  subst e; subst hj
  rcases List.mem_cons.1 hm with e | e
  ·injection e with e1 e2; subst e1; subst e2
   exact ⟨v, by simp, hv⟩
  ·obtain ⟨v', h1, h2⟩ := entry_tm ps (i + 1) (pre.length + 1) x.2 vs' (pre ++ [v]) h (by simp) t av e
   exact ⟨v', by simpa using h1, h2⟩
 | .ptr ty K p :: ps, i, j, Γ, Rl, x, vs, pre, ⟨v, vs', b, z, e, _, hv, h⟩, hj, t, av, hm => by
  subst e; subst hj
  rcases List.mem_cons.1 hm with e | e
  ·injection e with e1 e2; subst e1; subst e2
   exact ⟨v, by simp, hv⟩
  ·obtain ⟨v', h1, h2⟩ := entry_tm ps (i + 1) (pre.length + 1) x.2 vs' (pre ++ [v]) h (by simp) t av e
   exact ⟨v', by simpa using h1, h2⟩
 | .cap ty K :: ps, i, j, Γ, Rl, x, vs, pre, ⟨_, h⟩, hj, t, av, hm => entry_tm ps (i + 1) j x.2 vs pre h hj t av hm
 | .clo f caps :: ps, i, j, Γ, Rl, x, vs, pre, ⟨v, vs', e, hv, h⟩, hj, t, av, hm => by
  subst e; subst hj
  rcases List.mem_cons.1 hm with e | e
  ·injection e with e1 e2; subst e1; subst e2
   exact ⟨v, by simp, hv⟩
  ·obtain ⟨v', h1, h2⟩ := entry_tm ps (i + 1) (pre.length + 1) x vs' (pre ++ [v]) h (by simp) t av e
   exact ⟨v', by simpa using h1, h2⟩
theorem pairwise_nodup {l : List Nat} (h : l.Pairwise (· < ·)) : l.Nodup := h.imp fun h => Nat.ne_of_lt h
def frOf (w : World) (lent Γ : HF) (Rl : List (Nat × RC)) (n : Lim) (hM : ∀ m ∈ Rl.map (fun y => (y.1, y.2.head)), (m.1 < n.lo ∨ n.n ≤ m.1) ∧ m.1 < 1000000) : Fr := ⟨w, lent, Γ, n, [], Rl.map fun y => (y.1, y.2.head), [], hM⟩
theorem entry_good {w : World} {Γ lent : HF} {Rl : List (Nat × RC)} {ps : List Par} {x : AT ps} {args : Array Value} {n : Lim} (hM) (he : Entry Γ Rl 0 ps x args.toList) (hck : Rl.map (fun y => (y.1, y.2.ck)) = entryCk 0 ps x) (st : Star Γ Rl lent) (m : Mem lent w) (mR : MemR Γ w) (d : HF.dj Γ lent) (hn : args.size ≤ n.n) :
  R (frOf w lent Γ Rl n hM) (entrySt ps x) { tmps := args ++ Array.replicate (n.n - args.size) undef, defers := [] } w := by
 have hids : (Rl.map (·.1)) = (entryCk 0 ps x).map (·.1) := by rw [← hck, List.map_map]; rfl
 have nd : (Rl.map (·.1)).Nodup := by rw [hids]; exact pairwise_nodup (entryCk_ids 0 ps x).1
 refine ⟨Γ, Rl, lent, hck, nd, st, m, mR, d, rfl, by simp [frOf]; omega, ?_, Nat.le_refl _, fun b _ _ => rfl, fun b hb => .inl hb, fun b hb => .inl hb, fun b x e => e, rfl, rfl, rfl, (fun x hx => by cases hx), fun e he => (by cases he), ?_⟩
 ·intro t av hm
  obtain ⟨v, h1, h2⟩ := entry_tm ps 0 0 x args.toList [] he rfl t av hm
  refine ⟨v, ?_, h2⟩
  have hlt : t < args.size := by
   rcases Nat.lt_or_ge t args.size with q | q
   ·exact q
   ·rw [List.nil_append, List.getElem?_eq_none (by simpa using q)] at h1; cases h1
  show (args ++ _)[t]? = some v
  rw [Array.getElem?_append_left hlt]
  simpa using h1
 ·intro m' hm r hr
  obtain ⟨y, hy, rfl⟩ := List.mem_map.1 hm
  have := look_of_mem nd (show (y.1, y.2) ∈ Rl from hy)
  simp only at hr
  rw [this] at hr
  injection hr with hr
  rw [hr]
end Go.Proofs.YtibammoednhnoaaE

