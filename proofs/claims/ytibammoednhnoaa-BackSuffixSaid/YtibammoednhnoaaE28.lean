/- The engine, part 28: a function keeps its promise if its body does. Conditions: none. -/
import Derived.Test.YtibammoednhnoaaE27
set_option linter.unusedVariables false
set_option linter.unusedSimpArgs false
namespace Go.Proofs.YtibammoednhnoaaE
open Kd
variable {α : Type}

theorem star_append {Γ : HF} : ∀ {l1 l2 : List (Nat × RC)} {h1 h2 : HF}, Star Γ l1 h1 → Star Γ l2 h2 → HF.dj h1 h2 → Star Γ (l1 ++ l2) (h1.un h2)
 | [], l2, h1, h2, s1, s2, d => by rw [show h1 = HF.emp from s1, HF.emp_un]; exact s2
 | r :: l1, l2, h1, h2, ⟨g1, g2, d1, e, o, st⟩, s2, d => by
  subst e
  obtain ⟨d2, d3⟩ := HF.un_dj.1 d
  exact ⟨g1, g2.un h2, HF.dj_un.2 ⟨d1, d2⟩, HF.un_assoc _ _ _, o, star_append st s2 d3⟩
theorem entry_look : ∀ (ps : List Par) (i : Nat) {Γ : HF} {Rl : List (Nat × RC)} (x : AT ps) (vs : List Value), Entry Γ Rl i ps x vs → ∀ j, i ≤ j → ∀ p, ps[j - i]? = some p → (match p with | .mut _ | .ptr _ _ _ | .cap _ _ => ∃ r, look Rl j = some r | _ => True)
 | [], i, Γ, Rl, x, vs, h, j, hj, p, hp => by simp at hp
 | q :: ps, i, Γ, Rl, x, vs, h, j, hj, p, hp => by
  rcases Nat.eq_or_lt_of_le hj with e | e
  ·subst e
   simp only [Nat.sub_self, List.getElem?_cons_zero, Option.some.injEq] at hp
   subst hp
   cases q with
   | val K => trivial
   | own K => trivial
   | clo f c => trivial
   | «mut» K => obtain ⟨v, vs', z, _, hl, _⟩ := h; exact ⟨_, hl⟩
   | ptr t K p => obtain ⟨v, vs', b, z, _, hl, _⟩ := h; exact ⟨_, hl⟩
   | cap t K => obtain ⟨⟨b, z, hl⟩, _⟩ := h; exact ⟨_, hl⟩
  ·have hp' : ps[j - (i + 1)]? = some p := by
    rw [show j - i = (j - (i + 1)) + 1 by omega] at hp
    simpa using hp
   cases q with
   | val K => obtain ⟨v, vs', _, _, h⟩ := h; exact entry_look ps (i + 1) _ _ h j (by omega) p hp'
   | own K => obtain ⟨v, vs', z, _, _, _, h⟩ := h; exact entry_look ps (i + 1) _ _ h j (by omega) p hp'
   | clo f c => obtain ⟨v, vs', _, _, h⟩ := h; exact entry_look ps (i + 1) _ _ h j (by omega) p hp'
   | «mut» K => obtain ⟨v, vs', z, _, _, _, h⟩ := h; exact entry_look ps (i + 1) _ _ h j (by omega) p hp'
   | ptr t K pp => obtain ⟨v, vs', b, z, _, _, _, h⟩ := h; exact entry_look ps (i + 1) _ _ h j (by omega) p hp'
   | cap t K => obtain ⟨_, h⟩ := h; exact entry_look ps (i + 1) _ _ h j (by omega) p hp'

def retK (P : Program) (fn : Func) (sp : Spec) (s : St) : Tr (RT sp.rs × OT sp.ps) := retT P fn.results.toList sp.rs s fun q s' => outsT 0 sp.ps s' fun o => .leaf (q, o)
def fnQ (P : Program) (F : Fr) (fn : Func) (sp : Spec) (r : RT sp.rs × OT sp.ps) : Exit → Act → World → Prop := fun e a w => (e = .normal ∨ e = .ret) ∧ ∃ s, R F s a w ∧ (retK P fn sp s).sat (· = r)
theorem run_results {P : Program} {fn : Func} {tmps : Array Value} {w : World} {us : List Value} (h : (fn.results.toList.mapM (resV tmps)).run P w = .ok us w) : (results fn tmps).run P w = .ok (packV us) w := by
 unfold results
 rw [← Array.toArray_toList (xs := fn.results), List.mapM_toArray]
 have : ∀ (g : ResultVar → Sem Value), g = resV tmps → (fn.results.toList.mapM g).run P w = .ok us w := fun g hg => by rw [hg]; exact h
 simp only [Sem.run_bind, Sem.run_map]
 rw [this]
 ·match us with
  | [] => rfl
  | [v] => rfl
  | u :: v :: us => rfl
 ·funext x
  cases x <;> rfl
theorem fn_valid {P : Program} {f : Nat} {fn : Func} {c : Code} {sp : Spec} {n : Lim} (hf : P.funcs[f]? = some fn) (hb : fn.body = some c) (hn : n.n = fn.ntmps) (hlo : n.lo = sp.ps.length) (hps : sp.ps.length ≤ fn.ntmps) (hbig : sp.ps.length ≤ 1000000)
  (h : ∀ (x : AT sp.ps) (r : RT sp.rs × OT sp.ps), sp.impl x = some r → ∀ (F : Fr), F.n = n → F.B = [] → ∀ (a : Act) (w : World), R F (entrySt sp.ps x) a w → c.wp P (fnQ P F fn sp r) a w) : Valid P f sp := by
 intro x r hi w Γ lent Rl args he hck st m mR d
 have hids : (Rl.map (·.1)) = (entryCk 0 sp.ps x).map (·.1) := by rw [← hck, List.map_map]; rfl
 have hM : ∀ m ∈ Rl.map (fun y => (y.1, y.2.head)), (m.1 < n.lo ∨ n.n ≤ m.1) ∧ m.1 < 1000000 := by
  intro m' hm
  obtain ⟨y, hy, rfl⟩ := List.mem_map.1 hm
  have : y.1 ∈ (entryCk 0 sp.ps x).map (·.1) := by rw [← hids]; exact List.mem_map.2 ⟨y, hy, rfl⟩
  have := (entryCk_ids 0 sp.ps x).2 _ this
  simp only
  omega
 have hlen := entry_len sp.ps 0 0 Γ Rl x _ he
 have hargs : args.size ≤ n.n := by
  rw [Array.length_toList] at hlen
  omega
 have hR := entry_good (n := n) hM he hck st m mR d hargs
 refine calls_of_wp hf hb ?_
 rw [← hn]
 refine wp_mono (h x r hi (frOf w lent Γ Rl n hM) rfl rfl _ w hR) ?_
 rintro e a' w' ⟨hex, s', ⟨Γ', rcs, h', g⟩, hs⟩
 obtain ⟨q, s2, rcs2, h2, hR2, us, lR, f1, f2, f3, f4, f5, u2, f6, hs2⟩ := retT_ok (rcs := rcs) fn.results.toList sp.rs s' rcs h' g.sub g.mem (fun _ _ e => e) hs
 obtain ⟨o, lO, hO, f7, f8, f9, hs3⟩ := outsT_ok (Rl := Rl) (rcs := rcs) g.md (fun i r hr => List.mem_map.2 ⟨(i, r), look_mem hr, rfl⟩) 0 sp.ps s2 rcs2 h2 (fun j h1 h2 p hp => entry_look sp.ps 0 x _ he j (Nat.zero_le _) p hp) u2 f6 hs2
 have hr : (q, o) = r := hs3
 subst hr
 have dO : HF.dj hR2 hO := HF.dj_iff.2 fun b hb hx => HF.dj_iff.1 f4 b hb (has_sub f9 b hx)
 have hsub : ∀ b v, (hR2.un hO) b = some v → h' b = some v := fun b v e => f5 b v (un_mono f4 (fun _ _ e => e) f9 b v e)
 have key : Post Γ lent w Rl sp (q, o) (.returned (packV us)) w' := by
  refine ⟨packV us, Γ', hR2.un hO, us, lR, lO, rfl, rfl, f2, f7, star_append f3 f8 dO, g.mem.mono hsub, g.memR, HF.dj_iff.2 fun b hb hx => HF.dj_iff.1 g.dj b hb (has_sub hsub b hx), g.ro0, g.size, g.keep, fun b hb => g.own b (has_sub hsub b hb), g.ro, g.os, g.tape, g.output⟩
 rcases hex with rfl | rfl
 ·exact ⟨g.defers, _, run_results f1, key⟩
 ·exact ⟨g.defers, _, run_results f1, key⟩
end Go.Proofs.YtibammoednhnoaaE

