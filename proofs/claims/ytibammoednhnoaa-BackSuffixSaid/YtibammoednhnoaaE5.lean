/- The engine, part 5: regions whose order is open: operations that only compute, or read what stays, are taken first. Conditions: none. -/
import Derived.Test.YtibammoednhnoaaE4
import Derived.OrdersHeld
set_option linter.unusedVariables false
set_option linter.unusedSimpArgs false
namespace Go.Proofs.YtibammoednhnoaaE

section
variable {P : Program} {md : Region.Mode} {ops : Array Oper} {Q : Exit → Act → World → Prop}

def edgeMask (md : Region.Mode) (ms : List Nat) (o : Oper) : Nat := o.after.toList.foldl (fun m e => if Region.binds md e then m ||| (1 <<< e.on ||| ms.getD e.on 0) else m) 0
def masksL (md : Region.Mode) : List Oper → List Nat → List Nat
 | [], ms => ms
 | o :: l, ms => masksL md l (ms ++ [edgeMask md ms o])
def dep (md : Region.Mode) (ops : Array Oper) (j i : Nat) : Bool := ((masksL md ops.toList []).getD j 0).testBit i

theorem edgeMask_spec {ms : List Nat} {o : Oper} {i : Nat} (h : (edgeMask md ms o).testBit i = true) : ∃ e ∈ o.after, Region.binds md e = true ∧ (e.on = i ∨ (ms.getD e.on 0).testBit i = true) := by
 have key : ∀ (l : List Edge) (m : Nat), (l.foldl (fun m e => if Region.binds md e then m ||| (1 <<< e.on ||| ms.getD e.on 0) else m) m).testBit i = true → m.testBit i = true ∨ ∃ e ∈ l, Region.binds md e = true ∧ (e.on = i ∨ (ms.getD e.on 0).testBit i = true) := by
  intro l
  induction l with
  | nil => intro m h; exact .inl h
  | cons e l ih =>
   intro m h
   rw [List.foldl_cons] at h
   rcases ih _ h with h' | ⟨e', he, h'⟩
   ·split at h'
    ·rename_i hb
     rw [Nat.testBit_or, Nat.testBit_or, Bool.or_eq_true, Bool.or_eq_true] at h'
     rcases h' with h' | h' | h'
     ·exact .inl h'
     ·refine .inr ⟨e, List.mem_cons_self, hb, .inl ?_⟩
      rw [Nat.testBit_shiftLeft] at h'
      simp only [Bool.and_eq_true, decide_eq_true_eq] at h'
      have h2 := h'.2
      rcases Nat.eq_or_lt_of_le h'.1 with q | q
      ·exact q
      ·obtain ⟨n, hn⟩ : ∃ n, i - e.on = n + 1 := ⟨i - e.on - 1, by omega⟩
       rw [hn, Nat.testBit_succ] at h2
       simp at h2
     ·exact .inr ⟨e, List.mem_cons_self, hb, .inr h'⟩
    ·exact .inl h'
   ·exact .inr ⟨e', List.mem_cons_of_mem _ he, h'⟩
 rcases key _ _ h with h' | ⟨e, he, h'⟩
 ·simp at h'
 ·exact ⟨e, Array.mem_toList_iff.1 he, h'⟩
theorem masksL_pre : ∀ (l : List Oper) (ms : List Nat) (q : Nat), q < ms.length → (masksL md l ms).getD q 0 = ms.getD q 0
 | [], _, _, _ => rfl
 | o :: l, ms, q, h => by
  rw [masksL, masksL_pre l _ q (by simp; omega)]
  simp [List.getD_eq_getElem?_getD, List.getElem?_append_left h]
theorem masksL_spec : ∀ (l : List Oper) (ms : List Nat) (i k : Nat), ((masksL md l ms).getD (ms.length + k) 0).testBit i = true →
  ∃ o, l[k]? = some o ∧ ∃ e ∈ o.after, Region.binds md e = true ∧ (e.on = i ∨ e.on < ms.length + k ∧ ((masksL md l ms).getD e.on 0).testBit i = true)
 | [], ms, i, k, h => by
  rw [masksL, List.getD_eq_getElem?_getD, List.getElem?_eq_none (by omega)] at h
  simp at h
 | o :: l, ms, i, 0, h => by
  rw [masksL, masksL_pre l _ _ (by simp)] at h
  have : (ms ++ [edgeMask md ms o]).getD (ms.length + 0) 0 = edgeMask md ms o := by simp [List.getD_eq_getElem?_getD]
  rw [this] at h
  obtain ⟨e, he, hb, h'⟩ := edgeMask_spec h
  refine ⟨o, rfl, e, he, hb, h'.imp id fun h2 => ?_⟩
  have hlt : e.on < ms.length := by
   rcases Nat.lt_or_ge e.on ms.length with q | q
   ·exact q
   ·rw [List.getD_eq_getElem?_getD, List.getElem?_eq_none q] at h2; simp at h2
  refine ⟨by omega, ?_⟩
  rw [masksL, masksL_pre l _ _ (by simp; omega)]
  simpa [List.getD_eq_getElem?_getD, List.getElem?_append_left hlt] using h2
 | o :: l, ms, i, k + 1, h => by
  rw [masksL] at h
  have hk : ms.length + (k + 1) = (ms ++ [edgeMask md ms o]).length + k := by simp; omega
  rw [hk] at h
  obtain ⟨o', ho, e, he, hb, h'⟩ := masksL_spec l _ i k h
  refine ⟨o', by simpa using ho, e, he, hb, ?_⟩
  rw [masksL, hk]
  exact h'

def Closed (md : Region.Mode) (ops : Array Oper) (listed : Array Bool) : Prop := ∀ k o, ops[k]? = some o → listed.getD k false = true → ∀ e ∈ o.after, Region.binds md e = true → listed.getD e.on false = true
theorem closed_dep {listed : Array Bool} (hc : Closed md ops listed) {i : Nat} : ∀ (j : Nat) (o : Oper), ops[j]? = some o → (∀ e ∈ o.after, Region.binds md e = true → listed.getD e.on false = true) → dep md ops j i = true → listed.getD i false = true := by
 intro j
 induction j using Nat.strongRecOn with
 | _ j ih =>
  intro o ho hp hd
  obtain ⟨o', ho', e, he, hb, h'⟩ := masksL_spec (md := md) ops.toList [] i j (by simpa [dep] using hd)
  have : o' = o := by
   rw [Array.getElem?_toList] at ho'
   rw [ho] at ho'
   exact (Option.some.inj ho').symm
  subst this
  have hl := hp e he hb
  rcases h' with h' | ⟨hlt, h'⟩
  ·rw [← h']; exact hl
  ·simp only [List.length_nil, Nat.zero_add] at hlt
   have hd' : dep md ops e.on i = true := h'
   cases hoe : ops[e.on]? with
   | none =>
    obtain ⟨o2, ho2, _⟩ := masksL_spec (md := md) ops.toList [] i e.on (by simpa [dep] using hd')
    rw [Array.getElem?_toList, hoe] at ho2
    cases ho2
   | some oe => exact ih e.on hlt oe hoe (hc e.on oe hoe hl) hd'
theorem getD_flip {listed : Array Bool} {i : Nat} (h : listed.getD i true = false) : listed.getD i false = false := by
 rcases Nat.lt_or_ge i listed.size with q | q
 ·simpa [q] using h
 ·simp [Array.getElem?_eq_none q] at h
theorem ready_dep {listed : Array Bool} (hc : Closed md ops listed) {i j : Nat} (hj : j ∈ Region.ready md ops listed) (hi : listed.getD i true = false) : dep md ops j i = false := by
 obtain ⟨_, o, ho, hall⟩ := mem_ready.1 hj
 cases hd : dep md ops j i with
 | false => rfl
 | true =>
  have := closed_dep hc j o ho hall hd
  rw [getD_flip hi] at this
  cases this
theorem Closed.put {listed : Array Bool} (hc : Closed md ops listed) {j : Nat} (hj : j ∈ Region.ready md ops listed) : Closed md ops (listed.setIfInBounds j true) := by
 obtain ⟨_, oj, hoj, hall⟩ := mem_ready.1 hj
 have up : ∀ x, listed.getD x false = true → (listed.setIfInBounds j true).getD x false = true := fun x hx => by
  by_cases e : j = x
  ·subst e
   rcases Nat.lt_or_ge j listed.size with q | q
   ·simp [q]
   ·simp [Array.getElem?_eq_none q] at hx
  ·rw [getD_set_ne false e]; exact hx
 intro k o ho hk e he hb
 by_cases e' : j = k
 ·subst e'
  rw [hoj] at ho
  injection ho with ho
  subst ho
  exact up _ (hall e he hb)
 ·rw [getD_set_ne false e'] at hk
  exact up _ (hc k o ho hk e he hb)
theorem Closed.none (n : Nat) : Closed md ops (Array.replicate n false) := fun k o _ hk => by
 rcases Nat.lt_or_ge k n with q | q <;> simp [q] at hk

def nextD (md : Region.Mode) (ops : Array Oper) (D : List (Nat × (World → Prop))) (j : Nat) : List (Nat × (World → Prop)) := D.filter fun x => !dep md ops j x.1

def wpL (P : Program) (md : Region.Mode) (ops : Array Oper) (Q : Exit → Act → World → Prop) : Nat → List (Nat × (World → Prop)) → Array Bool → Act → World → Prop
 | 0, _, listed, a, w => Region.ready md ops listed = [] ∧ Q .normal a w
 | fuel + 1, D, listed, a, w =>
  (Region.ready md ops listed = [] → Q .normal a w) ∧
  ∀ j ∈ Region.ready md ops listed, wpOp P ops Q j (fun a' w' => (∀ x ∈ nextD md ops D j, x.2 w') ∧ wpL P md ops Q fuel (nextD md ops D j) (listed.setIfInBounds j true) a' w') a w

theorem wpAny_of_wpL : ∀ (fuel : Nat) (D : List (Nat × (World → Prop))) (listed : Array Bool) (a : Act) (w : World), wpL P md ops Q fuel D listed a w → wpAny P md ops Q fuel listed a w
 | 0, _, _, _, _, h => h
 | fuel + 1, D, listed, a, w, h => ⟨h.1, fun j hj => wpOp_mono (fun a' w' h' => wpAny_of_wpL fuel _ _ a' w' h'.2) (h.2 j hj)⟩

theorem nextD_sub {D D' : List (Nat × (World → Prop))} (h : ∀ i, i ∈ D' → i ∈ D) (j : Nat) : ∀ i, i ∈ nextD md ops D' j → i ∈ nextD md ops D j := fun i hi => by
 obtain ⟨a, b⟩ := List.mem_filter.1 hi
 exact List.mem_filter.2 ⟨h i a, b⟩
theorem wpL_sub : ∀ (fuel : Nat) {D D' : List (Nat × (World → Prop))} (listed : Array Bool) (a : Act) (w : World), (∀ i, i ∈ D' → i ∈ D) → wpL P md ops Q fuel D listed a w → wpL P md ops Q fuel D' listed a w
 | 0, _, _, _, _, _, _, h => h
 | fuel + 1, D, D', listed, a, w, hs, h => ⟨h.1, fun j hj => wpOp_mono (fun a' w' h' => ⟨fun x hx => h'.1 x (nextD_sub hs j x hx), wpL_sub fuel _ a' w' (nextD_sub hs j) h'.2⟩) (h.2 j hj)⟩

theorem wpL_first {i : Nat} {oi : Oper} {v : Value} (W : World → Prop) (hi : ops[i]? = some oi) (hsel : ∀ (j : Nat) (o : Oper) cs b, ops[j]? = some o → o.op ≠ .select cs b)
  (hQ : ∀ c a w, Q (.panic c) (a.put oi.dst v) w → Q (.panic c) a w) :
  ∀ (fuel : Nat) (D : List (Nat × (World → Prop))) (listed : Array Bool) (a : Act) (w : World), Closed md ops listed → (∀ x ∈ D, x.2 w) →
   (∀ j oj, ops[j]? = some oj → j ≠ i → listed.getD j true = false → dep md ops j i = false → oi.apart ops oj = true) →
   i ∈ Region.ready md ops listed → YieldsIf P ops W oi v a → W w →
   wpL P md ops Q fuel ((i, W) :: D) (listed.setIfInBounds i true) (a.put oi.dst v) w → wpL P md ops Q (fuel + 1) D listed a w := by
 intro fuel
 induction fuel with
 | zero =>
  intro D listed a w hcl hD _ hr hy hW H
  refine ⟨fun h => (by rw [h] at hr; cases hr), fun j hj => ?_⟩
  by_cases hji : j = i
  ·subst hji
   exact hy.wpOp hi hW ⟨fun x hx => hD x (List.mem_filter.1 hx).1, H.1, H.2⟩
  ·have := ready_mono hj hji
   rw [H.1] at this
   cases this
 | succ fuel ih =>
  intro D listed a w hcl hD hfree hr hy hW H
  refine ⟨fun h => (by rw [h] at hr; cases hr), fun j hj => ?_⟩
  by_cases hji : j = i
  ·subst hji
   exact hy.wpOp hi hW ⟨fun x hx => hD x (List.mem_filter.1 hx).1, wpL_sub _ _ _ _ (fun k hk => List.mem_cons_of_mem _ (List.mem_filter.1 hk).1) H⟩
  ·have h1 := H.2 j (ready_mono hj hji)
   obtain ⟨hjun, oj, hoj, hall⟩ := mem_ready.1 hj
   have hiun := (mem_ready.1 hr).1
   have hnot : dep md ops j i = false := ready_dep hcl hj hiun
   have h2 := wpOp_putIf hoj (hfree j oj hoj hji hjun hnot) (fun cs b => hsel i oi cs b hi) (fun cs b => hsel j oj cs b hoj) hQ hy h1
   have hfree' : ∀ k ok, ops[k]? = some ok → k ≠ i → (listed.setIfInBounds j true).getD k true = false →
     dep md ops k i = false → oi.apart ops ok = true := fun k ok hk hki hun hno => by
    refine hfree k ok hk hki ?_ hno
    by_cases hjk : j = k
    ·subst hjk; exact hjun
    ·rw [getD_set_ne true hjk] at hun; exact hun
   have hnx : nextD md ops ((i, W) :: D) j = (i, W) :: nextD md ops D j := by simp [nextD, hnot]
   refine wpOp_mono (fun a' w' h3 => ?_) h2
   rw [hnx] at h3
   have hD' : ∀ x ∈ nextD md ops D j, x.2 w' := fun x hx => h3.2.1 x (List.mem_cons_of_mem _ hx)
   refine ⟨hD', ih (nextD md ops D j) (listed.setIfInBounds j true) a' w' (hcl.put hj) hD' hfree' (ready_mono hr (Ne.symm hji)) h3.1 (h3.2.1 _ List.mem_cons_self) ?_⟩
   rw [Array.setIfInBounds_comm _ _ hji]
   exact h3.2.2
end
end Go.Proofs.YtibammoednhnoaaE

