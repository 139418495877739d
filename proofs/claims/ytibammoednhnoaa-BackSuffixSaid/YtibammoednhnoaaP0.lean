/- Plain laws. Conditions: none. -/
import Derived.Test.YtibammoednhnoaaG1
set_option linter.unusedSimpArgs false
set_option linter.unusedVariables false
namespace Go.Proofs.YtibammoednhnoaaE
theorem pos1 {m : Nat} (h : 0 < m) : ∃ m', m = m' + 1 := ⟨m - 1, by omega⟩
theorem tnI (n : Nat) : Int.toNat (n : Int) = n := rfl
theorem w64 (x : Int) (h : -9223372036854775808 ≤ x) (h2 : x ≤ 9223372036854775807) : IntKind.wrap .i64 x = x := by
 simp only [IntKind.wrap, IntKind.signed, IntKind.bits, Bool.true_and]
 split
 ·rename_i hc
  have hc' := of_decide_eq_true hc
  omega
 ·rename_i hc
  have hc' : ¬ _ := fun h => hc (decide_eq_true h)
  omega
theorem getD_lt {α : Type} (l : List α) (i : Nat) (d : α) (h : i < l.length) : List.getD l i d = l[i] := by
 simp [List.getD_eq_getElem?_getD, List.getElem?_eq_getElem h]
theorem inR {i n : Nat} (h : i < n) : (0 : Int) ≤ (i : Int) ∧ (i : Int) < ((n : Nat) : Int) := by omega
theorem dlt {i n : Nat} (h : i < n) : decide ((i : Int) < ((n : Nat) : Int)) = true := by simpa using h
theorem dnlt (n : Nat) : decide ((n : Int) < ((n : Nat) : Int)) = false := by simp
theorem wsucc (i n : Nat) (h : i < n) (hn : n ≤ 9223372036854775807) : IntKind.wrap .i64 ((i : Int) + 1) = ((i + 1 : Nat) : Int) := by
 rw [w64 _ (by omega) (by omega)]; omega
theorem all_append {α : Type} {P : α → Prop} {l : List α} {a : α} (h : ∀ x ∈ l, P x) (ha : P a) : ∀ x ∈ l ++ [a], P x := fun x hx => by
 rcases List.mem_append.1 hx with hx | hx
 ·exact h x hx
 ·rw [List.mem_singleton.1 hx]
  exact ha
theorem nz {n : Nat} (h : 0 < n) : (((n : Nat) : Int) == 0) = false := beq_false_of_ne (by omega)
end Go.Proofs.YtibammoednhnoaaE
set_option linter.unusedSimpArgs false
set_option linter.unusedVariables false
set_option maxRecDepth 20000
namespace Go.Proofs.YtibammoednhnoaaE
theorem one_list {α : Type} (d x : α) : List.set (List.replicate 1 d) 0 x = [x] := (rfl : List.set [d] 0 x = [x]).trans rfl
theorem getD_mem {α : Type} {l : List α} {i : Nat} {d : α} (h : i < l.length) : List.getD l i d ∈ l := by
 rw [getD_lt _ _ _ h]
 exact List.getElem_mem h
abbrev ArcT := Int × (Int × (Int × Unit))
abbrev SideT := List Int × (List Int × (List Int × (List ArcT × (Int × Unit))))
theorem F50_eq (k : Nat) (a n : Int) (h0 : 0 < n) (h1 : n ≤ 4611686018427387904) : F50 k a n = some ((a % n, ()), ()) := by
 have hm : Int.tmod a n = a - n * Int.tdiv a n := by have := Int.tmod_add_mul_tdiv a n; omega
 have hlt : Int.tmod a n < n := Int.tmod_lt_of_pos a h0
 have hgt : -n < Int.tmod a n := Int.lt_tmod_of_pos a h0
 unfold F50
 rw [if_pos (by omega)]
 by_cases h : Int.tmod a n < 0
 ·rw [decide_eq_true h, cond_true, w64 _ (by omega) (by omega)]
  have : a % n = Int.tmod a n + n := by
   have e : Int.tmod a n + n = (Int.tmod a n + n) % n := (Int.emod_eq_of_lt (by omega) (by omega)).symm
   rw [e, Int.add_emod_right, hm, Int.sub_mul_emod_self_left]
  rw [this]
 ·rw [decide_eq_false h, cond_false]
  have : a % n = Int.tmod a n := by
   have e : Int.tmod a n = (Int.tmod a n) % n := (Int.emod_eq_of_lt (by omega) (by omega)).symm
   rw [e, hm, Int.sub_mul_emod_self_left]
  rw [this]
def cst (l : List ArcT) (u v : Int) : Option Int := (l.find? fun a => a.1 == u && a.2.1 == v).map fun a => a.2.2.1
def cw (l : List ArcT) (p : List Int) (i : Nat) : Int := (cst l (List.getD p i 0) (List.getD p ((i + 1) % p.length) 0)).getD 0
def adI (a b : Int) : Int := minI (a + b) 1152921504606846976
def Cst (a : Int) : Prop := 0 ≤ a ∧ a ≤ 1152921504606846976
theorem F69_ad (k : Nat) (a b : Int) (ha : Cst a) (hb : Cst b) : F69 k a b = some ((adI a b, ()), ()) := by
 unfold Cst at *
 unfold F69 adI
 simp only
 rw [w64 _ (by omega) (by omega)]
def Lt (b a : ArcT) : Prop := b.1 < a.1 ∨ b.1 = a.1 ∧ b.2.1 < a.2.1
instance (b a : ArcT) : Decidable (Lt b a) := inferInstanceAs (Decidable (_ ∨ _))
def Srt (l : List ArcT) : Prop := l.Pairwise Lt
def cntA (a : ArcT) : List ArcT → Nat
 | [] => 0
 | b :: l => if Lt b a then cntA a l + 1 else 0
theorem cntA_le (a : ArcT) : ∀ l : List ArcT, cntA a l ≤ l.length
 | [] => Nat.le_refl _
 | b :: l => by
  unfold cntA
  split
  ·have := cntA_le a l
   simp only [List.length_cons]
   omega
  ·exact Nat.zero_le _
def insA (a : ArcT) : List ArcT → List ArcT
 | [] => [a]
 | b :: l => if Lt b a then b :: insA a l else if b.1 = a.1 ∧ b.2.1 = a.2.1 then (b.1, (b.2.1, (minI b.2.2.1 a.2.2.1, ()))) :: l else a :: b :: l
theorem insA_eq (a : ArcT) : ∀ l : List ArcT, insA a l = (if cntA a l < l.length ∧ (List.getD l (cntA a l) (0, (0, (0, ())))).1 = a.1 ∧ (List.getD l (cntA a l) (0, (0, (0, ())))).2.1 = a.2.1 then
   List.set l (cntA a l) ((List.getD l (cntA a l) (0, (0, (0, ())))).1, ((List.getD l (cntA a l) (0, (0, (0, ())))).2.1, (minI (List.getD l (cntA a l) (0, (0, (0, ())))).2.2.1 a.2.2.1, ()))) else l.take (cntA a l) ++ [a] ++ l.drop (cntA a l))
 | [] => rfl
 | b :: l => by
  unfold insA cntA
  by_cases hb : Lt b a
  ·rw [if_pos hb, if_pos hb, insA_eq a l]
   simp only [List.length_cons, Nat.add_lt_add_iff_right, List.getD_cons_succ, List.set_cons_succ, List.take_succ_cons, List.drop_succ_cons, List.cons_append]
   split <;> rfl
  ·rw [if_neg hb, if_neg hb]
   simp only [List.length_cons, List.getD_cons_zero, Nat.zero_lt_succ, true_and, List.set_cons_zero, List.take_zero, List.drop_zero, List.nil_append]
   split
   ·rfl
   ·rfl
theorem insA_len (a : ArcT) : ∀ l : List ArcT, (insA a l).length ≤ l.length + 1 ∧ l.length ≤ (insA a l).length
 | [] => ⟨Nat.le_refl _, Nat.zero_le _⟩
 | b :: l => by
  unfold insA
  have := insA_len a l
  split
  ·simp only [List.length_cons]; omega
  ·split <;> (simp only [List.length_cons]; omega)
theorem F86_0_ok (k : Nat) (l : List ArcT) (a : ArcT) (hl : l.length ≤ 1000000) : ∀ (d m i : Nat), i + d = l.length → d < m → F86_0 k m (i : Int) l a = some ((((i + cntA a (l.drop i) : Nat) : Int), ()), (l, (a, ())))
 | 0, m, i, hi, hm => by
  obtain ⟨m, rfl⟩ := pos1 (m := m) (by omega)
  obtain rfl : i = l.length := by omega
  simp only [F86_0]
  rw [dnlt, cond_false, List.drop_length]
  rfl
 | d + 1, m, i, hi, hm => by
  obtain ⟨m, rfl⟩ := pos1 (m := m) (by omega)
  have hlt : i < l.length := by omega
  have ih := F86_0_ok k l a hl d m (i + 1) (by omega) (by omega)
  have hg : List.getD l i (0, (0, (0, ()))) = l[i] := getD_lt l i _ hlt
  rw [List.drop_eq_getElem_cons hlt]
  simp only [F86_0]
  rw [dlt hlt, cond_true, if_pos (inR hlt), tnI i, hg, wsucc i _ hlt (by omega), if_pos (inR hlt), if_pos (inR hlt), ih]
  have e : i + 1 + cntA a (List.drop (i + 1) l) = i + (cntA a (List.drop (i + 1) l) + 1) := by omega
  by_cases h1 : l[i].1 < a.1
  ·rw [decide_eq_true h1, cond_true, cntA, if_pos (.inl h1), e]
   rfl
  ·rw [decide_eq_false h1, cond_false]
   by_cases h2 : l[i].1 = a.1
   ·rw [show (l[i].1 == a.1) = true from beq_iff_eq.2 h2, cond_true]
    by_cases h3 : l[i].2.1 < a.2.1
    ·rw [decide_eq_true h3, cond_true, cntA, if_pos (.inr ⟨h2, h3⟩), e]
     rfl
    ·rw [decide_eq_false h3, cond_false, cntA, if_neg (by rintro (q | q); exact h1 q; exact h3 q.2)]
     rfl
   ·rw [beq_false_of_ne h2, cond_false, cntA, if_neg (by rintro (q | q); exact h1 q; exact h2 q.1)]
    rfl
theorem F86_ok (k : Nat) (l : List ArcT) (a : ArcT) (hl : l.length ≤ 1000000) (hk : 10000000 ≤ k) : F86 k l a = some (((if a.2.2.1 ≥ 1152921504606846976 then l else insA a l), ()), ()) := by
 unfold F86
 simp only [List.replicate_zero, List.nil_append, List.length_nil]
 by_cases hw : a.2.2.1 ≥ 1152921504606846976
 ·rw [decide_eq_true hw, cond_true, if_pos hw]
 ·have e := F86_0_ok k l a hl l.length k 0 (by omega) (by omega)
  rw [show ((0 : Nat) : Int) = 0 from rfl, List.drop_zero, Nat.zero_add] at e
  have hc := cntA_le a l
  rw [decide_eq_false hw, cond_false, if_neg hw, e, Option.bind_some, insA_eq]
  simp only
  generalize hp : cntA a l = p at *
  rw [tnI p, tnI (l.length), show Int.toNat 0 = 0 from rfl, Nat.sub_zero, List.drop_zero]
  have ht : (l.drop p).take (l.length - p) = l.drop p := List.take_of_length_le (by rw [List.length_drop]; omega)
  have hone : List.set (List.replicate 1 ((0 : Int), ((0 : Int), ((0 : Int), ())))) 0 a = [a] := one_list _ _
  have hlen : (l.take p).length = p := by rw [List.length_take]; omega
  have h0 : (0 + l.length) * (24 * 2) ≤ 281474976710656 ∧ 0 + l.length ≤ 9223372036854775807 := by omega
  have h1 : (0 + (l.take p).length) * (24 * 2) ≤ 281474976710656 ∧ 0 + (l.take p).length ≤ 9223372036854775807 := by omega
  have h2 : ((l.take p).length + [a].length) * (24 * 2) ≤ 281474976710656 ∧ (l.take p).length + [a].length ≤ 9223372036854775807 := by rw [List.length_singleton]; omega
  have h3 : ((l.take p ++ [a]).length + (l.drop p).length) * (24 * 2) ≤ 281474976710656 ∧ (l.take p ++ [a]).length + (l.drop p).length ≤ 9223372036854775807 := by rw [List.length_append, List.length_singleton, List.length_drop]; omega
  by_cases hlt : p < l.length
  ·have w1 : (0 : Int) ≤ 0 ∧ (0 : Int) ≤ (p : Int) ∧ (p : Int) ≤ ((l.length : Nat) : Int) := by omega
   have w2 : (0 : Int) ≤ (p : Int) ∧ (p : Int) ≤ ((l.length : Nat) : Int) ∧ ((l.length : Nat) : Int) ≤ ((l.length : Nat) : Int) := by omega
   have hi := inR hlt
   simp only [dlt hlt, cond_true, if_pos hi]
   by_cases g1 : (List.getD l p ((0 : Int), ((0 : Int), ((0 : Int), ())))).1 = a.1
   ·rw [show ((List.getD l p ((0 : Int), ((0 : Int), ((0 : Int), ())))).1 == a.1) = true from beq_iff_eq.2 g1, cond_true]
    by_cases g2 : (List.getD l p ((0 : Int), ((0 : Int), ((0 : Int), ())))).2.1 = a.2.1
    ·rw [show ((List.getD l p ((0 : Int), ((0 : Int), ((0 : Int), ())))).2.1 == a.2.1) = true from beq_iff_eq.2 g2, cond_true, if_pos h0, if_pos (⟨hlt, g1, g2⟩ : _ ∧ _ ∧ _)]
    ·rw [beq_false_of_ne g2, cond_false, if_pos w1, if_pos w2, ht, hone, if_pos h1, if_pos h2, if_pos h3, if_neg (show ¬ (p < l.length ∧ (List.getD l p ((0 : Int), ((0 : Int), ((0 : Int), ())))).1 = a.1 ∧ (List.getD l p ((0 : Int), ((0 : Int), ((0 : Int), ())))).2.1 = a.2.1) from fun q => g2 q.2.2)]
   ·rw [beq_false_of_ne g1, cond_false, if_pos w1, if_pos w2, ht, hone, if_pos h1, if_pos h2, if_pos h3, if_neg (show ¬ (p < l.length ∧ (List.getD l p ((0 : Int), ((0 : Int), ((0 : Int), ())))).1 = a.1 ∧ (List.getD l p ((0 : Int), ((0 : Int), ((0 : Int), ())))).2.1 = a.2.1) from fun q => g1 q.2.1)]
  ·have hpe : p = l.length := by omega
   rw [decide_eq_false (by omega), cond_false, if_pos (by omega), if_pos (by omega), ht, hone, if_pos h1, if_pos h2, if_pos h3, if_neg (show ¬ (p < l.length ∧ (List.getD l p ((0 : Int), ((0 : Int), ((0 : Int), ())))).1 = a.1 ∧ (List.getD l p ((0 : Int), ((0 : Int), ((0 : Int), ())))).2.1 = a.2.1) from fun q => hlt q.1)]
theorem lt_key {a b c d : ArcT} (h1 : a.1 = c.1) (h2 : a.2.1 = c.2.1) (h3 : b.1 = d.1) (h4 : b.2.1 = d.2.1) (h : Lt a b) : Lt c d := by
 unfold Lt at *
 omega
theorem lt_trans {a b c : ArcT} (h : Lt a b) (h' : Lt b c) : Lt a c := by
 unfold Lt at *
 omega
theorem insA_mem (a : ArcT) : ∀ (l : List ArcT) (x : ArcT), x ∈ insA a l → x ∈ l ∨ x.1 = a.1 ∧ x.2.1 = a.2.1 ∧ (x.2.2.1 = a.2.2.1 ∨ ∃ y ∈ l, x.2.2.1 = minI y.2.2.1 a.2.2.1)
 | [], x, h => by
  rw [insA, List.mem_singleton] at h
  subst h
  exact .inr ⟨rfl, rfl, .inl rfl⟩
 | b :: l, x, h => by
  unfold insA at h
  split at h
  ·rcases List.mem_cons.1 h with e | e
   ·subst e; exact .inl List.mem_cons_self
   ·rcases insA_mem a l x e with q | ⟨q1, q2, q3⟩
    ·exact .inl (List.mem_cons_of_mem _ q)
    ·refine .inr ⟨q1, q2, q3.imp id fun ⟨y, hy, e⟩ => ⟨y, List.mem_cons_of_mem _ hy, e⟩⟩
  ·split at h
   ·rename_i hk
    rcases List.mem_cons.1 h with e | e
    ·subst e; exact .inr ⟨hk.1, hk.2, .inr ⟨b, List.mem_cons_self, rfl⟩⟩
    ·exact .inl (List.mem_cons_of_mem _ e)
   ·rcases List.mem_cons.1 h with e | e
    ·subst e; exact .inr ⟨rfl, rfl, .inl rfl⟩
    ·exact .inl e
theorem insA_srt (a : ArcT) : ∀ l : List ArcT, Srt l → Srt (insA a l)
 | [], _ => List.pairwise_singleton _ _
 | b :: l, hs => by
  obtain ⟨h1, h2⟩ := List.pairwise_cons.1 hs
  unfold insA
  split
  ·rename_i hb
   refine List.pairwise_cons.2 ⟨fun x hx => ?_, insA_srt a l h2⟩
   rcases insA_mem a l x hx with q | ⟨q1, q2, _⟩
   ·exact h1 x q
   ·exact lt_key rfl rfl q1.symm q2.symm hb
  ·rename_i hb
   split
   ·rename_i hk
    exact List.pairwise_cons.2 ⟨fun x hx => lt_key rfl rfl rfl rfl (h1 x hx), h2⟩
   ·rename_i hk
    have hab : Lt a b := by
     unfold Lt at hb ⊢
     omega
    refine List.pairwise_cons.2 ⟨fun x hx => ?_, hs⟩
    rcases List.mem_cons.1 hx with e | e
    ·subst e; exact hab
    ·exact lt_trans hab (h1 x e)
def ArcG (n : Nat) (B : Int) (l : List ArcT) : Prop := ∀ x ∈ l, (0 ≤ x.1 ∧ x.1 < (n : Int)) ∧ (0 ≤ x.2.1 ∧ x.2.1 < (n : Int)) ∧ 0 ≤ x.2.2.1 ∧ x.2.2.1 ≤ B
theorem insA_arcs {n : Nat} {B : Int} {a : ArcT} {l : List ArcT} (h : ArcG n B l) (ha : ArcG n B [a]) : ArcG n B (insA a l) := fun x hx => by
 have h2 := ha a List.mem_cons_self
 rcases insA_mem a l x hx with q | ⟨q1, q2, q3⟩
 ·exact h x q
 ·rw [q1, q2]
  refine ⟨h2.1, h2.2.1, ?_⟩
  rcases q3 with q | ⟨y, hy, q⟩
  ·rw [q]; exact h2.2.2
  ·have := h y hy
   rw [q]
   unfold minI
   split <;> omega
theorem srt_len {n : Nat} {B : Int} {l : List ArcT} (hs : Srt l) (h : ArcG n B l) : l.length ≤ n * n := by
 have key : ∀ (l : List ArcT) (c : Nat), Srt l → ArcG n B l → (∀ x ∈ l, (c : Int) ≤ x.1 * n + x.2.1) → c + l.length ≤ n * n ∨ l = [] := by
  intro l
  induction l with
  | nil => intro c _ _ _; exact .inr rfl
  | cons a l ih =>
   intro c hs h hc
   obtain ⟨h1, h2⟩ := List.pairwise_cons.1 hs
   have ga := h a List.mem_cons_self
   have ha := hc a List.mem_cons_self
   left
   have lt1 : a.1 * (n : Int) + a.2.1 < (n : Int) * n := by
    have : (a.1 + 1) * (n : Int) ≤ n * n := Int.mul_le_mul_of_nonneg_right (by omega) (by omega)
    rw [Int.add_mul, Int.one_mul] at this
    omega
   have up : ∀ x ∈ l, a.1 * (n : Int) + a.2.1 + 1 ≤ x.1 * n + x.2.1 := fun x hx => by
    have gx := h x (List.mem_cons_of_mem _ hx)
    have := h1 x hx
    unfold Lt at this
    rcases this with q | ⟨q1, q2⟩
    ·have : (a.1 + 1) * (n : Int) ≤ x.1 * n := Int.mul_le_mul_of_nonneg_right (by omega) (by omega)
     rw [Int.add_mul, Int.one_mul] at this
     omega
    ·rw [q1]; omega
   have hn : ((c + 1 : Nat) : Int) ≤ (n : Int) * n := by omega
   rcases ih (c + 1) h2 (fun x hx => h x (List.mem_cons_of_mem _ hx)) (fun x hx => by have := up x hx; omega) with q | q
   ·simp only [List.length_cons]; omega
   ·subst q
    simp only [List.length_cons, List.length_nil]
    have : ((n * n : Nat) : Int) = (n : Int) * n := by simp
    omega
 rcases key l 0 hs h (fun x hx => by have := h x hx; have : 0 ≤ x.1 * (n : Int) := Int.mul_nonneg (by omega) (by omega); omega) with q | q
 ·omega
 ·subst q; exact Nat.zero_le _
abbrev sd (a b c : List Int) (d : List ArcT) (e : Int) : SideT := (a, (b, (c, (d, (e, ())))))
theorem set_pre {α : Type} (A rest : List α) (i : Nat) (d : α) (h1 : i < A.length) (h2 : i < rest.length) : List.set (A.take i ++ rest.drop i) i (List.getD A i d) = A.take (i + 1) ++ rest.drop (i + 1) := by
 rw [List.drop_eq_getElem_cons h2, List.set_append_right i _ (by rw [List.length_take]; omega), show i - (A.take i).length = 0 by rw [List.length_take]; omega, List.set_cons_zero, getD_lt A i d h1, List.take_succ_eq_append_getElem h1, List.append_assoc]
 rfl
theorem set_off {α : Type} (P A rest : List α) (n i : Nat) (d : α) (hP : P.length = n) (h1 : i < A.length) (h2 : i < rest.length) : List.set (P ++ (A.take i ++ rest.drop i)) (n + i) (List.getD A i d) = P ++ (A.take (i + 1) ++ rest.drop (i + 1)) := by
 rw [List.set_append_right (n + i) _ (by omega), show n + i - P.length = i by omega, set_pre A rest i d h1 h2]
theorem len_pre {α : Type} (A rest : List α) (i : Nat) (h1 : i ≤ A.length) (h2 : i ≤ rest.length) : (A.take i ++ rest.drop i).length = rest.length := by
 rw [List.length_append, List.length_take, List.length_drop]
 omega
theorem rep_drop {α : Type} (a : α) (n m : Nat) : (List.replicate (n + m) a).drop n = List.replicate m a := by
 rw [List.drop_replicate]
 congr 1
 omega
theorem take_all {α : Type} (A : List α) (n : Nat) (h : A.length = n) : A.take n = A := by rw [← h]; exact List.take_length
theorem wadd (i j : Nat) (h : i + j ≤ 1000000000) : IntKind.wrap .i64 ((i : Int) + (j : Int)) = ((i + j : Nat) : Int) := by
 rw [w64 _ (by omega) (by omega)]
 omega
theorem F80_0_ok (k n : Nat) (c2 : SideT) (l : List ArcT) (w : Int) (hn : n ≤ 100000) : ∀ (d m i : Nat), i + d = n → d < m →
  F80_0 k m (n : Int) (i : Int) c2 (sd (List.replicate i 0) (List.replicate i 1152921504606846976) (List.replicate i 1152921504606846976) l w) = some ((), (c2, (sd (List.replicate n 0) (List.replicate n 1152921504606846976) (List.replicate n 1152921504606846976) l w, ())))
 | 0, m, i, hi, hm => by
  obtain ⟨m, rfl⟩ := pos1 (m := m) (by omega)
  obtain rfl : i = n := by omega
  simp only [F80_0]
  rw [dnlt, cond_false]
 | d + 1, m, i, hi, hm => by
  obtain ⟨m, rfl⟩ := pos1 (m := m) (by omega)
  have hlt : i < n := by omega
  have ih := F80_0_ok k n c2 l w hn d m (i + 1) (by omega) (by omega)
  have hc : ∀ x y : Int, ((List.replicate i x).length + [y].length) * (8 * 2) ≤ 281474976710656 ∧ (List.replicate i x).length + [y].length ≤ 9223372036854775807 := fun x y => by
   rw [List.length_replicate, List.length_singleton]; omega
  simp only [F80_0, one_list]
  rw [dlt hlt, cond_true, if_pos (hc _ _), if_pos (hc _ _), if_pos (hc _ _), wsucc i n hlt (by omega)]
  rw [← List.replicate_succ', ← List.replicate_succ']
  rw [ih]
  rfl
theorem F80_ok (k n : Nat) (hn : n ≤ 100000) (hk : 10000000 ≤ k) : F80 k (n : Int) = some ((sd (List.replicate n 0) (List.replicate n 1152921504606846976) (List.replicate n 1152921504606846976) [] 1152921504606846976, ()), ()) := by
 have h := F80_0_ok k n (sd [] [] [] [] 0) [] 1152921504606846976 hn n k 0 (by omega) (by omega)
 unfold F80
 have h' : F80_0 k k (n : Int) 0 ([], ([], ([], ([], (0, ()))))) ([], ([], ([], ([], ((1152921504606846976 : Int), ()))))) = _ := h
 rw [h', Option.bind_some]
theorem F79_ok (k : Nat) (hk : 10000000 ≤ k) : F79 k = some ((sd [] [] [] [] 0, ()), ()) := by
 have h := F80_ok k 0 (by omega) hk
 unfold F79
 rw [show (0 : Int) = ((0 : Nat) : Int) from rfl, h, Option.bind_some]
 rfl
def shA (n : Nat) (x : ArcT) : ArcT := (x.1 + n, (x.2.1 + n, (x.2.2.1, ())))
theorem F85_0_ok (k : Nat) (a b c4 : SideT) (rest : List Int) (f e : List Int) (l : List ArcT) (w : Int) (ha : a.1.length ≤ 100000) (hr : a.1.length ≤ rest.length) : ∀ (d m i : Nat), i + d = a.1.length → d < m →
  F85_0 k m ((a.1.length : Nat) : Int) (i : Int) a b c4 (sd (a.1.take i ++ rest.drop i) f e l w) = some ((((a.1.length : Nat) : Int), ()), (a, (b, (c4, (sd (a.1 ++ rest.drop a.1.length) f e l w, ())))))
 | 0, m, i, hi, hm => by
  obtain ⟨m, rfl⟩ := pos1 (m := m) (by omega)
  obtain rfl : i = a.1.length := by omega
  simp only [F85_0]
  rw [dnlt, cond_false, List.take_length]
 | d + 1, m, i, hi, hm => by
  obtain ⟨m, rfl⟩ := pos1 (m := m) (by omega)
  have hlt : i < a.1.length := by omega
  have ih := F85_0_ok k a b c4 rest f e l w ha hr d m (i + 1) (by omega) (by omega)
  simp only [F85_0]
  rw [dlt hlt, cond_true, if_pos (inR hlt), len_pre a.1 rest i (by omega) (by omega), if_pos (inR (show i < rest.length by omega)), tnI i, set_pre a.1 rest i 0 hlt (by omega), wsucc i _ hlt (by omega), ih]
  rfl
theorem F85_1_ok (k : Nat) (a b c4 : SideT) (n : Nat) (P rest : List Int) (f e : List Int) (l : List ArcT) (w : Int) (hn : n ≤ 100000) (hP : P.length = n) (hb : b.1.length ≤ 100000) (hr : b.1.length ≤ rest.length) : ∀ (d m i : Nat), i + d = b.1.length → d < m →
  F85_1 k m (n : Int) (i : Int) a b c4 (sd (P ++ (b.1.take i ++ rest.drop i)) f e l w) = some (((n : Int), ()), (a, (b, (c4, (sd (P ++ (b.1 ++ rest.drop b.1.length)) f e l w, ())))))
 | 0, m, i, hi, hm => by
  obtain ⟨m, rfl⟩ := pos1 (m := m) (by omega)
  obtain rfl : i = b.1.length := by omega
  simp only [F85_1]
  rw [dnlt, cond_false, List.take_length]
 | d + 1, m, i, hi, hm => by
  obtain ⟨m, rfl⟩ := pos1 (m := m) (by omega)
  have hlt : i < b.1.length := by omega
  have ih := F85_1_ok k a b c4 n P rest f e l w hn hP hb hr d m (i + 1) (by omega) (by omega)
  have hlen : n + i < (P ++ (b.1.take i ++ rest.drop i)).length := by rw [List.length_append, len_pre b.1 rest i (by omega) (by omega)]; omega
  simp only [F85_1]
  rw [dlt hlt, cond_true, if_pos (inR hlt), wadd n i (by omega), if_pos (inR hlen), tnI (n + i), tnI i, set_off P b.1 rest n i 0 hP hlt (by omega), wsucc i _ hlt (by omega), ih]
  rfl
theorem F85_2_ok (k : Nat) (b c4 : SideT) (n : Nat) (A : List ArcT) (g f e : List Int) (w : Int) (hn : n ≤ 100000) (hA : A.length ≤ 1000000) (hb : b.2.2.2.1.length ≤ 1000000) (hr : ArcG 100000 1000000000000 b.2.2.2.1) : ∀ (d m i : Nat), i + d = b.2.2.2.1.length → d < m →
  F85_2 k m (n : Int) (i : Int) b c4 (sd g f e (A ++ (b.2.2.2.1.take i).map (shA n)) w) = some ((), (c4, (sd g f e (A ++ b.2.2.2.1.map (shA n)) w, ())))
 | 0, m, i, hi, hm => by
  obtain ⟨m, rfl⟩ := pos1 (m := m) (by omega)
  obtain rfl : i = b.2.2.2.1.length := by omega
  simp only [F85_2]
  rw [dnlt, cond_false, List.take_length]
 | d + 1, m, i, hi, hm => by
  obtain ⟨m, rfl⟩ := pos1 (m := m) (by omega)
  have hlt : i < b.2.2.2.1.length := by omega
  have ih := F85_2_ok k b c4 n A g f e w hn hA hb hr d m (i + 1) (by omega) (by omega)
  have hx := hr _ (List.getElem_mem hlt)
  have hg : List.getD b.2.2.2.1 i ((0 : Int), ((0 : Int), ((0 : Int), ()))) = b.2.2.2.1[i] := getD_lt _ i _ hlt
  have w1 : IntKind.wrap .i64 (b.2.2.2.1[i].1 + (n : Int)) = b.2.2.2.1[i].1 + n := w64 _ (by omega) (by omega)
  have w2 : IntKind.wrap .i64 (b.2.2.2.1[i].2.1 + (n : Int)) = b.2.2.2.1[i].2.1 + n := w64 _ (by omega) (by omega)
  have hone : List.set (List.replicate 1 ((0 : Int), ((0 : Int), ((0 : Int), ())))) 0 (b.2.2.2.1[i].1 + n, (b.2.2.2.1[i].2.1 + n, (b.2.2.2.1[i].2.2.1, ()))) = [shA n b.2.2.2.1[i]] := one_list _ _
  have hc : ((A ++ (b.2.2.2.1.take i).map (shA n)).length + [shA n b.2.2.2.1[i]].length) * (24 * 2) ≤ 281474976710656 ∧ (A ++ (b.2.2.2.1.take i).map (shA n)).length + [shA n b.2.2.2.1[i]].length ≤ 9223372036854775807 := by
   rw [List.length_append, List.length_map, List.length_take, List.length_singleton]; omega
  simp only [F85_2]
  rw [dlt hlt, cond_true, if_pos (inR hlt), if_pos (inR hlt), if_pos (inR hlt), tnI i, hg, w1, w2, hone, if_pos hc, wsucc i _ hlt (by omega), List.append_assoc, show (b.2.2.2.1.take i).map (shA n) ++ [shA n b.2.2.2.1[i]] = (b.2.2.2.1.take (i + 1)).map (shA n) by rw [List.take_succ_eq_append_getElem hlt, List.map_append]; rfl, ih]
  rfl
theorem F85_ok (k : Nat) (a b : SideT) (ha : a.1.length ≤ 10000) (hb : b.1.length ≤ 10000) (hA : a.2.2.2.1.length ≤ 1000000) (hB : b.2.2.2.1.length ≤ 1000000) (hr : ArcG 100000 1000000000000 b.2.2.2.1) (hk : 10000000 ≤ k) :
  F85 k a b = some ((sd (a.1 ++ b.1) (List.replicate (a.1.length + b.1.length) 1152921504606846976) (List.replicate (a.1.length + b.1.length) 1152921504606846976) (a.2.2.2.1 ++ b.2.2.2.1.map (shA a.1.length)) 1152921504606846976, ()), ()) := by
 have e0 := F85_0_ok k a b (sd [] [] [] [] 0) (List.replicate (a.1.length + b.1.length) 0) (List.replicate (a.1.length + b.1.length) 1152921504606846976) (List.replicate (a.1.length + b.1.length) 1152921504606846976) [] 1152921504606846976 (by omega) (by rw [List.length_replicate]; omega) a.1.length k 0 (by omega) (by omega)
 rw [rep_drop, List.take_zero, List.drop_zero, List.nil_append, show ((0 : Nat) : Int) = 0 from rfl] at e0
 have e1 := F85_1_ok k a b (sd [] [] [] [] 0) a.1.length a.1 (List.replicate b.1.length 0) (List.replicate (a.1.length + b.1.length) 1152921504606846976) (List.replicate (a.1.length + b.1.length) 1152921504606846976) [] 1152921504606846976 (by omega) rfl (by omega) (by rw [List.length_replicate]; omega) b.1.length k 0 (by omega) (by omega)
 rw [List.take_zero, List.drop_zero, List.nil_append, show (List.replicate b.1.length (0 : Int)).drop b.1.length = [] by rw [List.drop_replicate, Nat.sub_self]; rfl, List.append_nil, show ((0 : Nat) : Int) = 0 from rfl] at e1
 have e2 := F85_2_ok k b (sd [] [] [] [] 0) a.1.length a.2.2.2.1 (a.1 ++ b.1) (List.replicate (a.1.length + b.1.length) 1152921504606846976) (List.replicate (a.1.length + b.1.length) 1152921504606846976) 1152921504606846976 (by omega) hA hB hr b.2.2.2.1.length k 0 (by omega) (by omega)
 rw [List.take_zero, List.map_nil, List.append_nil, show ((0 : Nat) : Int) = 0 from rfl] at e2
 have hc : (0 + a.2.2.2.1.length) * (24 * 2) ≤ 281474976710656 ∧ 0 + a.2.2.2.1.length ≤ 9223372036854775807 := by omega
 unfold F85
 simp only
 rw [wadd a.1.length b.1.length (by omega), F80_ok k _ (by omega) hk, Option.bind_some, e0, Option.bind_some]
 simp only
 rw [e1, Option.bind_some]
 simp only [List.length_nil]
 rw [if_pos hc, List.nil_append, e2, Option.bind_some]
def putA (l : List ArcT) (a : ArcT) : List ArcT := if a.2.2.1 ≥ 1152921504606846976 then l else insA a l
def foldA (g : Nat → ArcT) : Nat → List ArcT → List ArcT
 | 0, l => l
 | m + 1, l => putA (foldA g m l) (g m)
def foldB (g : Nat → Nat → ArcT) (m : Nat) : Nat → List ArcT → List ArcT
 | 0, l => l
 | n + 1, l => foldA (g n) m (foldB g m n l)
theorem putA_len (l : List ArcT) (a : ArcT) : (putA l a).length ≤ l.length + 1 := by
 unfold putA
 split
 ·omega
 ·exact (insA_len a l).1
theorem foldA_len (g : Nat → ArcT) : ∀ (m : Nat) (l : List ArcT), (foldA g m l).length ≤ l.length + m
 | 0, l => Nat.le_refl _
 | m + 1, l => by
  have h1 := putA_len (foldA g m l) (g m)
  have h2 := foldA_len g m l
  rw [foldA]
  omega
theorem foldB_len (g : Nat → Nat → ArcT) (m : Nat) : ∀ (n : Nat) (l : List ArcT), (foldB g m n l).length ≤ l.length + n * m
 | 0, l => by simp [foldB]
 | n + 1, l => by
  have h1 := foldA_len (g n) m (foldB g m n l)
  have h2 := foldB_len g m n l
  rw [foldB, Nat.add_mul]
  omega
theorem F86_put (k : Nat) (l : List ArcT) (a : ArcT) (hl : l.length ≤ 1000000) (hk : 10000000 ≤ k) : F86 k l a = some ((putA l a, ()), ()) := F86_ok k l a hl hk
theorem getD_map {α β : Type} (f : α → β) (A : List α) (i : Nat) (d : β) (d' : α) (h : i < A.length) : List.getD (A.map f) i d = f (List.getD A i d') := by
 rw [getD_lt _ i d (by rw [List.length_map]; exact h), getD_lt A i d' h, List.getElem_map]
def CstL (l : List Int) : Prop := ∀ x ∈ l, Cst x
theorem CstL.at_ {l : List Int} (h : CstL l) {i : Nat} (hi : i < l.length) : Cst (List.getD l i 0) := h _ (getD_mem hi)
structure SdP (s : SideT) : Prop where
 n : s.1.length ≤ 500
 lf : s.2.1.length = s.1.length
 le : s.2.2.1.length = s.1.length
 cf : CstL s.2.1
 ce : CstL s.2.2.1
 cn : Cst s.2.2.2.2.1
 la : s.2.2.2.1.length ≤ 400000
 ra : ArcG 100000 1000000000000 s.2.2.2.1
section
variable (k : Nat) (a b c4 : SideT)
def catG (a b : SideT) (i j : Nat) : ArcT := ((i : Int), (((a.1.length + j : Nat) : Int), (adI (List.getD a.2.2.1 i 0) (List.getD b.2.1 j 0), ())))
theorem F81_0_ok (hk : 10000000 ≤ k) (ha : SdP a) (hb : SdP b) (i : Nat) (hi : i < a.1.length) (g f e : List Int) (l : List ArcT) (w : Int) (hl : l.length ≤ 900000) : ∀ (d m j : Nat), j + d = b.1.length → d < m →
  F81_0 k m ((a.1.length : Nat) : Int) (i : Int) (j : Int) a b c4 (sd g f e (foldA (catG a b i) j l) w) = some ((((a.1.length : Nat) : Int), ((i : Int), ())), (a, (b, (c4, (sd g f e (foldA (catG a b i) b.1.length l) w, ())))))
 | 0, m, j, hj, hm => by
  obtain ⟨m, rfl⟩ := pos1 (m := m) (by omega)
  obtain rfl : j = b.1.length := by omega
  simp only [F81_0]
  rw [dnlt, cond_false]
 | d + 1, m, j, hj, hm => by
  obtain ⟨m, rfl⟩ := pos1 (m := m) (by omega)
  have hlt : j < b.1.length := by omega
  have ih := F81_0_ok hk ha hb i hi g f e l w hl d m (j + 1) (by omega) (by omega)
  have h1 := ha.n
  have h2 := hb.n
  have h3 := ha.le
  have h4 := hb.lf
  have hlen := foldA_len (catG a b i) j l
  simp only [F81_0]
  rw [dlt hlt, cond_true, if_pos (inR (show i < a.2.2.1.length by omega)), if_pos (inR (show j < b.2.1.length by omega)), tnI i, tnI j, F69_ad k _ _ (ha.ce.at_ (by omega)) (hb.cf.at_ (by omega)), Option.bind_some]
  simp only
  rw [wadd a.1.length j (by omega), F86_put k _ _ (by omega) hk, Option.bind_some, wsucc j _ hlt (by omega)]
  simp only
  have e1 : putA (foldA (catG a b i) j l) ((i : Int), (((a.1.length + j : Nat) : Int), (adI (List.getD a.2.2.1 i 0) (List.getD b.2.1 j 0), ()))) = foldA (catG a b i) (j + 1) l := rfl
  rw [e1, ih]
  rfl
theorem F81_1_ok (hk : 10000000 ≤ k) (ha : SdP a) (hb : SdP b) (g rf re : List Int) (l : List ArcT) (w : Int) (hl : l.length ≤ 600000) (hrf : a.1.length ≤ rf.length) (hre : a.1.length ≤ re.length) : ∀ (d m i : Nat), i + d = a.1.length → d < m →
  F81_1 k m ((a.1.length : Nat) : Int) (i : Int) a b c4 (sd g (a.2.1.take i ++ rf.drop i) ((a.2.2.1.map fun x => adI x b.2.2.2.2.1).take i ++ re.drop i) (foldB (catG a b) b.1.length i l) w) =
   some ((((a.1.length : Nat) : Int), ()), (a, (b, (c4, (sd g (a.2.1 ++ rf.drop a.1.length) ((a.2.2.1.map fun x => adI x b.2.2.2.2.1) ++ re.drop a.1.length) (foldB (catG a b) b.1.length a.1.length l) w, ())))))
 | 0, m, i, hi, hm => by
  obtain ⟨m, rfl⟩ := pos1 (m := m) (by omega)
  obtain rfl : i = a.1.length := by omega
  simp only [F81_1]
  rw [dnlt, cond_false, take_all a.2.1 _ ha.lf, take_all (a.2.2.1.map _) _ (by rw [List.length_map]; exact ha.le)]
 | d + 1, m, i, hi, hm => by
  obtain ⟨m, rfl⟩ := pos1 (m := m) (by omega)
  have hlt : i < a.1.length := by omega
  have ih := F81_1_ok hk ha hb g rf re l w hl hrf hre d m (i + 1) (by omega) (by omega)
  have h1 := ha.n
  have h2 := hb.n
  have h3 := ha.lf
  have h4 := ha.le
  have hlen := foldB_len (catG a b) b.1.length i l
  have hmul : i * b.1.length ≤ 500 * 500 := Nat.mul_le_mul (by omega) h2
  have hme : (a.2.2.1.map fun x => adI x b.2.2.2.2.1).length = a.1.length := by rw [List.length_map]; exact h4
  have ge : adI (List.getD a.2.2.1 i 0) b.2.2.2.2.1 = List.getD (a.2.2.1.map fun x => adI x b.2.2.2.2.1) i 0 := (getD_map (fun x => adI x b.2.2.2.2.1) _ i 0 0 (by omega)).symm
  have e0 := F81_0_ok k a b c4 hk ha hb i hlt g (a.2.1.take (i + 1) ++ rf.drop (i + 1)) ((a.2.2.1.map fun x => adI x b.2.2.2.2.1).take (i + 1) ++ re.drop (i + 1)) (foldB (catG a b) b.1.length i l) w (by omega) b.1.length k 0 (by omega) (by omega)
  rw [show ((0 : Nat) : Int) = 0 from rfl, foldA] at e0
  simp only [F81_1]
  rw [dlt hlt, cond_true, if_pos (inR (show i < a.2.1.length by omega)), if_pos (inR (show i < a.2.2.1.length by omega)), tnI i, F69_ad k _ _ (ha.ce.at_ (by omega)) hb.cn, Option.bind_some]
  simp only
  rw [len_pre a.2.1 rf i (by omega) (by omega), len_pre (a.2.2.1.map _) re i (by omega) (by omega), if_pos (inR (show i < rf.length by omega)), if_pos (inR (show i < re.length by omega)), set_pre a.2.1 rf i 0 (by omega) (by omega), ge, set_pre (a.2.2.1.map _) re i 0 (by omega) (by omega), e0, Option.bind_some]
  simp only
  rw [wsucc i _ hlt (by omega)]
  have e1 : foldA (catG a b i) b.1.length (foldB (catG a b) b.1.length i l) = foldB (catG a b) b.1.length (i + 1) l := rfl
  rw [e1, ih]
  rfl
theorem F81_2_ok (hk : 10000000 ≤ k) (ha : SdP a) (hb : SdP b) (n : Nat) (hn : n ≤ 10000) (g P Q rf re : List Int) (hP : P.length = n) (hQ : Q.length = n) (l : List ArcT) (w : Int) (hrf : b.1.length ≤ rf.length) (hre : b.1.length ≤ re.length) : ∀ (d m i : Nat), i + d = b.1.length → d < m →
  F81_2 k m (n : Int) (i : Int) a b c4 (sd g (P ++ ((b.2.1.map fun x => adI a.2.2.2.2.1 x).take i ++ rf.drop i)) (Q ++ (b.2.2.1.take i ++ re.drop i)) l w) =
   some ((), (c4, (sd g (P ++ ((b.2.1.map fun x => adI a.2.2.2.2.1 x) ++ rf.drop b.1.length)) (Q ++ (b.2.2.1 ++ re.drop b.1.length)) l w, ())))
 | 0, m, i, hi, hm => by
  obtain ⟨m, rfl⟩ := pos1 (m := m) (by omega)
  obtain rfl : i = b.1.length := by omega
  simp only [F81_2]
  rw [dnlt, cond_false, take_all b.2.2.1 _ hb.le, take_all (b.2.1.map _) _ (by rw [List.length_map]; exact hb.lf)]
 | d + 1, m, i, hi, hm => by
  obtain ⟨m, rfl⟩ := pos1 (m := m) (by omega)
  have hlt : i < b.1.length := by omega
  have ih := F81_2_ok hk ha hb n hn g P Q rf re hP hQ l w hrf hre d m (i + 1) (by omega) (by omega)
  have h1 := ha.n
  have h2 := hb.n
  have h3 := hb.lf
  have h4 := hb.le
  have hme : (b.2.1.map fun x => adI a.2.2.2.2.1 x).length = b.1.length := by rw [List.length_map]; exact h3
  have ge : adI a.2.2.2.2.1 (List.getD b.2.1 i 0) = List.getD (b.2.1.map fun x => adI a.2.2.2.2.1 x) i 0 := (getD_map (fun x => adI a.2.2.2.2.1 x) _ i 0 0 (by omega)).symm
  have l1 : n + i < (P ++ ((b.2.1.map fun x => adI a.2.2.2.2.1 x).take i ++ rf.drop i)).length := by rw [List.length_append, len_pre _ rf i (by omega) (by omega)]; omega
  have l2 : n + i < (Q ++ (b.2.2.1.take i ++ re.drop i)).length := by rw [List.length_append, len_pre _ re i (by omega) (by omega)]; omega
  simp only [F81_2]
  rw [dlt hlt, cond_true, if_pos (inR (show i < b.2.1.length by omega)), if_pos (inR (show i < b.2.2.1.length by omega)), tnI i, F69_ad k _ _ ha.cn (hb.cf.at_ (by omega)), Option.bind_some]
  simp only
  rw [wadd n i (by omega), if_pos (inR l1), if_pos (inR l2), tnI (n + i), ge, set_off P (b.2.1.map _) rf n i 0 hP (by omega) (by omega), set_off Q b.2.2.1 re n i 0 hQ (by omega) (by omega), wsucc i _ hlt (by omega), ih]
  rfl
def catS (a b : SideT) : SideT := sd (a.1 ++ b.1) (a.2.1 ++ b.2.1.map fun x => adI a.2.2.2.2.1 x) ((a.2.2.1.map fun x => adI x b.2.2.2.2.1) ++ b.2.2.1) (foldB (catG a b) b.1.length a.1.length (a.2.2.2.1 ++ b.2.2.2.1.map (shA a.1.length))) (adI a.2.2.2.2.1 b.2.2.2.2.1)
theorem F81_ok (hk : 10000000 ≤ k) (ha : SdP a) (hb : SdP b) (hl : a.2.2.2.1.length + b.2.2.2.1.length ≤ 600000) : F81 k a b = some ((catS a b, ()), ()) := by
 have h1 := ha.n
 have h2 := hb.n
 have h3 := ha.lf
 have h4 := ha.le
 have h5 := hb.lf
 have h6 := hb.le
 have h7 := ha.la
 have h8 := hb.la
 have e1 := F81_1_ok k a b (sd [] [] [] [] 0) hk ha hb (a.1 ++ b.1) (List.replicate (a.1.length + b.1.length) 1152921504606846976) (List.replicate (a.1.length + b.1.length) 1152921504606846976) (a.2.2.2.1 ++ b.2.2.2.1.map (shA a.1.length)) (adI a.2.2.2.2.1 b.2.2.2.2.1) (by rw [List.length_append, List.length_map]; omega) (by rw [List.length_replicate]; omega) (by rw [List.length_replicate]; omega) a.1.length k 0 (by omega) (by omega)
 rw [rep_drop, List.take_zero, List.take_zero, List.drop_zero, List.nil_append, show ((0 : Nat) : Int) = 0 from rfl, foldB] at e1
 have e2 := F81_2_ok k a b (sd [] [] [] [] 0) hk ha hb a.1.length (by omega) (a.1 ++ b.1) a.2.1 (a.2.2.1.map fun x => adI x b.2.2.2.2.1) (List.replicate b.1.length 1152921504606846976) (List.replicate b.1.length 1152921504606846976) h3 (by rw [List.length_map]; exact h4) (foldB (catG a b) b.1.length a.1.length (a.2.2.2.1 ++ b.2.2.2.1.map (shA a.1.length))) (adI a.2.2.2.2.1 b.2.2.2.2.1) (by rw [List.length_replicate]; omega) (by rw [List.length_replicate]; omega) b.1.length k 0 (by omega) (by omega)
 have hnil : (List.replicate b.1.length (1152921504606846976 : Int)).drop b.1.length = [] := by rw [List.drop_replicate, Nat.sub_self]; rfl
 rw [hnil, List.append_nil, List.append_nil, List.take_zero, List.take_zero, List.drop_zero, List.nil_append, show ((0 : Nat) : Int) = 0 from rfl] at e2
 unfold F81
 rw [F85_ok k a b (by omega) (by omega) (by omega) (by omega) hb.ra hk, Option.bind_some, F69_ad k _ _ ha.cn hb.cn, Option.bind_some]
 simp only
 rw [e1, Option.bind_some]
 simp only
 rw [e2, Option.bind_some]
 rfl
theorem F82_0_ok (ha : SdP a) (g rf re : List Int) (l : List ArcT) (w : Int) (hrf : a.1.length ≤ rf.length) (hre : a.1.length ≤ re.length) : ∀ (d m i : Nat), i + d = a.1.length → d < m →
  F82_0 k m ((a.1.length : Nat) : Int) (i : Int) a b c4 (sd g (a.2.1.take i ++ rf.drop i) (a.2.2.1.take i ++ re.drop i) l w) =
   some ((((a.1.length : Nat) : Int), ()), (b, (c4, (sd g (a.2.1 ++ rf.drop a.1.length) (a.2.2.1 ++ re.drop a.1.length) l w, ()))))
 | 0, m, i, hi, hm => by
  obtain ⟨m, rfl⟩ := pos1 (m := m) (by omega)
  obtain rfl : i = a.1.length := by omega
  simp only [F82_0]
  rw [dnlt, cond_false, take_all a.2.1 _ ha.lf, take_all a.2.2.1 _ ha.le]
 | d + 1, m, i, hi, hm => by
  obtain ⟨m, rfl⟩ := pos1 (m := m) (by omega)
  have hlt : i < a.1.length := by omega
  have ih := F82_0_ok ha g rf re l w hrf hre d m (i + 1) (by omega) (by omega)
  have h1 := ha.n
  have h3 := ha.lf
  have h4 := ha.le
  simp only [F82_0]
  rw [dlt hlt, cond_true, if_pos (inR (show i < a.2.1.length by omega)), if_pos (inR (show i < a.2.2.1.length by omega)), len_pre a.2.1 rf i (by omega) (by omega), len_pre a.2.2.1 re i (by omega) (by omega), if_pos (inR (show i < rf.length by omega)), if_pos (inR (show i < re.length by omega)), tnI i, set_pre a.2.1 rf i 0 (by omega) (by omega), set_pre a.2.2.1 re i 0 (by omega) (by omega), wsucc i _ hlt (by omega), ih]
  rfl
theorem F82_1_ok (hb : SdP b) (n : Nat) (hn : n ≤ 10000) (g P Q rf re : List Int) (hP : P.length = n) (hQ : Q.length = n) (l : List ArcT) (w : Int) (hrf : b.1.length ≤ rf.length) (hre : b.1.length ≤ re.length) : ∀ (d m i : Nat), i + d = b.1.length → d < m →
  F82_1 k m (n : Int) (i : Int) b c4 (sd g (P ++ (b.2.1.take i ++ rf.drop i)) (Q ++ (b.2.2.1.take i ++ re.drop i)) l w) =
   some ((), (c4, (sd g (P ++ (b.2.1 ++ rf.drop b.1.length)) (Q ++ (b.2.2.1 ++ re.drop b.1.length)) l w, ())))
 | 0, m, i, hi, hm => by
  obtain ⟨m, rfl⟩ := pos1 (m := m) (by omega)
  obtain rfl : i = b.1.length := by omega
  simp only [F82_1]
  rw [dnlt, cond_false, take_all b.2.2.1 _ hb.le, take_all b.2.1 _ hb.lf]
 | d + 1, m, i, hi, hm => by
  obtain ⟨m, rfl⟩ := pos1 (m := m) (by omega)
  have hlt : i < b.1.length := by omega
  have ih := F82_1_ok hb n hn g P Q rf re hP hQ l w hrf hre d m (i + 1) (by omega) (by omega)
  have h2 := hb.n
  have h3 := hb.lf
  have h4 := hb.le
  have l1 : n + i < (P ++ (b.2.1.take i ++ rf.drop i)).length := by rw [List.length_append, len_pre _ rf i (by omega) (by omega)]; omega
  have l2 : n + i < (Q ++ (b.2.2.1.take i ++ re.drop i)).length := by rw [List.length_append, len_pre _ re i (by omega) (by omega)]; omega
  simp only [F82_1]
  rw [dlt hlt, cond_true, if_pos (inR (show i < b.2.1.length by omega)), if_pos (inR (show i < b.2.2.1.length by omega)), tnI i, wadd n i (by omega), if_pos (inR l1), if_pos (inR l2), tnI (n + i), set_off P b.2.1 rf n i 0 hP (by omega) (by omega), set_off Q b.2.2.1 re n i 0 hQ (by omega) (by omega), wsucc i _ hlt (by omega), ih]
  rfl
def altS (a b : SideT) : SideT := sd (a.1 ++ b.1) (a.2.1 ++ b.2.1) (a.2.2.1 ++ b.2.2.1) (a.2.2.2.1 ++ b.2.2.2.1.map (shA a.1.length)) (minI a.2.2.2.2.1 b.2.2.2.2.1)
theorem F82_ok (hk : 10000000 ≤ k) (ha : SdP a) (hb : SdP b) : F82 k a b = some ((altS a b, ()), ()) := by
 have h1 := ha.n
 have h2 := hb.n
 have h3 := ha.lf
 have h4 := ha.le
 have h7 := ha.la
 have h8 := hb.la
 have e1 := F82_0_ok k a b (sd [] [] [] [] 0) ha (a.1 ++ b.1) (List.replicate (a.1.length + b.1.length) 1152921504606846976) (List.replicate (a.1.length + b.1.length) 1152921504606846976) (a.2.2.2.1 ++ b.2.2.2.1.map (shA a.1.length)) (minI a.2.2.2.2.1 b.2.2.2.2.1) (by rw [List.length_replicate]; omega) (by rw [List.length_replicate]; omega) a.1.length k 0 (by omega) (by omega)
 rw [rep_drop, List.take_zero, List.take_zero, List.drop_zero, List.nil_append, show ((0 : Nat) : Int) = 0 from rfl] at e1
 have e2 := F82_1_ok k b (sd [] [] [] [] 0) hb a.1.length (by omega) (a.1 ++ b.1) a.2.1 a.2.2.1 (List.replicate b.1.length 1152921504606846976) (List.replicate b.1.length 1152921504606846976) h3 h4 (a.2.2.2.1 ++ b.2.2.2.1.map (shA a.1.length)) (minI a.2.2.2.2.1 b.2.2.2.2.1) (by rw [List.length_replicate]; omega) (by rw [List.length_replicate]; omega) b.1.length k 0 (by omega) (by omega)
 have hnil : (List.replicate b.1.length (1152921504606846976 : Int)).drop b.1.length = [] := by rw [List.drop_replicate, Nat.sub_self]; rfl
 rw [hnil, List.append_nil, List.append_nil, List.take_zero, List.take_zero, List.drop_zero, List.nil_append, show ((0 : Nat) : Int) = 0 from rfl] at e2
 unfold F82
 rw [F85_ok k a b (by omega) (by omega) (by omega) (by omega) hb.ra hk, Option.bind_some]
 simp only
 rw [e1, Option.bind_some]
 simp only
 rw [e2, Option.bind_some]
 rfl
def starG (a : SideT) (i j : Nat) : ArcT := ((i : Int), ((j : Int), (adI (List.getD a.2.2.1 i 0) (List.getD a.2.1 j 0), ())))
theorem F83_0_ok (hk : 10000000 ≤ k) (ha : SdP a) (i : Nat) (hi : i < a.1.length) (l : List ArcT) (hl : l.length ≤ 900000) : ∀ (d m j : Nat), j + d = a.1.length → d < m →
  F83_0 k m (i : Int) (j : Int) a c4 (foldA (starG a i) j l) = some (((i : Int), ()), (a, (c4, (foldA (starG a i) a.1.length l, ()))))
 | 0, m, j, hj, hm => by
  obtain ⟨m, rfl⟩ := pos1 (m := m) (by omega)
  obtain rfl : j = a.1.length := by omega
  simp only [F83_0]
  rw [dnlt, cond_false]
 | d + 1, m, j, hj, hm => by
  obtain ⟨m, rfl⟩ := pos1 (m := m) (by omega)
  have hlt : j < a.1.length := by omega
  have ih := F83_0_ok hk ha i hi l hl d m (j + 1) (by omega) (by omega)
  have h1 := ha.n
  have h3 := ha.le
  have h4 := ha.lf
  have hlen := foldA_len (starG a i) j l
  simp only [F83_0]
  rw [dlt hlt, cond_true, if_pos (inR (show i < a.2.2.1.length by omega)), if_pos (inR (show j < a.2.1.length by omega)), tnI i, tnI j, F69_ad k _ _ (ha.ce.at_ (by omega)) (ha.cf.at_ (by omega)), Option.bind_some]
  simp only
  rw [F86_put k _ _ (by omega) hk, Option.bind_some, wsucc j _ hlt (by omega)]
  simp only
  have e1 : putA (foldA (starG a i) j l) ((i : Int), ((j : Int), (adI (List.getD a.2.2.1 i 0) (List.getD a.2.1 j 0), ()))) = foldA (starG a i) (j + 1) l := rfl
  rw [e1, ih]
  rfl
theorem F83_1_ok (hk : 10000000 ≤ k) (ha : SdP a) (l : List ArcT) (hl : l.length ≤ 600000) : ∀ (d m i : Nat), i + d = a.1.length → d < m →
  F83_1 k m (i : Int) a c4 (foldB (starG a) a.1.length i l) = some ((), (a, (c4, (foldB (starG a) a.1.length a.1.length l, ()))))
 | 0, m, i, hi, hm => by
  obtain ⟨m, rfl⟩ := pos1 (m := m) (by omega)
  obtain rfl : i = a.1.length := by omega
  simp only [F83_1]
  rw [dnlt, cond_false]
 | d + 1, m, i, hi, hm => by
  obtain ⟨m, rfl⟩ := pos1 (m := m) (by omega)
  have hlt : i < a.1.length := by omega
  have ih := F83_1_ok hk ha l hl d m (i + 1) (by omega) (by omega)
  have h1 := ha.n
  have hlen := foldB_len (starG a) a.1.length i l
  have hmul : i * a.1.length ≤ 500 * 500 := Nat.mul_le_mul (by omega) h1
  have e0 := F83_0_ok k a c4 hk ha i hlt (foldB (starG a) a.1.length i l) (by omega) a.1.length k 0 (by omega) (by omega)
  rw [show ((0 : Nat) : Int) = 0 from rfl, foldA] at e0
  simp only [F83_1]
  rw [dlt hlt, cond_true, e0, Option.bind_some]
  simp only
  rw [wsucc i _ hlt (by omega)]
  have e1 : foldA (starG a i) a.1.length (foldB (starG a) a.1.length i l) = foldB (starG a) a.1.length (i + 1) l := rfl
  rw [e1, ih]
  rfl
def starS (a : SideT) : SideT := sd a.1 a.2.1 a.2.2.1 (foldB (starG a) a.1.length a.1.length a.2.2.2.1) 0
theorem F83_ok (hk : 10000000 ≤ k) (ha : SdP a) : F83 k a = some ((starS a, ()), ()) := by
 have h7 := ha.la
 have ha' : SdP (sd a.1 a.2.1 a.2.2.1 a.2.2.2.1 0) := ⟨ha.n, ha.lf, ha.le, ha.cf, ha.ce, ⟨Int.le_refl _, (by decide : (0 : Int) ≤ 1152921504606846976)⟩, ha.la, ha.ra⟩
 have e := F83_1_ok k (sd a.1 a.2.1 a.2.2.1 a.2.2.2.1 0) (sd [] [] [] [] 0) hk ha' a.2.2.2.1 (by omega) a.1.length k 0 (Nat.zero_add _) (by have := ha.n; omega)
 rw [show ((0 : Nat) : Int) = 0 from rfl, foldB] at e
 have hc : (0 + a.2.2.2.1.length) * (24 * 2) ≤ 281474976710656 ∧ 0 + a.2.2.2.1.length ≤ 9223372036854775807 := by omega
 unfold F83
 simp only [List.replicate_zero, List.length_nil, List.nil_append]
 rw [if_pos hc]
 have e' : F83_1 k k 0 (a.1, (a.2.1, (a.2.2.1, (a.2.2.2.1, ((0 : Int), a.2.2.2.2.2))))) ([], ([], ([], ([], ((0 : Int), ()))))) a.2.2.2.1 = _ := e
 rw [e', Option.bind_some]
 rfl
end
abbrev RawT := Tree (Int × (Int × Unit))
abbrev RexT := Tree (Int × (Int × (Int × (Int × (ByteArray × Unit)))))
def RawH : Nat → RawT → Prop
 | 0, _ => False
 | h + 1, r => ∀ c ∈ r.l, RawH h c
theorem F27_0_ok (k : Nat) (f : List RawT → Int → Option ((Int × Unit) × Unit)) (l : List RawT) (d B : Nat) (Pc : List RawT → Prop) (hd : d ≤ 5) (hB : B ≤ 100000) (hf : ∀ c, ∃ n : Nat, f c ((d + 1 : Nat) : Int) = some (((n : Int), ()), ()) ∧ n ≤ B ∧ (n ≤ 30 → Pc c)) : ∀ (m i n : Nat), 31 ≤ n + m → n ≤ 31 + B → i ≤ l.length → i ≤ n → (n ≤ 30 → ∀ j, j < i → Pc (List.getD l j (Tree.mk (0, (0, ())) [])).l) →
  ∃ q : Nat, F27_0 k f (m + 1) l (d : Int) (n : Int) (i : Int) = some (((q : Int), ()), ()) ∧ q ≤ 31 + B ∧ (q ≤ 30 → l.length ≤ q ∧ ∀ j, j < l.length → Pc (List.getD l j (Tree.mk (0, (0, ())) [])).l) := by
 intro m
 induction m with
 | zero =>
  intro i n h1 h2 hi hin hJ
  simp only [F27_0]
  by_cases hlt : i < l.length
  ·rw [dlt hlt, cond_true, decide_eq_false (by omega), cond_false]
   exact ⟨n, rfl, h2, fun q => by omega⟩
  ·rw [decide_eq_false (by omega), cond_false]
   exact ⟨n, rfl, h2, fun q => by omega⟩
 | succ m ih =>
  intro i n h1 h2 hi hin hJ
  rw [F27_0]
  simp only
  by_cases hlt : i < l.length
  ·rw [dlt hlt, cond_true]
   by_cases hn : n ≤ 30
   ·rw [decide_eq_true (by omega), cond_true, if_pos (inR hlt), tnI i]
    obtain ⟨x, e, hx, hxs⟩ := hf (Tree.l (List.getD l i (Tree.mk (0, (0, ())) [])))
    rw [show IntKind.wrap .i64 ((d : Int) + 1) = ((d + 1 : Nat) : Int) by rw [w64 _ (by omega) (by omega)]; omega, e, Option.bind_some]
    simp only
    rw [show IntKind.wrap .i64 (IntKind.wrap .i64 ((n : Int) + 1) + (x : Int)) = ((n + 1 + x : Nat) : Int) by rw [w64 ((n : Int) + 1) (by omega) (by omega), w64 _ (by omega) (by omega)]; omega, show IntKind.wrap .i64 ((i : Int) + 1) = ((i + 1 : Nat) : Int) by rw [w64 _ (by omega) (by omega)]; omega, Option.bind_fun_some]
    refine ih (i + 1) (n + 1 + x) (by omega) (by omega) hlt (by omega) fun hq j hj => ?_
    by_cases hji : j = i
    ·subst hji
     exact hxs (by omega)
    ·exact hJ hn j (by omega)
   ·rw [decide_eq_false (by omega), cond_false]
    exact ⟨n, rfl, h2, fun q => by omega⟩
  ·rw [decide_eq_false (by omega), cond_false]
   refine ⟨n, rfl, h2, fun q => ⟨by omega, fun j hj => hJ q j (by omega)⟩⟩
theorem R27_step (k d B h : Nat) (l : List RawT) (hd : d ≤ 5) (hB : B ≤ 100000) (hk : 100 ≤ k) (hf : ∀ c, ∃ n : Nat, R27 k c ((d + 1 : Nat) : Int) = some (((n : Int), ()), ()) ∧ n ≤ B ∧ (n ≤ 30 → ∀ r : RawT, r.l = c → RawH h r)) :
  ∃ n : Nat, R27 (k + 1) l (d : Int) = some (((n : Int), ()), ()) ∧ n ≤ 31 + B ∧ (n ≤ 30 → l.length ≤ n ∧ ∀ r ∈ l, RawH h r) := by
 obtain ⟨k', hk'⟩ : ∃ k', k = k' + 1 := ⟨k - 1, by omega⟩
 obtain ⟨q, h1, h2, h3⟩ := F27_0_ok k (R27 k) l d B (fun c => ∀ r : RawT, r.l = c → RawH h r) hd hB hf k' 0 0 (by omega) (by omega) (Nat.zero_le _) (Nat.le_refl _) (fun _ j hj => by omega)
 refine ⟨q, ?_, by omega, fun hq => ⟨(h3 hq).1, fun r hr => ?_⟩⟩
 ·rw [R27, B27, decide_eq_false (by omega), cond_false]
  have h1' : F27_0 k (R27 k) k l (d : Int) 0 0 = some (((q : Int), ()), ()) := by
   rw [← hk'] at h1; exact h1
  rw [h1', Option.bind_some]
 ·obtain ⟨j, hj, rfl⟩ := List.getElem_of_mem hr
  have := (h3 hq).2 j hj
  rw [getD_lt l j _ hj] at this
  exact this _ rfl
theorem R27_ok : ∀ (e d k : Nat) (l : List RawT), d + e = 5 → e + 200 ≤ k → ∃ n : Nat, R27 k l (d : Int) = some (((n : Int), ()), ()) ∧ n ≤ 1031 + 31 * e ∧ (n ≤ 30 → l.length ≤ n ∧ ∀ r ∈ l, RawH e r)
 | 0, d, k, l, hd, hk => by
  obtain ⟨k, rfl⟩ : ∃ k', k = k' + 1 := ⟨k - 1, by omega⟩
  obtain ⟨n, h1, h2, h3⟩ := R27_step k d 1000 0 l (by omega) (by omega) (by omega) (fun c => by
   obtain ⟨k, rfl⟩ : ∃ k', k = k' + 1 := ⟨k - 1, by omega⟩
   refine ⟨1000, ?_, Nat.le_refl _, fun q => by omega⟩
   rw [R27, B27, decide_eq_true (by omega), cond_true]
   rfl)
  exact ⟨n, h1, by omega, h3⟩
 | e + 1, d, k, l, hd, hk => by
  obtain ⟨k, rfl⟩ : ∃ k', k = k' + 1 := ⟨k - 1, by omega⟩
  obtain ⟨n, h1, h2, h3⟩ := R27_step k d (1031 + 31 * e) (e + 1) l (by omega) (by omega) (by omega) (fun c => by
   obtain ⟨n, h1, h2, h3⟩ := R27_ok e (d + 1) k c (by omega) (by omega)
   exact ⟨n, h1, h2, fun q r hr => by
    intro x hx
    rw [hr] at hx
    exact (h3 q).2 x hx⟩)
  exact ⟨n, h1, by omega, h3⟩
theorem F13_ok (k : Nat) (l : List RawT) (hk : 1000 ≤ k) : ∃ b, F13 k l = some ((b, ()), ()) ∧ (b = true → l.length ≤ 30 ∧ ∀ r ∈ l, RawH 5 r) := by
 obtain ⟨n, h1, _, h3⟩ := R27_ok 5 0 k l rfl (by omega)
 refine ⟨decide ((n : Int) ≤ 30), ?_, fun hb => ?_⟩
 ·unfold F13 F27
  have h1' : R27 k l 0 = some (((n : Int), ()), ()) := h1
  rw [h1', Option.bind_some]
 ·have := of_decide_eq_true hb
  exact ⟨by have := (h3 (by omega)).1; omega, (h3 (by omega)).2⟩

def Leaf (x : RexT) : Prop := x.a.1 = 1 ∨ x.a.1 = 2 ∨ x.a.1 = 3
def RexP (w : Bool) : Nat → RexT → Prop
 | 0, x => Leaf x
 | h + 1, x => Leaf x ∨ ((x.a.1 = 4 ∨ x.a.1 = 5) ∧ ∃ p q, x.l = [p, q] ∧ RexP w h p ∧ RexP w h q) ∨ (x.a.1 = 6 ∧ ∃ p, x.l = [p] ∧ RexP w h p) ∨
   (x.a.1 = 7 ∧ (0 ≤ x.a.2.1 ∧ x.a.2.1 ≤ 2 ∧ x.a.2.1 ≤ x.a.2.2.1 ∧ x.a.2.2.1 ≤ x.a.2.1 + 2) ∧ ∃ p, x.l = [p] ∧ RexP w h p) ∨ (x.a.1 = 8 ∧ w = true ∧ (0 ≤ x.a.2.2.2.1 ∧ x.a.2.2.2.1 ≤ 6) ∧ ∃ p, x.l = [p] ∧ RexP w h p)
theorem RexP.up {w : Bool} : ∀ {h : Nat} {x : RexT}, RexP w h x → RexP w (h + 1) x
 | 0, x, p => .inl p
 | h + 1, x, p => by
  rcases p with p | ⟨a, p, q, e, hp, hq⟩ | ⟨a, p, e, hp⟩ | ⟨a, b, p, e, hp⟩ | ⟨a, b, c, p, e, hp⟩
  ·exact .inl p
  ·exact .inr (.inl ⟨a, p, q, e, hp.up, hq.up⟩)
  ·exact .inr (.inr (.inl ⟨a, p, e, hp.up⟩))
  ·exact .inr (.inr (.inr (.inl ⟨a, b, p, e, hp.up⟩)))
  ·exact .inr (.inr (.inr (.inr ⟨a, b, c, p, e, hp.up⟩)))
def nms : List ByteArray := [⟨#[97]⟩, ⟨#[118]⟩, ⟨#[100]⟩, ⟨#[115]⟩, ⟨#[119, 49]⟩, ⟨#[111, 116, 104, 101, 114]⟩]
theorem F71_eq (k : Nat) : F71 k = some ((nms, ()), ()) := by
 unfold F71 nms
 rfl
theorem raw_eta (r : RawT) : Tree.mk ((Tree.a r).1, ((Tree.a r).2.1, ())) (Tree.l r) = r := by
 cases r
 rfl
theorem two_list {α : Type} (d x y : α) : List.set (List.set (List.replicate 2 d) 0 x) 1 y = [x, y] := (rfl : List.set (List.set [d, d] 0 x) 1 y = [x, y]).trans rfl
theorem R51_ok (b : Bool) : ∀ (h k : Nat), 2 * h ≤ k → (∀ r, RawH h r → ∃ x, (R51 k).1 r b = some ((x, ()), ()) ∧ RexP (!b) h x) ∧ (∀ (r : RawT) (i : Int), (i = 0 ∨ i = 1) → RawH (h + 1) r → ∃ x, (R51 (k + 1)).2 r i b = some ((x, ()), ()) ∧ RexP (!b) h x) := by
 intro h
 induction h with
 | zero =>
  intro k hk
  have one : ∀ r, RawH 0 r → ∃ x, (R51 k).1 r b = some ((x, ()), ()) ∧ RexP (!b) 0 x := fun r hr => hr.elim
  refine ⟨one, fun r i hi hr => ?_⟩
  have hnil : r.l = [] := by
   cases hl : r.l with
   | nil => rfl
   | cons c l => exact (hr c (by rw [hl]; exact List.mem_cons_self)).elim
  show ∃ x, B73 k (R51 k).1 (R51 k).2 r i b = some ((x, ()), ()) ∧ _
  unfold B73
  simp only
  rw [hnil, decide_eq_false (by simp only [List.length_nil]; omega), cond_false, F71_eq, Option.bind_some, F50_eq k _ 4 (by omega) (by omega), Option.bind_some]
  simp only
  rw [if_pos (by simp only [nms, List.length_cons, List.length_nil]; omega)]
  exact ⟨_, rfl, .inr (.inl rfl)⟩
 | succ h ih =>
  intro k hk
  obtain ⟨k, rfl⟩ : ∃ k', k = k' + 1 := ⟨k - 1, by omega⟩
  obtain ⟨k, rfl⟩ : ∃ k', k = k' + 1 := ⟨k - 1, by omega⟩
  obtain ⟨ih1, ih2⟩ := ih k (by omega)
  have one : ∀ r, RawH (h + 1) r → ∃ x, (R51 (k + 1 + 1)).1 r b = some ((x, ()), ()) ∧ RexP (!b) (h + 1) x := by
   intro r hr
   obtain ⟨p, ep, hp⟩ := ih2 r 0 (.inl rfl) hr
   obtain ⟨q, eq, hq⟩ := ih2 r 1 (.inr rfl) hr
   have em := Int.emod_nonneg (Tree.a r).1 (show (20 : Int) ≠ 0 by omega)
   show ∃ x, B51 (k + 1) (R51 (k + 1)).1 (R51 (k + 1)).2 r b = some ((x, ()), ()) ∧ _
   unfold B51
   rw [F50_eq _ _ 20 (by omega) (by omega), Option.bind_some]
   simp only [raw_eta, two_list, one_list]
   rw [ep, eq, F71_eq, F50_eq _ _ 4 (by omega) (by omega), F50_eq _ _ 3 (by omega) (by omega), F50_eq _ _ 7 (by omega) (by omega)]
   simp only [Option.bind_some]
   rw [F50_eq _ _ 3 (by omega) (by omega)]
   simp only [Option.bind_some]
   by_cases c1 : (Tree.a r).1 % 20 < 1
   ·rw [decide_eq_true c1, cond_true]
    exact ⟨_, rfl, .inl (.inl rfl)⟩
   rw [decide_eq_false c1, cond_false]
   by_cases c2 : (Tree.a r).1 % 20 < 6
   ·rw [decide_eq_true c2, cond_true, if_pos (by simp only [nms, List.length_cons, List.length_nil]; omega)]
    exact ⟨_, rfl, .inl (.inr (.inl rfl))⟩
   rw [decide_eq_false c2, cond_false]
   by_cases c3 : (Tree.a r).1 % 20 < 8
   ·rw [decide_eq_true c3, cond_true]
    exact ⟨_, rfl, .inl (.inr (.inr rfl))⟩
   rw [decide_eq_false c3, cond_false]
   by_cases c4 : (Tree.a r).1 % 20 < 13
   ·rw [decide_eq_true c4, cond_true]
    exact ⟨_, rfl, .inr (.inl ⟨.inl rfl, p, q, rfl, hp, hq⟩)⟩
   rw [decide_eq_false c4, cond_false]
   by_cases c5 : (Tree.a r).1 % 20 < 15
   ·rw [decide_eq_true c5, cond_true]
    exact ⟨_, rfl, .inr (.inl ⟨.inr rfl, p, q, rfl, hp, hq⟩)⟩
   rw [decide_eq_false c5, cond_false]
   by_cases c6 : (Tree.a r).1 % 20 < 16
   ·rw [decide_eq_true c6, cond_true]
    exact ⟨_, rfl, .inr (.inr (.inl ⟨rfl, p, rfl, hp⟩))⟩
   rw [decide_eq_false c6, cond_false]
   by_cases c7 : (Tree.a r).1 % 20 < 18
   ·rw [decide_eq_true c7, cond_true]
    refine ⟨_, rfl, .inr (.inr (.inr (.inl ⟨rfl, ?_, p, rfl, hp⟩)))⟩
    simp only [Tree.a]
    have m1 := Int.emod_nonneg (Tree.a r).2.1 (show (3 : Int) ≠ 0 by omega)
    have m2 := Int.emod_lt_of_pos (Tree.a r).2.1 (show (0 : Int) < 3 by omega)
    have m3 := Int.emod_nonneg (IntKind.wrap .i64 (Int.tdiv (Tree.a r).2.1 3)) (show (3 : Int) ≠ 0 by omega)
    have m4 := Int.emod_lt_of_pos (IntKind.wrap .i64 (Int.tdiv (Tree.a r).2.1 3)) (show (0 : Int) < 3 by omega)
    rw [w64 (_ + _) (by omega) (by omega)]
    omega
   rw [decide_eq_false c7, cond_false]
   cases b with
   | true =>
    rw [cond_true]
    exact ⟨_, rfl, hp.up⟩
   | false =>
    rw [cond_false]
    refine ⟨_, rfl, .inr (.inr (.inr (.inr ⟨rfl, rfl, ?_, p, rfl, hp⟩)))⟩
    simp only [Tree.a]
    omega
  refine ⟨one, fun r i hi hr => ?_⟩
  show ∃ x, B73 (k + 1 + 1) (R51 (k + 1 + 1)).1 (R51 (k + 1 + 1)).2 r i b = some ((x, ()), ()) ∧ _
  unfold B73
  simp only
  by_cases hlt : i < ((r.l.length : Nat) : Int)
  ·rw [decide_eq_true hlt, cond_true, if_pos ⟨by omega, hlt⟩]
   obtain ⟨x, e, hx⟩ := one (List.getD r.l i.toNat (Tree.mk (0, (0, ())) [])) (hr _ (getD_mem (by omega)))
   rw [e, Option.bind_some]
   exact ⟨x, rfl, hx⟩
  ·rw [decide_eq_false hlt, cond_false, F71_eq, Option.bind_some, F50_eq _ _ 4 (by omega) (by omega), Option.bind_some]
   simp only
   rw [if_pos (by simp only [nms, List.length_cons, List.length_nil]; omega)]
   exact ⟨_, rfl, .inl (.inr (.inl rfl))⟩
theorem F51_ok (k : Nat) (r : RawT) (b : Bool) (h : Nat) (hr : RawH h r) (hk : 2 * h ≤ k) : ∃ x, F51 k r b = some ((x, ()), ()) ∧ RexP (!b) h x := (R51_ok b h k hk).1 r hr
def CB (C x : Int) : Prop := 0 ≤ x ∧ (x ≤ C ∨ x = 1152921504606846976)
theorem CB.up {C D x : Int} (h : CB C x) (hD : C ≤ D) : CB D x := by
 unfold CB at *
 omega
theorem CB.cst {C x : Int} (h : CB C x) (hC : C ≤ 1000000000) : Cst x := by
 unfold CB at h
 unfold Cst
 omega
theorem adI_cb {C D x y : Int} (hx : CB C x) (hy : CB D y) (hC : C ≤ 1000000000) (hD : D ≤ 1000000000) : CB (C + D) (adI x y) := by
 unfold CB at *
 unfold adI minI
 split <;> omega
theorem minI_cb {C x y : Int} (hx : CB C x) (hy : CB C y) : CB C (minI x y) := by
 unfold minI
 split <;> assumption
structure SideG (n : Nat) (C : Int) (M : Nat) (s : SideT) : Prop where
 ls : s.1.length = n
 lf : s.2.1.length = n
 le : s.2.2.1.length = n
 cf : ∀ x ∈ s.2.1, CB C x
 ce : ∀ x ∈ s.2.2.1, CB C x
 cn : CB C s.2.2.2.2.1
 srt : Srt s.2.2.2.1
 arcs : ArcG n (2 * C) s.2.2.2.1
 sets : ∀ x ∈ s.1, -1 ≤ x ∧ x < (M : Int)
theorem ArcG.up {n m : Nat} {B D : Int} {l : List ArcT} (h : ArcG n B l) (hn : n ≤ m) (hB : B ≤ D) : ArcG m D l := fun x hx => by
 have := h x hx
 omega
theorem SideG.up {n M : Nat} {C D : Int} {s : SideT} (h : SideG n C M s) (hD : C ≤ D) : SideG n D M s :=
 ⟨h.ls, h.lf, h.le, fun x hx => (h.cf x hx).up hD, fun x hx => (h.ce x hx).up hD, h.cn.up hD, h.srt, h.arcs.up (Nat.le_refl _) (by omega), h.sets⟩
theorem SideG.sd {n M : Nat} {C : Int} {s : SideT} (h : SideG n C M s) (hn : n ≤ 500) (hC : C ≤ 1000000000) : SdP s := by
 have hl := srt_len h.srt h.arcs
 have : n * n ≤ 500 * 500 := Nat.mul_le_mul hn hn
 exact ⟨by rw [h.ls]; exact hn, by rw [h.lf, h.ls], by rw [h.le, h.ls], fun x hx => (h.cf x hx).cst hC, fun x hx => (h.ce x hx).cst hC, h.cn.cst hC, by omega, h.arcs.up (by omega) (by omega)⟩
theorem putA_G {n : Nat} {B : Int} {l : List ArcT} {a : ArcT} (hs : Srt l) (h : ArcG n B l) (ha : (0 ≤ a.1 ∧ a.1 < (n : Int)) ∧ (0 ≤ a.2.1 ∧ a.2.1 < (n : Int)) ∧ 0 ≤ a.2.2.1 ∧ (a.2.2.1 ≤ B ∨ a.2.2.1 ≥ 1152921504606846976)) : Srt (putA l a) ∧ ArcG n B (putA l a) := by
 unfold putA
 split
 ·exact ⟨hs, h⟩
 ·refine ⟨insA_srt a l hs, insA_arcs h fun x hx => ?_⟩
  rw [List.mem_singleton] at hx
  subst hx
  exact ⟨ha.1, ha.2.1, ha.2.2.1, ha.2.2.2.resolve_right (by assumption)⟩
theorem foldA_G {n : Nat} {B : Int} (g : Nat → ArcT) : ∀ (m : Nat) (l : List ArcT), (∀ j, j < m → (0 ≤ (g j).1 ∧ (g j).1 < (n : Int)) ∧ (0 ≤ (g j).2.1 ∧ (g j).2.1 < (n : Int)) ∧ 0 ≤ (g j).2.2.1 ∧ ((g j).2.2.1 ≤ B ∨ (g j).2.2.1 ≥ 1152921504606846976)) → Srt l → ArcG n B l → Srt (foldA g m l) ∧ ArcG n B (foldA g m l)
 | 0, l, _, hs, h => ⟨hs, h⟩
 | m + 1, l, hg, hs, h => by
  obtain ⟨h1, h2⟩ := foldA_G g m l (fun j hj => hg j (by omega)) hs h
  exact putA_G h1 h2 (hg m (by omega))
theorem foldB_G {n : Nat} {B : Int} (g : Nat → Nat → ArcT) (m : Nat) : ∀ (q : Nat) (l : List ArcT), (∀ i j, i < q → j < m → (0 ≤ (g i j).1 ∧ (g i j).1 < (n : Int)) ∧ (0 ≤ (g i j).2.1 ∧ (g i j).2.1 < (n : Int)) ∧ 0 ≤ (g i j).2.2.1 ∧ ((g i j).2.2.1 ≤ B ∨ (g i j).2.2.1 ≥ 1152921504606846976)) → Srt l → ArcG n B l → Srt (foldB g m q l) ∧ ArcG n B (foldB g m q l)
 | 0, l, _, hs, h => ⟨hs, h⟩
 | q + 1, l, hg, hs, h => by
  obtain ⟨h1, h2⟩ := foldB_G g m q l (fun i j hi hj => hg i j (by omega) hj) hs h
  exact foldA_G (g q) m _ (fun j hj => hg q j (by omega) hj) h1 h2
theorem shA_srt (n : Nat) {l : List ArcT} (h : Srt l) : Srt (l.map (shA n)) := by
 rw [Srt, List.pairwise_map]
 exact h.imp fun q => by
  unfold Lt shA at *
  simp only
  omega
theorem shA_arcs {n m : Nat} {B : Int} {l : List ArcT} (h : ArcG m B l) : ∀ x ∈ l.map (shA n), ((n : Int) ≤ x.1 ∧ x.1 < ((n + m : Nat) : Int)) ∧ ((n : Int) ≤ x.2.1 ∧ x.2.1 < ((n + m : Nat) : Int)) ∧ 0 ≤ x.2.2.1 ∧ x.2.2.1 ≤ B := fun x hx => by
 obtain ⟨y, hy, rfl⟩ := List.mem_map.1 hx
 have := h y hy
 unfold shA
 simp only
 omega
theorem join_G {n m : Nat} {B : Int} {l q : List ArcT} (h1 : Srt l) (h2 : ArcG n B l) (h3 : Srt q) (h4 : ArcG m B q) : Srt (l ++ q.map (shA n)) ∧ ArcG (n + m) B (l ++ q.map (shA n)) := by
 constructor
 ·refine List.pairwise_append.2 ⟨h1, shA_srt n h3, fun a ha b hb => ?_⟩
  have := h2 a ha
  have := shA_arcs (n := n) h4 b hb
  exact .inl (by omega)
 ·intro x hx
  rcases List.mem_append.1 hx with e | e
  ·have := h2 x e; omega
  ·have := shA_arcs (n := n) h4 x e; omega
theorem mem_app {α : Type} {P : α → Prop} {l q : List α} (h1 : ∀ x ∈ l, P x) (h2 : ∀ x ∈ q, P x) : ∀ x ∈ l ++ q, P x := fun x hx => (List.mem_append.1 hx).elim (h1 x) (h2 x)
theorem SideG.ef {n M : Nat} {C : Int} {s : SideT} (h : SideG n C M s) {i : Nat} (hi : i < n) : CB C (List.getD s.2.1 i 0) := h.cf _ (getD_mem (by rw [h.lf]; exact hi))
theorem SideG.ee {n M : Nat} {C : Int} {s : SideT} (h : SideG n C M s) {i : Nat} (hi : i < n) : CB C (List.getD s.2.2.1 i 0) := h.ce _ (getD_mem (by rw [h.le]; exact hi))
theorem cat_G {n m M : Nat} {C D : Int} {a b : SideT} (ha : SideG n C M a) (hb : SideG m D M b) (hC : 0 ≤ C ∧ C ≤ 100000000) (hD : 0 ≤ D ∧ D ≤ 100000000) : SideG (n + m) (C + D) M (catS a b) := by
 obtain ⟨j1, j2⟩ := join_G (B := 2 * (C + D)) ha.srt (ha.arcs.up (Nat.le_refl _) (by omega)) hb.srt (hb.arcs.up (Nat.le_refl _) (by omega))
 rw [← ha.ls] at j1 j2
 obtain ⟨f1, f2⟩ := foldB_G (catG a b) b.1.length a.1.length (a.2.2.2.1 ++ b.2.2.2.1.map (shA a.1.length)) (n := a.1.length + m) (B := 2 * (C + D)) (fun i j hi hj => by
  have q := adI_cb (ha.ee (ha.ls ▸ hi)) (hb.ef (hb.ls ▸ hj)) (by omega) (by omega)
  rw [hb.ls] at hj
  unfold CB at q
  unfold catG
  simp only
  omega) j1 j2
 refine ⟨by simp only [catS, sd, List.length_append, ha.ls, hb.ls], by simp only [catS, sd, List.length_append, List.length_map, ha.lf, hb.lf], by simp only [catS, sd, List.length_append, List.length_map, ha.le, hb.le], ?_, ?_, adI_cb ha.cn hb.cn (by omega) (by omega), f1, ha.ls ▸ f2, mem_app ha.sets hb.sets⟩
 ·refine mem_app (fun x hx => (ha.cf x hx).up (by omega)) fun x hx => ?_
  obtain ⟨y, hy, rfl⟩ := List.mem_map.1 hx
  exact adI_cb ha.cn (hb.cf y hy) (by omega) (by omega)
 ·refine mem_app (fun x hx => ?_) fun x hx => (hb.ce x hx).up (by omega)
  obtain ⟨y, hy, rfl⟩ := List.mem_map.1 hx
  exact adI_cb (ha.ce y hy) hb.cn (by omega) (by omega)
theorem alt_G {n m M : Nat} {C : Int} {a b : SideT} (ha : SideG n C M a) (hb : SideG m C M b) : SideG (n + m) C M (altS a b) := by
 obtain ⟨j1, j2⟩ := join_G (B := 2 * C) ha.srt ha.arcs hb.srt hb.arcs
 rw [← ha.ls] at j1 j2
 exact ⟨by simp only [altS, sd, List.length_append, ha.ls, hb.ls], by simp only [altS, sd, List.length_append, ha.lf, hb.lf], by simp only [altS, sd, List.length_append, ha.le, hb.le], mem_app ha.cf hb.cf, mem_app ha.ce hb.ce, minI_cb ha.cn hb.cn, j1, ha.ls ▸ j2, mem_app ha.sets hb.sets⟩
theorem star_G {n M : Nat} {C : Int} {a : SideT} (ha : SideG n C M a) (hC : 0 ≤ C ∧ C ≤ 100000000) : SideG n C M (starS a) := by
 obtain ⟨f1, f2⟩ := foldB_G (starG a) a.1.length a.1.length a.2.2.2.1 (n := n) (B := 2 * C) (fun i j hi hj => by
  rw [ha.ls] at hi hj
  have q := adI_cb (ha.ee hi) (ha.ef hj) (by omega) (by omega)
  unfold CB at q
  unfold starG
  simp only
  omega) ha.srt ha.arcs
 exact ⟨ha.ls, ha.lf, ha.le, ha.cf, ha.ce, ⟨Int.le_refl _, .inl hC.1⟩, f1, f2, ha.sets⟩
def wgtS (a : SideT) (w : Int) : SideT := sd a.1 (a.2.1.map fun x => adI x w) a.2.2.1 a.2.2.2.1 (adI a.2.2.2.2.1 w)
theorem wgt_G {n M : Nat} {C w : Int} {a : SideT} (ha : SideG n C M a) (hC : 0 ≤ C ∧ C ≤ 100000000) (hw : 0 ≤ w ∧ w ≤ 6) : SideG n (C + 6) M (wgtS a w) := by
 have cw : CB 6 w := ⟨hw.1, .inl hw.2⟩
 refine ⟨ha.ls, by simp only [wgtS, sd, List.length_map, ha.lf], ha.le, fun x hx => ?_, fun x hx => (ha.ce x hx).up (by omega), adI_cb ha.cn cw (by omega) (by omega), ha.srt, ha.arcs.up (Nat.le_refl _) (by omega), ha.sets⟩
 obtain ⟨y, hy, rfl⟩ := List.mem_map.1 hx
 exact adI_cb (ha.cf y hy) cw (by omega) (by omega)
theorem none_G {n M : Nat} {C : Int} {a : SideT} (ha : SideG n C M a) (hC : 0 ≤ C) : SideG n C M (sd a.1 a.2.1 a.2.2.1 a.2.2.2.1 0) :=
 ⟨ha.ls, ha.lf, ha.le, ha.cf, ha.ce, ⟨Int.le_refl _, .inl hC⟩, ha.srt, ha.arcs, ha.sets⟩
def timS (a : SideT) (lo : Int) : Nat → SideT → SideT
 | 0, s => s
 | k + 1, s => timS a lo k (if ((k + 1 : Nat) : Int) > lo then sd (catS a s).1 (catS a s).2.1 (catS a s).2.2.1 (catS a s).2.2.2.1 0 else catS a s)
theorem tim_G {n M : Nat} {C lo : Int} {a : SideT} (ha : SideG n C M a) (hC : 0 ≤ C ∧ C ≤ 1000000) : ∀ (k m : Nat) (q : Nat) (s : SideT), q + k ≤ 20 → SideG m ((q : Int) * C) M s → SideG (k * n + m) (((q + k : Nat) : Int) * C) M (timS a lo k s)
 | 0, m, q, s, hq, hs => by simpa [timS] using hs
 | k + 1, m, q, s, hq, hs => by
  have hqc : 0 ≤ (q : Int) * C ∧ (q : Int) * C ≤ 20000000 := ⟨Int.mul_nonneg (by omega) hC.1, by
   have : (q : Int) * C ≤ 20 * 1000000 := Int.mul_le_mul (by omega) hC.2 hC.1 (by omega)
   omega⟩
  have h := cat_G ha hs (by omega) (by omega)
  have e1 : C + (q : Int) * C = ((q + 1 : Nat) : Int) * C := by
   rw [show ((q + 1 : Nat) : Int) = (q : Int) + 1 by omega, Int.add_mul, Int.one_mul, Int.add_comm]
  rw [e1] at h
  have h' : SideG (n + m) (((q + 1 : Nat) : Int) * C) M (if ((k + 1 : Nat) : Int) > lo then sd (catS a s).1 (catS a s).2.1 (catS a s).2.2.1 (catS a s).2.2.2.1 0 else catS a s) := by
   split
   ·exact none_G h (Int.mul_nonneg (by omega) hC.1)
   ·exact h
  have := tim_G (lo := lo) ha hC k (n + m) (q + 1) _ (by omega) h'
  rw [timS, show (k + 1) * n + m = k * n + (n + m) by rw [Nat.add_mul]; omega, show q + (k + 1) = q + 1 + k by omega]
  exact this
abbrev ClsT := Tree (Int × (Int × (Int × (ByteArray × Unit))))
abbrev DefT := ByteArray × (ClsT × Unit)
abbrev RuleT := Int × (Int × (RexT × (RexT × Unit)))
abbrev FileT := List DefT × (List RuleT × Unit)
def sizeR : Nat → RexT → Nat
 | 0, x => if x.a.1 = 1 then 0 else 1
 | h + 1, x => if x.a.1 = 1 then 0 else if x.a.1 = 2 ∨ x.a.1 = 3 then 1 else if x.a.1 = 7 then (x.l.map (sizeR h)).sum * x.a.2.2.1.toNat else (x.l.map (sizeR h)).sum
theorem sizeR_le {w : Bool} : ∀ (h : Nat) (x : RexT), RexP w h x → sizeR h x ≤ 4 ^ h
 | 0, x, _ => by unfold sizeR; split <;> simp
 | h + 1, x, p => by
  have hp : 1 ≤ 4 ^ h := Nat.one_le_pow _ _ (by omega)
  have e4 : 4 ^ (h + 1) = 4 ^ h * 4 := Nat.pow_succ 4 h
  unfold sizeR
  split
  ·omega
  ·split
   ·omega
   ·rename_i h1 h2
    rcases p with p | ⟨a, p, q, e, hp1, hq1⟩ | ⟨a, p, e, hp1⟩ | ⟨a, b, p, e, hp1⟩ | ⟨a, _, b, p, e, hp1⟩
    ·unfold Leaf at p; omega
    ·have g1 := sizeR_le h p hp1
     have g2 := sizeR_le h q hq1
     rw [e, if_neg (by omega)]
     simp only [List.map_cons, List.map_nil, List.sum_cons, List.sum_nil]
     omega
    ·have g1 := sizeR_le h p hp1
     rw [e, if_neg (by omega)]
     simp only [List.map_cons, List.map_nil, List.sum_cons, List.sum_nil]
     omega
    ·have g1 := sizeR_le h p hp1
     rw [e, if_pos a]
     simp only [List.map_cons, List.map_nil, List.sum_cons, List.sum_nil, Nat.add_zero]
     rw [e4]
     exact Nat.mul_le_mul g1 (by omega)
    ·have g1 := sizeR_le h p hp1
     rw [e, if_neg (by omega)]
     simp only [List.map_cons, List.map_nil, List.sum_cons, List.sum_nil]
     omega
abbrev UnfT := Int × (Int × (Int × (Int × (ByteArray × (List RexT × Unit)))))
theorem F56_0_ok (k : Nat) (f : RexT → Option ((Int × Unit) × Unit)) (sz : RexT → Nat) (c : UnfT) (hf : ∀ p ∈ c.2.2.2.2.2.1, f p = some (((sz p : Int), ()), ())) (hl : c.2.2.2.2.2.1.length ≤ 1000) (hs : (c.2.2.2.2.2.1.map sz).sum ≤ 100000000) : ∀ (d m i t : Nat), i + d = c.2.2.2.2.2.1.length → d < m → t + ((c.2.2.2.2.2.1.drop i).map sz).sum = (c.2.2.2.2.2.1.map sz).sum →
  F56_0 k f m (t : Int) (i : Int) c = some (((((c.2.2.2.2.2.1.map sz).sum : Nat) : Int), ()), (c, ()))
 | 0, m, i, t, hi, hm, ht => by
  obtain ⟨m, rfl⟩ := pos1 (m := m) (by omega)
  obtain rfl : i = c.2.2.2.2.2.1.length := by omega
  rw [List.drop_length, List.map_nil, List.sum_nil, Nat.add_zero] at ht
  simp only [F56_0]
  rw [dnlt, cond_false, ht]
 | d + 1, m, i, t, hi, hm, ht => by
  obtain ⟨m, rfl⟩ := pos1 (m := m) (by omega)
  have hlt : i < c.2.2.2.2.2.1.length := by omega
  rw [List.drop_eq_getElem_cons hlt, List.map_cons, List.sum_cons] at ht
  have ih := F56_0_ok k f sz c hf hl hs d m (i + 1) (t + sz c.2.2.2.2.2.1[i]) (by omega) (by omega) (by omega)
  have hmin : minI (((t + sz c.2.2.2.2.2.1[i] : Nat) : Int)) 1000000000 = ((t + sz c.2.2.2.2.2.1[i] : Nat) : Int) := by
   unfold minI
   rw [if_neg (by omega)]
  simp only [F56_0]
  rw [dlt hlt, cond_true, if_pos (inR hlt), tnI i, getD_lt _ i _ hlt, hf _ (List.getElem_mem hlt), Option.bind_some]
  simp only
  rw [wadd t _ (by omega), hmin, wsucc i _ hlt (by omega), ih]
  rfl
theorem R56_ok {w : Bool} : ∀ (h k : Nat) (x : RexT), h ≤ 8 → RexP w h x → h + 100 ≤ k → R56 k x = some (((sizeR h x : Int), ()), ())
 | 0, k, x, h8, p, hk => by
  obtain ⟨k, rfl⟩ : ∃ k', k = k' + 1 := ⟨k - 1, by omega⟩
  rw [R56, B56]
  unfold sizeR
  rcases p with p | p | p <;> rw [p] <;> rfl
 | h + 1, k, x, h8, p, hk => by
  obtain ⟨k, rfl⟩ : ∃ k', k = k' + 1 := ⟨k - 1, by omega⟩
  have hle := sizeR_le (h + 1) x p
  have hpow : 4 ^ (h + 1) ≤ 4 ^ 8 := Nat.pow_le_pow_right (by omega) h8
  have h48 : (4 : Nat) ^ 8 = 65536 := by decide
  have h1p : 1 ≤ 4 ^ h := Nat.one_le_pow _ _ (by omega)
  have hpow2 : 4 ^ h ≤ 4 ^ 8 := Nat.pow_le_pow_right (by omega) (by omega)
  rw [R56, B56]
  by_cases c1 : x.a.1 = 1
  ·rw [beq_iff_eq.2 c1, cond_true]
   unfold sizeR
   rw [if_pos c1]
   rfl
  rw [beq_false_of_ne c1, cond_false]
  by_cases c2 : x.a.1 = 2
  ·rw [beq_iff_eq.2 c2, cond_true]
   unfold sizeR
   rw [if_neg c1, if_pos (.inl c2)]
   rfl
  rw [beq_false_of_ne c2, cond_false]
  by_cases c3 : x.a.1 = 3
  ·rw [beq_iff_eq.2 c3, cond_true]
   unfold sizeR
   rw [if_neg c1, if_pos (.inr c3)]
   rfl
  rw [beq_false_of_ne c3, cond_false]
  have loop : ∀ (hl : x.l.length ≤ 2) (hP : ∀ p ∈ x.l, RexP w h p), F56_0 k (R56 k) k 0 0 (x.a.1, (x.a.2.1, (x.a.2.2.1, (x.a.2.2.2.1, (x.a.2.2.2.2.1, (x.l, ())))))) = some (((((x.l.map (sizeR h)).sum : Nat) : Int), ()), ((x.a.1, (x.a.2.1, (x.a.2.2.1, (x.a.2.2.2.1, (x.a.2.2.2.2.1, (x.l, ())))))), ())) ∧ (x.l.map (sizeR h)).sum ≤ 2 * 65536 := fun hl hP => by
   have hsum : (x.l.map (sizeR h)).sum ≤ 2 * 65536 := by
    match hx : x.l, hl with
    | [], _ => simp
    | [p], _ => have := sizeR_le h p (hP p (by rw [hx]; simp)); simp only [List.map_cons, List.map_nil, List.sum_cons, List.sum_nil]; omega
    | [p, q], _ =>
     have := sizeR_le h p (hP p (by rw [hx]; simp))
     have := sizeR_le h q (hP q (by rw [hx]; simp))
     simp only [List.map_cons, List.map_nil, List.sum_cons, List.sum_nil]; omega
   refine ⟨F56_0_ok k (R56 k) (sizeR h) (x.a.1, (x.a.2.1, (x.a.2.2.1, (x.a.2.2.2.1, (x.a.2.2.2.2.1, (x.l, ())))))) (fun p hp => R56_ok h k p (by omega) (hP p hp) (by omega)) (show x.l.length ≤ 1000 by omega) (show (x.l.map (sizeR h)).sum ≤ 100000000 by omega) x.l.length k 0 0 (Nat.zero_add _) (by omega) ?_, hsum⟩
   rw [List.drop_zero, Nat.zero_add]
  have hshape : x.l.length ≤ 2 ∧ (∀ p ∈ x.l, RexP w h p) ∧ (x.a.1 = 7 → 0 ≤ x.a.2.2.1 ∧ x.a.2.2.1 ≤ 4) := by
   rcases p with p | ⟨a, p, q, e, hp1, hq1⟩ | ⟨a, p, e, hp1⟩ | ⟨a, b, p, e, hp1⟩ | ⟨a, _, b, p, e, hp1⟩
   ·unfold Leaf at p; omega
   ·rw [e]
    refine ⟨by simp, fun y hy => ?_, fun q => by omega⟩
    simp only [List.mem_cons, List.not_mem_nil, or_false] at hy
    rcases hy with rfl | rfl <;> assumption
   ·rw [e]
    refine ⟨by simp, fun y hy => ?_, fun q => by omega⟩
    rw [List.mem_singleton] at hy
    subst hy; exact hp1
   ·rw [e]
    refine ⟨by simp, fun y hy => ?_, fun q => by omega⟩
    rw [List.mem_singleton] at hy
    subst hy; exact hp1
   ·rw [e]
    refine ⟨by simp, fun y hy => ?_, fun q => by omega⟩
    rw [List.mem_singleton] at hy
    subst hy; exact hp1
  obtain ⟨g1, g2, g3⟩ := hshape
  obtain ⟨e, hsum⟩ := loop g1 g2
  rw [e, Option.bind_some]
  simp only
  unfold sizeR
  rw [if_neg c1, if_neg (by omega)]
  by_cases c7 : x.a.1 = 7
  ·obtain ⟨g4, g5⟩ := g3 c7
   rw [beq_iff_eq.2 c7, cond_true, if_pos c7]
   have hmul : (((x.l.map (sizeR h)).sum : Nat) : Int) * x.a.2.2.1 = (((x.l.map (sizeR h)).sum * x.a.2.2.1.toNat : Nat) : Int) := by
    rw [Int.natCast_mul, Int.toNat_of_nonneg g4]
   have hb : (x.l.map (sizeR h)).sum * x.a.2.2.1.toNat ≤ 2 * 65536 * 4 := Nat.mul_le_mul hsum (by omega)
   rw [hmul, w64 _ (by omega) (by omega)]
   unfold minI
   rw [if_neg (by omega)]
  ·rw [beq_false_of_ne c7, cond_false, if_neg c7]

def fndI : List DefT → ByteArray → Nat → Int
 | [], _, _ => -1
 | d :: l, nm, i => if d.1.toList = nm.toList then (i : Int) else fndI l nm (i + 1)
def fnd (l : List DefT) (nm : ByteArray) : Int := fndI l nm 0
theorem fndI_range (nm : ByteArray) : ∀ (l : List DefT) (i : Nat), -1 ≤ fndI l nm i ∧ fndI l nm i < ((i + l.length : Nat) : Int) ∨ fndI l nm i = -1
 | [], i => .inr rfl
 | d :: l, i => by
  unfold fndI
  split
  ·left
   simp only [List.length_cons]
   omega
  ·rcases fndI_range nm l (i + 1) with h | h
   ·left
    simp only [List.length_cons]
    omega
   ·exact .inr h
theorem fnd_range (l : List DefT) (nm : ByteArray) : -1 ≤ fnd l nm ∧ fnd l nm < ((l.length : Nat) : Int) := by
 have := fndI_range nm l 0
 unfold fnd
 omega
theorem F66_0_ok (k : Nat) (nm : ByteArray) (c : FileT) (hl : c.1.length ≤ 1000) : ∀ (d m i : Nat), i + d = c.1.length → d < m →
  F66_0 k m nm (i : Int) c = some (if fndI (c.1.drop i) nm i = -1 then .inl ((), ()) else .inr ((fndI (c.1.drop i) nm i, ()), ()))
 | 0, m, i, hi, hm => by
  obtain ⟨m, rfl⟩ := pos1 (m := m) (by omega)
  obtain rfl : i = c.1.length := by omega
  simp only [F66_0]
  rw [dnlt, cond_false, List.drop_length, fndI, if_pos rfl]
 | d + 1, m, i, hi, hm => by
  obtain ⟨m, rfl⟩ := pos1 (m := m) (by omega)
  have hlt : i < c.1.length := by omega
  have ih := F66_0_ok k nm c hl d m (i + 1) (by omega) (by omega)
  rw [List.drop_eq_getElem_cons hlt, fndI]
  simp only [F66_0]
  rw [dlt hlt, cond_true, if_pos (inR hlt), tnI i, getD_lt _ i _ hlt]
  by_cases he : c.1[i].1.toList = nm.toList
  ·rw [beq_iff_eq.2 he, cond_true, if_pos he, if_neg (by omega)]
  ·rw [beq_false_of_ne he, cond_false, if_neg he, wsucc i _ hlt (by omega), ih]
   rfl
theorem F66_ok (k : Nat) (c : FileT) (nm : ByteArray) (hl : c.1.length ≤ 1000) (hk : 10000000 ≤ k) : F66 k c nm = some ((fnd c.1 nm, ()), ()) := by
 have h := F66_0_ok k nm c hl c.1.length k 0 (by omega) (by omega)
 rw [List.drop_zero, show ((0 : Nat) : Int) = 0 from rfl] at h
 unfold F66
 rw [h, Option.bind_some]
 by_cases hc : fndI c.1 nm 0 = -1
 ·rw [if_pos hc]
  unfold fnd
  rw [hc]
 ·rw [if_neg hc]
  rfl

def leafS (fn : ByteArray → Int) (x : RexT) : SideT := if x.a.1 = 1 then sd [] [] [] [] 0 else if x.a.1 = 2 then sd [fn x.a.2.2.2.2.1] [0] [0] [] 1152921504606846976 else sd [-1] [0] [0] [] 1152921504606846976
def rex0 : RexT := Tree.mk (0, (0, (0, (0, (ByteArray.empty, ()))))) []
def sideS (fn : ByteArray → Int) : Nat → RexT → SideT
 | 0, x => leafS fn x
 | h + 1, x => if x.a.1 = 1 ∨ x.a.1 = 2 ∨ x.a.1 = 3 then leafS fn x
  else if x.a.1 = 4 then catS (sideS fn h (List.getD x.l 0 rex0)) (sideS fn h (List.getD x.l 1 rex0))
  else if x.a.1 = 5 then altS (sideS fn h (List.getD x.l 0 rex0)) (sideS fn h (List.getD x.l 1 rex0))
  else if x.a.1 = 6 then starS (sideS fn h (List.getD x.l 0 rex0))
  else if x.a.1 = 8 then wgtS (sideS fn h (List.getD x.l 0 rex0)) x.a.2.2.2.1
  else timS (sideS fn h (List.getD x.l 0 rex0)) x.a.2.1 x.a.2.2.1.toNat (sd [] [] [] [] 0)
def cB : Nat → Int
 | 0 => 0
 | h + 1 => 4 * cB h + 6
theorem cB_range : ∀ h : Nat, h ≤ 6 → 0 ≤ cB h ∧ cB h ≤ 9000
 | 0, _ => by decide
 | 1, _ => by decide
 | 2, _ => by decide
 | 3, _ => by decide
 | 4, _ => by decide
 | 5, _ => by decide
 | 6, _ => by decide
 | h + 7, q => by omega
theorem leaf_G (fn : ByteArray → Int) (M : Nat) (hfn : ∀ nm, -1 ≤ fn nm ∧ fn nm < (M : Int)) (x : RexT) (p : Leaf x) (C : Int) (hC : 0 ≤ C) : SideG (if x.a.1 = 1 then 0 else 1) C M (leafS fn x) := by
 have c0 : CB C 0 := ⟨Int.le_refl _, .inl hC⟩
 have cI : CB C 1152921504606846976 := ⟨by decide, .inr rfl⟩
 unfold leafS
 split
 ·exact ⟨rfl, rfl, rfl, fun x hx => (by cases hx), fun x hx => (by cases hx), c0, List.Pairwise.nil, fun x hx => (by cases hx), fun x hx => (by cases hx)⟩
 ·split
  ·exact ⟨rfl, rfl, rfl, fun x hx => (by rw [List.mem_singleton.1 hx]; exact c0), fun x hx => (by rw [List.mem_singleton.1 hx]; exact c0), cI, List.Pairwise.nil, fun x hx => (by cases hx), fun x hx => (by rw [List.mem_singleton.1 hx]; exact hfn _)⟩
  ·exact ⟨rfl, rfl, rfl, fun x hx => (by rw [List.mem_singleton.1 hx]; exact c0), fun x hx => (by rw [List.mem_singleton.1 hx]; exact c0), cI, List.Pairwise.nil, fun x hx => (by cases hx), fun x hx => (by rw [List.mem_singleton.1 hx]; omega)⟩
theorem sizeR_leaf {h : Nat} {x : RexT} (p : Leaf x) : sizeR h x = if x.a.1 = 1 then 0 else 1 := by
 cases h with
 | zero => rfl
 | succ h =>
  unfold sizeR
  unfold Leaf at p
  split
  ·rfl
  ·rw [if_pos (by omega)]
theorem sideS_leaf {fn : ByteArray → Int} {h : Nat} {x : RexT} (p : Leaf x) : sideS fn h x = leafS fn x := by
 cases h with
 | zero => rfl
 | succ h => unfold sideS; exact if_pos p
theorem empty_G (M : Nat) (C : Int) (hC : 0 ≤ C) : SideG 0 C M (sd [] [] [] [] 0) :=
 ⟨rfl, rfl, rfl, fun x hx => (by cases hx), fun x hx => (by cases hx), ⟨Int.le_refl _, .inl hC⟩, List.Pairwise.nil, fun x hx => (by cases hx), fun x hx => (by cases hx)⟩
theorem side_G {w : Bool} (fn : ByteArray → Int) (M : Nat) (hfn : ∀ nm, -1 ≤ fn nm ∧ fn nm < (M : Int)) : ∀ (h : Nat) (x : RexT), h ≤ 6 → RexP w h x → SideG (sizeR h x) (cB h) M (sideS fn h x)
 | 0, x, _, p => by
  rw [sizeR_leaf p, sideS_leaf p]
  exact leaf_G fn M hfn x p _ (by decide)
 | h + 1, x, h6, p => by
  have hc := cB_range h (by omega)
  have hc2 : cB (h + 1) = 4 * cB h + 6 := rfl
  rcases p with p | ⟨a, p, q, e, hp1, hq1⟩ | ⟨a, p, e, hp1⟩ | ⟨a, b, p, e, hp1⟩ | ⟨a, _, b, p, e, hp1⟩
  ·rw [sizeR_leaf p, sideS_leaf p]
   exact leaf_G fn M hfn x p _ (by omega)
  ·have g1 := side_G fn M hfn h p (by omega) hp1
   have g2 := side_G fn M hfn h q (by omega) hq1
   unfold sizeR sideS
   rw [if_neg (by omega), if_neg (by omega), if_neg (by omega), if_neg (by omega), e]
   simp only [List.map_cons, List.map_nil, List.sum_cons, List.sum_nil, Nat.add_zero, List.getD_cons_zero, List.getD_cons_succ]
   rcases a with a | a
   ·rw [if_pos a]
    exact (cat_G g1 g2 (by omega) (by omega)).up (by omega)
   ·rw [if_neg (by omega), if_pos a]
    exact (alt_G g1 g2).up (by omega)
  ·have g1 := side_G fn M hfn h p (by omega) hp1
   unfold sizeR sideS
   rw [if_neg (by omega), if_neg (by omega), if_neg (by omega), if_neg (by omega), if_neg (by omega), if_neg (by omega), if_pos a, e]
   simp only [List.map_cons, List.map_nil, List.sum_cons, List.sum_nil, Nat.add_zero, List.getD_cons_zero]
   exact (star_G g1 (by omega)).up (by omega)
  ·have g1 := side_G fn M hfn h p (by omega) hp1
   unfold sizeR sideS
   rw [if_neg (by omega), if_neg (by omega), if_pos a, if_neg (by omega), if_neg (by omega), if_neg (by omega), if_neg (by omega), if_neg (by omega), e]
   simp only [List.map_cons, List.map_nil, List.sum_cons, List.sum_nil, Nat.add_zero, List.getD_cons_zero]
   have := tim_G (lo := x.a.2.1) g1 (by omega) x.a.2.2.1.toNat 0 0 (sd [] [] [] [] 0) (by omega) (by rw [show ((0 : Nat) : Int) * cB h = 0 by simp]; exact empty_G M 0 (Int.le_refl _))
   rw [Nat.add_zero, Nat.mul_comm, Nat.zero_add] at this
   refine this.up ?_
   have : ((x.a.2.2.1.toNat : Nat) : Int) * cB h ≤ 4 * cB h := Int.mul_le_mul_of_nonneg_right (by omega) hc.1
   omega
  ·have g1 := side_G fn M hfn h p (by omega) hp1
   unfold sizeR sideS
   rw [if_neg (by omega), if_neg (by omega), if_neg (by omega), if_neg (by omega), if_neg (by omega), if_neg (by omega), if_neg (by omega), if_pos a, e]
   simp only [List.map_cons, List.map_nil, List.sum_cons, List.sum_nil, Nat.add_zero, List.getD_cons_zero]
   exact (wgt_G g1 (by omega) b).up (by omega)
theorem get_pre {α : Type} (A rest : List α) (i : Nat) (d : α) (h1 : i < A.length) (h2 : i < rest.length) : List.getD (A.take i ++ rest.drop i) i d = List.getD rest i d := by
 rw [List.drop_eq_getElem_cons h2, List.getD_eq_getElem?_getD, List.getElem?_append_right (by rw [List.length_take]; omega), show i - (A.take i).length = 0 by rw [List.length_take]; omega, getD_lt rest i d h2]
 rfl
theorem F57_0_ok (k : Nat) (f : RexT → FileT → Option ((SideT × Unit) × Unit)) (c2 : UnfT) (c4 : SideT) (g F e : List Int) (l : List ArcT) (w' : Int) (hF : CstL F) (hw : Cst c2.2.2.2.1) (hl : F.length ≤ 1000) : ∀ (d m i : Nat), i + d = F.length → d < m →
  F57_0 k f m (i : Int) c2 c4 (sd g ((F.map fun x => adI x c2.2.2.2.1).take i ++ F.drop i) e l w') = some ((), (c4, (sd g (F.map fun x => adI x c2.2.2.2.1) e l w', ())))
 | 0, m, i, hi, hm => by
  obtain ⟨m, rfl⟩ := pos1 (m := m) (by omega)
  obtain rfl : i = F.length := by omega
  simp only [F57_0]
  rw [len_pre _ F F.length (by rw [List.length_map]; omega) (by omega), dnlt, cond_false, List.drop_length, List.append_nil, take_all _ _ (List.length_map _)]
 | d + 1, m, i, hi, hm => by
  obtain ⟨m, rfl⟩ := pos1 (m := m) (by omega)
  have hlt : i < F.length := by omega
  have hml : i < (F.map fun x => adI x c2.2.2.2.1).length := by rw [List.length_map]; exact hlt
  have ih := F57_0_ok k f c2 c4 g F e l w' hF hw hl d m (i + 1) (by omega) (by omega)
  have ge : adI (List.getD F i 0) c2.2.2.2.1 = List.getD (F.map fun x => adI x c2.2.2.2.1) i 0 := (getD_map (fun x => adI x c2.2.2.2.1) _ i 0 0 hlt).symm
  simp only [F57_0]
  rw [len_pre _ F i (by omega) (by omega), dlt hlt, cond_true, if_pos (inR hlt), tnI i, get_pre _ F i 0 hml hlt, F69_ad k _ _ (hF.at_ hlt) hw, Option.bind_some]
  simp only
  rw [if_pos (inR hlt), ge, set_pre _ F i 0 hml hlt, wsucc i _ hlt (by omega), ih]
  rfl
theorem F57_1_ok (k : Nat) (f : RexT → FileT → Option ((SideT × Unit) × Unit)) (c2 : UnfT) (c4 a : SideT) (n M : Nat) (C : Int) (hk : 10000000 ≤ k) (ha : SideG n C M a) (hC : 0 ≤ C ∧ C ≤ 1000000) : ∀ (j m p q : Nat) (s : SideT), j < m → q + j ≤ 20 → j * n + p ≤ 500 → SideG p ((q : Int) * C) M s →
  F57_1 k f m (j : Int) c2 c4 s a = some ((), (c4, (timS a c2.2.1 j s, ())))
 | 0, m, p, q, s, hm, hq, hn, hs => by
  obtain ⟨m, rfl⟩ := pos1 (m := m) (by omega)
  simp only [F57_1]
  rw [decide_eq_false (by omega), cond_false]
  rfl
 | j + 1, m, p, q, s, hm, hq, hn, hs => by
  obtain ⟨m, rfl⟩ := pos1 (m := m) (by omega)
  have hqc : 0 ≤ (q : Int) * C ∧ (q : Int) * C ≤ 20000000 := ⟨Int.mul_nonneg (by omega) hC.1, by
   have : (q : Int) * C ≤ 20 * 1000000 := Int.mul_le_mul (by omega) hC.2 hC.1 (by omega)
   omega⟩
  have hn' : (j + 1) * n + p = j * n + (n + p) := by rw [Nat.add_mul]; omega
  have hnp : n + p ≤ 500 := by omega
  have sa := ha.sd (by omega) (by omega)
  have ss := hs.sd (by omega) (by omega)
  have h := cat_G ha hs (by omega) (by omega)
  have e1 : C + (q : Int) * C = ((q + 1 : Nat) : Int) * C := by
   rw [show ((q + 1 : Nat) : Int) = (q : Int) + 1 by omega, Int.add_mul, Int.one_mul, Int.add_comm]
  rw [e1] at h
  have la := srt_len ha.srt ha.arcs
  have ls := srt_len hs.srt hs.arcs
  have m1 : n * n ≤ 500 * 500 := Nat.mul_le_mul (by omega) (by omega)
  have m2 : p * p ≤ 500 * 500 := Nat.mul_le_mul (by omega) (by omega)
  have e56 := F81_ok k a s hk sa ss (by omega)
  have hj : IntKind.wrap .i64 (((j + 1 : Nat) : Int) - 1) = (j : Int) := by rw [w64 _ (by omega) (by omega)]; omega
  simp only [F57_1]
  rw [decide_eq_true (by omega), cond_true, e56, Option.bind_some]
  simp only
  rw [hj, timS]
  by_cases hgt : ((j + 1 : Nat) : Int) > c2.2.1
  ·rw [decide_eq_true hgt, cond_true, if_pos hgt]
   have ih := F57_1_ok k f c2 c4 a n M C hk ha hC j m (n + p) (q + 1) (sd (catS a s).1 (catS a s).2.1 (catS a s).2.2.1 (catS a s).2.2.2.1 0) (by omega) (by omega) (by omega) (none_G h (Int.mul_nonneg (by omega) hC.1))
   have ih' : F57_1 k f m (j : Int) c2 c4 ((catS a s).1, ((catS a s).2.1, ((catS a s).2.2.1, ((catS a s).2.2.2.1, ((0 : Int), (catS a s).2.2.2.2.2))))) a = _ := ih
   rw [ih', Option.bind_some]
  ·rw [decide_eq_false hgt, cond_false, if_neg hgt]
   have ih := F57_1_ok k f c2 c4 a n M C hk ha hC j m (n + p) (q + 1) (catS a s) (by omega) (by omega) (by omega) h
   rw [ih, Option.bind_some]
theorem R57_ok {w : Bool} (fl : FileT) (hfl : fl.1.length ≤ 1000) : ∀ (h k : Nat) (x : RexT), h ≤ 5 → RexP w h x → sizeR h x ≤ 500 → h + 10000000 < k → R57 k x fl = some ((sideS (fnd fl.1) h x, ()), ()) := by
 have leaf : ∀ (h k : Nat) (x : RexT), Leaf x → h + 10000000 < k → R57 k x fl = some ((sideS (fnd fl.1) h x, ()), ()) := by
  intro h k x p hk
  obtain ⟨k, rfl⟩ : ∃ k', k = k' + 1 := ⟨k - 1, by omega⟩
  have e54 := F80_ok k 1 (by omega) (by omega)
  rw [show ((1 : Nat) : Int) = 1 from rfl] at e54
  rw [sideS_leaf p]
  have hS : leafS (fnd fl.1) x = (if x.a.1 = 1 then sd [] [] [] [] 0 else if x.a.1 = 2 then sd [fnd fl.1 x.a.2.2.2.2.1] [0] [0] [] 1152921504606846976 else sd [-1] [0] [0] [] 1152921504606846976) := rfl
  generalize leafS (fnd fl.1) x = S at hS
  show B57 k (R57 k) x fl = _
  unfold B57
  rcases p with p | p | p
  ·rw [if_pos p] at hS
   rw [hS, p, F79_ok k (by omega)]
   rfl
  ·rw [if_neg (by omega), if_pos p] at hS
   rw [hS, p, e54, F66_ok k fl _ hfl (by omega)]
   rfl
  ·rw [if_neg (by omega), if_neg (by omega)] at hS
   rw [hS, p, e54]
   rfl
 intro h
 induction h with
 | zero => intro k x _ p _ hk; exact leaf 0 k x p hk
 | succ h ih =>
  intro k x h5 p hsz hk
  by_cases hp : Leaf x
  ·exact leaf (h + 1) k x hp hk
  obtain ⟨k, rfl⟩ : ∃ k', k = k' + 1 := ⟨k - 1, by omega⟩
  have hc := cB_range h (by omega)
  have hpow : ∀ y, RexP w h y → sizeR h y ≤ 500 := fun y hy => by
   have := sizeR_le h y hy
   have h2 : 4 ^ h ≤ 4 ^ 4 := Nat.pow_le_pow_right (by omega) (by omega)
   have h3 : (4 : Nat) ^ 4 = 256 := by decide
   omega
  have hrec : ∀ y, RexP w h y → R57 k y fl = some ((sideS (fnd fl.1) h y, ()), ()) ∧ SideG (sizeR h y) (cB h) fl.1.length (sideS (fnd fl.1) h y) := fun y hy => ⟨ih k y (by omega) hy (hpow y hy) (by omega), side_G (fnd fl.1) fl.1.length (fnd_range fl.1) h y (by omega) hy⟩
  have hx : ¬ (x.a.1 = 1 ∨ x.a.1 = 2 ∨ x.a.1 = 3) := hp
  have hS : sideS (fnd fl.1) (h + 1) x = (if x.a.1 = 4 then catS (sideS (fnd fl.1) h (List.getD x.l 0 rex0)) (sideS (fnd fl.1) h (List.getD x.l 1 rex0))
   else if x.a.1 = 5 then altS (sideS (fnd fl.1) h (List.getD x.l 0 rex0)) (sideS (fnd fl.1) h (List.getD x.l 1 rex0))
   else if x.a.1 = 6 then starS (sideS (fnd fl.1) h (List.getD x.l 0 rex0))
   else if x.a.1 = 8 then wgtS (sideS (fnd fl.1) h (List.getD x.l 0 rex0)) x.a.2.2.2.1
   else timS (sideS (fnd fl.1) h (List.getD x.l 0 rex0)) x.a.2.1 x.a.2.2.1.toNat (sd [] [] [] [] 0)) := by
   conv => lhs; unfold sideS
   exact if_neg hx
  generalize sideS (fnd fl.1) (h + 1) x = S at hS
  show B57 k (R57 k) x fl = _
  unfold B57
  rw [beq_false_of_ne (show ¬ x.a.1 = 1 by omega), beq_false_of_ne (show ¬ x.a.1 = 2 by omega), beq_false_of_ne (show ¬ x.a.1 = 3 by omega), cond_false, cond_false, cond_false]
  rcases p with p | ⟨a, p, q, e, hp1, hq1⟩ | ⟨a, p, e, hp1⟩ | ⟨a, b, p, e, hp1⟩ | ⟨a, _, b, p, e, hp1⟩
  ·exact absurd p hp
  ·obtain ⟨e1, g1⟩ := hrec p hp1
   obtain ⟨e2, g2⟩ := hrec q hq1
   have n1 := hpow p hp1
   have n2 := hpow q hq1
   have s1 := g1.sd n1 (by omega)
   have s2 := g2.sd n2 (by omega)
   have m1 : sizeR h p * sizeR h p ≤ 500 * 500 := Nat.mul_le_mul n1 n1
   have m2 : sizeR h q * sizeR h q ≤ 500 * 500 := Nat.mul_le_mul n2 n2
   have l1 := srt_len g1.srt g1.arcs
   have l2 := srt_len g2.srt g2.arcs
   have i0 : (0 : Int) ≤ 0 ∧ (0 : Int) < ((([p, q] : List RexT).length : Nat) : Int) := by simp only [List.length_cons, List.length_nil]; omega
   have i1 : (0 : Int) ≤ 1 ∧ (1 : Int) < ((([p, q] : List RexT).length : Nat) : Int) := by simp only [List.length_cons, List.length_nil]; omega
   rw [e] at hS ⊢
   rcases a with a | a
   ·rw [if_pos a] at hS
    rw [hS, a, show ((4 : Int) == 4) = true from rfl, cond_true, if_pos i0, if_pos i1]
    simp only [show Int.toNat 0 = 0 from rfl, show Int.toNat 1 = 1 from rfl, List.getD_cons_zero, List.getD_cons_succ]
    rw [e1, Option.bind_some, e2, Option.bind_some]
    simp only
    rw [F81_ok k _ _ (by omega) s1 s2 (by omega), Option.bind_some]
   ·rw [if_neg (by omega), if_pos a] at hS
    rw [hS, a, show ((5 : Int) == 4) = false from rfl, cond_false, show ((5 : Int) == 5) = true from rfl, cond_true, if_pos i0, if_pos i1]
    simp only [show Int.toNat 0 = 0 from rfl, show Int.toNat 1 = 1 from rfl, List.getD_cons_zero, List.getD_cons_succ]
    rw [e1, Option.bind_some, e2, Option.bind_some]
    simp only
    rw [F82_ok k _ _ (by omega) s1 s2, Option.bind_some]
  ·obtain ⟨e1, g1⟩ := hrec p hp1
   have s1 := g1.sd (hpow p hp1) (by omega)
   have i0 : (0 : Int) ≤ 0 ∧ (0 : Int) < ((([p] : List RexT).length : Nat) : Int) := by simp only [List.length_cons, List.length_nil]; omega
   rw [if_neg (by omega), if_neg (by omega), if_pos a, e] at hS
   rw [hS, e, a, show ((6 : Int) == 4) = false from rfl, cond_false, show ((6 : Int) == 5) = false from rfl, cond_false, show ((6 : Int) == 6) = true from rfl, cond_true, if_pos i0]
   simp only [show Int.toNat 0 = 0 from rfl, List.getD_cons_zero]
   rw [e1, Option.bind_some]
   simp only
   rw [F83_ok k _ (by omega) s1, Option.bind_some]
  ·obtain ⟨e1, g1⟩ := hrec p hp1
   have s1 := g1.sd (hpow p hp1) (by omega)
   have i0 : (0 : Int) ≤ 0 ∧ (0 : Int) < ((([p] : List RexT).length : Nat) : Int) := by simp only [List.length_cons, List.length_nil]; omega
   have hszp : sizeR h p * x.a.2.2.1.toNat ≤ 500 := by
    unfold sizeR at hsz
    rw [if_neg (by omega), if_neg (by omega), if_pos a, e] at hsz
    simpa only [List.map_cons, List.map_nil, List.sum_cons, List.sum_nil, Nat.add_zero] using hsz
   have hi : x.a.2.2.1 = ((x.a.2.2.1.toNat : Nat) : Int) := by omega
   have e44 := F57_1_ok k (R57 k) (x.a.1, (x.a.2.1, (x.a.2.2.1, (x.a.2.2.2.1, (x.a.2.2.2.2.1, (x.l, ())))))) (sd [] [] [] [] 0) (sideS (fnd fl.1) h p) (sizeR h p) fl.1.length (cB h) (by omega) g1 (by omega) x.a.2.2.1.toNat k 0 0 (sd [] [] [] [] 0) (by omega) (by omega) (by rw [Nat.add_zero, Nat.mul_comm]; exact hszp) (by rw [show ((0 : Nat) : Int) * cB h = 0 by simp]; exact empty_G _ 0 (Int.le_refl _))
   rw [← hi, e, a] at e44
   have e44' : F57_1 k (R57 k) k x.a.2.2.1 ((7 : Int), (x.a.2.1, (x.a.2.2.1, (x.a.2.2.2.1, (x.a.2.2.2.2.1, ([p], ())))))) ([], ([], ([], ([], ((0 : Int), ()))))) (sd [] [] [] [] 0) (sideS (fnd fl.1) h p) = _ := e44
   rw [if_neg (by omega), if_neg (by omega), if_neg (by omega), if_neg (by omega), e] at hS
   rw [hS, e, a, show ((7 : Int) == 4) = false from rfl, cond_false, show ((7 : Int) == 5) = false from rfl, cond_false, show ((7 : Int) == 6) = false from rfl, cond_false, show ((7 : Int) == 8) = false from rfl, cond_false, if_pos i0]
   simp only [show Int.toNat 0 = 0 from rfl, List.getD_cons_zero]
   rw [F79_ok k (by omega), Option.bind_some, e1, Option.bind_some]
   simp only
   rw [e44', Option.bind_some]
  ·obtain ⟨e1, g1⟩ := hrec p hp1
   have s1 := g1.sd (hpow p hp1) (by omega)
   have i0 : (0 : Int) ≤ 0 ∧ (0 : Int) < ((([p] : List RexT).length : Nat) : Int) := by simp only [List.length_cons, List.length_nil]; omega
   have hw : Cst x.a.2.2.2.1 := by unfold Cst; omega
   have e44 := F57_0_ok k (R57 k) (x.a.1, (x.a.2.1, (x.a.2.2.1, (x.a.2.2.2.1, (x.a.2.2.2.2.1, (x.l, ())))))) (sd [] [] [] [] 0) (sideS (fnd fl.1) h p).1 (sideS (fnd fl.1) h p).2.1 (sideS (fnd fl.1) h p).2.2.1 (sideS (fnd fl.1) h p).2.2.2.1 (adI (sideS (fnd fl.1) h p).2.2.2.2.1 x.a.2.2.2.1) s1.cf hw (by have := s1.lf; have := s1.n; omega) (sideS (fnd fl.1) h p).2.1.length k 0 (Nat.zero_add _) (by have := s1.lf; have := s1.n; omega)
   rw [List.take_zero, List.drop_zero, List.nil_append, e, a, show ((0 : Nat) : Int) = 0 from rfl] at e44
   have e44' : F57_0 k (R57 k) k 0 ((8 : Int), (x.a.2.1, (x.a.2.2.1, (x.a.2.2.2.1, (x.a.2.2.2.2.1, ([p], ())))))) ([], ([], ([], ([], ((0 : Int), ()))))) ((sideS (fnd fl.1) h p).1, ((sideS (fnd fl.1) h p).2.1, ((sideS (fnd fl.1) h p).2.2.1, ((sideS (fnd fl.1) h p).2.2.2.1, (adI (sideS (fnd fl.1) h p).2.2.2.2.1 x.a.2.2.2.1, (sideS (fnd fl.1) h p).2.2.2.2.2))))) = _ := e44
   rw [if_neg (by omega), if_neg (by omega), if_neg (by omega), if_pos a, e] at hS
   rw [hS, e, a, show ((8 : Int) == 4) = false from rfl, cond_false, show ((8 : Int) == 5) = false from rfl, cond_false, show ((8 : Int) == 6) = false from rfl, cond_false, show ((8 : Int) == 8) = true from rfl, cond_true, if_pos i0]
   simp only [show Int.toNat 0 = 0 from rfl, List.getD_cons_zero]
   rw [e1, Option.bind_some]
   simp only
   rw [F69_ad k _ _ s1.cn hw, Option.bind_some]
   simp only
   rw [e44', Option.bind_some]
   rfl
theorem rex_eta (x : RexT) : Tree.mk ((Tree.a x).1, ((Tree.a x).2.1, ((Tree.a x).2.2.1, ((Tree.a x).2.2.2.1, ((Tree.a x).2.2.2.2.1, ()))))) (Tree.l x) = x := by
 cases x
 rfl
theorem F33_ok {w : Bool} (k : Nat) (x : RexT) (fl : FileT) (hfl : fl.1.length ≤ 1000) (hx : RexP w 5 x) (hk : 20000000 ≤ k) :
  F33 k x fl = some ((if sizeR 5 x > 120 then (sd [] [] [] [] 0, (false, ())) else (sideS (fnd fl.1) 5 x, (true, ()))), ()) := by
 unfold F33
 simp only [rex_eta]
 have e43 : F56 k x = some (((sizeR 5 x : Int), ()), ()) := R56_ok 5 k x (by omega) hx (by omega)
 rw [e43, Option.bind_some]
 simp only
 by_cases hs : sizeR 5 x > 120
 ·rw [decide_eq_true (by omega), cond_true, if_pos hs]
 ·have e44 : F57 k x fl = some ((sideS (fnd fl.1) 5 x, ()), ()) := R57_ok fl hfl 5 k x (Nat.le_refl _) hx (by omega) (by omega)
  rw [decide_eq_false (by omega), cond_false, if_neg hs, e44, Option.bind_some]
def ClsL (P : ByteArray → Prop) (x : ClsT) : Prop := x.l = [] ∧ (x.a.1 = 1 ∨ (x.a.1 = 2 ∧ P x.a.2.2.2.1) ∨ x.a.1 = 3)
def ClsP (P : ByteArray → Prop) : Nat → ClsT → Prop
 | 0, x => ClsL P x
 | h + 1, x => ClsL P x ∨ (x.a.1 = 4 ∧ ∃ p, x.l = [p] ∧ ClsP P h p) ∨ ((x.a.1 = 5 ∨ x.a.1 = 6 ∨ x.a.1 = 7) ∧ ∃ p q, x.l = [p, q] ∧ ClsP P h p ∧ ClsP P h q)
theorem ClsL.mono {P Q : ByteArray → Prop} (hPQ : ∀ nm, P nm → Q nm) {x : ClsT} (h : ClsL P x) : ClsL Q x := ⟨h.1, h.2.imp id fun q => q.imp (fun r => ⟨r.1, hPQ _ r.2⟩) id⟩
theorem ClsP.mono {P Q : ByteArray → Prop} (hPQ : ∀ nm, P nm → Q nm) : ∀ {h : Nat} {x : ClsT}, ClsP P h x → ClsP Q h x
 | 0, x, p => ClsL.mono hPQ p
 | h + 1, x, p => by
  rcases p with p | ⟨a, p, e, hp⟩ | ⟨a, p, q, e, hp, hq⟩
  ·exact .inl (p.mono hPQ)
  ·exact .inr (.inl ⟨a, p, e, hp.mono hPQ⟩)
  ·exact .inr (.inr ⟨a, p, q, e, hp.mono hPQ, hq.mono hPQ⟩)
def def0 : DefT := (ByteArray.empty, (Tree.mk (0, (0, (0, (ByteArray.empty, ())))) [], ()))
theorem R72_ok (ahead : List DefT) (h0 : 0 < ahead.length) (h1 : ahead.length ≤ 1000) : ∀ (e d k : Nat) (n : Int), d + e = 4 → e < k → 0 ≤ n → n ≤ 1099511627776 → ∃ x, R72 k n ahead (d : Int) = some ((x, ()), (ahead, ())) ∧ ClsP (fun nm => ∃ y ∈ ahead, y.1 = nm) e x := by
 intro e
 induction e with
 | zero =>
  intro d k n hd hk hn hn2
  obtain ⟨k, rfl⟩ : ∃ k', k = k' + 1 := ⟨k - 1, by omega⟩
  show ∃ x, B72 k (R72 k) n ahead (d : Int) = some ((x, ()), (ahead, ())) ∧ _
  unfold B72
  rw [F50_eq k n 16 (by omega) (by omega), Option.bind_some]
  simp only
  rw [F50_eq k _ 50 (by omega) (by omega), Option.bind_some, decide_eq_true (show (d : Int) > 3 by omega), cond_true]
  cases decide (n % 16 < 5) with
  | true => rw [cond_true]; exact ⟨_, rfl, rfl, .inl rfl⟩
  | false => rw [cond_false]; exact ⟨_, rfl, rfl, .inl rfl⟩
 | succ e ih =>
  intro d k n hd hk hn hn2
  obtain ⟨k, rfl⟩ : ∃ k', k = k' + 1 := ⟨k - 1, by omega⟩
  have hm : IntKind.wrap .i64 (Int.tdiv n 16) = n / 16 := by rw [Int.tdiv_eq_ediv_of_nonneg hn, w64 _ (by omega) (by omega)]
  have hm3 : IntKind.wrap .i64 (Int.tdiv (n / 16) 3) = n / 16 / 3 := by rw [Int.tdiv_eq_ediv_of_nonneg (by omega), w64 _ (by omega) (by omega)]
  have hm48 : IntKind.wrap .i64 (Int.tdiv (n / 16) 48) = n / 16 / 48 := by rw [Int.tdiv_eq_ediv_of_nonneg (by omega), w64 _ (by omega) (by omega)]
  have hd1 : IntKind.wrap .i64 ((d : Int) + 1) = ((d + 1 : Nat) : Int) := by rw [w64 _ (by omega) (by omega)]; omega
  have ht : Int.tmod (n / 16) 3 = n / 16 % 3 := Int.tmod_eq_emod_of_nonneg (by omega)
  have hk5 : IntKind.wrap .i64 (5 + n / 16 % 3) = 5 + n / 16 % 3 := w64 _ (by omega) (by omega)
  obtain ⟨p1, e1, q1⟩ := ih (d + 1) k (n / 16) (by omega) (by omega) (by omega) (by omega)
  obtain ⟨p2, e2, q2⟩ := ih (d + 1) k (n / 16 / 3) (by omega) (by omega) (by omega) (by omega)
  obtain ⟨p3, e3, q3⟩ := ih (d + 1) k (n / 16 / 48) (by omega) (by omega) (by omega) (by omega)
  have el := F50_eq k (n / 16) ((ahead.length : Nat) : Int) (by omega) (by omega)
  have hml := Int.emod_nonneg (n / 16) (show ((ahead.length : Nat) : Int) ≠ 0 by omega)
  have hml2 := Int.emod_lt_of_pos (n / 16) (show 0 < ((ahead.length : Nat) : Int) by omega)
  show ∃ x, B72 k (R72 k) n ahead (d : Int) = some ((x, ()), (ahead, ())) ∧ _
  unfold B72
  simp only [hm, hm3, hm48, hd1, ht, hk5, two_list, one_list]
  rw [F50_eq k n 16 (by omega) (by omega), Option.bind_some, decide_eq_false (show ¬ (d : Int) > 3 by omega), cond_false, F50_eq k (n / 16) 50 (by omega) (by omega), F50_eq k (n / 16) 1114112 (by omega) (by omega)]
  simp only [Option.bind_some]
  rw [el, e1, e2]
  simp only [Option.bind_some]
  rw [e3]
  simp only [Option.bind_some]
  by_cases c1 : n % 16 < 5
  ·rw [decide_eq_true c1, cond_true]
   exact ⟨_, rfl, .inl ⟨rfl, .inl rfl⟩⟩
  rw [decide_eq_false c1, cond_false]
  by_cases c2 : n % 16 < 6
  ·rw [decide_eq_true c2, cond_true]
   exact ⟨_, rfl, .inl ⟨rfl, .inl rfl⟩⟩
  rw [decide_eq_false c2, cond_false, decide_eq_true (show ((ahead.length : Nat) : Int) > 0 by omega), cond_true]
  by_cases c3 : n % 16 < 8
  ·rw [decide_eq_true c3, cond_true, if_pos ⟨hml, hml2⟩]
   refine ⟨_, rfl, .inl ⟨rfl, .inr (.inl ⟨rfl, _, getD_mem (d := def0) (show (n / 16 % ((ahead.length : Nat) : Int)).toNat < ahead.length by omega), rfl⟩)⟩⟩
  rw [decide_eq_false c3, cond_false]
  by_cases c4 : n % 16 < 9
  ·rw [decide_eq_true c4, cond_true]
   exact ⟨_, rfl, .inl ⟨rfl, .inr (.inr rfl)⟩⟩
  rw [decide_eq_false c4, cond_false]
  by_cases c5 : n % 16 < 10
  ·rw [decide_eq_true c5, cond_true]
   exact ⟨_, rfl, .inr (.inl ⟨rfl, p1, rfl, q1⟩)⟩
  rw [decide_eq_false c5, cond_false]
  refine ⟨_, rfl, .inr (.inr ⟨?_, p2, p3, rfl, q2, q3⟩)⟩
  simp only [Tree.a]
  omega
def DefsP (l : List DefT) : Prop := ∀ j, j < l.length → ClsP (fun nm => ∃ i, i < j ∧ (List.getD l i def0).1 = nm) 4 (List.getD l j def0).2.1
theorem getD_app1 {α : Type} (l q : List α) (i : Nat) (d : α) (h : i < l.length) : List.getD (l ++ q) i d = List.getD l i d := by
 simp [List.getD_eq_getElem?_getD, List.getElem?_append_left h]
theorem getD_last {α : Type} (l : List α) (x d : α) : List.getD (l ++ [x]) l.length d = x := by
 simp [List.getD_eq_getElem?_getD]
theorem defs_add {l : List DefT} (h : DefsP l) {nm : ByteArray} {c : ClsT} (hc : ClsP (fun nm => ∃ y ∈ l, y.1 = nm) 4 c) : DefsP (l ++ [(nm, (c, ()))]) := fun j hj => by
 rw [List.length_append, List.length_singleton] at hj
 by_cases hlt : j < l.length
 ·rw [getD_app1 _ _ _ _ hlt]
  exact (h j hlt).mono fun nm ⟨i, hi, e⟩ => ⟨i, hi, by rw [getD_app1 _ _ _ _ (by omega)]; exact e⟩
 ·obtain rfl : j = l.length := by omega
  rw [getD_last]
  exact hc.mono fun nm ⟨y, hy, e⟩ => by
   obtain ⟨i, hi, rfl⟩ := List.getElem_of_mem hy
   exact ⟨i, hi, by rw [getD_app1 _ _ _ _ hi, getD_lt l i _ hi]; exact e⟩
theorem F49_0_ok (k : Nat) (ds : List Int) (hk : 10000000 ≤ k) : ∀ (d m i : Nat) (l : List DefT), i + d = 2 → d < m → l.length = 4 + i → DefsP l → ∃ l', F49_0 k m ds (i : Int) l = some ((), (l', ())) ∧ 4 ≤ l'.length ∧ l'.length ≤ 6 ∧ DefsP l'
 | 0, m, i, l, hi, hm, hl, h => by
  obtain ⟨m, rfl⟩ := pos1 (m := m) (by omega)
  refine ⟨l, ?_, by omega, by omega, h⟩
  simp only [F49_0]
  by_cases hlt : i < ds.length
  ·rw [dlt hlt, cond_true, decide_eq_false (by omega), cond_false]
  ·rw [decide_eq_false (by omega), cond_false]
 | d + 1, m, i, l, hi, hm, hl, h => by
  obtain ⟨m, rfl⟩ := pos1 (m := m) (by omega)
  by_cases hlt : i < ds.length
  ·have m1 := Int.emod_nonneg (List.getD ds i 0) (show (1099511627776 : Int) ≠ 0 by omega)
   have m2 := Int.emod_lt_of_pos (List.getD ds i 0) (show (0 : Int) < 1099511627776 by omega)
   obtain ⟨x, e41, hx⟩ := R72_ok l (by omega) (by omega) 4 0 k (List.getD ds i 0 % 1099511627776) rfl (by omega) m1 (by omega)
   have e41' : F72 k (List.getD ds i 0 % 1099511627776) l 0 = some ((x, ()), (l, ())) := e41
   obtain ⟨l', e, hl'⟩ := F49_0_ok k ds hk d m (i + 1) (l ++ [(List.getD nms (4 + i) ByteArray.empty, (x, ()))]) (by omega) (by omega) (by rw [List.length_append, List.length_singleton]; omega) (defs_add h hx)
   refine ⟨l', ?_, hl'⟩
   have h4 : IntKind.wrap .i64 (4 + (i : Int)) = ((4 + i : Nat) : Int) := by rw [w64 _ (by omega) (by omega)]; omega
   have hn : (0 : Int) ≤ ((4 + i : Nat) : Int) ∧ ((4 + i : Nat) : Int) < ((nms.length : Nat) : Int) := by simp only [nms, List.length_cons, List.length_nil]; omega
   have hc : (l.length + [(List.getD nms (4 + i) ByteArray.empty, (x, ()))].length) * (80 * 2) ≤ 281474976710656 ∧ l.length + [(List.getD nms (4 + i) ByteArray.empty, (x, ()))].length ≤ 9223372036854775807 := by rw [List.length_singleton]; omega
   simp only [F49_0, one_list]
   rw [dlt hlt, cond_true, decide_eq_true (by omega), cond_true, if_pos (inR hlt), F71_eq, Option.bind_some, h4]
   simp only
   rw [if_pos hn, tnI i, tnI (4 + i), F50_eq k _ _ (by omega) (by omega), Option.bind_some]
   simp only
   rw [e41', Option.bind_some]
   simp only
   rw [if_pos hc, show IntKind.wrap .i64 ((i : Int) + 1) = ((i + 1 : Nat) : Int) by rw [w64 _ (by omega) (by omega)]; omega, e, Option.bind_some]
  ·refine ⟨l, ?_, by omega, by omega, h⟩
   simp only [F49_0]
   rw [decide_eq_false (by omega), cond_false]
def rngC (lo hi : Int) : ClsT := Tree.mk (1, (lo, (hi, (ByteArray.empty, ())))) []
def defs4 : List DefT := [(⟨#[97]⟩, (rngC 97 97, ())), (⟨#[118]⟩, (rngC 97 99, ())), (⟨#[100]⟩, (Tree.mk (5, (0, (0, (ByteArray.empty, ())))) [rngC 48 57, rngC 19968 20223], ())),
 (⟨#[115]⟩, (Tree.mk (7, (0, (0, (ByteArray.empty, ())))) [Tree.mk (3, (0, (0, (ByteArray.empty, ())))) [], Tree.mk (2, (0, (0, (⟨#[118]⟩, ())))) []], ()))]
theorem defs4_ok : DefsP defs4 := fun j hj => by
 match j, hj with
 | 0, _ => exact .inl ⟨rfl, .inl rfl⟩
 | 1, _ => exact .inl ⟨rfl, .inl rfl⟩
 | 2, _ => exact .inr (.inr ⟨.inl rfl, _, _, rfl, .inl ⟨rfl, .inl rfl⟩, .inl ⟨rfl, .inl rfl⟩⟩)
 | 3, _ => exact .inr (.inr ⟨.inr (.inr rfl), _, _, rfl, .inl ⟨rfl, .inr (.inr rfl)⟩, .inl ⟨rfl, .inr (.inl ⟨rfl, 1, by omega, rfl⟩)⟩⟩)
 | j + 4, h => simp only [defs4, List.length_cons, List.length_nil] at h; omega
theorem F70_eq (k : Nat) (a b : Int) : F70 k a b = some ((rngC a b, ()), ()) := rfl
theorem F49_ok (k : Nat) (ds : List Int) (hk : 10000000 ≤ k) : ∃ l, F49 k ds = some ((l, ()), ()) ∧ 4 ≤ l.length ∧ l.length ≤ 6 ∧ DefsP l := by
 obtain ⟨l, e, h1, h2, h3⟩ := F49_0_ok k ds hk 2 k 0 defs4 rfl (by omega) rfl defs4_ok
 refine ⟨l, ?_, h1, h2, h3⟩
 unfold F49
 simp only [F70_eq, Option.bind_some]
 have e' : F49_0 k k ds 0 defs4 = some ((), (l, ())) := e
 show (F49_0 k k ds 0 defs4).bind _ = _
 rw [e', Option.bind_some]
abbrev RgE := Int × (Int × Unit)
abbrev RgT := List RgE
def RgP (r : RgE) : Prop := 0 ≤ r.1 ∧ r.1 ≤ r.2.1 ∧ r.2.1 ≤ 1114111
def LoS (l : RgT) : Prop := l.Pairwise (fun a b => a.1 ≤ b.1) ∧ ∀ r ∈ l, RgP r
def RgS (l : RgT) : Prop := l.Pairwise (fun a b => a.2.1 + 2 ≤ b.1) ∧ ∀ r ∈ l, RgP r
theorem rgS_len {l : RgT} (h : RgS l) : l.length ≤ 1114112 := by
 have key : ∀ (l : RgT) (c : Nat), RgS l → (∀ r ∈ l, (c : Int) ≤ r.1) → c + l.length ≤ 1114112 ∨ l = [] := by
  intro l
  induction l with
  | nil => intro c _ _; exact .inr rfl
  | cons a l ih =>
   intro c hs hc
   obtain ⟨h1, h2⟩ := List.pairwise_cons.1 hs.1
   have ga := hs.2 a List.mem_cons_self
   have ha := hc a List.mem_cons_self
   unfold RgP at ga
   left
   rcases ih (c + 1) ⟨h2, fun r hr => hs.2 r (List.mem_cons_of_mem _ hr)⟩ (fun r hr => by have := h1 r hr; omega) with q | q
   ·simp only [List.length_cons]; omega
   ·subst q
    simp only [List.length_cons, List.length_nil]
    omega
 rcases key l 0 h (fun r hr => by have := h.2 r hr; unfold RgP at this; omega) with q | q
 ·omega
 ·subst q; simp
def posL (x : Int) (l : RgT) (p : Nat) : Prop := p ≤ l.length ∧ (∀ r ∈ l.take p, r.1 ≤ x) ∧ ∀ r ∈ l.drop p, x < r.1
theorem F84_0_ok (k : Nat) (t0 : RgT) (t4 : Int) (x : RgE) (l : RgT) (hl : LoS l) (hn : l.length ≤ 100000000) : ∀ (p m : Nat), p < m → p ≤ l.length → (∀ r ∈ l.drop p, x.1 < r.1) → ∃ q : Nat, F84_0 k m t0 t4 (p : Int) x l = some ((t0, (t4, ((q : Int), ()))), (x, (l, ()))) ∧ posL x.1 l q
 | 0, m, hm, hp, hd => by
  obtain ⟨m, rfl⟩ := pos1 (m := m) (by omega)
  refine ⟨0, ?_, Nat.zero_le _, (fun r hr => by simp at hr), hd⟩
  simp only [F84_0]
  rw [decide_eq_false (by omega), cond_false]
 | p + 1, m, hm, hp, hd => by
  obtain ⟨m, rfl⟩ := pos1 (m := m) (by omega)
  have hlt : p < l.length := by omega
  have hw : IntKind.wrap .i64 (((p + 1 : Nat) : Int) - 1) = (p : Int) := by rw [w64 _ (by omega) (by omega)]; omega
  simp only [F84_0, hw]
  rw [decide_eq_true (by omega), cond_true, if_pos (inR hlt), tnI p, getD_lt l p _ hlt]
  by_cases hx : x.1 < l[p].1
  ·rw [decide_eq_true hx, cond_true, Option.bind_fun_some]
   refine F84_0_ok k t0 t4 x l hl hn p m (by omega) (by omega) fun r hr => ?_
   rw [List.drop_eq_getElem_cons hlt] at hr
   rcases List.mem_cons.1 hr with e | e
   ·rw [e]; exact hx
   ·exact hd r e
  ·rw [decide_eq_false hx, cond_false]
   refine ⟨p + 1, rfl, hp, fun r hr => ?_, hd⟩
   rw [List.take_succ_eq_append_getElem hlt] at hr
   rcases List.mem_append.1 hr with e | e
   ·have h2 := hl.1
    rw [← List.take_append_drop p l, List.drop_eq_getElem_cons hlt] at h2
    have := (List.pairwise_append.1 h2).2.2 r e l[p] List.mem_cons_self
    omega
   ·rw [List.mem_singleton] at e
    rw [e]; omega
theorem ins_LoS {x : RgE} {l : RgT} {p : Nat} (hl : LoS l) (hx : RgP x) (hp : posL x.1 l p) : LoS (l.take p ++ [x] ++ l.drop p) := by
 obtain ⟨h1, h2, h3⟩ := hp
 have hs := hl.1
 rw [← List.take_append_drop p l] at hs
 obtain ⟨g1, g2, g3⟩ := List.pairwise_append.1 hs
 constructor
 ·refine List.pairwise_append.2 ⟨List.pairwise_append.2 ⟨g1, List.pairwise_singleton _ _, fun a ha b hb => ?_⟩, g2, fun a ha b hb => ?_⟩
  ·rw [List.mem_singleton.1 hb]; exact h2 a ha
  ·rcases List.mem_append.1 ha with e | e
   ·exact g3 a e b hb
   ·rw [List.mem_singleton.1 e]
    have := h3 b hb
    omega
 ·intro r hr
  rcases List.mem_append.1 hr with e | e
  ·rcases List.mem_append.1 e with e | e
   ·exact hl.2 r (List.mem_of_mem_take e)
   ·rw [List.mem_singleton.1 e]; exact hx
  ·exact hl.2 r (List.mem_of_mem_drop e)
end Go.Proofs.YtibammoednhnoaaE
set_option linter.unusedSimpArgs false
set_option linter.unusedVariables false
set_option maxRecDepth 20000
namespace Go.Proofs.YtibammoednhnoaaE
theorem F84_1_ok (k : Nat) (t0 : RgT) (hn : t0.length ≤ 5000000) (hk : 10000000 ≤ k) : ∀ (d m i : Nat) (l : RgT), i + d = t0.length → d < m → LoS l → l.length ≤ i → ∃ l', F84_1 k m t0 (i : Int) l = some ((), (l', ())) ∧ LoS l' ∧ l'.length ≤ t0.length
 | 0, m, i, l, hi, hm, hl, hli => by
  obtain ⟨m, rfl⟩ := pos1 (m := m) (by omega)
  obtain rfl : i = t0.length := by omega
  refine ⟨l, ?_, hl, hli⟩
  simp only [F84_1]
  rw [dnlt, cond_false]
 | d + 1, m, i, l, hi, hm, hl, hli => by
  obtain ⟨m, rfl⟩ := pos1 (m := m) (by omega)
  have hlt : i < t0.length := by omega
  simp only [F84_1]
  rw [dlt hlt, cond_true, if_pos (inR hlt), if_pos (inR hlt), tnI i, getD_lt t0 i _ hlt, wsucc i _ hlt (by omega)]
  by_cases hx : maxI t0[i].1 0 > minI t0[i].2.1 1114111
  ·rw [decide_eq_true hx, cond_true, Option.bind_fun_some]
   exact F84_1_ok k t0 hn hk d m (i + 1) l (by omega) (by omega) hl (by omega)
  ·have hxp : RgP (maxI t0[i].1 0, (minI t0[i].2.1 1114111, ())) := by
    have m1 : 0 ≤ maxI t0[i].1 0 := by unfold maxI; split <;> omega
    have m2 : minI t0[i].2.1 1114111 ≤ 1114111 := by unfold minI; split <;> omega
    exact ⟨m1, by simp only; omega, m2⟩
   obtain ⟨q, e, hq⟩ := F84_0_ok k t0 (i : Int) (maxI t0[i].1 0, (minI t0[i].2.1 1114111, ())) l hl (by omega) l.length k (by omega) (Nat.le_refl _) (fun r hr => by rw [List.drop_length] at hr; cases hr)
   have hql := hq.1
   have ht : (l.drop q).take (l.length - q) = l.drop q := List.take_of_length_le (by rw [List.length_drop]; omega)
   have h1 : (0 + (l.take q).length) * (16 * 2) ≤ 281474976710656 ∧ 0 + (l.take q).length ≤ 9223372036854775807 := by rw [List.length_take]; omega
   have h2 : ((l.take q).length + [(maxI t0[i].1 0, (minI t0[i].2.1 1114111, ()))].length) * (16 * 2) ≤ 281474976710656 ∧ (l.take q).length + [(maxI t0[i].1 0, (minI t0[i].2.1 1114111, ()))].length ≤ 9223372036854775807 := by rw [List.length_take, List.length_singleton]; omega
   have h3 : ((l.take q ++ [(maxI t0[i].1 0, (minI t0[i].2.1 1114111, ()))]).length + (l.drop q).length) * (16 * 2) ≤ 281474976710656 ∧ (l.take q ++ [(maxI t0[i].1 0, (minI t0[i].2.1 1114111, ()))]).length + (l.drop q).length ≤ 9223372036854775807 := by rw [List.length_append, List.length_take, List.length_singleton, List.length_drop]; omega
   obtain ⟨l', e2, hl'⟩ := F84_1_ok k t0 hn hk d m (i + 1) (l.take q ++ [(maxI t0[i].1 0, (minI t0[i].2.1 1114111, ()))] ++ l.drop q) (by omega) (by omega) (ins_LoS hl hxp hq) (by rw [List.length_append, List.length_append, List.length_take, List.length_singleton, List.length_drop]; omega)
   refine ⟨l', ?_, hl'⟩
   rw [decide_eq_false hx, cond_false, e, Option.bind_some]
   simp only [List.replicate_zero, List.nil_append, List.length_nil, one_list]
   rw [if_pos (by omega), if_pos (by omega), tnI q, tnI (l.length), show Int.toNat 0 = 0 from rfl, Nat.sub_zero, List.drop_zero, ht, if_pos h1, if_pos h2, if_pos h3, wsucc i _ hlt (by omega), e2, Option.bind_some]
theorem F84_ok (k : Nat) (l : RgT) (hn : l.length ≤ 5000000) (hk : 10000000 ≤ k) : ∃ l', F84 k l = some ((l', ()), ()) ∧ LoS l' ∧ l'.length ≤ l.length := by
 obtain ⟨l', e, h⟩ := F84_1_ok k l hn hk l.length k 0 [] (Nat.zero_add _) (by omega) ⟨List.Pairwise.nil, fun r hr => by cases hr⟩ (Nat.le_refl _)
 refine ⟨l', ?_, h⟩
 have e' : F84_1 k k l 0 [] = some ((), (l', ())) := e
 unfold F84
 rw [e', Option.bind_some]
theorem F74_0_ok (k : Nat) (t : RgT) (hn : t.length ≤ 5000000) (ht : LoS t) : ∀ (d m i : Nat) (out : RgT), i + d = t.length → d < m → RgS out → out.length ≤ i → (∀ o ∈ out, ∀ r ∈ t.drop i, o.1 ≤ r.1) → ∃ out', F74_0 k m (i : Int) t out = some ((), (out', ())) ∧ RgS out'
 | 0, m, i, out, hi, hm, ho, hol, hlo => by
  obtain ⟨m, rfl⟩ := pos1 (m := m) (by omega)
  obtain rfl : i = t.length := by omega
  refine ⟨out, ?_, ho⟩
  simp only [F74_0]
  rw [dnlt, cond_false]
 | d + 1, m, i, out, hi, hm, ho, hol, hlo => by
  obtain ⟨m, rfl⟩ := pos1 (m := m) (by omega)
  have hlt : i < t.length := by omega
  have hx := ht.2 _ (List.getElem_mem hlt)
  have hd : t.drop i = t[i] :: t.drop (i + 1) := List.drop_eq_getElem_cons hlt
  have hup : ∀ r ∈ t.drop (i + 1), t[i].1 ≤ r.1 := by
   have h2 := ht.1
   rw [← List.take_append_drop i t, hd] at h2
   exact (List.pairwise_cons.1 (List.pairwise_append.1 h2).2.1).1
  have hone : List.set (List.replicate 1 ((0 : Int), ((0 : Int), ()))) 0 t[i] = [t[i]] := one_list _ _
  have hc : (out.length + [t[i]].length) * (16 * 2) ≤ 281474976710656 ∧ out.length + [t[i]].length ≤ 9223372036854775807 := by rw [List.length_singleton]; omega
  simp only [F74_0]
  rw [dlt hlt, cond_true, if_pos (inR hlt), tnI i, getD_lt t i _ hlt, wsucc i _ hlt (by omega), hone]
  rcases Nat.eq_zero_or_pos out.length with h0 | h0
  ·have hnil : out = [] := List.eq_nil_of_length_eq_zero h0
   subst hnil
   rw [decide_eq_false (by rw [w64 _ (by simp) (by simp)]; simp), cond_false, if_pos (inR hlt), if_pos hc]
   obtain ⟨out', e, h⟩ := F74_0_ok k t hn ht d m (i + 1) [t[i]] (by omega) (by omega) ⟨List.pairwise_singleton _ _, fun r hr => by rw [List.mem_singleton.1 hr]; exact hx⟩ (by simp) (fun o ho r hr => by rw [List.mem_singleton.1 ho]; exact hup r hr)
   exact ⟨out', by rw [List.nil_append, e]; rfl, h⟩
  ·obtain ⟨n, hn'⟩ : ∃ n, out.length = n + 1 := ⟨out.length - 1, by omega⟩
   have hw : IntKind.wrap .i64 (((out.length : Nat) : Int) - 1) = (n : Int) := by rw [w64 _ (by omega) (by omega)]; omega
   have hnl : n < out.length := by omega
   have hspl : out = out.take n ++ [out[n]] := by
    conv => lhs; rw [← List.take_append_drop n out, List.drop_eq_getElem_cons hnl, List.drop_eq_nil_of_le (show out.length ≤ n + 1 by omega)]
   have hon := ho.2 _ (List.getElem_mem hnl)
   have hlo' := hlo _ (List.getElem_mem hnl) t[i] (by rw [hd]; exact List.mem_cons_self)
   unfold RgP at hx hon
   rw [hw, decide_eq_true (by omega), cond_true, if_pos (inR hlt), if_pos (inR hnl), tnI n, getD_lt out n _ hnl, w64 (out[n].2.1 + 1) (by omega) (by omega)]
   by_cases hm' : t[i].1 ≤ out[n].2.1 + 1
   ·rw [decide_eq_true hm', cond_true, if_pos (inR hnl)]
    have hset : out.set n (out[n].1, (maxI out[n].2.1 t[i].2.1, out[n].2.2)) = out.take n ++ [(out[n].1, (maxI out[n].2.1 t[i].2.1, ()))] := by
     rw [List.set_eq_take_append_cons_drop, if_pos hnl, List.drop_eq_nil_of_le (show out.length ≤ n + 1 by omega)]
    have hmx : out[n].2.1 ≤ maxI out[n].2.1 t[i].2.1 ∧ maxI out[n].2.1 t[i].2.1 ≤ 1114111 := by unfold maxI; split <;> omega
    have hs := ho.1
    rw [hspl] at hs
    obtain ⟨g1, g2, g3⟩ := List.pairwise_append.1 hs
    have hS : RgS (out.take n ++ [(out[n].1, (maxI out[n].2.1 t[i].2.1, ()))]) := by
     refine ⟨List.pairwise_append.2 ⟨g1, List.pairwise_singleton _ _, fun a ha b hb => ?_⟩, fun r hr => ?_⟩
     ·rw [List.mem_singleton.1 hb]
      exact g3 a ha out[n] (List.mem_singleton.2 rfl)
     ·rcases List.mem_append.1 hr with e | e
      ·exact ho.2 r (List.mem_of_mem_take e)
      ·rw [List.mem_singleton.1 e]
       exact ⟨hon.1, by simp only; omega, hmx.2⟩
    obtain ⟨out', e, h⟩ := F74_0_ok k t hn ht d m (i + 1) (out.take n ++ [(out[n].1, (maxI out[n].2.1 t[i].2.1, ()))]) (by omega) (by omega) hS (by rw [List.length_append, List.length_take, List.length_singleton]; omega) (fun o ho' r hr => by
     have hr' : r ∈ t.drop i := by rw [hd]; exact List.mem_cons_of_mem _ hr
     rcases List.mem_append.1 ho' with e | e
     ·exact hlo o (List.mem_of_mem_take e) r hr'
     ·rw [List.mem_singleton.1 e]
      exact hlo _ (List.getElem_mem hnl) r hr')
    exact ⟨out', by rw [if_pos (inR hnl), hset, e]; rfl, h⟩
   ·rw [decide_eq_false hm', cond_false, if_pos (inR hlt), if_pos hc]
    have hs := ho.1
    have hS : RgS (out ++ [t[i]]) := by
     refine ⟨List.pairwise_append.2 ⟨hs, List.pairwise_singleton _ _, fun a ha b hb => ?_⟩, fun r hr => ?_⟩
     ·rw [List.mem_singleton.1 hb]
      rw [hspl] at ha hs
      obtain ⟨g1, g2, g3⟩ := List.pairwise_append.1 hs
      rcases List.mem_append.1 ha with e | e
      ·have := g3 a e _ (List.mem_singleton.2 rfl)
       omega
      ·rw [List.mem_singleton.1 e]; omega
     ·rcases List.mem_append.1 hr with e | e
      ·exact ho.2 r e
      ·rw [List.mem_singleton.1 e]; exact hx
    obtain ⟨out', e, h⟩ := F74_0_ok k t hn ht d m (i + 1) (out ++ [t[i]]) (by omega) (by omega) hS (by rw [List.length_append, List.length_singleton]; omega) (fun o ho' r hr => by
     have hr' : r ∈ t.drop i := by rw [hd]; exact List.mem_cons_of_mem _ hr
     rcases List.mem_append.1 ho' with e | e
     ·exact hlo o e r hr'
     ·rw [List.mem_singleton.1 e]; exact hup r hr)
    exact ⟨out', by rw [e]; rfl, h⟩
theorem F74_ok (k : Nat) (l : RgT) (hn : l.length ≤ 5000000) (hk : 10000000 ≤ k) : ∃ l', F74 k l = some ((l', ()), ()) ∧ RgS l' := by
 obtain ⟨t, e1, ht, htl⟩ := F84_ok k l hn hk
 obtain ⟨l', e, h⟩ := F74_0_ok k t (by omega) ht t.length k 0 [] (Nat.zero_add _) (by omega) ⟨List.Pairwise.nil, fun r hr => by cases hr⟩ (Nat.le_refl _) (fun o ho => by cases ho)
 refine ⟨l', ?_, h⟩
 have e' : F74_0 k k 0 t [] = some ((), (l', ())) := e
 unfold F74
 rw [e1, Option.bind_some]
 simp only
 rw [e', Option.bind_some]
theorem F75_0_ok (k : Nat) (t : RgT) (hn : t.length ≤ 4000000) : ∀ (d m i : Nat) (x : Int) (l : RgT), i + d = t.length → d < m → l.length = i → ∃ (y : Int) (l' : RgT), F75_0 k m t x (i : Int) l = some ((y, ()), (l', ())) ∧ l'.length = t.length
 | 0, m, i, x, l, hi, hm, hl => by
  obtain ⟨m, rfl⟩ := pos1 (m := m) (by omega)
  obtain rfl : i = t.length := by omega
  refine ⟨x, l, ?_, hl⟩
  simp only [F75_0]
  rw [dnlt, cond_false]
 | d + 1, m, i, x, l, hi, hm, hl => by
  obtain ⟨m, rfl⟩ := pos1 (m := m) (by omega)
  have hlt : i < t.length := by omega
  obtain ⟨y, l', e, h⟩ := F75_0_ok k t hn d m (i + 1) (IntKind.wrap .i64 (t[i].2.1 + 1)) (l ++ [(x, (IntKind.wrap .i64 (t[i].1 - 1), ()))]) (by omega) (by omega) (by rw [List.length_append, List.length_singleton]; omega)
  refine ⟨y, l', ?_, h⟩
  have hc : (l.length + [(x, (IntKind.wrap .i64 (t[i].1 - 1), ()))].length) * (16 * 2) ≤ 281474976710656 ∧ l.length + [(x, (IntKind.wrap .i64 (t[i].1 - 1), ()))].length ≤ 9223372036854775807 := by rw [List.length_singleton]; omega
  simp only [F75_0, one_list]
  rw [dlt hlt, cond_true, if_pos (inR hlt), tnI i, getD_lt t i _ hlt, if_pos hc, if_pos (inR hlt), wsucc i _ hlt (by omega), e]
  rfl
theorem F75_ok (k : Nat) (t : RgT) (hn : t.length ≤ 4000000) (hk : 10000000 ≤ k) : ∃ l', F75 k t = some ((l', ()), ()) ∧ RgS l' := by
 obtain ⟨y, l, e, hl⟩ := F75_0_ok k t hn t.length k 0 0 [] (Nat.zero_add _) (by omega) rfl
 obtain ⟨l', e2, h⟩ := F74_ok k (l ++ [(y, (1114111, ()))]) (by rw [List.length_append, List.length_singleton]; omega) hk
 refine ⟨l', ?_, h⟩
 have e' : F75_0 k k t 0 0 [] = some ((y, ()), (l, ())) := e
 have hc : (l.length + [(y, ((1114111 : Int), ()))].length) * (16 * 2) ≤ 281474976710656 ∧ l.length + [(y, ((1114111 : Int), ()))].length ≤ 9223372036854775807 := by rw [List.length_singleton]; omega
 unfold F75
 rw [e', Option.bind_some]
 simp only [one_list]
 rw [if_pos hc, e2, Option.bind_some]
theorem F76_ok (k : Nat) (a b : RgT) (ha : a.length ≤ 1200000) (hb : b.length ≤ 1200000) (hk : 10000000 ≤ k) : ∃ l', F76 k a b = some ((l', ()), ()) ∧ RgS l' := by
 obtain ⟨l', e2, h⟩ := F74_ok k (a ++ b) (by rw [List.length_append]; omega) hk
 refine ⟨l', ?_, h⟩
 unfold F76
 simp only [List.replicate_zero, List.nil_append, List.length_nil]
 rw [if_pos (by omega), if_pos (by omega), e2, Option.bind_some]
theorem F77_ok (k : Nat) (a b : RgT) (ha : a.length ≤ 1200000) (hb : b.length ≤ 1200000) (hk : 10000000 ≤ k) : ∃ l', F77 k a b = some ((l', ()), ()) ∧ RgS l' := by
 obtain ⟨x, e1, h1⟩ := F75_ok k a (by omega) hk
 obtain ⟨y, e2, h2⟩ := F75_ok k b (by omega) hk
 have l1 := rgS_len h1
 have l2 := rgS_len h2
 obtain ⟨z, e3, h3⟩ := F76_ok k x y (by omega) (by omega) hk
 have l3 := rgS_len h3
 obtain ⟨l', e4, h⟩ := F75_ok k z (by omega) hk
 refine ⟨l', ?_, h⟩
 unfold F77
 rw [e1, Option.bind_some, e2, Option.bind_some]
 simp only
 rw [e3, Option.bind_some]
 simp only
 rw [e4, Option.bind_some]
theorem F78_ok (k : Nat) (a b : RgT) (ha : a.length ≤ 1200000) (hb : b.length ≤ 1200000) (hk : 10000000 ≤ k) : ∃ l', F78 k a b = some ((l', ()), ()) ∧ RgS l' := by
 obtain ⟨y, e2, h2⟩ := F75_ok k b (by omega) hk
 have l2 := rgS_len h2
 obtain ⟨l', e4, h⟩ := F77_ok k a y ha (by omega) hk
 refine ⟨l', ?_, h⟩
 unfold F78
 rw [e2, Option.bind_some]
 simp only
 rw [e4, Option.bind_some]
abbrev CUnf := Int × (Int × (Int × (ByteArray × (List ClsT × Unit))))
def RgL (l : List RgT) : Prop := ∀ s ∈ l, RgS s
theorem rgL_at {l : List RgT} (h : RgL l) (i : Nat) : RgS (List.getD l i []) := by
 by_cases hi : i < l.length
 ·exact h _ (getD_mem hi)
 ·rw [List.getD_eq_getElem?_getD, List.getElem?_eq_none (by omega)]
  exact ⟨List.Pairwise.nil, fun r hr => by cases hr⟩
theorem F52_0_ok (k : Nat) (f : ClsT → FileT → List RgT → Option ((RgT × Unit) × (List RgT × Unit))) (c : CUnf) (fl : FileT) (sets : List RgT) (hn : c.2.2.2.2.1.length ≤ 1000) (hf : ∀ p ∈ c.2.2.2.2.1, ∃ o, f p fl sets = some ((o, ()), (sets, ())) ∧ RgS o) : ∀ (d m i : Nat) (acc : List RgT), i + d = c.2.2.2.2.1.length → d < m → acc.length = i → RgL acc →
  ∃ outs, F52_0 k f m (i : Int) sets c fl acc = some ((), (sets, (c, (fl, (outs, ()))))) ∧ outs.length = c.2.2.2.2.1.length ∧ RgL outs
 | 0, m, i, acc, hi, hm, hl, h => by
  obtain ⟨m, rfl⟩ := pos1 (m := m) (by omega)
  obtain rfl : i = c.2.2.2.2.1.length := by omega
  refine ⟨acc, ?_, hl, h⟩
  simp only [F52_0]
  rw [dnlt, cond_false]
 | d + 1, m, i, acc, hi, hm, hl, h => by
  obtain ⟨m, rfl⟩ := pos1 (m := m) (by omega)
  have hlt : i < c.2.2.2.2.1.length := by omega
  obtain ⟨o, e, ho⟩ := hf _ (List.getElem_mem hlt)
  obtain ⟨outs, e2, h2⟩ := F52_0_ok k f c fl sets hn hf d m (i + 1) (acc ++ [o]) (by omega) (by omega) (by rw [List.length_append, List.length_singleton]; omega) (mem_app h fun s hs => by rw [List.mem_singleton.1 hs]; exact ho)
  refine ⟨outs, ?_, h2⟩
  have hc : (acc.length + [o].length) * (24 * 2) ≤ 281474976710656 ∧ acc.length + [o].length ≤ 9223372036854775807 := by rw [List.length_singleton]; omega
  simp only [F52_0, one_list]
  rw [dlt hlt, cond_true, if_pos (inR hlt), tnI i, getD_lt _ i _ hlt, e, Option.bind_some]
  simp only
  rw [if_pos hc, wsucc i _ hlt (by omega), e2]
  rfl
theorem R52_ok (P : ByteArray → Prop) (fl : FileT) (hfl : fl.1.length ≤ 1000) (sets : List RgT) (hP : ∀ nm, P nm → 0 ≤ fnd fl.1 nm ∧ fnd fl.1 nm < ((sets.length : Nat) : Int)) (hs : RgL sets) : ∀ (h k : Nat) (c : ClsT), h ≤ 10 → ClsP P h c → h + 10000000 < k → ∃ o, R52 k c fl sets = some ((o, ()), (sets, ())) ∧ RgS o := by
 have leaf : ∀ (k : Nat) (c : ClsT), ClsL P c → 10000000 < k → ∃ o, R52 k c fl sets = some ((o, ()), (sets, ())) ∧ RgS o := by
  intro k c hc hk
  obtain ⟨k, rfl⟩ : ∃ k', k = k' + 1 := ⟨k - 1, by omega⟩
  obtain ⟨hl, hc⟩ := hc
  obtain ⟨outs, e, _⟩ := F52_0_ok k (R52 k) (c.a.1, (c.a.2.1, (c.a.2.2.1, (c.a.2.2.2.1, (c.l, ()))))) fl sets (show c.l.length ≤ 1000 by rw [hl]; simp) (fun p hp => by
   have hp' : p ∈ c.l := hp
   rw [hl] at hp'; cases hp') c.l.length k 0 [] (Nat.zero_add _) (by rw [hl]; simp only [List.length_nil]; omega) rfl (fun s hs => by cases hs)
  rw [show ((0 : Nat) : Int) = 0 from rfl] at e
  show ∃ o, B52 k (R52 k) c fl sets = some ((o, ()), (sets, ())) ∧ RgS o
  unfold B52
  rw [e, Option.bind_some]
  simp only
  rcases hc with a | ⟨a, hn⟩ | a
  ·obtain ⟨o, e1, h1⟩ := F74_ok k [(c.a.2.1, (c.a.2.2.1, ()))] (by simp) (by omega)
   rw [a, show ((1 : Int) == 1) = true from rfl, cond_true, one_list, e1, Option.bind_some]
   exact ⟨o, rfl, h1⟩
  ·obtain ⟨g1, g2⟩ := hP _ hn
   rw [a, show ((2 : Int) == 1) = false from rfl, cond_false, show ((2 : Int) == 2) = true from rfl, cond_true, F66_ok k fl _ hfl (by omega), Option.bind_some]
   simp only
   rw [if_pos ⟨g1, g2⟩]
   exact ⟨_, rfl, rgL_at hs _⟩
  ·obtain ⟨o, e1, h1⟩ := F75_ok k [] (by simp) (by omega)
   rw [a, show ((3 : Int) == 1) = false from rfl, cond_false, show ((3 : Int) == 2) = false from rfl, cond_false, show ((3 : Int) == 3) = true from rfl, cond_true, e1, Option.bind_some]
   exact ⟨o, rfl, h1⟩
 intro h
 induction h with
 | zero => intro k c _ hc hk; exact leaf k c hc (by omega)
 | succ h ih =>
  intro k c h10 hc hk
  rcases hc with hc | hc
  ·exact leaf k c hc (by omega)
  obtain ⟨k, rfl⟩ : ∃ k', k = k' + 1 := ⟨k - 1, by omega⟩
  have hall : ∀ p ∈ c.l, ClsP P h p := by
   rcases hc with ⟨a, p, e, hp⟩ | ⟨a, p, q, e, hp, hq⟩
   ·rw [e]
    intro y hy
    rw [List.mem_singleton.1 hy]; exact hp
   ·rw [e]
    intro y hy
    simp only [List.mem_cons, List.not_mem_nil, or_false] at hy
    rcases hy with rfl | rfl <;> assumption
  have hlen : c.l.length ≤ 2 := by
   rcases hc with ⟨a, p, e, hp⟩ | ⟨a, p, q, e, hp, hq⟩ <;> rw [e] <;> simp
  obtain ⟨outs, e, ho, hr⟩ := F52_0_ok k (R52 k) (c.a.1, (c.a.2.1, (c.a.2.2.1, (c.a.2.2.2.1, (c.l, ()))))) fl sets (show c.l.length ≤ 1000 by omega) (fun p hp => ih k p (by omega) (hall p hp) (by omega)) c.l.length k 0 [] (Nat.zero_add _) (by omega) rfl (fun s hs => by cases hs)
  rw [show ((0 : Nat) : Int) = 0 from rfl] at e
  have ho' : outs.length = c.l.length := ho
  have r0 := rgL_at hr 0
  have r1 := rgL_at hr 1
  have l0 := rgS_len r0
  have l1 := rgS_len r1
  show ∃ o, B52 k (R52 k) c fl sets = some ((o, ()), (sets, ())) ∧ RgS o
  unfold B52
  rw [e, Option.bind_some]
  simp only [show Int.toNat 0 = 0 from rfl, show Int.toNat 1 = 1 from rfl]
  rcases hc with ⟨a, p, ep, hp⟩ | ⟨a, p, q, ep, hp, hq⟩
  ·rw [ep] at ho'
   have i0 : (0 : Int) ≤ 0 ∧ (0 : Int) < ((outs.length : Nat) : Int) := by rw [ho']; simp
   obtain ⟨o, e1, h1⟩ := F75_ok k (List.getD outs 0 []) (by omega) (by omega)
   rw [a, show ((4 : Int) == 1) = false from rfl, cond_false, show ((4 : Int) == 2) = false from rfl, cond_false, show ((4 : Int) == 3) = false from rfl, cond_false, show ((4 : Int) == 4) = true from rfl, cond_true, if_pos i0, e1, Option.bind_some]
   exact ⟨o, rfl, h1⟩
  ·rw [ep] at ho'
   have i0 : (0 : Int) ≤ 0 ∧ (0 : Int) < ((outs.length : Nat) : Int) := by rw [ho']; simp
   have i1 : (0 : Int) ≤ 1 ∧ (1 : Int) < ((outs.length : Nat) : Int) := by rw [ho']; simp
   rw [beq_false_of_ne (show ¬ c.a.1 = 1 by omega), cond_false, beq_false_of_ne (show ¬ c.a.1 = 2 by omega), cond_false, beq_false_of_ne (show ¬ c.a.1 = 3 by omega), cond_false, beq_false_of_ne (show ¬ c.a.1 = 4 by omega), cond_false, if_pos i0, if_pos i1]
   rcases a with a | a | a
   ·obtain ⟨o, e1, h1⟩ := F76_ok k (List.getD outs 0 []) (List.getD outs 1 []) (by omega) (by omega) (by omega)
    rw [a, show ((5 : Int) == 5) = true from rfl, cond_true, e1, Option.bind_some]
    exact ⟨o, rfl, h1⟩
   ·obtain ⟨o, e1, h1⟩ := F77_ok k (List.getD outs 0 []) (List.getD outs 1 []) (by omega) (by omega) (by omega)
    rw [a, show ((6 : Int) == 5) = false from rfl, cond_false, show ((6 : Int) == 6) = true from rfl, cond_true, if_pos i0, if_pos i1, e1, Option.bind_some]
    exact ⟨o, rfl, h1⟩
   ·obtain ⟨o, e1, h1⟩ := F78_ok k (List.getD outs 0 []) (List.getD outs 1 []) (by omega) (by omega) (by omega)
    rw [a, show ((7 : Int) == 5) = false from rfl, cond_false, show ((7 : Int) == 6) = false from rfl, cond_false, if_pos i0, if_pos i1, e1, Option.bind_some]
    exact ⟨o, rfl, h1⟩
theorem fndI_le (nm : ByteArray) : ∀ (l : List DefT) (j i : Nat), j < l.length → (List.getD l j def0).1 = nm → (i : Int) ≤ fndI l nm i ∧ fndI l nm i ≤ ((i + j : Nat) : Int)
 | [], j, i, h, _ => by simp at h
 | d :: l, j, i, h, e => by
  unfold fndI
  by_cases hd : d.1.toList = nm.toList
  ·rw [if_pos hd]; omega
  ·rw [if_neg hd]
   cases j with
   | zero => exact absurd (by rw [List.getD_cons_zero] at e; rw [e]) hd
   | succ j =>
    have := fndI_le nm l j (i + 1) (by simpa using h) (by simpa using e)
    omega
theorem F29_0_ok (k : Nat) (fl : FileT) (hfl : fl.1.length ≤ 1000) (hd : DefsP fl.1) (hk : 20000000 ≤ k) : ∀ (d m i : Nat) (acc : List RgT), i + d = fl.1.length → d < m → acc.length = i → RgL acc →
  ∃ outs, F29_0 k m (i : Int) fl acc = some ((), (outs, ())) ∧ outs.length = fl.1.length ∧ RgL outs
 | 0, m, i, acc, hi, hm, hl, h => by
  obtain ⟨m, rfl⟩ := pos1 (m := m) (by omega)
  obtain rfl : i = fl.1.length := by omega
  refine ⟨acc, ?_, hl, h⟩
  simp only [F29_0]
  rw [dnlt, cond_false]
 | d + 1, m, i, acc, hi, hm, hl, h => by
  obtain ⟨m, rfl⟩ := pos1 (m := m) (by omega)
  have hlt : i < fl.1.length := by omega
  obtain ⟨o, e, ho⟩ := R52_ok _ fl hfl acc (fun nm ⟨j, hj, en⟩ => by
   have := fndI_le nm fl.1 j 0 (by omega) en
   unfold fnd
   omega) h 4 k _ (by omega) (hd i hlt) (by omega)
  have e' : F52 k (List.getD fl.1 i def0).2.1 fl acc = some ((o, ()), (acc, ())) := e
  obtain ⟨outs, e2, h2⟩ := F29_0_ok k fl hfl hd hk d m (i + 1) (acc ++ [o]) (by omega) (by omega) (by rw [List.length_append, List.length_singleton]; omega) (mem_app h fun s hs => by rw [List.mem_singleton.1 hs]; exact ho)
  refine ⟨outs, ?_, h2⟩
  have hc : (acc.length + [o].length) * (24 * 2) ≤ 281474976710656 ∧ acc.length + [o].length ≤ 9223372036854775807 := by rw [List.length_singleton]; omega
  have e'' : F52 k (List.getD fl.1 i (ByteArray.empty, ((Tree.mk ((0 : Int), ((0 : Int), ((0 : Int), (ByteArray.empty, ())))) []), ()))).2.1 fl acc = some ((o, ()), (acc, ())) := e'
  simp only [F29_0, one_list]
  rw [dlt hlt, cond_true, if_pos (inR hlt), tnI i, e'', Option.bind_some]
  simp only
  rw [if_pos hc, wsucc i _ hlt (by omega), e2]
  rfl
theorem F29_ok (k : Nat) (fl : FileT) (hfl : fl.1.length ≤ 1000) (hd : DefsP fl.1) (hk : 20000000 ≤ k) : ∃ sets, F29 k fl = some ((sets, ()), ()) ∧ sets.length = fl.1.length ∧ RgL sets := by
 obtain ⟨outs, e, h⟩ := F29_0_ok k fl hfl hd hk fl.1.length k 0 [] (Nat.zero_add _) (by omega) rfl (fun s hs => by cases hs)
 refine ⟨outs, ?_, h⟩
 have e' : F29_0 k k 0 fl [] = some ((), (outs, ())) := e
 unfold F29
 rw [e', Option.bind_some]
def has (l : RgT) (n : Int) : Bool := l.any fun r => decide (n ≥ r.1) && decide (n ≤ r.2.1)
theorem F55_0_ok (k : Nat) (l : RgT) (x : Int) (hl : l.length ≤ 5000000) : ∀ (d m i : Nat), i + d = l.length → d < m → F55_0 k m l x (i : Int) = some (if has (l.drop i) x = true then .inr ((true, ()), ()) else .inl ((), ()))
 | 0, m, i, hi, hm => by
  obtain ⟨m, rfl⟩ := pos1 (m := m) (by omega)
  obtain rfl : i = l.length := by omega
  simp only [F55_0]
  rw [dnlt, cond_false, List.drop_length]
  rfl
 | d + 1, m, i, hi, hm => by
  obtain ⟨m, rfl⟩ := pos1 (m := m) (by omega)
  have hlt : i < l.length := by omega
  have ih := F55_0_ok k l x hl d m (i + 1) (by omega) (by omega)
  have e : has (l.drop i) x = (decide (x ≥ l[i].1) && decide (x ≤ l[i].2.1) || has (l.drop (i + 1)) x) := by
   rw [List.drop_eq_getElem_cons hlt]
   rfl
  simp only [F55_0]
  rw [dlt hlt, cond_true, if_pos (inR hlt), tnI i, getD_lt l i _ hlt, if_pos (inR hlt), wsucc i _ hlt (by omega), ih, e]
  cases decide (x ≥ l[i].1) with
  | false => rfl
  | true =>
   cases decide (x ≤ l[i].2.1) with
   | false => rfl
   | true => rfl
theorem F55_ok (k : Nat) (l : RgT) (x : Int) (hl : l.length ≤ 5000000) (hk : 10000000 ≤ k) : F55 k l x = some ((has l x, ()), ()) := by
 have e := F55_0_ok k l x hl l.length k 0 (Nat.zero_add _) (by omega)
 rw [List.drop_zero, show ((0 : Nat) : Int) = 0 from rfl] at e
 unfold F55
 rw [e, Option.bind_some]
 cases h : has l x with
 | true => rfl
 | false => rfl
def keyF (x : Int) : List RgT → Int → Int
 | [], t => t
 | s :: l, t => keyF x l (2 * t + (if has s x then 1 else 0))
theorem keyF_range (x : Int) : ∀ (l : List RgT) (t : Int), 0 ≤ t → 0 ≤ keyF x l t
 | [], t, h => h
 | s :: l, t, h => by
  unfold keyF
  apply keyF_range
  split <;> omega
theorem F54_0_ok (k : Nat) (l : List RgT) (x : Int) (hk : 10000000 ≤ k) (hl : l.length ≤ 40) (hr : RgL l) : ∀ (d m i : Nat) (t : Int), i + d = l.length → d < m → 0 ≤ t → t < 2 ^ i → F54_0 k m l x t (i : Int) = some ((keyF x (l.drop i) t, ()), ())
 | 0, m, i, t, hi, hm, h0, h1 => by
  obtain ⟨m, rfl⟩ := pos1 (m := m) (by omega)
  obtain rfl : i = l.length := by omega
  simp only [F54_0]
  rw [dnlt, cond_false, List.drop_length]
  rfl
 | d + 1, m, i, t, hi, hm, h0, h1 => by
  obtain ⟨m, rfl⟩ := pos1 (m := m) (by omega)
  have hlt : i < l.length := by omega
  have hp : (2 : Int) ^ i ≤ 2 ^ 40 := by
   have : (2 : Nat) ^ i ≤ 2 ^ 40 := Nat.pow_le_pow_right (by omega) (by omega)
   exact_mod_cast this
  have hp40 : (2 : Int) ^ 40 = 1099511627776 := by decide
  have hps : (2 : Int) ^ (i + 1) = 2 ^ i * 2 := Int.pow_succ 2 i
  have hlen := rgS_len (hr _ (List.getElem_mem hlt))
  rw [List.drop_eq_getElem_cons hlt, keyF]
  simp only [F54_0]
  rw [dlt hlt, cond_true, if_pos (inR hlt), tnI i, getD_lt l i _ hlt, F55_ok k _ x (by omega) hk, Option.bind_some]
  simp only
  rw [wsucc i _ hlt (by omega), w64 (2 * t) (by omega) (by omega), w64 (2 * t + 1) (by omega) (by omega)]
  cases has l[i] x with
  | true =>
   rw [cond_true, if_pos rfl, F54_0_ok k l x hk hl hr d m (i + 1) (2 * t + 1) (by omega) (by omega) (by omega) (by omega), Option.bind_some]
  | false =>
   rw [cond_false, if_neg (by simp), Int.add_zero, F54_0_ok k l x hk hl hr d m (i + 1) (2 * t) (by omega) (by omega) (by omega) (by omega), Option.bind_some]
theorem F54_ok (k : Nat) (l : List RgT) (x : Int) (hk : 10000000 ≤ k) (hl : l.length ≤ 40) (hr : RgL l) : F54 k l x = some ((keyF x l 0, ()), ()) := by
 have e := F54_0_ok k l x hk hl hr l.length k 0 0 (Nat.zero_add _) (by omega) (Int.le_refl _) (by decide)
 rw [List.drop_zero, show ((0 : Nat) : Int) = 0 from rfl] at e
 unfold F54
 rw [e, Option.bind_some]
def RisL (l : List Int) : Prop := l.Pairwise (· < ·) ∧ ∀ x ∈ l, 0 ≤ x ∧ x ≤ 1114111
theorem risL_len {l : List Int} (h : RisL l) : l.length ≤ 1114112 := by
 have key : ∀ (l : List Int) (c : Nat), RisL l → (∀ r ∈ l, (c : Int) ≤ r) → c + l.length ≤ 1114112 ∨ l = [] := by
  intro l
  induction l with
  | nil => intro c _ _; exact .inr rfl
  | cons a l ih =>
   intro c hs hc
   obtain ⟨h1, h2⟩ := List.pairwise_cons.1 hs.1
   have ga := hs.2 a List.mem_cons_self
   have ha := hc a List.mem_cons_self
   left
   rcases ih (c + 1) ⟨h2, fun r hr => hs.2 r (List.mem_cons_of_mem _ hr)⟩ (fun r hr => by have := h1 r hr; omega) with q | q
   ·simp only [List.length_cons]; omega
   ·subst q
    simp only [List.length_cons, List.length_nil]
    omega
 rcases key l 0 h (fun r hr => by have := h.2 r hr; omega) with q | q
 ·omega
 ·subst q; simp
def insI (x : Int) (l : List Int) (p : Nat) : List Int := l.take p ++ [x] ++ l.drop p
def posI (x : Int) (l : List Int) (p : Nat) : Prop := p ≤ l.length ∧ (∀ r ∈ l.take p, r ≤ x) ∧ ∀ r ∈ l.drop p, x < r
theorem F53_0_ok (k : Nat) (t0 : List RgT) (t4 t5 : Int) (q : Nat) (c l : List Int) (hl : RisL l) (hq : q < c.length) : ∀ (p m : Nat), p < m → p ≤ l.length → (∀ r ∈ l.drop p, List.getD c q 0 < r) → ∃ z : Nat, F53_0 k m t0 t4 t5 (q : Int) (p : Int) c l = some ((t0, (t4, (t5, ((q : Int), ((z : Int), ()))))), (c, (l, ()))) ∧ posI (List.getD c q 0) l z
 | 0, m, hm, hp, hd => by
  obtain ⟨m, rfl⟩ := pos1 (m := m) (by omega)
  refine ⟨0, ?_, Nat.zero_le _, (fun r hr => by simp at hr), hd⟩
  simp only [F53_0]
  rw [decide_eq_false (by omega), cond_false]
 | p + 1, m, hm, hp, hd => by
  obtain ⟨m, rfl⟩ := pos1 (m := m) (by omega)
  have hlt : p < l.length := by omega
  have hlen := risL_len hl
  have hw : IntKind.wrap .i64 (((p + 1 : Nat) : Int) - 1) = (p : Int) := by rw [w64 _ (by omega) (by omega)]; omega
  simp only [F53_0, hw]
  rw [decide_eq_true (by omega), cond_true, if_pos (inR hq), if_pos (inR hlt), tnI p, tnI q, getD_lt l p _ hlt]
  by_cases hx : List.getD c q 0 < l[p]
  ·rw [decide_eq_true hx, cond_true, Option.bind_fun_some]
   refine F53_0_ok k t0 t4 t5 q c l hl hq p m (by omega) (by omega) fun r hr => ?_
   rw [List.drop_eq_getElem_cons hlt] at hr
   rcases List.mem_cons.1 hr with e | e
   ·rw [e]; exact hx
   ·exact hd r e
  ·rw [decide_eq_false hx, cond_false]
   refine ⟨p + 1, rfl, hp, fun r hr => ?_, hd⟩
   rw [List.take_succ_eq_append_getElem hlt] at hr
   rcases List.mem_append.1 hr with e | e
   ·have h2 := hl.1
    rw [← List.take_append_drop p l, List.drop_eq_getElem_cons hlt] at h2
    have := (List.pairwise_append.1 h2).2.2 r e l[p] List.mem_cons_self
    omega
   ·rw [List.mem_singleton] at e
    rw [e]; omega
theorem insI_ris {x : Int} {l : List Int} {p : Nat} (hl : RisL l) (h0 : 0 ≤ x) (h1 : x ≤ 1114111) (hp : posI x l p) (hne : p = 0 ∨ List.getD l (p - 1) 0 ≠ x) : RisL (insI x l p) := by
 obtain ⟨g0, g1, g2⟩ := hp
 have hs := hl.1
 rw [← List.take_append_drop p l] at hs
 obtain ⟨q1, q2, q3⟩ := List.pairwise_append.1 hs
 have hlt : ∀ r ∈ l.take p, r < x := fun r hr => by
  have h := g1 r hr
  rcases hne with e | e
  ·subst e; simp at hr
  ·have hp0 : p ≠ 0 := fun q => by subst q; simp at hr
   have hp1 : p - 1 < l.length := by omega
   rw [getD_lt l _ _ hp1] at e
   have hlast : l[p - 1] ≤ x := g1 _ (by
    have : p - 1 < (l.take p).length := by rw [List.length_take]; omega
    have e2 := List.getElem_mem this
    rwa [List.getElem_take] at e2)
   obtain ⟨j, hj, rfl⟩ := List.getElem_of_mem hr
   rw [List.length_take] at hj
   rw [List.getElem_take]
   by_cases hjp : j = p - 1
   ·subst hjp; omega
   ·have := List.pairwise_iff_getElem.1 hl.1 j (p - 1) (by omega) hp1 (by omega)
    omega
 constructor
 ·refine List.pairwise_append.2 ⟨List.pairwise_append.2 ⟨q1, List.pairwise_singleton _ _, fun a ha b hb => ?_⟩, q2, fun a ha b hb => ?_⟩
  ·rw [List.mem_singleton.1 hb]; exact hlt a ha
  ·rcases List.mem_append.1 ha with e | e
   ·exact q3 a e b hb
   ·rw [List.mem_singleton.1 e]; exact g2 b hb
 ·intro r hr
  rcases List.mem_append.1 hr with e | e
  ·rcases List.mem_append.1 e with e | e
   ·exact hl.2 r (List.mem_of_mem_take e)
   ·rw [List.mem_singleton.1 e]; exact ⟨h0, h1⟩
  ·exact hl.2 r (List.mem_of_mem_drop e)
theorem F53_1_ok (k : Nat) (t0 : List RgT) (t4 t5 : Int) (c : List Int) (hk : 10000000 ≤ k) (hc : c.length = 2) (h0 : ∀ x ∈ c, 0 ≤ x) : ∀ (d m q : Nat) (l : List Int), q + d = 2 → d < m → RisL l → ∃ l', F53_1 k m t0 t4 t5 (q : Int) c l = some ((t0, (t4, (t5, ()))), (l', ())) ∧ RisL l' ∧ (∀ x ∈ l, x ∈ l') ∧ ∀ x ∈ c.drop q, x ≤ 1114111 → x ∈ l'
 | 0, m, q, l, hq, hm, hl => by
  obtain ⟨m, rfl⟩ := pos1 (m := m) (by omega)
  obtain rfl : q = 2 := by omega
  refine ⟨l, ?_, hl, fun x hx => hx, fun x hx => ?_⟩
  ·simp only [F53_1]
   rw [decide_eq_false (by omega), cond_false]
  ·rw [List.drop_eq_nil_of_le (by omega)] at hx; cases hx
 | d + 1, m, q, l, hq, hm, hl => by
  obtain ⟨m, rfl⟩ := pos1 (m := m) (by omega)
  have hlt : q < c.length := by omega
  have hlen := risL_len hl
  obtain ⟨z, e, hz⟩ := F53_0_ok k t0 t4 t5 q c l hl hlt l.length k (by omega) (Nat.le_refl _) (fun r hr => by rw [List.drop_length] at hr; cases hr)
  have hzl := hz.1
  have hcq : List.getD c q 0 = c[q] := getD_lt c q 0 hlt
  have hq0 := h0 _ (List.getElem_mem hlt)
  have hdq : c.drop q = c[q] :: c.drop (q + 1) := List.drop_eq_getElem_cons hlt
  rw [hcq] at hz
  have hwq : IntKind.wrap .i64 ((q : Int) + 1) = ((q + 1 : Nat) : Int) := by rw [w64 _ (by omega) (by omega)]; omega
  have stay : (c[q] ≤ 1114111 → c[q] ∈ l) → ∃ l', (F53_1 k m t0 t4 t5 ((q + 1 : Nat) : Int) c l).bind some = some ((t0, (t4, (t5, ()))), (l', ())) ∧ RisL l' ∧ (∀ x ∈ l, x ∈ l') ∧ ∀ x ∈ c.drop q, x ≤ 1114111 → x ∈ l' := fun hin => by
   obtain ⟨l', e2, h2, h3, h4⟩ := F53_1_ok k t0 t4 t5 c hk hc h0 d m (q + 1) l (by omega) (by omega) hl
   refine ⟨l', by rw [e2]; rfl, h2, h3, fun x hx hx2 => ?_⟩
   rw [hdq] at hx
   rcases List.mem_cons.1 hx with g | g
   ·subst g; exact h3 _ (hin hx2)
   ·exact h4 x g hx2
  have put : c[q] ≤ 1114111 → (z = 0 ∨ List.getD l (z - 1) 0 ≠ c[q]) → ∃ l', (F53_1 k m t0 t4 t5 ((q + 1 : Nat) : Int) c (l.take z ++ [c[q]] ++ l.drop z)).bind some = some ((t0, (t4, (t5, ()))), (l', ())) ∧ RisL l' ∧ (∀ x ∈ l, x ∈ l') ∧ ∀ x ∈ c.drop q, x ≤ 1114111 → x ∈ l' := fun hle hne => by
   have hr := insI_ris hl hq0 hle hz hne
   have hin : ∀ x ∈ l, x ∈ insI c[q] l z := fun x hx => by
    unfold insI
    rw [← List.take_append_drop z l] at hx
    rcases List.mem_append.1 hx with g | g
    ·exact List.mem_append_left _ (List.mem_append_left _ g)
    ·exact List.mem_append_right _ g
   obtain ⟨l', e2, h2, h3, h4⟩ := F53_1_ok k t0 t4 t5 c hk hc h0 d m (q + 1) (insI c[q] l z) (by omega) (by omega) hr
   refine ⟨l', by
    have e3 : F53_1 k m t0 t4 t5 ((q + 1 : Nat) : Int) c (l.take z ++ [c[q]] ++ l.drop z) = _ := e2
    rw [e3]; rfl, h2, fun x hx => h3 x (hin x hx), fun x hx hx2 => ?_⟩
   rw [hdq] at hx
   rcases List.mem_cons.1 hx with g | g
   ·subst g
    exact h3 _ (List.mem_append_left _ (List.mem_append_right _ (List.mem_singleton.2 rfl)))
   ·exact h4 x g hx2
  have w1 : (0 : Int) ≤ 0 ∧ (0 : Int) ≤ (z : Int) ∧ (z : Int) ≤ ((l.length : Nat) : Int) := by omega
  have w2 : (0 : Int) ≤ (z : Int) ∧ (z : Int) ≤ ((l.length : Nat) : Int) ∧ ((l.length : Nat) : Int) ≤ ((l.length : Nat) : Int) := by omega
  have ht : (l.drop z).take (l.length - z) = l.drop z := List.take_of_length_le (by rw [List.length_drop]; omega)
  have k1 : (0 + (l.take z).length) * (8 * 2) ≤ 281474976710656 ∧ 0 + (l.take z).length ≤ 9223372036854775807 := by rw [List.length_take]; omega
  have k2 : ((l.take z).length + [c[q]].length) * (8 * 2) ≤ 281474976710656 ∧ (l.take z).length + [c[q]].length ≤ 9223372036854775807 := by rw [List.length_take, List.length_singleton]; omega
  have k3 : ((l.take z ++ [c[q]]).length + (l.drop z).length) * (8 * 2) ≤ 281474976710656 ∧ (l.take z ++ [c[q]]).length + (l.drop z).length ≤ 9223372036854775807 := by rw [List.length_append, List.length_take, List.length_singleton, List.length_drop]; omega
  simp only [F53_1]
  rw [decide_eq_true (show (q : Int) < 2 by omega), cond_true, e, Option.bind_some]
  simp only [List.replicate_zero, List.nil_append, List.length_nil, one_list]
  rw [if_pos (inR hlt), tnI q, tnI z, tnI (l.length), show Int.toNat 0 = 0 from rfl, Nat.sub_zero, List.drop_zero, hcq, hwq, ht]
  by_cases hle : c[q] ≤ 1114111
  ·rw [decide_eq_true hle, cond_true]
   by_cases hz0 : z = 0
   ·rw [show ((z : Int) == 0) = true by rw [hz0]; rfl, cond_true, if_pos w1, if_pos (inR hlt), if_pos w2, if_pos k1, if_pos k2, if_pos k3]
    exact put hle (.inl hz0)
   ·have hz1 : z - 1 < l.length := by omega
    have hw : IntKind.wrap .i64 ((z : Int) - 1) = ((z - 1 : Nat) : Int) := by rw [w64 _ (by omega) (by omega)]; omega
    rw [beq_false_of_ne (show ¬ (z : Int) = 0 by omega), cond_false, hw, if_pos (inR hz1), if_pos (inR hlt), tnI (z - 1)]
    by_cases he : List.getD l (z - 1) 0 = c[q]
    ·rw [show (List.getD l (z - 1) 0 != c[q]) = false by rw [he]; simp, cond_false]
     refine stay fun _ => ?_
     rw [← he]
     exact getD_mem hz1
    ·rw [show (List.getD l (z - 1) 0 != c[q]) = true by simpa using he, cond_true, if_pos w1, if_pos (inR hlt), if_pos w2, if_pos k1, if_pos k2, if_pos k3]
     exact put hle (.inr he)
  ·rw [decide_eq_false hle, cond_false]
   exact stay fun h => absurd h hle
theorem rgs_at {t : RgT} (h : RgS t) {i : Nat} (hi : i < t.length) : RgP (t[i]) := h.2 _ (List.getElem_mem hi)
theorem F53_2_ok (k : Nat) (t0 : List RgT) (q : Nat) (hk : 10000000 ≤ k) (hq : q < t0.length) (hs : RgS (List.getD t0 q [])) : ∀ (d m i : Nat) (l : List Int), i + d = (List.getD t0 q []).length → d < m → RisL l → ∃ l', F53_2 k m t0 (q : Int) (i : Int) l = some ((t0, ((q : Int), ())), (l', ())) ∧ RisL l' ∧ ∀ x ∈ l, x ∈ l'
 | 0, m, i, l, hi, hm, hl => by
  obtain ⟨m, rfl⟩ := pos1 (m := m) (by omega)
  refine ⟨l, ?_, hl, fun x hx => hx⟩
  simp only [F53_2]
  rw [if_pos (inR hq), tnI q, decide_eq_false (by omega), cond_false]
 | d + 1, m, i, l, hi, hm, hl => by
  obtain ⟨m, rfl⟩ := pos1 (m := m) (by omega)
  have hlt : i < (List.getD t0 q []).length := by omega
  have hlen := rgS_len hs
  have hP := rgs_at hs hlt
  obtain ⟨p0, p1, p2⟩ := hP
  have hw : IntKind.wrap .i64 ((List.getD t0 q [])[i].2.1 + 1) = (List.getD t0 q [])[i].2.1 + 1 := w64 _ (by omega) (by omega)
  obtain ⟨l1, e1, h1, h2, _⟩ := F53_1_ok k t0 (q : Int) (i : Int) [(List.getD t0 q [])[i].1, (List.getD t0 q [])[i].2.1 + 1] hk rfl (fun x hx => by
   rcases List.mem_cons.1 hx with g | g
   ·rw [g]; exact p0
   ·rcases List.mem_cons.1 g with g | g
    ·rw [g]; omega
    ·cases g) 2 k 0 l rfl (by omega) hl
  obtain ⟨l2, e2, h3, h4⟩ := F53_2_ok k t0 q hk hq hs d m (i + 1) l1 (by omega) (by omega) h1
  refine ⟨l2, ?_, h3, fun x hx => h4 x (h2 x hx)⟩
  have e1' : F53_1 k k t0 (q : Int) (i : Int) 0 (List.set (List.set (List.replicate 2 (0 : Int)) 0 (List.getD t0 q [])[i].1) 1 ((List.getD t0 q [])[i].2.1 + 1)) l = _ := e1
  have hwi : IntKind.wrap .i64 ((i : Int) + 1) = ((i + 1 : Nat) : Int) := by rw [w64 _ (by omega) (by omega)]; omega
  simp only [F53_2]
  rw [if_pos (inR hq), tnI q, dlt hlt, cond_true, if_pos (inR hq), if_pos (inR hlt), if_pos (inR hq), if_pos (inR hlt), tnI i, getD_lt (List.getD t0 q []) i _ hlt, hw, e1', Option.bind_some]
  simp only
  rw [hwi, e2]
  rfl
theorem F53_3_ok (k : Nat) (t0 : List RgT) (hk : 10000000 ≤ k) (hn : t0.length ≤ 1000) (hs : RgL t0) : ∀ (d m i : Nat) (l : List Int), i + d = t0.length → d < m → RisL l → ∃ l', F53_3 k m t0 (i : Int) l = some ((), (l', ())) ∧ RisL l' ∧ ∀ x ∈ l, x ∈ l'
 | 0, m, i, l, hi, hm, hl => by
  obtain ⟨m, rfl⟩ := pos1 (m := m) (by omega)
  refine ⟨l, ?_, hl, fun x hx => hx⟩
  simp only [F53_3]
  rw [decide_eq_false (by omega), cond_false]
 | d + 1, m, i, l, hi, hm, hl => by
  obtain ⟨m, rfl⟩ := pos1 (m := m) (by omega)
  have hlt : i < t0.length := by omega
  have hr := rgL_at hs i
  have hlen := rgS_len hr
  obtain ⟨l1, e1, h1, h2⟩ := F53_2_ok k t0 i hk hlt hr (List.getD t0 i []).length k 0 l (Nat.zero_add _) (by omega) hl
  obtain ⟨l2, e2, h3, h4⟩ := F53_3_ok k t0 hk hn hs d m (i + 1) l1 (by omega) (by omega) h1
  refine ⟨l2, ?_, h3, fun x hx => h4 x (h2 x hx)⟩
  rw [show ((0 : Nat) : Int) = 0 from rfl] at e1
  simp only [F53_3]
  rw [dlt hlt, cond_true, e1, Option.bind_some]
  simp only
  rw [wsucc i _ hlt (by omega), e2]
  rfl
theorem F53_ok (k : Nat) (t0 : List RgT) (hk : 10000000 ≤ k) (hn : t0.length ≤ 1000) (hs : RgL t0) : ∃ l, F53 k t0 = some ((l, ()), ()) ∧ RisL l ∧ 0 ∈ l := by
 obtain ⟨l, e, h1, h2⟩ := F53_3_ok k t0 hk hn hs t0.length k 0 [0] (Nat.zero_add _) (by omega) ⟨List.pairwise_singleton _ _, fun x hx => by
  rw [List.mem_singleton.1 hx]; omega⟩
 refine ⟨l, ?_, h1, h2 0 (List.mem_singleton.2 rfl)⟩
 have e' : F53_3 k k t0 0 (List.set (List.replicate 1 (0 : Int)) 0 0) = _ := e
 unfold F53
 simp only
 rw [e', Option.bind_some]
theorem F30_0_ok (k : Nat) (t0 : List RgT) (t8 t9 t10 : Int) (a b c s : List Int) (hn : s.length ≤ 5000000) : ∀ (d m i : Nat), i + d = s.length → d < m → ∃ j : Nat, F30_0 k m t0 t8 t9 t10 (i : Int) a b c s = some ((t0, (t8, (t9, (t10, ((j : Int), ()))))), (a, (b, (c, (s, ()))))) ∧ j ≤ s.length
 | 0, m, i, hi, hm => by
  obtain ⟨m, rfl⟩ := pos1 (m := m) (by omega)
  refine ⟨i, ?_, by omega⟩
  simp only [F30_0]
  rw [decide_eq_false (by omega), cond_false]
 | d + 1, m, i, hi, hm => by
  obtain ⟨m, rfl⟩ := pos1 (m := m) (by omega)
  have hlt : i < s.length := by omega
  obtain ⟨j, e, hj⟩ := F30_0_ok k t0 t8 t9 t10 a b c s hn d m (i + 1) (by omega) (by omega)
  simp only [F30_0]
  rw [dlt hlt, cond_true, if_pos (inR hlt), wsucc i _ hlt (by omega)]
  cases (List.getD s (Int.toNat (i : Int)) 0 != t10) with
  | true => exact ⟨j, by rw [cond_true, e]; rfl, hj⟩
  | false => exact ⟨i, by rw [cond_false], by omega⟩
def LetP (n : Nat) (l : List Int) : Prop := ∀ x ∈ l, 0 ≤ x ∧ x < (n : Int)
theorem LetP.add {n : Nat} {l : List Int} (h : LetP n l) {j m : Nat} (hj : j < m) (hm : n ≤ m) : LetP m (l ++ [(j : Int)]) := fun x hx => by
 rcases List.mem_append.1 hx with g | g
 ·have := h x g
  omega
 ·rw [List.mem_singleton.1 g]; omega
theorem F30_1_ok (k : Nat) (t0 : List RgT) (p : List Int) (hk : 10000000 ≤ k) (hn : t0.length ≤ 40) (hs : RgL t0) (hp : p.length ≤ 2000000) : ∀ (d m i : Nat) (t8 : Int) (b c s : List Int), i + d = p.length → d < m → b.length = c.length → c.length ≤ i → s.length ≤ i → LetP s.length c →
  ∃ b' c', F30_1 k m t0 t8 (i : Int) p b c s = some ((), (b', (c', ()))) ∧ b'.length = c'.length ∧ c'.length ≤ 2000000 ∧ LetP 2000000 c'
 | 0, m, i, t8, b, c, s, hi, hm, hb, hc, hl, hL => by
  obtain ⟨m, rfl⟩ := pos1 (m := m) (by omega)
  refine ⟨b, c, ?_, hb, by omega, fun x hx => ?_⟩
  ·simp only [F30_1]
   rw [decide_eq_false (by omega), cond_false]
  ·have := hL x hx
   omega
 | d + 1, m, i, t8, b, c, s, hi, hm, hb, hc, hl, hL => by
  obtain ⟨m, rfl⟩ := pos1 (m := m) (by omega)
  have hlt : i < p.length := by omega
  simp only [F30_1]
  rw [dlt hlt, cond_true, if_pos (inR hlt), tnI i, F54_ok k t0 _ hk hn hs, Option.bind_some]
  simp only
  generalize keyF (List.getD p i 0) t0 0 = v
  rw [wsucc i _ hlt (by omega)]
  cases (v == t8) with
  | true =>
   obtain ⟨b', c', e, h⟩ := F30_1_ok k t0 p hk hn hs hp d m (i + 1) t8 b c s (by omega) (by omega) hb (by omega) (by omega) hL
   exact ⟨b', c', by rw [cond_true, e]; rfl, h⟩
  | false =>
   obtain ⟨j, e, hj⟩ := F30_0_ok k t0 v (i : Int) v p b c s (by omega) s.length k 0 (Nat.zero_add _) (by omega)
   rw [show ((0 : Nat) : Int) = 0 from rfl] at e
   rw [cond_false, e, Option.bind_some]
   simp only [one_list]
   have k1 : (s.length + [v].length) * (8 * 2) ≤ 281474976710656 ∧ s.length + [v].length ≤ 9223372036854775807 := by rw [List.length_singleton]; omega
   have k2 : (b.length + [List.getD p i 0].length) * (8 * 2) ≤ 281474976710656 ∧ b.length + [List.getD p i 0].length ≤ 9223372036854775807 := by rw [List.length_singleton]; omega
   have k3 : (c.length + [(j : Int)].length) * (8 * 2) ≤ 281474976710656 ∧ c.length + [(j : Int)].length ≤ 9223372036854775807 := by rw [List.length_singleton]; omega
   have hb2 : (b ++ [List.getD p i 0]).length = (c ++ [(j : Int)]).length := by simp [hb]
   have hc2 : (c ++ [(j : Int)]).length ≤ i + 1 := by simp; omega
   rw [wsucc i _ hlt (by omega), tnI i]
   by_cases he : j = s.length
   ·subst he
    have hs2 : (s ++ [v]).length = s.length + 1 := by simp
    obtain ⟨b', c', e, h⟩ := F30_1_ok k t0 p hk hn hs hp d m (i + 1) v (b ++ [List.getD p i 0]) (c ++ [((s.length : Nat) : Int)]) (s ++ [v]) (by omega) (by omega) hb2 hc2 (by omega) (by
     rw [hs2]; exact hL.add (by omega) (by omega))
    refine ⟨b', c', ?_, h⟩
    rw [show (((s.length : Nat) : Int) == ((s.length : Nat) : Int)) = true by simp, cond_true, if_pos k1, if_pos (inR hlt), if_pos k2, if_pos k3, e]
    rfl
   ·obtain ⟨b', c', e, h⟩ := F30_1_ok k t0 p hk hn hs hp d m (i + 1) v (b ++ [List.getD p i 0]) (c ++ [(j : Int)]) s (by omega) (by omega) hb2 hc2 (by omega) (hL.add (by omega) (by omega))
    refine ⟨b', c', ?_, h⟩
    rw [beq_false_of_ne (show ¬ (j : Int) = ((s.length : Nat) : Int) by omega), cond_false, if_pos (inR hlt), if_pos k2, if_pos k3, e]
    rfl
theorem F30_ok (k : Nat) (t0 : List RgT) (hk : 10000000 ≤ k) (hn : t0.length ≤ 40) (hs : RgL t0) : ∃ b c, F30 k t0 = some ((b, (c, ())), ()) ∧ b.length = c.length ∧ c.length ≤ 2000000 ∧ LetP 2000000 c := by
 obtain ⟨p, e, hp, _⟩ := F53_ok k t0 hk (by omega) hs
 have hl := risL_len hp
 obtain ⟨b, c, e2, h⟩ := F30_1_ok k t0 p hk hn hs (by omega) p.length k 0 (-1) [] [] [] (Nat.zero_add _) (by omega) rfl (Nat.le_refl _) (Nat.le_refl _) (fun x hx => by cases hx)
 refine ⟨b, c, ?_, h⟩
 rw [show ((0 : Nat) : Int) = 0 from rfl] at e2
 unfold F30
 rw [e, Option.bind_some]
 simp only
 rw [e2, Option.bind_some]
theorem F32_0_ok (k : Nat) (l : List Int) (hl : l.length ≤ 5000000) (hL : LetP 2000000 l) : ∀ (d m i : Nat) (t : Int), i + d = l.length → d < m → 0 ≤ t → t ≤ 2000000 → (∀ x ∈ l.take i, x < t) → ∃ c, F32_0 k m l t (i : Int) = some ((c, ()), ()) ∧ 0 ≤ c ∧ c ≤ 2000000 ∧ ∀ x ∈ l, x < c
 | 0, m, i, t, hi, hm, h0, h1, hx => by
  obtain ⟨m, rfl⟩ := pos1 (m := m) (by omega)
  refine ⟨t, ?_, h0, h1, fun x h => hx x ?_⟩
  ·simp only [F32_0]
   rw [decide_eq_false (by omega), cond_false]
  ·rw [List.take_of_length_le (by omega)]; exact h
 | d + 1, m, i, t, hi, hm, h0, h1, hx => by
  obtain ⟨m, rfl⟩ := pos1 (m := m) (by omega)
  have hlt : i < l.length := by omega
  have hx2 := hL _ (List.getElem_mem hlt)
  have hm2 : maxI t (l[i] + 1) = t ∧ l[i] + 1 ≤ t ∨ maxI t (l[i] + 1) = l[i] + 1 ∧ t ≤ l[i] + 1 := by
   unfold maxI
   split <;> omega
  obtain ⟨c, e, h⟩ := F32_0_ok k l hl hL d m (i + 1) (maxI t (l[i] + 1)) (by omega) (by omega) (by omega) (by omega) (fun x h => by
   rw [List.take_succ_eq_append_getElem hlt] at h
   rcases List.mem_append.1 h with g | g
   ·have := hx x g; omega
   ·rw [List.mem_singleton.1 g]; omega)
  refine ⟨c, ?_, h⟩
  simp only [F32_0]
  rw [dlt hlt, cond_true, if_pos (inR hlt), tnI i, getD_lt l i _ hlt, wsucc i _ hlt (by omega), w64 (l[i] + 1) (by omega) (by omega), e]
  rfl
theorem F32_ok (k : Nat) (l : List Int) (hk : 10000000 ≤ k) (hl : l.length ≤ 5000000) (hL : LetP 2000000 l) : ∃ c, F32 k l = some ((c, ()), ()) ∧ 0 ≤ c ∧ c ≤ 2000000 ∧ ∀ x ∈ l, x < c := by
 obtain ⟨c, e, h⟩ := F32_0_ok k l hl hL l.length k 0 0 (Nat.zero_add _) (by omega) (Int.le_refl _) (by omega) (fun x h => by rw [List.take_zero] at h; cases h)
 rw [show ((0 : Nat) : Int) = 0 from rfl] at e
 exact ⟨c, by
  unfold F32
  rw [e, Option.bind_some], h⟩
theorem F31_0_ok (k : Nat) (t0 : List RgT) (p q : List Int) (u : Nat) (m2 : List (List Bool)) (N : Nat) (hk : 10000000 ≤ k) (hu : u < t0.length) (hs : RgL t0) (hpq : p.length = q.length) (hp : p.length ≤ 2000000) (hq : ∀ x ∈ q, 0 ≤ x ∧ x < (N : Int)) : ∀ (d m i : Nat) (row : List Bool), i + d = p.length → d < m → row.length = N → ∃ row', F31_0 k m t0 p q (u : Int) (i : Int) row m2 = some ((t0, (p, (q, ((u : Int), ())))), (row', (m2, ()))) ∧ row'.length = N
 | 0, m, i, row, hi, hm, hr => by
  obtain ⟨m, rfl⟩ := pos1 (m := m) (by omega)
  refine ⟨row, ?_, hr⟩
  simp only [F31_0]
  rw [decide_eq_false (by omega), cond_false]
 | d + 1, m, i, row, hi, hm, hr => by
  obtain ⟨m, rfl⟩ := pos1 (m := m) (by omega)
  have hlt : i < p.length := by omega
  have hlt2 : i < q.length := by omega
  have hlen := rgS_len (rgL_at hs u)
  have hx := hq _ (List.getElem_mem hlt2)
  obtain ⟨row', e, h⟩ := F31_0_ok k t0 p q u m2 N hk hu hs hpq hp hq d m (i + 1) (List.set row (Int.toNat q[i]) (has (List.getD t0 u []) (List.getD p i 0))) (by omega) (by omega) (by rw [List.length_set]; exact hr)
  refine ⟨row', ?_, h⟩
  have hin : 0 ≤ q[i] ∧ q[i] < ((List.length row : Nat) : Int) := by omega
  simp only [F31_0]
  rw [dlt hlt, cond_true, if_pos (inR hlt2), if_pos (inR hu), if_pos (inR hlt), tnI u, tnI i, F55_ok k _ _ (by omega) hk, Option.bind_some]
  simp only
  rw [getD_lt q i _ hlt2, if_pos hin, wsucc i _ hlt (by omega), e]
  rfl
theorem F31_1_ok (k : Nat) (t0 : List RgT) (p q : List Int) (c : Int) (hk : 10000000 ≤ k) (hn : t0.length ≤ 1000) (hs : RgL t0) (hpq : p.length = q.length) (hp : p.length ≤ 2000000) (e50 : F32 k q = some ((c, ()), ())) (hc0 : 0 ≤ c) (hc1 : c ≤ 2000000) (hq : ∀ x ∈ q, 0 ≤ x ∧ x < c) : ∀ (d m i : Nat) (M : List (List Bool)), i + d = t0.length → d < m → M.length = i → (∀ r ∈ M, r.length = c.toNat) → ∃ M', F31_1 k m t0 p q (i : Int) M = some ((), (M', ())) ∧ M'.length = t0.length ∧ ∀ r ∈ M', r.length = c.toNat
 | 0, m, i, M, hi, hm, hM, hr => by
  obtain ⟨m, rfl⟩ := pos1 (m := m) (by omega)
  refine ⟨M, ?_, by omega, hr⟩
  simp only [F31_1]
  rw [decide_eq_false (by omega), cond_false]
 | d + 1, m, i, M, hi, hm, hM, hr => by
  obtain ⟨m, rfl⟩ := pos1 (m := m) (by omega)
  have hlt : i < t0.length := by omega
  obtain ⟨row, e, h⟩ := F31_0_ok k t0 p q i M c.toNat hk hlt hs hpq hp (fun x hx => by have := hq x hx; omega) p.length k 0 (List.replicate c.toNat false) (Nat.zero_add _) (by omega) (by simp)
  rw [show ((0 : Nat) : Int) = 0 from rfl] at e
  obtain ⟨M', e2, h2, h3⟩ := F31_1_ok k t0 p q c hk hn hs hpq hp e50 hc0 hc1 hq d m (i + 1) (M ++ [row]) (by omega) (by omega) (by simp [hM]) (fun r hx => by
   rcases List.mem_append.1 hx with g | g
   ·exact hr r g
   ·rw [List.mem_singleton.1 g]; exact h)
  refine ⟨M', ?_, h2, h3⟩
  have k1 : (0 ≤ c ∧ c < c + 1) ∧ c ≤ 9223372036854775807 ∧ ((1 : Nat) : Int) * c ≤ 281474976710656 := by omega
  have k2 : (M.length + [row].length) * (24 * 2) ≤ 281474976710656 ∧ M.length + [row].length ≤ 9223372036854775807 := by rw [List.length_singleton]; omega
  simp only [F31_1]
  rw [dlt hlt, cond_true, e50, Option.bind_some]
  simp only
  rw [if_pos k1, e, Option.bind_some]
  simp only [one_list]
  rw [wsucc i _ hlt (by omega)]
  rw [if_pos k2, e2]
  rfl
theorem F58_0_ok (k : Nat) (M : List (List Bool)) (u v : Nat) (s : SideT) (hu : u < s.1.length) (hv : List.getD s.1 u 0 = (v : Int)) (hM : v < M.length) (hr : (List.getD M v []).length ≤ 5000000) : ∀ (d m i : Nat), i + d = (List.getD M v []).length → d < m → F58_0 k m M (u : Int) (i : Int) s = some (.inl ((), ())) ∨ F58_0 k m M (u : Int) (i : Int) s = some (.inr ((true, ()), ()))
 | 0, m, i, hi, hm => by
  obtain ⟨m, rfl⟩ := pos1 (m := m) (by omega)
  left
  simp only [F58_0]
  rw [if_pos (inR hu), tnI u, hv, if_pos (inR hM), tnI v, decide_eq_false (by omega), cond_false]
 | d + 1, m, i, hi, hm => by
  obtain ⟨m, rfl⟩ := pos1 (m := m) (by omega)
  have hlt : i < (List.getD M v []).length := by omega
  have ih := F58_0_ok k M u v s hu hv hM hr d m (i + 1) (by omega) (by omega)
  simp only [F58_0]
  rw [if_pos (inR hu), tnI u, hv, if_pos (inR hM), tnI v, dlt hlt, cond_true, if_pos (inR hu), if_pos (inR hM), if_pos (inR hlt), wsucc i _ hlt (by omega)]
  cases List.getD (List.getD M v []) (Int.toNat (i : Int)) false with
  | true => right; rw [cond_true]
  | false =>
   rw [cond_false]
   rcases ih with e | e
   ·left; rw [e]; rfl
   ·right; rw [e]; rfl
theorem F58_ok (k : Nat) (M : List (List Bool)) (u : Nat) (s : SideT) (hk : 10000000 ≤ k) (hu : u < s.1.length) (hv : List.getD s.1 u 0 < ((M.length : Nat) : Int)) (hr : ∀ r ∈ M, r.length ≤ 2000000) : ∃ b, F58 k s M (u : Int) = some ((b, ()), ()) := by
 unfold F58
 rw [if_pos (inR hu), tnI u]
 by_cases h : List.getD s.1 u 0 < 0
 ·exact ⟨true, by rw [decide_eq_true h]; rfl⟩
 ·obtain ⟨v, hv'⟩ : ∃ v : Nat, List.getD s.1 u 0 = (v : Int) := ⟨(List.getD s.1 u 0).toNat, by omega⟩
  have hM : v < M.length := by omega
  have h2 := hr _ (getD_mem (d := []) hM)
  rw [decide_eq_false h]
  simp only [cond_false]
  rcases F58_0_ok k M u v s hu hv' hM (by omega) (List.getD M v []).length k 0 (Nat.zero_add _) (by omega) with e | e
  ·rw [show ((0 : Nat) : Int) = 0 from rfl] at e
   exact ⟨false, by rw [e]; rfl⟩
  ·rw [show ((0 : Nat) : Int) = 0 from rfl] at e
   exact ⟨true, by rw [e]; rfl⟩
abbrev sd0 : SideT := (([] : (List Int)), (([] : (List Int)), (([] : (List Int)), (([] : (List (Int × (Int × (Int × Unit))))), ((0 : Int), ())))))
def offs : List Bool → Nat
 | [] => 0
 | b :: l => (if b then 0 else 1) + offs l
theorem offs_le : ∀ l : List Bool, offs l ≤ l.length
 | [] => Nat.le_refl _
 | b :: l => by
  have := offs_le l
  unfold offs
  simp only [List.length_cons]
  split <;> omega
theorem offs_set : ∀ (l : List Bool) (i : Nat), i < l.length → offs (List.set l i true) + (if List.getD l i false then 0 else 1) = offs l
 | [], i, h => by simp at h
 | b :: l, 0, h => by
  cases b <;> simp [offs]
  omega
 | b :: l, i + 1, h => by
  have := offs_set l i (by simpa using h)
  simp only [List.set_cons_succ, offs, List.getD_cons_succ]
  omega
theorem F34_0_ok {n M0 : Nat} {C : Int} (k : Nat) (M : List (List Bool)) (s c4 : SideT) (hk : 10000000 ≤ k) (hn : n ≤ 500) (hs : SideG n C M0 s) (hM : M0 ≤ M.length) (hr : ∀ r ∈ M, r.length ≤ 2000000) : ∀ (d m i : Nat) (a b c : List Bool), i + d = n → d < m → a.length = n → b.length = n → c.length = n →
  ∃ a' b' c', F34_0 k m M (n : Int) (i : Int) s c4 a b c = some (((n : Int), ()), (s, (c4, (a', (b', (c', ())))))) ∧ a'.length = n ∧ b'.length = n ∧ c'.length = n
 | 0, m, i, a, b, c, hi, hm, ha, hb, hc => by
  obtain ⟨m, rfl⟩ := pos1 (m := m) (by omega)
  refine ⟨a, b, c, ?_, ha, hb, hc⟩
  simp only [F34_0]
  rw [decide_eq_false (by omega), cond_false]
 | d + 1, m, i, a, b, c, hi, hm, ha, hb, hc => by
  obtain ⟨m, rfl⟩ := pos1 (m := m) (by omega)
  have hls := hs.ls
  have hlf := hs.lf
  have hle := hs.le
  have hx := hs.sets (List.getD s.1 i 0) (getD_mem (by omega))
  obtain ⟨v, e⟩ := F58_ok k M i s hk (by omega) (by omega) hr
  have key : ∀ a' b' c' : List Bool, a'.length = n → b'.length = n → c'.length = n → ∃ a2 b2 c2, (F34_0 k m M (n : Int) ((i + 1 : Nat) : Int) s c4 a' b' c').bind some = some (((n : Int), ()), (s, (c4, (a2, (b2, (c2, ())))))) ∧ a2.length = n ∧ b2.length = n ∧ c2.length = n := fun a' b' c' g1 g2 g3 => by
   obtain ⟨a2, b2, c2, e, h⟩ := F34_0_ok k M s c4 hk hn hs hM hr d m (i + 1) a' b' c' (by omega) (by omega) g1 g2 g3
   exact ⟨a2, b2, c2, by rw [e]; rfl, h⟩
  have wi : IntKind.wrap .i64 ((i : Int) + 1) = ((i + 1 : Nat) : Int) := by rw [w64 _ (by omega) (by omega)]; omega
  have q1 : (0 : Int) ≤ (i : Int) ∧ (i : Int) < ((c.length : Nat) : Int) := by omega
  have q2 : (0 : Int) ≤ (i : Int) ∧ (i : Int) < (((List.set c (Int.toNat (i : Int)) v).length : Nat) : Int) := by rw [List.length_set]; omega
  have q3 : (0 : Int) ≤ (i : Int) ∧ (i : Int) < ((s.2.1.length : Nat) : Int) := by omega
  have q4 : (0 : Int) ≤ (i : Int) ∧ (i : Int) < ((s.2.2.1.length : Nat) : Int) := by omega
  have q5 : (0 : Int) ≤ (i : Int) ∧ (i : Int) < ((a.length : Nat) : Int) := by omega
  have q6 : (0 : Int) ≤ (i : Int) ∧ (i : Int) < ((b.length : Nat) : Int) := by omega
  simp only [F34_0]
  rw [decide_eq_true (by omega), cond_true, e, Option.bind_some]
  simp only
  rw [if_pos q1, if_pos q2, wi]
  cases List.getD (List.set c (Int.toNat (i : Int)) v) (Int.toNat (i : Int)) false with
  | true =>
   rw [cond_true, if_pos q3, if_pos q2, cond_true, if_pos q4, if_pos q5, if_pos q6]
   exact key _ _ _ (by rw [List.length_set]; exact ha) (by rw [List.length_set]; exact hb) (by rw [List.length_set]; exact hc)
  | false =>
   rw [cond_false, if_pos q2, cond_false, if_pos q5, if_pos q6]
   exact key _ _ _ (by rw [List.length_set]; exact ha) (by rw [List.length_set]; exact hb) (by rw [List.length_set]; exact hc)
theorem F34_1_ok {n M0 : Nat} {C : Int} (k : Nat) (s c4 : SideT) (c : List Bool) (hn : n ≤ 500) (hs : SideG n C M0 s) (hc : c.length = n) : ∀ (d m i : Nat) (t : Bool) (a b : List Bool), i + d = s.2.2.2.1.length → d < m → a.length = n → b.length = n →
  ∃ t' a' b', F34_1 k m (n : Int) t (i : Int) s c4 a b c = some (((n : Int), (t', ())), (s, (c4, (a', (b', (c, ())))))) ∧ a'.length = n ∧ b'.length = n ∧ offs a' + offs b' ≤ offs a + offs b ∧ (t' = true → t = true ∨ offs a' + offs b' < offs a + offs b)
 | 0, m, i, t, a, b, hi, hm, ha, hb => by
  obtain ⟨m, rfl⟩ := pos1 (m := m) (by omega)
  refine ⟨t, a, b, ?_, ha, hb, Nat.le_refl _, fun h => .inl h⟩
  simp only [F34_1]
  rw [decide_eq_false (by omega), cond_false]
 | d + 1, m, i, t, a, b, hi, hm, ha, hb => by
  obtain ⟨m, rfl⟩ := pos1 (m := m) (by omega)
  have hlt : i < s.2.2.2.1.length := by omega
  have hlen := srt_len hs.srt hs.arcs
  have hnn : n * n ≤ 500 * 500 := Nat.mul_le_mul hn hn
  have hx := hs.arcs _ (List.getElem_mem hlt)
  have key : ∀ (t1 : Bool) (a1 b1 : List Bool), a1.length = n → b1.length = n → offs a1 + offs b1 ≤ offs a + offs b → (t1 = true → t = true ∨ offs a1 + offs b1 < offs a + offs b) →
    ∃ t' a' b', (F34_1 k m (n : Int) t1 ((i + 1 : Nat) : Int) s c4 a1 b1 c).bind some = some (((n : Int), (t', ())), (s, (c4, (a', (b', (c, ())))))) ∧ a'.length = n ∧ b'.length = n ∧ offs a' + offs b' ≤ offs a + offs b ∧ (t' = true → t = true ∨ offs a' + offs b' < offs a + offs b) := fun t1 a1 b1 g1 g2 g3 g4 => by
   obtain ⟨t', a', b', e, h1, h2, h3, h4⟩ := F34_1_ok k s c4 c hn hs hc d m (i + 1) t1 a1 b1 (by omega) (by omega) g1 g2
   refine ⟨t', a', b', by rw [e]; rfl, h1, h2, by omega, fun q => ?_⟩
   rcases h4 q with r | r
   ·rcases g4 r with r | r
    ·exact .inl r
    ·exact .inr (by omega)
   ·exact .inr (by omega)
  obtain ⟨⟨x1, x2⟩, ⟨x3, x4⟩, _⟩ := hx
  have sa := offs_set a (Int.toNat s.2.2.2.1[i].2.1) (by omega)
  have sb := offs_set b (Int.toNat s.2.2.2.1[i].1) (by omega)
  have q1 : (0 : Int) ≤ s.2.2.2.1[i].1 ∧ s.2.2.2.1[i].1 < ((a.length : Nat) : Int) := by omega
  have q2 : (0 : Int) ≤ s.2.2.2.1[i].2.1 ∧ s.2.2.2.1[i].2.1 < ((a.length : Nat) : Int) := by omega
  have q3 : (0 : Int) ≤ s.2.2.2.1[i].1 ∧ s.2.2.2.1[i].1 < ((b.length : Nat) : Int) := by omega
  have q4 : (0 : Int) ≤ s.2.2.2.1[i].2.1 ∧ s.2.2.2.1[i].2.1 < ((b.length : Nat) : Int) := by omega
  have q5 : (0 : Int) ≤ s.2.2.2.1[i].1 ∧ s.2.2.2.1[i].1 < ((c.length : Nat) : Int) := by omega
  have q6 : (0 : Int) ≤ s.2.2.2.1[i].2.1 ∧ s.2.2.2.1[i].2.1 < ((c.length : Nat) : Int) := by omega
  have la : (List.set a (Int.toNat s.2.2.2.1[i].2.1) true).length = n := by rw [List.length_set]; exact ha
  have lb : (List.set b (Int.toNat s.2.2.2.1[i].1) true).length = n := by rw [List.length_set]; exact hb
  have fa : List.getD a (Int.toNat s.2.2.2.1[i].2.1) false = false → offs (List.set a (Int.toNat s.2.2.2.1[i].2.1) true) + 1 = offs a := fun h => by
   rw [h] at sa; exact sa
  have fb : List.getD b (Int.toNat s.2.2.2.1[i].1) false = false → offs (List.set b (Int.toNat s.2.2.2.1[i].1) true) + 1 = offs b := fun h => by
   rw [h] at sb; exact sb
  have none' := key t a b ha hb (Nat.le_refl _) (fun h => .inl h)
  have both : List.getD a (Int.toNat s.2.2.2.1[i].2.1) false = false → List.getD b (Int.toNat s.2.2.2.1[i].1) false = false → _ := fun h1 h2 => key true _ _ la lb (by have := fa h1; have := fb h2; omega) (fun _ => .inr (by have := fa h1; have := fb h2; omega))
  have onlyA : List.getD a (Int.toNat s.2.2.2.1[i].2.1) false = false → _ := fun h1 => key true _ b la hb (by have := fa h1; omega) (fun _ => .inr (by have := fa h1; omega))
  have onlyB : List.getD b (Int.toNat s.2.2.2.1[i].1) false = false → _ := fun h1 => key true a _ ha lb (by have := fb h1; omega) (fun _ => .inr (by have := fb h1; omega))
  simp only [F34_1]
  rw [dlt hlt, cond_true, if_pos (inR hlt), tnI i, getD_lt s.2.2.2.1 i _ hlt, wsucc i _ hlt (by omega), if_pos q1]
  cases h1 : List.getD a (Int.toNat s.2.2.2.1[i].1) false with
  | true =>
   rw [cond_true, if_pos q6]
   cases h2 : List.getD c (Int.toNat s.2.2.2.1[i].2.1) false with
   | true =>
    rw [cond_true, if_pos q2]
    cases h3 : List.getD a (Int.toNat s.2.2.2.1[i].2.1) false with
    | false =>
     rw [Bool.not_false, cond_true, if_pos q2, if_pos q4]
     cases h4 : List.getD b (Int.toNat s.2.2.2.1[i].2.1) false with
     | true =>
      rw [cond_true, if_pos q5]
      cases h5 : List.getD c (Int.toNat s.2.2.2.1[i].1) false with
      | true =>
       rw [cond_true, if_pos q3]
       cases h6 : List.getD b (Int.toNat s.2.2.2.1[i].1) false with
       | true => rw [Bool.not_true, cond_false]; exact onlyA h3
       | false => rw [Bool.not_false, cond_true, if_pos q3]; exact both h3 h6
      | false => rw [cond_false]; exact onlyA h3
     | false => rw [cond_false]; exact onlyA h3
    | true =>
     rw [Bool.not_true, cond_false, if_pos q4]
     cases h4 : List.getD b (Int.toNat s.2.2.2.1[i].2.1) false with
     | true =>
      rw [cond_true, if_pos q5]
      cases h5 : List.getD c (Int.toNat s.2.2.2.1[i].1) false with
      | true =>
       rw [cond_true, if_pos q3]
       cases h6 : List.getD b (Int.toNat s.2.2.2.1[i].1) false with
       | true => rw [Bool.not_true, cond_false]; exact none'
       | false => rw [Bool.not_false, cond_true, if_pos q3]; exact onlyB h6
      | false => rw [cond_false]; exact none'
     | false => rw [cond_false]; exact none'
   | false =>
    rw [cond_false, if_pos q4]
    cases h4 : List.getD b (Int.toNat s.2.2.2.1[i].2.1) false with
    | true =>
     rw [cond_true, if_pos q5]
     cases h5 : List.getD c (Int.toNat s.2.2.2.1[i].1) false with
     | true =>
      rw [cond_true, if_pos q3]
      cases h6 : List.getD b (Int.toNat s.2.2.2.1[i].1) false with
      | true => rw [Bool.not_true, cond_false]; exact none'
      | false => rw [Bool.not_false, cond_true, if_pos q3]; exact onlyB h6
     | false => rw [cond_false]; exact none'
    | false => rw [cond_false]; exact none'
  | false =>
   rw [cond_false, if_pos q4]
   cases h4 : List.getD b (Int.toNat s.2.2.2.1[i].2.1) false with
   | true =>
    rw [cond_true, if_pos q5]
    cases h5 : List.getD c (Int.toNat s.2.2.2.1[i].1) false with
    | true =>
     rw [cond_true, if_pos q3]
     cases h6 : List.getD b (Int.toNat s.2.2.2.1[i].1) false with
     | true => rw [Bool.not_true, cond_false]; exact none'
     | false => rw [Bool.not_false, cond_true, if_pos q3]; exact onlyB h6
    | false => rw [cond_false]; exact none'
   | false => rw [cond_false]; exact none'
theorem F34_2_ok {n M0 : Nat} {C : Int} (k : Nat) (s c4 : SideT) (c : List Bool) (hk : 10000000 ≤ k) (hn : n ≤ 500) (hs : SideG n C M0 s) (hc : c.length = n) : ∀ (d m : Nat) (t : Bool) (a b : List Bool), offs a + offs b < d → d < m → a.length = n → b.length = n →
  ∃ a' b', F34_2 k m (n : Int) t s c4 a b c = some (((n : Int), ()), (s, (c4, (a', (b', ()))))) ∧ a'.length = n ∧ b'.length = n
 | 0, m, t, a, b, hd, hm, ha, hb => by omega
 | d + 1, m, t, a, b, hd, hm, ha, hb => by
  obtain ⟨m, rfl⟩ := pos1 (m := m) (by omega)
  cases t with
  | false =>
   refine ⟨a, b, ?_, ha, hb⟩
   simp only [F34_2]
   rw [cond_false]
  | true =>
   have hlen := srt_len hs.srt hs.arcs
   have hnn : n * n ≤ 500 * 500 := Nat.mul_le_mul hn hn
   obtain ⟨t', a', b', e, h1, h2, h3, h4⟩ := F34_1_ok k s c4 c hn hs hc s.2.2.2.1.length k 0 false a b (Nat.zero_add _) (by omega) ha hb
   rw [show ((0 : Nat) : Int) = 0 from rfl] at e
   have fin : ∃ a2 b2, F34_2 k m (n : Int) t' s c4 a' b' c = some (((n : Int), ()), (s, (c4, (a2, (b2, ()))))) ∧ a2.length = n ∧ b2.length = n := by
    cases t' with
    | true =>
     rcases h4 rfl with q | q
     ·cases q
     ·exact F34_2_ok k s c4 c hk hn hs hc d m true a' b' (by omega) (by omega) h1 h2
    | false =>
     obtain ⟨m, rfl⟩ := pos1 (m := m) (by omega)
     refine ⟨a', b', ?_, h1, h2⟩
     simp only [F34_2]
     rw [cond_false]
   obtain ⟨a2, b2, e2, h⟩ := fin
   refine ⟨a2, b2, ?_, h⟩
   simp only [F34_2]
   rw [cond_true, e, Option.bind_some]
   simp only
   rw [e2]
   rfl
structure RenP (n i : Nat) (j : Nat) (z : List Int) : Prop where
 len : z.length = n
 rng : ∀ x, x < i → -1 ≤ List.getD z x 0 ∧ List.getD z x 0 < (j : Int)
 mon : ∀ x y, x < y → y < i → 0 ≤ List.getD z x 0 → 0 ≤ List.getD z y 0 → List.getD z x 0 < List.getD z y 0
theorem getS_ne {α : Type} {l : List α} {i x : Nat} {v d : α} (h : x ≠ i) : List.getD (List.set l i v) x d = List.getD l x d := by
 rw [List.getD_eq_getElem?_getD, List.getD_eq_getElem?_getD, List.getElem?_set_ne (fun q => h q.symm)]
theorem getS_eq {α : Type} {l : List α} {i : Nat} {v d : α} (h : i < l.length) : List.getD (List.set l i v) i d = v := by
 rw [List.getD_eq_getElem?_getD, List.getElem?_set_self h]
 rfl
theorem RenP.no {n i j : Nat} {z : List Int} (h : RenP n i j z) (hi : i < n) : RenP n (i + 1) j (List.set z i (-1)) := by
 have hl := h.len
 refine ⟨by rw [List.length_set]; exact hl, fun x hx => ?_, fun x y hxy hy h0 h1 => ?_⟩
 ·by_cases e : x = i
  ·subst e
   rw [getS_eq (by omega)]; omega
  ·rw [getS_ne e]
   exact h.rng x (by omega)
 ·by_cases e : y = i
  ·subst e
   rw [getS_eq (by omega)] at h1; omega
  ·rw [getS_ne e] at h1 ⊢
   rw [getS_ne (by omega)] at h0 ⊢
   exact h.mon x y hxy (by omega) h0 h1
theorem RenP.yes {n i j : Nat} {z : List Int} (h : RenP n i j z) (hi : i < n) : RenP n (i + 1) (j + 1) (List.set (List.set z i (-1)) i ((j : Nat) : Int)) := by
 have hl := h.len
 refine ⟨by rw [List.length_set, List.length_set]; exact hl, fun x hx => ?_, fun x y hxy hy h0 h1 => ?_⟩
 ·by_cases e : x = i
  ·subst e
   rw [getS_eq (by rw [List.length_set]; omega)]; omega
  ·rw [getS_ne e, getS_ne e]
   have := h.rng x (by omega)
   omega
 ·have ex : x ≠ i := by omega
  rw [getS_ne ex, getS_ne ex] at h0 ⊢
  by_cases e : y = i
  ·subst e
   rw [getS_eq (by rw [List.length_set]; omega)]
   exact (h.rng x (by omega)).2
  ·rw [getS_ne e, getS_ne e] at h1 ⊢
   exact h.mon x y hxy (by omega) h0 h1
theorem F34_3_ok {n M0 : Nat} {C : Int} (k : Nat) (s c4 : SideT) (a b : List Bool) (R : List (Int × (Int × (Int × Unit))) × (Int × Unit)) (hn : n ≤ 500) (hs : SideG n C M0 s) (ha : a.length = n) (hb : b.length = n) : ∀ (d m i j : Nat) (l1 l2 l3 z : List Int), i + d = n → d < m → l1.length = j → l2.length = j → l3.length = j → j ≤ i → RenP n i j z → (∀ x ∈ l1, -1 ≤ x ∧ x < (M0 : Int)) → (∀ x ∈ l2, CB C x) → (∀ x ∈ l3, CB C x) →
  ∃ (j' : Nat) (l1' l2' l3' z' : List Int), F34_3 k m (n : Int) (i : Int) s c4 (l1, (l2, (l3, R))) a b z = some ((), (s, (c4, ((l1', (l2', (l3', R))), (z', ()))))) ∧ l1'.length = j' ∧ l2'.length = j' ∧ l3'.length = j' ∧ j' ≤ n ∧ RenP n n j' z' ∧ (∀ x ∈ l1', -1 ≤ x ∧ x < (M0 : Int)) ∧ (∀ x ∈ l2', CB C x) ∧ (∀ x ∈ l3', CB C x)
 | 0, m, i, j, l1, l2, l3, z, hi, hm, e1, e2, e3, hj, hz, g1, g2, g3 => by
  obtain ⟨m, rfl⟩ := pos1 (m := m) (by omega)
  obtain rfl : i = n := by omega
  refine ⟨j, l1, l2, l3, z, ?_, e1, e2, e3, hj, hz, g1, g2, g3⟩
  simp only [F34_3]
  rw [decide_eq_false (by omega), cond_false]
 | d + 1, m, i, j, l1, l2, l3, z, hi, hm, e1, e2, e3, hj, hz, g1, g2, g3 => by
  obtain ⟨m, rfl⟩ := pos1 (m := m) (by omega)
  have hls := hs.ls
  have hlf := hs.lf
  have hle := hs.le
  have hzl := hz.len
  have wi : IntKind.wrap .i64 ((i : Int) + 1) = ((i + 1 : Nat) : Int) := by rw [w64 _ (by omega) (by omega)]; omega
  have q1 : (0 : Int) ≤ (i : Int) ∧ (i : Int) < ((z.length : Nat) : Int) := by omega
  have q2 : (0 : Int) ≤ (i : Int) ∧ (i : Int) < ((a.length : Nat) : Int) := by omega
  have q3 : (0 : Int) ≤ (i : Int) ∧ (i : Int) < ((b.length : Nat) : Int) := by omega
  have q4 : (0 : Int) ≤ (i : Int) ∧ (i : Int) < (((List.set z i (-1)).length : Nat) : Int) := by rw [List.length_set]; omega
  have q5 : (0 : Int) ≤ (i : Int) ∧ (i : Int) < ((s.1.length : Nat) : Int) := by omega
  have q6 : (0 : Int) ≤ (i : Int) ∧ (i : Int) < ((s.2.1.length : Nat) : Int) := by omega
  have q7 : (0 : Int) ≤ (i : Int) ∧ (i : Int) < ((s.2.2.1.length : Nat) : Int) := by omega
  have no : ∃ (j' : Nat) (l1' l2' l3' z' : List Int), (F34_3 k m (n : Int) ((i + 1 : Nat) : Int) s c4 (l1, (l2, (l3, R))) a b (List.set z i (-1))).bind some = some ((), (s, (c4, ((l1', (l2', (l3', R))), (z', ()))))) ∧ l1'.length = j' ∧ l2'.length = j' ∧ l3'.length = j' ∧ j' ≤ n ∧ RenP n n j' z' ∧ (∀ x ∈ l1', -1 ≤ x ∧ x < (M0 : Int)) ∧ (∀ x ∈ l2', CB C x) ∧ (∀ x ∈ l3', CB C x) := by
   obtain ⟨j', l1', l2', l3', z', e, h⟩ := F34_3_ok k s c4 a b R hn hs ha hb d m (i + 1) j l1 l2 l3 (List.set z i (-1)) (by omega) (by omega) e1 e2 e3 (by omega) (hz.no (by omega)) g1 g2 g3
   exact ⟨j', l1', l2', l3', z', by rw [e]; rfl, h⟩
  have k1 : ∀ (l : List Int) (x : Int), l.length = j → (l.length + [x].length) * (8 * 2) ≤ 281474976710656 ∧ l.length + [x].length ≤ 9223372036854775807 := fun l x h => by rw [h, List.length_singleton]; omega
  simp only [F34_3]
  rw [decide_eq_true (by omega), cond_true, if_pos q1, tnI i, if_pos q2, wi]
  cases List.getD a i false with
  | false => rw [cond_false]; exact no
  | true =>
   rw [cond_true, if_pos q3]
   cases List.getD b i false with
   | false => rw [cond_false]; exact no
   | true =>
    simp only [one_list]
    rw [cond_true, if_pos q4, if_pos q5, if_pos q6, if_pos q7, if_pos (k1 l1 _ e1), if_pos (k1 l2 _ e2), if_pos (k1 l3 _ e3), e1]
    have add : ∀ {P : Int → Prop} {l : List Int} {x : Int}, (∀ y ∈ l, P y) → P x → ∀ y ∈ l ++ [x], P y := fun h1 h2 y hy => by
     rcases List.mem_append.1 hy with g | g
     ·exact h1 y g
     ·rw [List.mem_singleton.1 g]; exact h2
    obtain ⟨j', l1', l2', l3', z', e, h⟩ := F34_3_ok k s c4 a b R hn hs ha hb d m (i + 1) (j + 1) (l1 ++ [List.getD s.1 i 0]) (l2 ++ [List.getD s.2.1 i 0]) (l3 ++ [List.getD s.2.2.1 i 0]) (List.set (List.set z i (-1)) i ((j : Nat) : Int)) (by omega) (by omega) (by simp [e1]) (by simp [e2]) (by simp [e3]) (by omega) (hz.yes (by omega)) (add (P := fun x => -1 ≤ x ∧ x < (M0 : Int)) g1 (hs.sets _ (getD_mem (by omega)))) (add g2 (hs.cf _ (getD_mem (by omega)))) (add g3 (hs.ce _ (getD_mem (by omega))))
    exact ⟨j', l1', l2', l3', z', by rw [e]; rfl, h⟩
def renA (z : List Int) (x : ArcT) : ArcT := (List.getD z (Int.toNat x.1) 0, (List.getD z (Int.toNat x.2.1) 0, (x.2.2.1, ())))
theorem ren_lt {n j : Nat} {z : List Int} (hz : RenP n n j z) {B : Int} {l : List ArcT} (hl : ArcG n B l) {x y : ArcT} (hx : x ∈ l) (hy : y ∈ l) (h : Lt x y) (h1 : 0 ≤ (renA z x).1) (h2 : 0 ≤ (renA z x).2.1) (h3 : 0 ≤ (renA z y).1) (h4 : 0 ≤ (renA z y).2.1) : Lt (renA z x) (renA z y) := by
 have ax := hl x hx
 have ay := hl y hy
 unfold Lt at *
 unfold renA at *
 simp only at *
 rcases h with h | ⟨e, h⟩
 ·left
  exact hz.mon _ _ (by omega) (by omega) h1 h3
 ·right
  rw [e]
  exact ⟨rfl, hz.mon _ _ (by omega) (by omega) h2 h4⟩
theorem F34_4_ok {n M0 j : Nat} {C : Int} (k : Nat) (s c4 : SideT) (z : List Int) (l1 l2 l3 : List Int) (R : Int × Unit) (hn : n ≤ 500) (hs : SideG n C M0 s) (hz : RenP n n j z) : ∀ (d m i : Nat) (o : List ArcT), i + d = s.2.2.2.1.length → d < m → o.length ≤ i → Srt o → ArcG j (2 * C) o → (∀ y ∈ o, ∃ x ∈ s.2.2.2.1.take i, y = renA z x) →
  ∃ o', F34_4 k m (i : Int) s c4 (l1, (l2, (l3, (o, R)))) z = some ((), (c4, ((l1, (l2, (l3, (o', R)))), ()))) ∧ Srt o' ∧ ArcG j (2 * C) o'
 | 0, m, i, o, hi, hm, ho, h1, h2, h3 => by
  obtain ⟨m, rfl⟩ := pos1 (m := m) (by omega)
  refine ⟨o, ?_, h1, h2⟩
  simp only [F34_4]
  rw [decide_eq_false (by omega), cond_false]
 | d + 1, m, i, o, hi, hm, ho, h1, h2, h3 => by
  obtain ⟨m, rfl⟩ := pos1 (m := m) (by omega)
  have hlt : i < s.2.2.2.1.length := by omega
  have hlen := srt_len hs.srt hs.arcs
  have hnn : n * n ≤ 500 * 500 := Nat.mul_le_mul hn hn
  have hx := hs.arcs _ (List.getElem_mem hlt)
  have hzl := hz.len
  have tk : s.2.2.2.1.take (i + 1) = s.2.2.2.1.take i ++ [s.2.2.2.1[i]] := List.take_succ_eq_append_getElem hlt
  have up : ∀ y ∈ o, ∃ x ∈ s.2.2.2.1.take (i + 1), y = renA z x := fun y hy => by
   obtain ⟨x, hx, e⟩ := h3 y hy
   exact ⟨x, by rw [tk]; exact List.mem_append_left _ hx, e⟩
  have skip : ∃ o', (F34_4 k m ((i + 1 : Nat) : Int) s c4 (l1, (l2, (l3, (o, R)))) z).bind some = some ((), (c4, ((l1, (l2, (l3, (o', R)))), ()))) ∧ Srt o' ∧ ArcG j (2 * C) o' := by
   obtain ⟨o', e, h⟩ := F34_4_ok k s c4 z l1 l2 l3 R hn hs hz d m (i + 1) o (by omega) (by omega) (by omega) h1 h2 up
   exact ⟨o', by rw [e]; rfl, h⟩
  have q1 : (0 : Int) ≤ s.2.2.2.1[i].1 ∧ s.2.2.2.1[i].1 < ((z.length : Nat) : Int) := by omega
  have q2 : (0 : Int) ≤ s.2.2.2.1[i].2.1 ∧ s.2.2.2.1[i].2.1 < ((z.length : Nat) : Int) := by omega
  simp only [F34_4]
  rw [dlt hlt, cond_true, if_pos (inR hlt), tnI i, getD_lt s.2.2.2.1 i _ hlt, wsucc i _ hlt (by omega), if_pos q1]
  by_cases g1 : List.getD z (Int.toNat s.2.2.2.1[i].1) 0 ≥ 0
  ·rw [decide_eq_true g1, cond_true, if_pos q2]
   by_cases g2 : List.getD z (Int.toNat s.2.2.2.1[i].2.1) 0 ≥ 0
   ·rw [decide_eq_true g2, cond_true, if_pos q1, if_pos q2]
    simp only [one_list]
    have k1 : (o.length + [renA z s.2.2.2.1[i]].length) * (24 * 2) ≤ 281474976710656 ∧ o.length + [renA z s.2.2.2.1[i]].length ≤ 9223372036854775807 := by rw [List.length_singleton]; omega
    have k1' : (o.length + [((List.getD z (Int.toNat s.2.2.2.1[i].1) 0), (List.getD z (Int.toNat s.2.2.2.1[i].2.1) 0, (s.2.2.2.1[i].2.2.1, ())))].length) * (24 * 2) ≤ 281474976710656 ∧ o.length + [((List.getD z (Int.toNat s.2.2.2.1[i].1) 0), (List.getD z (Int.toNat s.2.2.2.1[i].2.1) 0, (s.2.2.2.1[i].2.2.1, ())))].length ≤ 9223372036854775807 := k1
    rw [if_pos k1']
    have r1 := hz.rng (Int.toNat s.2.2.2.1[i].1) (by omega)
    have r2 := hz.rng (Int.toNat s.2.2.2.1[i].2.1) (by omega)
    obtain ⟨o', e, h⟩ := F34_4_ok k s c4 z l1 l2 l3 R hn hs hz d m (i + 1) (o ++ [renA z s.2.2.2.1[i]]) (by omega) (by omega) (by simp; omega) (by
     refine List.pairwise_append.2 ⟨h1, List.pairwise_singleton _ _, fun y hy y2 hy2 => ?_⟩
     rw [List.mem_singleton.1 hy2]
     obtain ⟨x, hx2, e⟩ := h3 y hy
     have hy3 := h2 y hy
     have hs2 := hs.srt
     unfold Srt at hs2
     rw [← List.take_append_drop i s.2.2.2.1, List.drop_eq_getElem_cons hlt] at hs2
     have lt := (List.pairwise_append.1 hs2).2.2 x hx2 s.2.2.2.1[i] List.mem_cons_self
     rw [e] at hy3 ⊢
     exact ren_lt hz hs.arcs (List.mem_of_mem_take hx2) (List.getElem_mem hlt) lt hy3.1.1 hy3.2.1.1 g1 g2) (fun y hy => by
     rcases List.mem_append.1 hy with g | g
     ·exact h2 y g
     ·rw [List.mem_singleton.1 g]
      exact ⟨⟨g1, r1.2⟩, ⟨g2, r2.2⟩, hx.2.2⟩) (fun y hy => by
     rcases List.mem_append.1 hy with g | g
     ·exact up y g
     ·exact ⟨_, by rw [tk]; exact List.mem_append_right _ (List.mem_singleton.2 rfl), List.mem_singleton.1 g⟩)
    refine ⟨o', ?_, h⟩
    have e' : F34_4 k m ((i + 1 : Nat) : Int) s c4 (l1, (l2, (l3, (o ++ [((List.getD z (Int.toNat s.2.2.2.1[i].1) 0), (List.getD z (Int.toNat s.2.2.2.1[i].2.1) 0, (s.2.2.2.1[i].2.2.1, ())))], R)))) z = _ := e
    rw [e']
    rfl
   ·rw [decide_eq_false g2, cond_false]
    exact skip
  ·rw [decide_eq_false g1, cond_false]
   exact skip
theorem F34_ok {n M0 : Nat} {C : Int} (k : Nat) (s : SideT) (M : List (List Bool)) (hk : 10000000 ≤ k) (hn : n ≤ 500) (hs : SideG n C M0 s) (hM : M0 ≤ M.length) (hr : ∀ r ∈ M, r.length ≤ 2000000) : ∃ (j : Nat) (s' : SideT), F34 k s M = some ((s', ()), ()) ∧ j ≤ n ∧ SideG j C M0 s' := by
 have hls := hs.ls
 have hlen := srt_len hs.srt hs.arcs
 have hnn : n * n ≤ 500 * 500 := Nat.mul_le_mul hn hn
 obtain ⟨a, b, c, e1, ha, hb, hc⟩ := F34_0_ok k M s sd0 hk hn hs hM hr n k 0 (List.replicate n false) (List.replicate n false) (List.replicate n false) (Nat.zero_add _) (by omega) (by simp) (by simp) (by simp)
 rw [show ((0 : Nat) : Int) = 0 from rfl] at e1
 have oa := offs_le a
 have ob := offs_le b
 obtain ⟨a2, b2, e2, ha2, hb2⟩ := F34_2_ok k s sd0 c hk hn hs hc (offs a + offs b + 1) k true a b (by omega) (by omega) ha hb
 obtain ⟨j, l1, l2, l3, z, e3, h1, h2, h3, hj, hz, g1, g2, g3⟩ := F34_3_ok k s sd0 a2 b2 ([], (s.2.2.2.2.1, ())) hn hs ha2 hb2 n k 0 0 [] [] [] (List.replicate n 0) (Nat.zero_add _) (by omega) rfl rfl rfl (Nat.le_refl _) ⟨by simp, fun x hx => by omega, fun x y _ hy => by omega⟩ (fun x hx => by cases hx) (fun x hx => by cases hx) (fun x hx => by cases hx)
 rw [show ((0 : Nat) : Int) = 0 from rfl] at e3
 obtain ⟨o, e4, h4, h5⟩ := F34_4_ok k s sd0 z l1 l2 l3 (s.2.2.2.2.1, ()) hn hs hz s.2.2.2.1.length k 0 [] (Nat.zero_add _) (by omega) (Nat.le_refl _) List.Pairwise.nil (fun x hx => by cases hx) (fun x hx => by cases hx)
 rw [show ((0 : Nat) : Int) = 0 from rfl] at e4
 refine ⟨j, (l1, (l2, (l3, (o, (s.2.2.2.2.1, ()))))), ?_, hj, ⟨h1, h2, h3, g2, g3, hs.cn, h4, h5, g1⟩⟩
 have q1 : ((0 : Int) ≤ (n : Int) ∧ (n : Int) < (n : Int) + 1) ∧ (n : Int) ≤ 9223372036854775807 ∧ ((1 : Nat) : Int) * (n : Int) ≤ 281474976710656 := by omega
 have q2 : ((0 : Int) ≤ (n : Int) ∧ (n : Int) < (n : Int) + 1) ∧ (n : Int) ≤ 9223372036854775807 ∧ ((8 : Nat) : Int) * (n : Int) ≤ 281474976710656 := by omega
 unfold F34
 simp only
 rw [hls, if_pos q1, if_pos q1, if_pos q1, tnI (n), e1, Option.bind_some]
 simp only
 rw [e2, Option.bind_some]
 simp only
 rw [if_pos q2, tnI (n), e3, Option.bind_some]
 simp only
 rw [e4, Option.bind_some]
end Go.Proofs.YtibammoednhnoaaE
set_option linter.unusedSimpArgs false
set_option linter.unusedVariables false
set_option maxRecDepth 20000
namespace Go.Proofs.YtibammoednhnoaaE
abbrev InT := List (List Bool)
abbrev Live := List (List Bool)
abbrev INF1 : Int := 1152921504606846976
abbrev MakT := (((Option (List (ByteArray × Int))) × Unit) × ((List SideT) × ((List (List Bool)) × ((List (List Int)) × Unit))))
def ofP (I : InT) (s : SideT) (p a : Nat) : Bool := decide (List.getD s.1 p 0 < 0) || List.getD (List.getD I (List.getD s.1 p 0).toNat []) a false
theorem F61_ok (k : Nat) (nm : (Option (List (ByteArray × Int))) × Unit) (ss : List SideT) (I : InT) (u : List (List Int) × Unit) (s : SideT) (p a : Nat) (hp : p < s.1.length) : F61 k (some (nm, (ss, (I, u)))) s (p : Int) (a : Int) = some ((ofP I s p a, ()), ()) := by
 unfold F61 ofP
 rw [if_pos (inR hp), tnI p]
 simp only [Option.getD_some, Option.isSome_some, if_true]
 by_cases h : List.getD s.1 p 0 < 0
 ·rw [decide_eq_true h, cond_true, Bool.true_or]
 ·rw [decide_eq_false h, cond_false, Bool.false_or]
  generalize hv : List.getD s.1 p 0 = v at h ⊢
  by_cases h2 : v < ((List.length I : Nat) : Int)
  ·rw [decide_eq_true h2, cond_true, if_pos ⟨by omega, h2⟩]
   by_cases h3 : (a : Int) < ((List.length (List.getD I v.toNat []) : Nat) : Int)
   ·rw [decide_eq_true h3, cond_true, if_pos ⟨by omega, h2⟩, if_pos ⟨by omega, h3⟩]
    rfl
   ·rw [decide_eq_false h3, cond_false]
    have : List.getD (List.getD I v.toNat []) a false = false := by
     rw [List.getD_eq_getElem?_getD, List.getElem?_eq_none (by omega)]; rfl
    rw [this]
  ·rw [decide_eq_false h2, cond_false]
   have : List.getD I v.toNat [] = [] := by
    rw [List.getD_eq_getElem?_getD, List.getElem?_eq_none (by omega)]; rfl
   rw [this]
   rfl
theorem F60_ok (k : Nat) (nm : (Option (List (ByteArray × Int))) × Unit) (ss : List SideT) (I : InT) (u : List (List Int) × Unit) (s : SideT) (p a : Nat) (hp : p < s.1.length) : F60 k (p : Int) (some (nm, (ss, (I, u)))) s (a : Int) = some ((ofP I s p a, ()), (some (nm, (ss, (I, u))), s, (a : Int), ())) := by
 unfold F60
 rw [F61_ok k nm ss I u s p a hp, Option.bind_some]
structure InOK (I : InT) (N : Nat) (s : SideT) : Prop where
 sets : ∀ x ∈ s.1, x < ((I.length : Nat) : Int)
 rows : ∀ r ∈ I, r.length = N
structure SOK (s : SideT) : Prop where
 lf : s.2.1.length = s.1.length
 le : s.2.2.1.length = s.1.length
 arcs : ∀ x ∈ s.2.2.2.1, (0 ≤ x.1 ∧ x.1 < ((s.1.length : Nat) : Int)) ∧ 0 ≤ x.2.1 ∧ x.2.1 < ((s.1.length : Nat) : Int)
 ln : s.1.length ≤ 100000
 la : s.2.2.2.1.length ≤ 100000
def endP (I : InT) (s : SideT) (a p : Nat) : Bool := decide (List.getD s.2.2.1 p 0 < INF1) && ofP I s p a
def arcR (I : InT) (s : SideT) (a : Nat) (r : List Bool) (row : List Bool) (x : ArcT) : List Bool := if ofP I s x.1.toNat a && List.getD r x.2.1.toNat false then List.set row x.1.toNat true else row
def stepS (I : InT) (s : SideT) (a : Nat) (r : List Bool) : List Bool := s.2.2.2.1.foldl (arcR I s a r) ((List.range s.1.length).map (endP I s a))
theorem arcR_len (I : InT) (s : SideT) (a : Nat) (r row : List Bool) (x : ArcT) : (arcR I s a r row x).length = row.length := by
 unfold arcR
 split
 ·exact List.length_set
 ·rfl
theorem arcs_len (I : InT) (s : SideT) (a : Nat) (r : List Bool) : ∀ (l : List ArcT) (row : List Bool), (l.foldl (arcR I s a r) row).length = row.length
 | [], row => rfl
 | x :: l, row => by rw [List.foldl_cons, arcs_len I s a r l, arcR_len]
theorem stepS_len (I : InT) (s : SideT) (a : Nat) (r : List Bool) : (stepS I s a r).length = s.1.length := by
 unfold stepS
 rw [arcs_len]
 simp
def upto (n i : Nat) (f : Nat → Bool) : List Bool := (List.range n).map fun p => decide (p < i) && f p
theorem upto_len (n i : Nat) (f : Nat → Bool) : (upto n i f).length = n := by simp [upto]
theorem upto_0 (n : Nat) (f : Nat → Bool) : upto n 0 f = List.replicate n false := by
 refine List.ext_getElem (by simp [upto]) fun i h1 h2 => ?_
 simp [upto]
theorem upto_n (n : Nat) (f : Nat → Bool) : upto n n f = (List.range n).map f := by
 refine List.ext_getElem (by simp [upto]) fun i h1 h2 => ?_
 have : i < n := by simpa [upto] using h1
 simp [upto, this]
theorem upto_set (n i : Nat) (f : Nat → Bool) : List.set (upto n i f) i (f i) = upto n (i + 1) f := by
 refine List.ext_getElem (by simp [upto]) fun j h1 h2 => ?_
 have : j < n := by simpa [upto] using h2
 rw [List.getElem_set]
 simp only [upto, List.getElem_map, List.getElem_range]
 split
 ·rename_i e; subst e; simp
 ·rename_i e
  have : decide (j < i) = decide (j < i + 1) := by
   by_cases q : j < i
   ·rw [decide_eq_true q, decide_eq_true (by omega)]
   ·rw [decide_eq_false q, decide_eq_false (by omega)]
  rw [this]
theorem upto_no {n i : Nat} {f : Nat → Bool} (h : f i = false) : upto n i f = upto n (i + 1) f := by
 refine List.ext_getElem (by simp [upto]) fun j h1 h2 => ?_
 simp only [upto, List.getElem_map, List.getElem_range]
 by_cases e : j = i
 ·subst e; rw [h]; simp
 ·have : decide (j < i) = decide (j < i + 1) := by
   by_cases q : j < i
   ·rw [decide_eq_true q, decide_eq_true (by omega)]
   ·rw [decide_eq_false q, decide_eq_false (by omega)]
  rw [this]
def b2i (b : Bool) : Int := if b then 1 else 0
abbrev bits (r : List Bool) : List Int := r.map b2i
theorem bits_set (r : List Bool) (i : Nat) (b : Bool) : List.set (bits r) i (b2i b) = bits (List.set r i b) := by
 unfold bits
 rw [List.map_set]
theorem set_mid {α : Type} (a b c : List α) (i : Nat) (x : α) (h : i < b.length) : List.set (a ++ (b ++ c)) (a.length + i) x = a ++ (List.set b i x ++ c) := by
 rw [List.set_append_right _ _ (by omega), show a.length + i - a.length = i by omega, List.set_append_left _ _ h]
theorem getD_mid {α : Type} (a b c : List α) (i : Nat) (d : α) (h : i < b.length) : List.getD (a ++ (b ++ c)) (a.length + i) d = List.getD b i d := by
 rw [List.getD_eq_getElem?_getD, List.getD_eq_getElem?_getD, List.getElem?_append_right (by omega), show a.length + i - a.length = i by omega, List.getElem?_append_left h]
theorem bits_getD (r : List Bool) (i : Nat) : (List.getD (bits r) i 0 == 1) = List.getD r i false := by
 rw [List.getD_eq_getElem?_getD, List.getD_eq_getElem?_getD, List.getElem?_map]
 cases r[i]? with
 | none => rfl
 | some b => cases b <;> rfl
theorem waddN (a b : Nat) (h : a + b ≤ 9223372036854775807) : IntKind.wrap .i64 ((a : Int) + (b : Int)) = ((a + b : Nat) : Int) := by
 rw [w64 _ (by omega) (by omega)]
 omega
end Go.Proofs.YtibammoednhnoaaE
set_option linter.unusedSimpArgs false
set_option linter.unusedVariables false
set_option maxRecDepth 20000
namespace Go.Proofs.YtibammoednhnoaaE
section
variable (k : Nat) (nm : (Option (List (ByteArray × Int))) × Unit) (ms : List SideT) (I : InT) (u : List (List Int) × Unit) (s : SideT) (a : Nat)
theorem F36_0_ok (hs : SOK s) (b : List Int) (t21 : List SideT) (t22 t23 : Int) (pre post : List Int) (hb : pre.length + s.1.length ≤ 1000000000000) : ∀ (d m i : Nat), i + d = s.1.length → d < m →
  F36_0 k m b (pre.length : Int) t21 t22 t23 (s.1.length : Int) (i : Int) (some (nm, (ms, (I, u)))) (a : Int) s (pre ++ (bits (upto s.1.length i (endP I s a)) ++ post)) =
   some ((b, (pre.length : Int), t21, t22, t23, ()), (some (nm, (ms, (I, u))), (a : Int), s, pre ++ (bits ((List.range s.1.length).map (endP I s a)) ++ post), ()))
 | 0, m, i, hi, hm => by
  obtain ⟨m, rfl⟩ := pos1 (m := m) (by omega)
  have : i = s.1.length := by omega
  subst this
  simp only [F36_0]
  rw [decide_eq_false (by omega), cond_false, upto_n]
 | d + 1, m, i, hi, hm => by
  obtain ⟨m, rfl⟩ := pos1 (m := m) (by omega)
  have hlt : i < s.1.length := by omega
  have hle := hs.le
  have hln := hs.ln
  have hlt2 : i < s.2.2.1.length := by omega
  have ih := F36_0_ok hs b t21 t22 t23 pre post hb d m (i + 1) (by omega) (by omega)
  simp only [F36_0]
  rw [dlt hlt, cond_true, if_pos (inR hlt2), tnI i, wsucc i _ hlt (by omega)]
  by_cases he : List.getD s.2.2.1 i 0 < INF1
  ·rw [decide_eq_true he, cond_true, F60_ok k nm ms I u s i a hlt, Option.bind_some]
   simp only
   have hend : endP I s a i = ofP I s i a := by unfold endP; rw [decide_eq_true he, Bool.true_and]
   cases ho : ofP I s i a with
   | false =>
    rw [cond_false, upto_no (hend.trans ho), ih]
    rfl
   | true =>
    rw [cond_true, waddN _ _ (by omega)]
    have hin : 0 ≤ ((pre.length + i : Nat) : Int) ∧ ((pre.length + i : Nat) : Int) < ((List.length (pre ++ (bits (upto s.1.length i (endP I s a)) ++ post)) : Nat) : Int) := by
     simp only [List.length_append, List.length_map, upto_len]
     omega
    rw [if_pos hin, tnI (pre.length + i), set_mid _ _ _ _ _ (by simp [upto_len]; omega)]
    have h1 : List.set (bits (upto s.1.length i (endP I s a))) i (1 : Int) = bits (upto s.1.length (i + 1) (endP I s a)) := by
     rw [show (1 : Int) = b2i (endP I s a i) by rw [hend, ho]; rfl, bits_set, upto_set]
    rw [h1, ih]
    rfl
  ·rw [decide_eq_false he, cond_false]
   have hend : endP I s a i = false := by unfold endP; rw [decide_eq_false he, Bool.false_and]
   rw [upto_no hend, ih]
   rfl
theorem F36_1_ok (hs : SOK s) (r : List Bool) (hr : r.length = s.1.length) (t21 : List SideT) (t22 t23 : Int) (preB postB pre post : List Int) (hp : preB.length = pre.length) (hb : pre.length + s.1.length ≤ 1000000000000) : ∀ (d m i : Nat) (row : List Bool), i + d = s.2.2.2.1.length → d < m → row.length = s.1.length →
  F36_1 k m (preB ++ (bits r ++ postB)) (pre.length : Int) t21 t22 t23 s.2.2.2.1 (s.2.2.2.1.length : Int) (i : Int) (some (nm, (ms, (I, u)))) (a : Int) s (pre ++ (bits row ++ post)) =
   some ((preB ++ (bits r ++ postB), (pre.length : Int), t21, t22, t23, ()), (some (nm, (ms, (I, u))), (a : Int), s, pre ++ (bits ((s.2.2.2.1.drop i).foldl (arcR I s a r) row) ++ post), ()))
 | 0, m, i, row, hi, hm, hrow => by
  obtain ⟨m, rfl⟩ := pos1 (m := m) (by omega)
  simp only [F36_1]
  rw [decide_eq_false (by omega), cond_false, List.drop_eq_nil_of_le (by omega)]
  rfl
 | d + 1, m, i, row, hi, hm, hrow => by
  obtain ⟨m, rfl⟩ := pos1 (m := m) (by omega)
  have hlt : i < s.2.2.2.1.length := by omega
  have hla := hs.la
  have hln := hs.ln
  obtain ⟨⟨f0, f1⟩, g0, g1⟩ := hs.arcs _ (List.getElem_mem hlt)
  have ih := fun row' hrow' => F36_1_ok hs r hr t21 t22 t23 preB postB pre post hp hb d m (i + 1) row' (by omega) (by omega) hrow'
  have hdrop : s.2.2.2.1.drop i = s.2.2.2.1[i] :: s.2.2.2.1.drop (i + 1) := List.drop_eq_getElem_cons hlt
  rw [hdrop, List.foldl_cons]
  simp only [F36_1]
  rw [dlt hlt, cond_true, if_pos (inR hlt), tnI i, wsucc i _ hlt (by omega), getD_lt _ _ _ hlt]
  generalize s.2.2.2.1[i] = x at f0 f1 g0 g1 ⊢
  obtain ⟨x1, hx1⟩ : ∃ n : Nat, x.1 = (n : Int) := ⟨x.1.toNat, by omega⟩
  obtain ⟨x2, hx2⟩ : ∃ n : Nat, x.2.1 = (n : Int) := ⟨x.2.1.toNat, by omega⟩
  have n1 : x1 < s.1.length := by omega
  have n2 : x2 < s.1.length := by omega
  rw [hx1, hx2, waddN _ _ (by omega)]
  have hin : 0 ≤ ((pre.length + x2 : Nat) : Int) ∧ ((pre.length + x2 : Nat) : Int) < ((List.length (preB ++ (bits r ++ postB)) : Nat) : Int) := by
   simp only [List.length_append, List.length_map]
   omega
  rw [if_pos hin, tnI (pre.length + x2), ← hp, getD_mid _ _ _ _ _ (by simp; omega), bits_getD, hp]
  have harc : arcR I s a r row x = if ofP I s x1 a && List.getD r x2 false then List.set row x1 true else row := by
   unfold arcR
   rw [hx1, hx2]
   rfl
  rw [harc]
  cases h2 : List.getD r x2 false with
  | false =>
   rw [cond_false, Bool.and_false, if_neg (by simp), ih row hrow]
   rfl
  | true =>
   rw [cond_true, F60_ok k nm ms I u s x1 a n1, Option.bind_some]
   simp only
   cases ho : ofP I s x1 a with
   | false =>
    rw [cond_false, Bool.false_and, if_neg (by simp), ih row hrow]
    rfl
   | true =>
    rw [cond_true, waddN _ _ (by omega)]
    have hin2 : 0 ≤ ((pre.length + x1 : Nat) : Int) ∧ ((pre.length + x1 : Nat) : Int) < ((List.length (pre ++ (bits row ++ post)) : Nat) : Int) := by
     simp only [List.length_append, List.length_map]
     omega
    rw [if_pos hin2, tnI (pre.length + x1), set_mid _ _ _ _ _ (by simp; omega), show (1 : Int) = b2i true from rfl, bits_set, Bool.true_and, if_pos rfl, ih _ (by rw [List.length_set]; exact hrow)]
    rfl
end
def stepL (I : InT) (ss : List SideT) (L : Live) (a : Nat) : Live := List.zipWith (fun s r => stepS I s a r) ss L
def Shp (ss : List SideT) (L : Live) : Prop := L.map List.length = ss.map (·.1.length)
def tot (ss : List SideT) : Nat := (ss.map (·.1.length)).sum
abbrev flat (L : Live) : List Int := bits L.flatten
theorem flat_len {ss : List SideT} {L : Live} (h : Shp ss L) : (flat L).length = tot ss := by
 unfold flat tot
 rw [List.length_map, List.length_flatten, h]
theorem flat_app (A B : Live) : flat (A ++ B) = flat A ++ flat B := by simp [flat, bits]
theorem flat_cons (r : List Bool) (L : Live) : flat (r :: L) = bits r ++ flat L := by simp [flat, bits]
theorem flat_one (r : List Bool) : flat [r] = bits r := by simp [flat]
theorem tot_cons (s : SideT) (ss : List SideT) : tot (s :: ss) = s.1.length + tot ss := by simp [tot]
theorem tot_app (a b : List SideT) : tot (a ++ b) = tot a + tot b := by simp [tot]
theorem stepL_shp {I : InT} {a : Nat} : ∀ {ss : List SideT} {L : Live}, Shp ss L → Shp ss (stepL I ss L a)
 | [], [], _ => rfl
 | [], _ :: _, h => by simp [Shp] at h
 | _ :: _, [], h => by simp [Shp] at h
 | s :: ss, r :: L, h => by
  unfold Shp at h ⊢
  simp only [List.map_cons, List.cons.injEq] at h
  have := stepL_shp (I := I) (a := a) (ss := ss) (L := L) h.2
  unfold Shp at this
  simp only [stepL, List.zipWith_cons_cons, List.map_cons, List.cons.injEq, stepS_len, true_and]
  exact this
theorem F36_2_ok (k : Nat) (nm : (Option (List (ByteArray × Int))) × Unit) (I : InT) (u : List (List Int) × Unit) (ss : List SideT) (a : Nat) (L : Live) (hk : 10000000 ≤ k) (hs : ∀ s ∈ ss, SOK s) (hL : Shp ss L) (hn : ss.length ≤ 1000000) (ht : tot ss ≤ 100000000) : ∀ (d m i : Nat) (D : Live), i + d = ss.length → d < m → Shp (ss.take i) D →
  F36_2 k m (flat L) ((tot (ss.take i) : Nat) : Int) ss (ss.length : Int) (i : Int) (some (nm, (ss, (I, u)))) (a : Int) (flat D ++ List.replicate (tot (ss.drop i)) 0) = some ((), (flat (D ++ stepL I (ss.drop i) (L.drop i) a), ()))
 | 0, m, i, D, hi, hm, hD => by
  obtain ⟨m, rfl⟩ := pos1 (m := m) (by omega)
  simp only [F36_2]
  rw [decide_eq_false (by omega), cond_false, List.drop_eq_nil_of_le (by omega : ss.length ≤ i)]
  simp [tot, stepL]
 | d + 1, m, i, D, hi, hm, hD => by
  obtain ⟨m, rfl⟩ := pos1 (m := m) (by omega)
  have hlt : i < ss.length := by omega
  have hlL : L.length = ss.length := by have := congrArg List.length hL; simpa using this
  have hlt2 : i < L.length := by omega
  have hss : ss.drop i = ss[i] :: ss.drop (i + 1) := List.drop_eq_getElem_cons hlt
  have hLL : L.drop i = L[i] :: L.drop (i + 1) := List.drop_eq_getElem_cons hlt2
  have hso := hs _ (List.getElem_mem hlt)
  have hrl : L[i].length = ss[i].1.length := by
   have := congrArg (fun l => l[i]?) hL
   simpa [List.getElem?_map, hlt, hlt2] using this
  have htk : tot (ss.take (i + 1)) = tot (ss.take i) + ss[i].1.length := by
   rw [List.take_succ_eq_append_getElem hlt, tot_app]
   simp [tot]
  have htd : tot (ss.drop i) = ss[i].1.length + tot (ss.drop (i + 1)) := by rw [hss, tot_cons]
  have htot : tot ss = tot (ss.take i) + tot (ss.drop i) := by rw [← tot_app, List.take_append_drop]
  have hLsplit : flat L = flat (L.take i) ++ (bits L[i] ++ flat (L.drop (i + 1))) := by
   have h0 : L = L.take i ++ (L[i] :: L.drop (i + 1)) := by rw [← hLL, List.take_append_drop]
   calc flat L = flat (L.take i ++ (L[i] :: L.drop (i + 1))) := congrArg flat h0
    _ = _ := by rw [flat_app, flat_cons]
  have hLt : Shp (ss.take i) (L.take i) := by unfold Shp; rw [List.map_take, List.map_take, hL]
  have hpl : (flat (L.take i)).length = tot (ss.take i) := flat_len hLt
  have hDl : (flat D).length = tot (ss.take i) := flat_len hD
  have hrep : List.replicate (tot (ss.drop i)) (0 : Int) = bits (upto ss[i].1.length 0 (endP I ss[i] a)) ++ List.replicate (tot (ss.drop (i + 1))) 0 := by
   rw [htd, upto_0, ← List.replicate_append_replicate]
   simp [bits, b2i]
  have hln := hso.ln
  have hla := hso.la
  have e0 := F36_0_ok k nm ss I u ss[i] a hso (flat L) ss (ss.length : Int) (i : Int) (flat D) (List.replicate (tot (ss.drop (i + 1))) 0) (by omega) ss[i].1.length k 0 (Nat.zero_add _) (by omega)
  have e1 := F36_1_ok k nm ss I u ss[i] a hso L[i] hrl ss (ss.length : Int) (i : Int) (flat (L.take i)) (flat (L.drop (i + 1))) (flat D) (List.replicate (tot (ss.drop (i + 1))) 0) (by omega) (by omega) ss[i].2.2.2.1.length k 0 ((List.range ss[i].1.length).map (endP I ss[i] a)) (Nat.zero_add _) (by omega) (by simp)
  rw [show ((0 : Nat) : Int) = 0 from rfl] at e0 e1
  rw [List.drop_zero] at e1
  have ih := F36_2_ok k nm I u ss a L hk hs hL hn ht d m (i + 1) (D ++ [stepS I ss[i] a L[i]]) (by omega) (by omega) (by
   unfold Shp at hD ⊢
   rw [List.take_succ_eq_append_getElem hlt, List.map_append, List.map_append, hD]
   simp [stepS_len])
  simp only [F36_2]
  rw [dlt hlt, cond_true, if_pos (inR hlt), tnI i, getD_lt _ _ _ hlt, hrep, ← hDl, e0, Option.bind_some]
  simp only
  rw [hLsplit, e1, Option.bind_some]
  simp only
  rw [← hLsplit, hDl, waddN _ _ (by omega), ← htk, wsucc i _ hlt (by omega)]
  have hfl : flat D ++ (bits ((ss[i].2.2.2.1).foldl (arcR I ss[i] a L[i]) ((List.range ss[i].1.length).map (endP I ss[i] a))) ++ List.replicate (tot (ss.drop (i + 1))) 0) = flat (D ++ [stepS I ss[i] a L[i]]) ++ List.replicate (tot (ss.drop (i + 1))) 0 := by
   rw [flat_app, flat_one, List.append_assoc]
   rfl
  have hst : stepL I (ss.drop i) (L.drop i) a = stepS I ss[i] a L[i] :: stepL I (ss.drop (i + 1)) (L.drop (i + 1)) a := by
   rw [hss, hLL]
   rfl
  rw [hfl, ih, hst, List.append_assoc]
  rfl
theorem F36_ok (k : Nat) (nm : (Option (List (ByteArray × Int))) × Unit) (I : InT) (u : List (List Int) × Unit) (ss : List SideT) (a : Nat) (L : Live) (hk : 10000000 ≤ k) (hs : ∀ s ∈ ss, SOK s) (hL : Shp ss L) (hn : ss.length ≤ 1000000) (ht : tot ss ≤ 100000000) :
  F36 k (some (nm, (ss, (I, u)))) (flat L) (a : Int) = some ((flat (stepL I ss L a), ()), ()) := by
 have hfl := flat_len hL
 have e := F36_2_ok k nm I u ss a L hk hs hL hn ht ss.length k 0 [] (Nat.zero_add _) (by omega) rfl
 rw [show ((0 : Nat) : Int) = 0 from rfl, List.take_zero, List.drop_zero, List.drop_zero, List.nil_append] at e
 have hrep : List.replicate (Int.toNat ((List.length (flat L) : Nat) : Int)) (0 : Int) = flat [] ++ List.replicate (tot ss) 0 := by
  rw [hfl]
  rfl
 rw [← hrep] at e
 unfold F36
 rw [if_pos (by omega)]
 simp only [Option.isSome_some, if_true, Option.getD_some]
 rw [show F36_2 k k (flat L) 0 ss (ss.length : Int) 0 (some (nm, (ss, (I, u)))) (a : Int) (List.replicate (Int.toNat ((List.length (flat L) : Nat) : Int)) (0 : Int)) = _ from e, Option.bind_some]
end Go.Proofs.YtibammoednhnoaaE
set_option linter.unusedSimpArgs false
set_option linter.unusedVariables false
set_option maxRecDepth 20000
namespace Go.Proofs.YtibammoednhnoaaE
def hitP (s : SideT) (r : List Bool) (p : Nat) : Bool := List.getD r p false && decide (List.getD s.2.1 p 0 < INF1)
def holdS (s : SideT) (r : List Bool) : Bool := decide (s.2.2.2.2.1 < INF1) || (List.range s.1.length).any (hitP s r)
def holdL (ss : List SideT) (L : Live) : List Bool := List.zipWith holdS ss L
theorem holdL_len {ss : List SideT} {L : Live} (h : Shp ss L) : (holdL ss L).length = ss.length := by
 have hlL : L.length = ss.length := by have := congrArg List.length h; simpa using this
 simp [holdL, hlL]
theorem range_any_drop (f : Nat → Bool) {n i : Nat} (h : i < n) : ((List.range n).drop i).any f = (f i || ((List.range n).drop (i + 1)).any f) := by
 rw [List.drop_eq_getElem_cons (by simpa using h), List.any_cons, List.getElem_range]
section
variable (k : Nat) (s : SideT)
theorem F37_0_ok (hs : SOK s) (r : List Bool) (hr : r.length = s.1.length) (t15 : List SideT) (t16 t17 : Int) (pre post : List Int) (acc : List Bool) (hb : pre.length + s.1.length ≤ 1000000000000) : ∀ (d m i : Nat) (is : Bool), i + d = s.1.length → d < m →
  F37_0 k m (pre ++ (bits r ++ post)) (pre.length : Int) is t15 t16 t17 s.2.1 (s.2.1.length : Int) (i : Int) s acc = some ((pre ++ (bits r ++ post), (pre.length : Int), is || ((List.range s.1.length).drop i).any (hitP s r), t15, t16, t17, ()), (s, acc, ()))
 | 0, m, i, is, hi, hm => by
  obtain ⟨m, rfl⟩ := pos1 (m := m) (by omega)
  have hf := hs.lf
  simp only [F37_0]
  rw [decide_eq_false (by omega), cond_false, List.drop_eq_nil_of_le (by simp; omega)]
  simp
 | d + 1, m, i, is, hi, hm => by
  obtain ⟨m, rfl⟩ := pos1 (m := m) (by omega)
  have hf := hs.lf
  have hln := hs.ln
  have hlt : i < s.1.length := by omega
  have hlt2 : i < s.2.1.length := by omega
  have ih := fun is => F37_0_ok hs r hr t15 t16 t17 pre post acc hb d m (i + 1) is (by omega) (by omega)
  rw [range_any_drop _ hlt]
  simp only [F37_0]
  rw [dlt hlt2, cond_true, if_pos (inR hlt2), tnI i, wsucc i _ hlt (by omega)]
  cases is with
  | true =>
   rw [cond_true, ih true]
   simp
  | false =>
   rw [cond_false]
   by_cases h : List.getD s.2.1 i 0 < INF1
   ·have hin : 0 ≤ ((pre.length + i : Nat) : Int) ∧ ((pre.length + i : Nat) : Int) < ((List.length (pre ++ (bits r ++ post)) : Nat) : Int) := by
     simp only [List.length_append, List.length_map]
     omega
    rw [decide_eq_true h, cond_true, waddN _ _ (by omega), if_pos hin, tnI (pre.length + i), getD_mid _ _ _ _ _ (by simp; omega), bits_getD, ih]
    have : hitP s r i = List.getD r i false := by unfold hitP; rw [decide_eq_true h, Bool.and_true]
    rw [this, Bool.false_or]
    rfl
   ·rw [decide_eq_false h, cond_false, ih false]
    have : hitP s r i = false := by unfold hitP; rw [decide_eq_false h, Bool.and_false]
    rw [this, Bool.false_or, Bool.false_or]
    rfl
end
theorem F62_ok (k : Nat) (l : List Bool) (h : l.length ≤ 1000000) : F62 k l = some ((l, ()), ()) := by
 unfold F62
 cases l with
 | nil => rfl
 | cons x l =>
  rw [nz (by simp), cond_false, if_pos (by simp at h ⊢; omega)]
  rfl
theorem F37_1_ok (k : Nat) (ss : List SideT) (L : Live) (hk : 10000000 ≤ k) (hs : ∀ s ∈ ss, SOK s) (hL : Shp ss L) (hn : ss.length ≤ 1000000) (ht : tot ss ≤ 100000000) : ∀ (d m i : Nat) (D : List Bool), i + d = ss.length → d < m → D.length = i →
  F37_1 k m (flat L) ((tot (ss.take i) : Nat) : Int) ss (ss.length : Int) (i : Int) D = some ((), (D ++ holdL (ss.drop i) (L.drop i), ()))
 | 0, m, i, D, hi, hm, hD => by
  obtain ⟨m, rfl⟩ := pos1 (m := m) (by omega)
  simp only [F37_1]
  rw [decide_eq_false (by omega), cond_false, List.drop_eq_nil_of_le (by omega : ss.length ≤ i)]
  simp [holdL]
 | d + 1, m, i, D, hi, hm, hD => by
  obtain ⟨m, rfl⟩ := pos1 (m := m) (by omega)
  have hlt : i < ss.length := by omega
  have hlL : L.length = ss.length := by have := congrArg List.length hL; simpa using this
  have hlt2 : i < L.length := by omega
  have hso := hs _ (List.getElem_mem hlt)
  have hrl : L[i].length = ss[i].1.length := by
   have := congrArg (fun l => l[i]?) hL
   simpa [List.getElem?_map, hlt, hlt2] using this
  have htk : tot (ss.take (i + 1)) = tot (ss.take i) + ss[i].1.length := by
   rw [List.take_succ_eq_append_getElem hlt, tot_app]
   simp [tot]
  have htot : tot ss = tot (ss.take i) + tot (ss.drop i) := by rw [← tot_app, List.take_append_drop]
  have htd : tot (ss.drop i) = ss[i].1.length + tot (ss.drop (i + 1)) := by rw [List.drop_eq_getElem_cons hlt, tot_cons]
  have hLsplit : flat L = flat (L.take i) ++ (bits L[i] ++ flat (L.drop (i + 1))) := by
   have h0 : L = L.take i ++ (L[i] :: L.drop (i + 1)) := by rw [← List.drop_eq_getElem_cons hlt2, List.take_append_drop]
   calc flat L = flat (L.take i ++ (L[i] :: L.drop (i + 1))) := congrArg flat h0
    _ = _ := by rw [flat_app, flat_cons]
  have hLt : Shp (ss.take i) (L.take i) := by unfold Shp; rw [List.map_take, List.map_take, hL]
  have hpl : (flat (L.take i)).length = tot (ss.take i) := flat_len hLt
  have hln := hso.ln
  have e0 := F37_0_ok k ss[i] hso L[i] hrl ss (ss.length : Int) (i : Int) (flat (L.take i)) (flat (L.drop (i + 1))) D (by omega) ss[i].1.length k 0 (decide (ss[i].2.2.2.2.1 < INF1)) (Nat.zero_add _) (by omega)
  rw [show ((0 : Nat) : Int) = 0 from rfl, List.drop_zero, ← hLsplit, hpl] at e0
  have ih := F37_1_ok k ss L hk hs hL hn ht d m (i + 1) (D ++ [holdS ss[i] L[i]]) (by omega) (by omega) (by simp [hD])
  have hst : holdL (ss.drop i) (L.drop i) = holdS ss[i] L[i] :: holdL (ss.drop (i + 1)) (L.drop (i + 1)) := by
   rw [show ss.drop i = ss[i] :: ss.drop (i + 1) from List.drop_eq_getElem_cons hlt, show L.drop i = L[i] :: L.drop (i + 1) from List.drop_eq_getElem_cons hlt2]
   rfl
  simp only [F37_1]
  rw [dlt hlt, cond_true, if_pos (inR hlt), tnI i, getD_lt _ _ _ hlt, e0, Option.bind_some]
  simp only
  rw [show List.set (List.replicate 1 false) 0 (decide (ss[i].2.2.2.2.1 < INF1) || (List.range ss[i].1.length).any (hitP ss[i] L[i])) = [holdS ss[i] L[i]] from rfl, if_pos (by rw [List.length_singleton]; omega), waddN _ _ (by omega), ← htk, wsucc i _ hlt (by omega), ih, hst, List.append_assoc]
  rfl
theorem F37_ok (k : Nat) (nm : (Option (List (ByteArray × Int))) × Unit) (I : InT) (u : List (List Int) × Unit) (ss : List SideT) (L : Live) (hk : 10000000 ≤ k) (hs : ∀ s ∈ ss, SOK s) (hL : Shp ss L) (hn : ss.length ≤ 1000000) (ht : tot ss ≤ 100000000) :
  F37 k (some (nm, (ss, (I, u)))) (flat L) = some ((holdL ss L, ()), ()) := by
 have e := F37_1_ok k ss L hk hs hL hn ht ss.length k 0 [] (Nat.zero_add _) (by omega) rfl
 rw [show ((0 : Nat) : Int) = 0 from rfl, List.take_zero, List.drop_zero, List.drop_zero, List.nil_append, show ((tot ([] : List SideT) : Nat) : Int) = 0 from rfl] at e
 unfold F37
 simp only [Option.isSome_some, if_true, Option.getD_some]
 rw [e, Option.bind_some]
 simp only
 rw [F62_ok k _ (by rw [holdL_len hL]; exact hn), Option.bind_some]
theorem F39_0_ok (k : Nat) (t8 : List (List Bool)) (t9 t10 : Int) (l : List Bool) (hl : l.length ≤ 1000000) : ∀ (d m i : Nat) (acc : List Int), i + d = l.length → d < m → acc.length ≤ 1000000 + i →
  F39_0 k m t8 t9 t10 l (l.length : Int) (i : Int) acc = some ((t8, t9, t10, ()), (acc ++ bits (l.drop i), ()))
 | 0, m, i, acc, hi, hm, ha => by
  obtain ⟨m, rfl⟩ := pos1 (m := m) (by omega)
  simp only [F39_0]
  rw [decide_eq_false (by omega), cond_false, List.drop_eq_nil_of_le (by omega)]
  simp [bits]
 | d + 1, m, i, acc, hi, hm, ha => by
  obtain ⟨m, rfl⟩ := pos1 (m := m) (by omega)
  have hlt : i < l.length := by omega
  have ih := fun b => F39_0_ok k t8 t9 t10 l hl d m (i + 1) (acc ++ [b2i b]) (by omega) (by omega) (by simp; omega)
  rw [List.drop_eq_getElem_cons hlt]
  simp only [F39_0]
  rw [dlt hlt, cond_true, if_pos (inR hlt), tnI i, getD_lt _ _ _ hlt, wsucc i _ hlt (by omega)]
  cases h : l[i] with
  | true =>
   rw [cond_true, if_pos (by simp; omega), show acc ++ List.set (List.replicate 1 (0 : Int)) 0 1 = acc ++ [b2i true] from rfl, ih]
   simp [bits]
  | false =>
   rw [cond_false, if_pos (by simp; omega), show acc ++ List.set (List.replicate 1 (0 : Int)) 0 0 = acc ++ [b2i false] from rfl, ih]
   simp [bits]
theorem F39_ok (k : Nat) (l : List Bool) (hk : 10000000 ≤ k) (hl : l.length ≤ 1000000) : F39 k [l] = some ((bstr (bits l), ()), ()) := by
 have e := F39_0_ok k [l] 1 0 l hl l.length k 0 [] (Nat.zero_add _) (by omega) (by simp)
 rw [show ((0 : Nat) : Int) = 0 from rfl, List.drop_zero, List.nil_append] at e
 obtain ⟨k, rfl⟩ : ∃ k', k = k' + 1 + 1 := ⟨k - 2, by omega⟩
 unfold F39
 simp only [F39_1]
 rw [show (List.length [l] : Nat) = 1 from rfl, show (decide ((0 : Int) < ((1 : Nat) : Int))) = true from rfl, cond_true, if_pos (by decide), show List.getD [l] (Int.toNat 0) [] = l from rfl, show ((1 : Nat) : Int) = 1 from rfl, e, Option.bind_some]
 simp only
 rw [show IntKind.wrap .i64 ((0 : Int) + 1) = 1 from by decide, show (decide ((1 : Int) < 1)) = false from rfl, cond_false, Option.bind_some, Option.bind_some]
 simp only
 rw [if_pos (by simp; omega)]
theorem bstr_inj : ∀ {a b : List Bool}, bstr (bits a) = bstr (bits b) → a = b := by
 intro a b h
 unfold bstr at h
 have h1 := congrArg (fun x => x.data.toList) h
 simp only at h1
 have key : ∀ (a b : List Bool), (bits a).map (fun n => UInt8.ofNat n.toNat) = (bits b).map (fun n => UInt8.ofNat n.toNat) → a = b := by
  intro a
  induction a with
  | nil => intro b h; cases b with
   | nil => rfl
   | cons y b => simp at h
  | cons x a ih => intro b h; cases b with
   | nil => simp at h
   | cons y b =>
    simp only [bits, List.map_cons, List.cons.injEq] at h
    have hxy : x = y := by
     have := h.1
     cases x <;> cases y <;> first | rfl | (exact absurd this (by decide))
    rw [hxy, ih b h.2]
 exact key a b (by simpa using h1)
theorem flatten_inj : ∀ {ss : List SideT} {A B : Live}, Shp ss A → Shp ss B → A.flatten = B.flatten → A = B
 | [], [], [], _, _, _ => rfl
 | [], _ :: _, _, h, _, _ => by simp [Shp] at h
 | [], [], _ :: _, _, h, _ => by simp [Shp] at h
 | _ :: _, [], _, h, _, _ => by simp [Shp] at h
 | _ :: _, _ :: _, [], _, h, _ => by simp [Shp] at h
 | s :: ss, a :: A, b :: B, h1, h2, h => by
  simp only [Shp, List.map_cons, List.cons.injEq] at h1 h2
  simp only [List.flatten_cons] at h
  obtain ⟨e1, e2⟩ := List.append_inj h (by omega)
  rw [e1, flatten_inj (ss := ss) h1.2 h2.2 e2]
theorem key_inj {ss : List SideT} {A B : Live} (h1 : Shp ss A) (h2 : Shp ss B) (h : bstr (flat A) = bstr (flat B)) : A = B := flatten_inj h1 h2 (bstr_inj h)
end Go.Proofs.YtibammoednhnoaaE
set_option linter.unusedSimpArgs false
set_option linter.unusedVariables false
set_option maxRecDepth 20000
namespace Go.Proofs.YtibammoednhnoaaE
def ix {α : Type} [DecidableEq α] (l : List α) (x : α) : Nat := l.idxOf x
def hasB {α : Type} [DecidableEq α] (l : List α) (x : α) : Bool := decide (x ∈ l)
theorem hasB_t {α : Type} [DecidableEq α] {l : List α} {x : α} (h : x ∈ l) : hasB l x = true := decide_eq_true h
theorem hasB_f {α : Type} [DecidableEq α] {l : List α} {x : α} (h : x ∉ l) : hasB l x = false := decide_eq_false h
theorem ix_cons {α : Type} [DecidableEq α] (y x : α) (l : List α) : ix (y :: l) x = if y = x then 0 else ix l x + 1 := by
 unfold ix
 rw [List.idxOf_cons]
 by_cases e : y = x
 ·rw [if_pos e, show (y == x) = true by simpa using e, cond_true]
 ·rw [if_neg e, show (y == x) = false by simpa using e, cond_false]
theorem ix_no {α : Type} [DecidableEq α] {l : List α} {x : α} (h : x ∉ l) : ix l x = l.length := List.idxOf_eq_length h
theorem ix_lt {α : Type} [DecidableEq α] {l : List α} {x : α} (h : x ∈ l) : ix l x < l.length := List.idxOf_lt_length_iff.2 h
theorem ix_get {α : Type} [DecidableEq α] {l : List α} {x : α} (h : x ∈ l) : l[ix l x]'(ix_lt h) = x := List.getElem_idxOf _
def put1 {α : Type} [DecidableEq α] (l : List α) (x : α) : List α := if x ∈ l then l else l ++ [x]
theorem put1_in {α : Type} [DecidableEq α] {l : List α} {x : α} (h : x ∈ l) : put1 l x = l := if_pos h
theorem put1_no {α : Type} [DecidableEq α] {l : List α} {x : α} (h : x ∉ l) : put1 l x = l ++ [x] := if_neg h
theorem hasB_mem {α : Type} [DecidableEq α] {l : List α} {x : α} (h : hasB l x = true) : x ∈ l := of_decide_eq_true h
theorem hasB_not {α : Type} [DecidableEq α] {l : List α} {x : α} (h : hasB l x = false) : x ∉ l := of_decide_eq_false h
theorem put1_le {α : Type} [DecidableEq α] (l : List α) (x : α) : l.length ≤ (put1 l x).length ∧ (put1 l x).length ≤ l.length + 1 := by
 unfold put1
 split
 ·omega
 ·simp
theorem put1_map {α β : Type} [DecidableEq α] [DecidableEq β] (f : α → β) (l : List α) (x : α) (h : ∀ y ∈ l, f y = f x → y = x) : (put1 l x).map f = put1 (l.map f) (f x) := by
 have : f x ∈ l.map f ↔ x ∈ l := by
  constructor
  ·intro hm
   obtain ⟨y, hy, e⟩ := List.mem_map.1 hm
   rw [← h y hy e]
   exact hy
  ·exact fun hm => List.mem_map.2 ⟨x, hm, rfl⟩
 unfold put1
 by_cases hx : x ∈ l
 ·rw [if_pos hx, if_pos (this.2 hx)]
 ·rw [if_neg hx, if_neg fun q => hx (this.1 q), List.map_append]
  rfl
theorem ix_map {α β : Type} [DecidableEq α] [DecidableEq β] (f : α → β) : ∀ (l : List α) (x : α), (∀ y ∈ l, f y = f x → y = x) → ix (l.map f) (f x) = ix l x
 | [], _, _ => rfl
 | y :: l, x, h => by
  rw [List.map_cons, ix_cons, ix_cons]
  by_cases e : y = x
  ·rw [if_pos e, if_pos (by rw [e])]
  ·have : f y ≠ f x := fun q => e (h y List.mem_cons_self q)
   rw [if_neg e, if_neg this, ix_map f l x fun z hz => h z (List.mem_cons_of_mem _ hz)]
def mapK : Nat → List ByteArray → List (ByteArray × Int)
 | _, [] => []
 | i, k :: ks => (k, (i : Int)) :: mapK (i + 1) ks
theorem mapK_len : ∀ (ks : List ByteArray) (i : Nat), (mapK i ks).length = ks.length
 | [], _ => rfl
 | k :: ks, i => by rw [mapK, List.length_cons, List.length_cons, mapK_len ks]
theorem mapK_idx (key : ByteArray) : ∀ (ks : List ByteArray) (i : Nat), idxM (mapK i ks) key = if hasB ks key = true then some (ix ks key, ((i + ix ks key : Nat) : Int)) else none
 | [], i => rfl
 | k :: ks, i => by
  rw [mapK, idxM, mapK_idx key ks (i + 1), ix_cons]
  by_cases e : k = key
  ·subst e
   rw [if_pos rfl, if_pos rfl, if_pos (by simp [hasB])]
   rfl
  ·rw [if_neg (fun q => e q.symm), if_neg e]
   have h1 : hasB (k :: ks) key = hasB ks key := by
    unfold hasB
    refine decide_eq_decide.2 ⟨fun q => ?_, List.mem_cons_of_mem _⟩
    rcases List.mem_cons.1 q with q | q
    ·exact absurd q.symm e
    ·exact q
   rw [h1]
   cases h : hasB ks key with
   | false => rfl
   | true =>
    simp only [if_true, Option.map_some]
    rw [show i + 1 + ix ks key = i + (ix ks key + 1) by omega]
theorem mapK_put (key : ByteArray) : ∀ (ks : List ByteArray) (i : Nat), key ∉ ks → putM (mapK i ks) key ((i + ks.length : Nat) : Int) = mapK i (ks ++ [key])
 | [], i, _ => by simp [mapK, putM]
 | k :: ks, i, h => by
  have e : key ≠ k := fun q => h (by rw [q]; exact List.mem_cons_self)
  rw [mapK, putM, if_neg e, List.cons_append, mapK, List.length_cons, show i + (ks.length + 1) = i + 1 + ks.length by omega, mapK_put key ks (i + 1) fun q => h (List.mem_cons_of_mem _ q)]
def MapI (m : Option (List (ByteArray × Int))) (ks : List ByteArray) : Prop := (m = none ∧ ks = []) ∨ m = some (mapK 0 ks)
theorem find_mem {ks : List ByteArray} {key : ByteArray} (h : key ∈ ks) : findM (mapK 0 ks) key = (((ix ks key : Nat) : Int), true) := by
 unfold findM
 rw [mapK_idx, if_pos (hasB_t h), Nat.zero_add]
theorem find_no {ks : List ByteArray} {key : ByteArray} (h : key ∉ ks) : findM (mapK 0 ks) key = (0, false) := by
 unfold findM
 rw [mapK_idx, if_neg (by rw [hasB_f h]; simp)]
theorem F38_ok (k : Nat) (m : Option (List (ByteArray × Int))) (ks : List ByteArray) (key : ByteArray) (hm : MapI m ks) (hl : ks.length ≤ 1000000000) :
  ∃ m', F38 k (m, ()) key = some ((((ix ks key : Nat) : Int), (!(hasB ks key), ())), ((m', ()), ())) ∧ MapI m' (put1 ks key) := by
 rcases hm with ⟨rfl, rfl⟩ | rfl
 ·refine ⟨some [(key, 0)], rfl, .inr ?_⟩
  simp [put1, mapK]
 ·unfold F38
  simp only [Option.isSome_some, Bool.not_true, cond_false, Option.getD_some]
  by_cases h : key ∈ ks
  ·refine ⟨some (mapK 0 ks), ?_, .inr (by unfold put1; rw [if_pos h])⟩
   rw [find_mem h, hasB_t h]
   rfl
  ·refine ⟨some (mapK 0 (ks ++ [key])), ?_, .inr (by unfold put1; rw [if_neg h])⟩
   rw [find_no h, hasB_f h, ix_no h, mapK_len]
   simp only [Bool.not_false, cond_true, if_true]
   rw [if_pos (by omega)]
   have := mapK_put key ks 0 h
   rw [Nat.zero_add] at this
   rw [this]
theorem F1038_ok (k : Nat) (m : Option (List (ByteArray × Int))) (R : (List SideT) × ((List (List Bool)) × ((List (List Int)) × Unit))) (ks : List ByteArray) (key : ByteArray) (hm : MapI m ks) (hl : ks.length ≤ 1000000000) :
  ∃ m', F1038 k ((m, ()), R) key = some ((((ix ks key : Nat) : Int), (!(hasB ks key), ())), (((m', ()), R), ())) ∧ MapI m' (put1 ks key) := by
 rcases hm with ⟨rfl, rfl⟩ | rfl
 ·refine ⟨some [(key, 0)], rfl, .inr ?_⟩
  simp [put1, mapK]
 ·unfold F1038
  simp only [Option.isSome_some, Bool.not_true, cond_false, Option.getD_some]
  by_cases h : key ∈ ks
  ·refine ⟨some (mapK 0 ks), ?_, .inr (by unfold put1; rw [if_pos h])⟩
   rw [find_mem h, hasB_t h]
   rfl
  ·refine ⟨some (mapK 0 (ks ++ [key])), ?_, .inr (by unfold put1; rw [if_neg h])⟩
   rw [find_no h, hasB_f h, ix_no h, mapK_len]
   simp only [Bool.not_false, cond_true, if_true]
   rw [if_pos (by omega)]
   have := mapK_put key ks 0 h
   rw [Nat.zero_add] at this
   rw [this]
def keyL (L : Live) : ByteArray := bstr (flat L)
theorem F35_ok (k : Nat) (m : Option (List (ByteArray × Int))) (ss : List SideT) (I : InT) (sts : List Live) (x : Live) (hm : MapI m (sts.map keyL)) (hl : sts.length ≤ 1000000000) (hs : ∀ y ∈ sts, Shp ss y) (hx : Shp ss x) (ht : tot ss ≤ 100000000) :
  ∃ m', F35 k ((m, ()), (ss, (I, (sts.map flat, ())))) (flat x) = some ((((ix sts x : Nat) : Int), ()), (((m', ()), (ss, (I, ((put1 sts x).map flat, ())))), ())) ∧ MapI m' ((put1 sts x).map keyL) := by
 have hinj : ∀ y ∈ sts, keyL y = keyL x → y = x := fun y hy e => key_inj (hs y hy) hx e
 have hfl := flat_len hx
 obtain ⟨m', e, h⟩ := F1038_ok k m (ss, (I, (sts.map flat, ()))) (sts.map keyL) (keyL x) hm (by simpa using hl)
 rw [ix_map keyL sts x hinj] at e
 rw [← put1_map keyL sts x hinj] at h
 refine ⟨m', ?_, h⟩
 have hmem : keyL x ∈ sts.map keyL ↔ x ∈ sts := by
  constructor
  ·intro hm
   obtain ⟨y, hy, e⟩ := List.mem_map.1 hm
   rw [← hinj y hy e]
   exact hy
  ·exact fun hm => List.mem_map.2 ⟨x, hm, rfl⟩
 unfold F35 F59
 rw [if_pos (by rw [hfl]; omega), Option.bind_some]
 simp only
 rw [show bstr (flat x) = keyL x from rfl, e, Option.bind_some]
 simp only
 by_cases hx' : x ∈ sts
 ·rw [hasB_t (hmem.2 hx'), Bool.not_true, cond_false]
  unfold put1
  rw [if_pos hx']
 ·rw [hasB_f fun q => hx' (hmem.1 q), Bool.not_false, cond_true, if_pos (by simp; omega)]
  unfold put1
  rw [if_neg hx', List.map_append]
  rfl
section
variable {σ : Type} [DecidableEq σ]
def rowA (step : σ → Nat → σ) (s : σ) : List Nat → List σ → List σ × List Int
 | [], l => (l, [])
 | a :: al, l => ((rowA step s al (put1 l (step s a))).1, ((ix l (step s a) : Nat) : Int) :: (rowA step s al (put1 l (step s a))).2)
theorem rowA_1 (step : σ → Nat → σ) (s : σ) (a : Nat) (al : List Nat) (l : List σ) : (rowA step s (a :: al) l).1 = (rowA step s al (put1 l (step s a))).1 := (rfl).trans rfl
theorem rowA_2 (step : σ → Nat → σ) (s : σ) (a : Nat) (al : List Nat) (l : List σ) : (rowA step s (a :: al) l).2 = ((ix l (step s a) : Nat) : Int) :: (rowA step s al (put1 l (step s a))).2 := (rfl).trans rfl
theorem rowA_le (step : σ → Nat → σ) (s : σ) : ∀ (al : List Nat) (l : List σ), l.length ≤ (rowA step s al l).1.length ∧ (rowA step s al l).1.length ≤ l.length + al.length
 | [], l => by simp [rowA]
 | a :: al, l => by
  have h1 := put1_le l (step s a)
  have h2 := rowA_le step s al (put1 l (step s a))
  simp only [rowA, List.length_cons]
  omega
theorem put1_pre (l : List σ) (x : σ) : ∃ t, put1 l x = l ++ t := by
 unfold put1
 split
 ·exact ⟨[], (List.append_nil _).symm⟩
 ·exact ⟨[x], rfl⟩
theorem rowA_pre (step : σ → Nat → σ) (s : σ) : ∀ (al : List Nat) (l : List σ), ∃ t, (rowA step s al l).1 = l ++ t
 | [], l => ⟨[], (List.append_nil _).symm⟩
 | a :: al, l => by
  obtain ⟨t1, e1⟩ := put1_pre l (step s a)
  obtain ⟨t2, e2⟩ := rowA_pre step s al (put1 l (step s a))
  refine ⟨t1 ++ t2, ?_⟩
  simp only [rowA]
  rw [e2, e1, List.append_assoc]
theorem rowA_row (step : σ → Nat → σ) (s : σ) : ∀ (al : List Nat) (l : List σ), (rowA step s al l).2.length = al.length
 | [], l => rfl
 | a :: al, l => by simp only [rowA, List.length_cons]; rw [rowA_row step s al]
variable (step : σ → Nat → σ) (hold : σ → List Bool) (d0 : σ)
def mkA (B : Int) (N : Nat) : Nat → Nat → List σ → List (List Int) → List Int → List (List Bool) → Option (List σ × List (List Int) × List Int × List (List Bool))
 | 0, _, _, _, _, _ => none
 | f + 1, i, l, nx, ou, se => if i < l.length then (if (l.length : Int) > B then none else
   mkA B N f (i + 1) (rowA step (l.getD i d0) (List.range N) l).1 (nx ++ [(rowA step (l.getD i d0) (List.range N) l).2]) (ou ++ [((ix se (hold (l.getD i d0)) : Nat) : Int)]) (put1 se (hold (l.getD i d0)))) else some (l, nx, ou, se)
end
end Go.Proofs.YtibammoednhnoaaE
set_option linter.unusedSimpArgs false
set_option linter.unusedVariables false
set_option maxRecDepth 20000
namespace Go.Proofs.YtibammoednhnoaaE
abbrev BackT := ((List (List Int)) × ((List Int) × Unit))
theorem F16_0_ok (k : Nat) (ss : List SideT) (I : InT) (t2 t3 : Int) (c : BackT) (hs : ∀ s ∈ ss, SOK s) (hn : ss.length ≤ 1000000) (ht : tot ss ≤ 100000000) : ∀ (d m i : Nat), i + d = ss.length → d < m →
  F16_0 k m ss I t2 t3 ((tot (ss.take i) : Nat) : Int) ss (ss.length : Int) (i : Int) c = some ((ss, I, t2, t3, ((tot ss : Nat) : Int), ()), (c, ()))
 | 0, m, i, hi, hm => by
  obtain ⟨m, rfl⟩ := pos1 (m := m) (by omega)
  simp only [F16_0]
  rw [decide_eq_false (by omega), cond_false, List.take_of_length_le (by omega)]
 | d + 1, m, i, hi, hm => by
  obtain ⟨m, rfl⟩ := pos1 (m := m) (by omega)
  have hlt : i < ss.length := by omega
  have htk : tot (ss.take (i + 1)) = tot (ss.take i) + ss[i].1.length := by
   rw [List.take_succ_eq_append_getElem hlt, tot_app]
   simp [tot]
  have htot : tot ss = tot (ss.take (i + 1)) + tot (ss.drop (i + 1)) := by rw [← tot_app, List.take_append_drop]
  simp only [F16_0]
  rw [dlt hlt, cond_true, if_pos (inR hlt), tnI i, getD_lt _ _ _ hlt, waddN _ _ (by omega), ← htk, wsucc i _ hlt (by omega), F16_0_ok k ss I t2 t3 c hs hn ht d m (i + 1) (by omega) (by omega)]
  rfl
theorem F40_ok (k : Nat) (l : List Int) (h : l.length ≤ 100000000) : F40 k l = some ((l, ()), ()) := by
 unfold F40
 cases l with
 | nil => rfl
 | cons x l =>
  rw [nz (by simp), cond_false, if_pos (by simp at h ⊢; omega)]
  rfl
theorem F41_ok (k : Nat) (l : List (List Int)) (h : l.length ≤ 100000000) : F41 k l = some ((l, ()), ()) := by
 unfold F41
 cases l with
 | nil => rfl
 | cons x l =>
  rw [nz (by simp), cond_false, if_pos (by simp at h ⊢; omega)]
  rfl
theorem F42_ok (k : Nat) (l : List (List Bool)) (h : l.length ≤ 100000000) : F42 k l = some ((l, ()), ()) := by
 unfold F42
 cases l with
 | nil => rfl
 | cons x l =>
  rw [nz (by simp), cond_false, if_pos (by simp at h ⊢; omega)]
  rfl
abbrev mkr (mp : Option (List (ByteArray × Int))) (ss : List SideT) (I : InT) (l : List Live) : MakT := ((mp, ()), (ss, (I, (l.map flat, ()))))
abbrev none4 : ((Int × Unit) × (BackT × Unit)) := (((4 : Int), ()), ((([] : (List (List Int))), (([] : (List Int)), ())), ()))
theorem put1_shp {ss : List SideT} {l : List Live} {x : Live} (h : ∀ y ∈ l, Shp ss y) (hx : Shp ss x) : ∀ y ∈ put1 l x, Shp ss y := by
 unfold put1
 split
 ·exact h
 ·exact all_append h hx
theorem getD_pre {α : Type} {l l' t : List α} {i : Nat} {d : α} (e : l' = l ++ t) (h : i < l.length) : List.getD l' i d = List.getD l i d := by
 rw [e, List.getD_eq_getElem?_getD, List.getD_eq_getElem?_getD, List.getElem?_append_left h]
theorem rowA_shp {ss : List SideT} {I : InT} {s : Live} (hs : Shp ss s) : ∀ (al : List Nat) (l : List Live), (∀ y ∈ l, Shp ss y) → ∀ y ∈ (rowA (stepL I ss) s al l).1, Shp ss y
 | [], l, h => h
 | a :: al, l, h => by
  simp only [rowA]
  exact rowA_shp hs al _ (put1_shp h (stepL_shp hs))
theorem mkA_len {σ : Type} [DecidableEq σ] {step : σ → Nat → σ} {hold : σ → List Bool} {d0 : σ} {B : Int} {N : Nat} : ∀ (f i : Nat) (l : List σ) (nx : List (List Int)) (ou : List Int) (se : List (List Bool)) {q : List σ × List (List Int) × List Int × List (List Bool)}, mkA step hold d0 B N f i l nx ou se = some q → q.2.1.length ≤ nx.length + f ∧ q.2.2.1.length ≤ ou.length + f ∧ q.2.2.2.length ≤ se.length + f
 | 0, i, l, nx, ou, se, q, h => by cases h
 | f + 1, i, l, nx, ou, se, q, h => by
  simp only [mkA] at h
  split at h
  ·split at h
   ·cases h
   ·have := mkA_len f _ _ _ _ _ h
    have h2 := put1_le se (hold (l.getD i d0))
    simp only [List.length_append, List.length_singleton] at this
    omega
  ·injection h with h
   subst h
   simp only
   omega
def zeroL (ss : List SideT) : Live := ss.map fun s => List.replicate s.1.length false
theorem zeroL_shp (ss : List SideT) : Shp ss (zeroL ss) := by simp [Shp, zeroL]
theorem zeroL_flat : ∀ (ss : List SideT), flat (zeroL ss) = List.replicate (tot ss) 0
 | [] => rfl
 | s :: ss => by
  rw [tot_cons, ← List.replicate_append_replicate, ← zeroL_flat ss]
  show flat (List.replicate s.1.length false :: zeroL ss) = _
  rw [flat_cons]
  simp [bits, b2i]
section
variable (k : Nat) (ss : List SideT) (I : InT) (N : Nat) (B : Int)
theorem F16_1_ok (hk : 10000000 ≤ k) (hs : ∀ s ∈ ss, SOK s) (hn : ss.length ≤ 1000000) (ht : tot ss ≤ 100000000) (hN : N ≤ 5000000) (hB : B ≤ 100000) (t2 : Int) (j : Nat) (s : Live) (c8 : BackT) (c45 : (Option (List (ByteArray × Int))) × Unit) (se : List (List Bool)) : ∀ (d m i : Nat) (l : List Live) (mp : Option (List (ByteArray × Int))) (r : List Int), i + d = N → d < m → MapI mp (l.map keyL) → (∀ y ∈ l, Shp ss y) → j < l.length → List.getD l j [] = s → (l.length : Int) ≤ B → r.length = i →
  ∃ mp', MapI mp' ((rowA (stepL I ss) s (List.range' i d) l).1.map keyL) ∧ F16_1 k m t2 B (j : Int) (N : Int) (i : Int) c8 (mkr mp ss I l) c45 se r =
   if ((rowA (stepL I ss) s (List.range' i d) l).1.length : Int) ≤ B then some (.inl ((t2, B, (j : Int), ()), (c8, mkr mp' ss I (rowA (stepL I ss) s (List.range' i d) l).1, c45, se, r ++ (rowA (stepL I ss) s (List.range' i d) l).2, ()))) else some (.inr none4)
 | 0, m, i, l, mp, r, hi, hm, hmp, hl, hj, hsj, hlB, hr => by
  obtain ⟨m, rfl⟩ := pos1 (m := m) (by omega)
  refine ⟨mp, hmp, ?_⟩
  simp only [List.range'_zero, rowA]
  rw [if_pos hlB, List.append_nil]
  simp only [F16_1]
  rw [decide_eq_false (by omega), cond_false]
 | d + 1, m, i, l, mp, r, hi, hm, hmp, hl, hj, hsj, hlB, hr => by
  obtain ⟨m, rfl⟩ := pos1 (m := m) (by omega)
  have hlt : i < N := by omega
  have hsS : Shp ss s := by
   rw [← hsj, getD_lt _ _ _ hj]
   exact hl _ (List.getElem_mem hj)
  have hxS : Shp ss (stepL I ss s i) := stepL_shp hsS
  obtain ⟨mp1, e1, h1⟩ := F35_ok k mp ss I l (stepL I ss s i) hmp (by omega) hl hxS (by omega)
  have hle := put1_le l (stepL I ss s i)
  have hj2 : j < (l.map flat).length := by simpa using hj
  have hgf : List.getD (l.map flat) j [] = flat s := by
   rw [getD_lt _ _ _ hj2, List.getElem_map, ← hsj, getD_lt _ _ _ hj]
  have e36 := F36_ok k (mp, ()) I (l.map flat, ()) ss i s hk hs hsS hn ht
  rw [List.range'_succ, rowA_1, rowA_2]
  have hap : (List.length r + List.length [((ix l (stepL I ss s i) : Nat) : Int)]) * (8 * 2) ≤ 281474976710656 ∧ List.length r + List.length [((ix l (stepL I ss s i) : Nat) : Int)] ≤ 9223372036854775807 := by rw [List.length_singleton]; omega
  have hstep : F16_1 k (m + 1) t2 B (j : Int) (N : Int) (i : Int) c8 (mkr mp ss I l) c45 se r = if ((put1 l (stepL I ss s i)).length : Int) ≤ B then F16_1 k m t2 B (j : Int) (N : Int) ((i + 1 : Nat) : Int) c8 (mkr mp1 ss I (put1 l (stepL I ss s i))) c45 se (r ++ [((ix l (stepL I ss s i) : Nat) : Int)]) else some (.inr none4) := by
   simp only [F16_1]
   rw [dlt hlt, cond_true, if_pos (inR hj2), tnI j, hgf, e36, Option.bind_some]
   simp only
   rw [e1, Option.bind_some]
   simp only
   rw [show List.set (List.replicate 1 (0 : Int)) 0 ((ix l (stepL I ss s i) : Nat) : Int) = [((ix l (stepL I ss s i) : Nat) : Int)] from rfl, if_pos hap, List.length_map, wsucc i _ hlt (by omega)]
   by_cases hc : ((put1 l (stepL I ss s i)).length : Int) ≤ B
   ·rw [if_pos hc, decide_eq_false (by omega), cond_false]
    cases F16_1 k m t2 B (j : Int) (N : Int) ((i + 1 : Nat) : Int) c8 (mkr mp1 ss I (put1 l (stepL I ss s i))) c45 se (r ++ [((ix l (stepL I ss s i) : Nat) : Int)]) <;> rfl
   ·rw [if_neg hc, decide_eq_true (by omega), cond_true]
  rw [hstep]
  by_cases hc : ((put1 l (stepL I ss s i)).length : Int) ≤ B
  ·obtain ⟨tl, htl⟩ := put1_pre l (stepL I ss s i)
   obtain ⟨mp2, h2, e2⟩ := F16_1_ok hk hs hn ht hN hB t2 j s c8 c45 se d m (i + 1) (put1 l (stepL I ss s i)) mp1 (r ++ [((ix l (stepL I ss s i) : Nat) : Int)]) (by omega) (by omega) h1 (put1_shp hl hxS) (by omega) (by rw [getD_pre htl hj]; exact hsj) hc (by simp [hr])
   refine ⟨mp2, h2, ?_⟩
   rw [if_pos hc, e2, List.append_assoc]
   rfl
  ·refine ⟨some (mapK 0 ((rowA (stepL I ss) s (List.range' (i + 1) d) (put1 l (stepL I ss s i))).1.map keyL)), .inr rfl, ?_⟩
   have h3 := rowA_le (stepL I ss) s (List.range' (i + 1) d) (put1 l (stepL I ss s i))
   rw [if_neg hc, if_neg (by omega)]
def outA : Option (List Live × List (List Int) × List Int × List (List Bool)) → (BackT × (List (List Bool)) × Int × Unit)
 | none => ((([] : (List (List Int))), (([] : (List Int)), ())), [], (4 : Int), ())
 | some q => ((q.2.1, (q.2.2.1, ())), q.2.2.2, (0 : Int), ())
theorem F16_2_ok (hk : 10000000 ≤ k) (hs : ∀ s ∈ ss, SOK s) (hn : ss.length ≤ 1000000) (ht : tot ss ≤ 100000000) (hN : N ≤ 5000000) (hB : B ≤ 100000) (t2 : Int) (ht2 : maxI t2 0 = (N : Int)) : ∀ (f m i : Nat) (l : List Live) (mp mo : Option (List (ByteArray × Int))) (nx : List (List Int)) (ou : List Int) (se : List (List Bool)), B.toNat + 2 ≤ i + f → B.toNat + 2 ≤ i + m → i ≤ B.toNat → i ≤ l.length → MapI mp (l.map keyL) → MapI mo (se.map fun h => bstr (bits h)) → (∀ y ∈ l, Shp ss y) → nx.length = i → ou.length = i → se.length ≤ i →
  F16_2 k m t2 B (i : Int) (nx, (ou, ())) (mkr mp ss I l) (mo, ()) se = match mkA (stepL I ss) (holdL ss) [] B N f i l nx ou se with
   | none => some (.inr none4)
   | some q => some (.inl ((), ((q.2.1, (q.2.2.1, ())), q.2.2.2, ())))
 | 0, m, i, l, mp, mo, nx, ou, se, hf, hm, hi, hil, hmp, hmo, hl, hnx, hou, hse => by omega
 | f + 1, m, i, l, mp, mo, nx, ou, se, hf, hm, hi, hil, hmp, hmo, hl, hnx, hou, hse => by
  obtain ⟨m, rfl⟩ := pos1 (m := m) (by omega)
  simp only [F16_2, mkA]
  rw [List.length_map]
  by_cases hlt : i < l.length
  ·rw [if_pos hlt, decide_eq_true (by omega), cond_true]
   by_cases hlB : (l.length : Int) > B
   ·rw [if_pos hlB, decide_eq_true hlB, cond_true]
   ·rw [if_neg hlB, decide_eq_false hlB, cond_false, ht2, if_pos (by omega)]
    have hBi : (l.length : Int) ≤ B := by omega
    obtain ⟨mp1, h1, e1⟩ := F16_1_ok k ss I N B hk hs hn ht hN hB t2 i (l.getD i []) (nx, (ou, ())) (mo, ()) se N k 0 l mp [] (Nat.zero_add _) (by omega) hmp hl hlt rfl hBi rfl
    rw [← List.range_eq_range', List.nil_append] at e1
    rw [← List.range_eq_range'] at h1
    have hstp := fun y hy => rowA_shp (ss := ss) (I := I) (s := l.getD i []) (by rw [getD_lt _ _ _ hlt]; exact hl _ (List.getElem_mem hlt)) (List.range N) l hl y hy
    obtain ⟨tl, htl⟩ := rowA_pre (stepL I ss) (l.getD i []) (List.range N) l
    have hle := rowA_le (stepL I ss) (l.getD i []) (List.range N) l
    have hrw := rowA_row (stepL I ss) (l.getD i []) (List.range N) l
    rw [List.length_range] at hrw
    have hsi : Shp ss (l.getD i []) := by rw [getD_lt _ _ _ hlt]; exact hl _ (List.getElem_mem hlt)
    generalize hq : rowA (stepL I ss) (l.getD i []) (List.range N) l = q at *
    obtain ⟨l', r'⟩ := q
    simp only at *
    rw [show List.replicate (Int.toNat 0) (0 : Int) = [] from rfl, show ((0 : Nat) : Int) = 0 from rfl] at *
    rw [e1]
    by_cases hc : ((l'.length : Nat) : Int) ≤ B
    ·rw [if_pos hc, Option.bind_some]
     simp only
     have hlt' : i < (l'.map flat).length := by rw [List.length_map]; omega
     have hg : List.getD (l'.map flat) i [] = flat (l.getD i []) := by
      have : i < l'.length := by omega
      rw [getD_lt _ _ _ hlt', List.getElem_map, ← getD_lt l' i [] this, getD_pre htl hlt]
     have hh := holdL_len hsi
     obtain ⟨mo', e38, h38⟩ := F38_ok k mo (se.map fun h => bstr (bits h)) (bstr (bits (holdL ss (l.getD i [])))) hmo (by simp; omega)
     rw [ix_map (fun h => bstr (bits h)) se (holdL ss (l.getD i [])) (fun y _ e => bstr_inj e)] at e38
     rw [← put1_map (fun h => bstr (bits h)) se (holdL ss (l.getD i [])) (fun y _ e => bstr_inj e)] at h38
     have hput := put1_le se (holdL ss (l.getD i []))
     have ih := F16_2_ok hk hs hn ht hN hB t2 ht2 f m (i + 1) l' mp1 mo' (nx ++ [r']) (ou ++ [((ix se (holdL ss (l.getD i [])) : Nat) : Int)]) (put1 se (holdL ss (l.getD i []))) (by omega) (by omega) (by omega) (by omega) h1 h38 hstp (by simp [hnx]) (by simp [hou]) (by omega)
     rw [if_pos (inR hlt'), tnI i, hg, F37_ok k (mp1, ()) I (l'.map flat, ()) ss _ hk hs hsi hn ht, Option.bind_some]
     simp only
     rw [F39_ok k _ hk (by omega), Option.bind_some]
     simp only
     rw [e38, Option.bind_some]
     simp only
     rw [F40_ok k r' (by omega)]
     have ha1 : (List.length nx + List.length [r']) * (24 * 2) ≤ 281474976710656 ∧ List.length nx + List.length [r'] ≤ 9223372036854775807 := by rw [List.length_singleton]; omega
     have ha2 : (List.length ou + List.length [((ix se (holdL ss (l.getD i [])) : Nat) : Int)]) * (8 * 2) ≤ 281474976710656 ∧ List.length ou + List.length [((ix se (holdL ss (l.getD i [])) : Nat) : Int)] ≤ 9223372036854775807 := by rw [List.length_singleton]; omega
     have ha3 : (List.length se + List.length [holdL ss (l.getD i [])]) * (24 * 2) ≤ 281474976710656 ∧ List.length se + List.length [holdL ss (l.getD i [])] ≤ 9223372036854775807 := by rw [List.length_singleton]; omega
     have hiw : IntKind.wrap .i64 ((i : Int) + 1) = ((i + 1 : Nat) : Int) := wsucc i l.length hlt (by omega)
     have hmem : hasB (se.map fun h => bstr (bits h)) (bstr (bits (holdL ss (l.getD i [])))) = hasB se (holdL ss (l.getD i [])) := by
      unfold hasB
      refine decide_eq_decide.2 ⟨fun q => ?_, fun q => List.mem_map.2 ⟨_, q, rfl⟩⟩
      obtain ⟨y, hy, e⟩ := List.mem_map.1 q
      rw [← bstr_inj e]
      exact hy
     rw [hmem]
     cases hb : hasB se (holdL ss (l.getD i [])) with
     | true =>
      have hin : holdL ss (l.getD i []) ∈ se := hasB_mem hb
      have hpe : put1 se (holdL ss (l.getD i [])) = se := put1_in hin
      rw [hpe] at ih
      rw [hpe, Bool.not_true, cond_false, Option.bind_some]
      simp only
      rw [if_pos ha1, show List.set (List.replicate 1 (0 : Int)) 0 ((ix se (holdL ss (l.getD i [])) : Nat) : Int) = [((ix se (holdL ss (l.getD i [])) : Nat) : Int)] from rfl, if_pos ha2, hiw, ih]
      cases mkA (stepL I ss) (holdL ss) [] B N f (i + 1) l' (nx ++ [r']) (ou ++ [((ix se (holdL ss (l.getD i [])) : Nat) : Int)]) se <;> rfl
     | false =>
      have hin : holdL ss (l.getD i []) ∉ se := hasB_not hb
      have hpe : put1 se (holdL ss (l.getD i [])) = se ++ [holdL ss (l.getD i [])] := put1_no hin
      rw [hpe] at ih
      rw [hpe, Bool.not_false, cond_true, show List.getD [holdL ss (l.getD i [])] 0 [] = holdL ss (l.getD i []) from rfl, if_pos ha3, Option.bind_some]
      simp only
      rw [if_pos ha1, show List.set (List.replicate 1 (0 : Int)) 0 ((ix se (holdL ss (l.getD i [])) : Nat) : Int) = [((ix se (holdL ss (l.getD i [])) : Nat) : Int)] from rfl, if_pos ha2, hiw, ih]
      cases mkA (stepL I ss) (holdL ss) [] B N f (i + 1) l' (nx ++ [r']) (ou ++ [((ix se (holdL ss (l.getD i [])) : Nat) : Int)]) (se ++ [holdL ss (l.getD i [])]) <;> rfl
    ·rw [if_neg hc, Option.bind_some]
     simp only
     obtain ⟨f, rfl⟩ : ∃ f', f = f' + 1 := ⟨f - 1, by omega⟩
     simp only [mkA]
     rw [if_pos (by omega), if_pos (by omega)]
  ·rw [if_neg hlt, decide_eq_false (by omega), cond_false]
theorem F16_ok (hk : 10000000 ≤ k) (hs : ∀ s ∈ ss, SOK s) (hn : ss.length ≤ 1000000) (ht : tot ss ≤ 100000000) (hN : N ≤ 5000000) (t2 : Int) (ht2 : maxI t2 0 = (N : Int)) (b : Int) :
  F16 k ss I t2 b = some (outA (mkA (stepL I ss) (holdL ss) [] (minI b 100000) N ((minI b 100000).toNat + 2) 0 [zeroL ss] [] [] []), ()) := by
 have hB : minI b 100000 ≤ 100000 := by unfold minI; split <;> omega
 unfold F16
 generalize minI b 100000 = B at hB ⊢
 have e0 := F16_0_ok k ss I t2 B (([] : (List (List Int))), (([] : (List Int)), ())) hs hn ht ss.length k 0 (Nat.zero_add _) (by omega)
 rw [show ((0 : Nat) : Int) = 0 from rfl, List.take_zero, show ((tot ([] : List SideT) : Nat) : Int) = 0 from rfl] at e0
 obtain ⟨mp, e1, h1⟩ := F35_ok k none ss I [] (zeroL ss) (.inl ⟨rfl, rfl⟩) (Nat.zero_le _) (fun y hy => by cases hy) (zeroL_shp ss) ht
 have hp0 : put1 [] (zeroL ss) = [zeroL ss] := rfl
 rw [hp0] at e1 h1
 rw [zeroL_flat] at e1
 have e2 := F16_2_ok k ss I N B hk hs hn ht hN hB t2 ht2 (B.toNat + 2) k 0 [zeroL ss] mp none [] [] [] (by omega) (by omega) (by omega) (Nat.zero_le _) h1 (.inl ⟨rfl, rfl⟩) (fun y hy => by rw [List.mem_singleton.1 hy]; exact zeroL_shp ss) rfl rfl (Nat.le_refl _)
 rw [show ((0 : Nat) : Int) = 0 from rfl] at e2
 rw [e0, Option.bind_some]
 simp only
 rw [if_pos (by omega), tnI (tot ss), show F35 k ((none, ()), (ss, (I, ([], ())))) (List.replicate (tot ss) 0) = _ from e1, Option.bind_some]
 simp only
 rw [show F16_2 k k t2 B 0 ([], ([], ())) ((mp, ()), (ss, (I, (List.map flat [zeroL ss], ())))) (none, ()) [] = _ from e2]
 cases hq : mkA (stepL I ss) (holdL ss) [] B N (B.toNat + 2) 0 [zeroL ss] [] [] [] with
 | none => rfl
 | some q =>
  obtain ⟨l1, l2, l3⟩ := mkA_len _ _ _ _ _ _ hq
  simp only [List.length_nil] at l1 l2 l3
  simp only
  rw [Option.bind_some]
  simp only
  rw [F41_ok k _ (by omega), Option.bind_some]
  simp only
  rw [F40_ok k _ (by omega), Option.bind_some]
  simp only
  rw [F42_ok k _ (by omega), Option.bind_some]
  rfl
end
end Go.Proofs.YtibammoednhnoaaE
set_option linter.unusedSimpArgs false
set_option linter.unusedVariables false
set_option maxRecDepth 20000
namespace Go.Proofs.YtibammoednhnoaaE
theorem F12_known (k : Nat) (hk : 200 ≤ k) : F12 k = some ((true, ()), ()) := by
 obtain ⟨k, rfl⟩ : ∃ k', k = k' + 200 := ⟨k - 200, by omega⟩
 kernel_rfl
theorem F47_eq (k : Nat) (a n : Int) (h0 : 0 < n) (h1 : n ≤ 4611686018427387904) : F47 k a n = some ((a % n, ()), ()) := F50_eq k a n h0 h1
theorem F21_0_ok (k : Nat) (ts : List Int) (n : Nat) (hn : n ≤ 1000) (hl : ts.length ≤ 100000000000000) : ∀ (d m i : Nat) (acc : List Int), i + d = n → d < m → i ≤ ts.length → acc.length = i → ∃ l, F21_0 k m ts (n : Int) (i : Int) acc = some ((), (l, ())) ∧ l.length ≤ n
 | 0, m, i, acc, hi, hm, hil, ha => by
  obtain ⟨m, rfl⟩ := pos1 (m := m) (by omega)
  refine ⟨acc, ?_, by omega⟩
  simp only [F21_0]
  rw [decide_eq_false (show ¬ (i : Int) < (n : Int) by omega), cond_false]
  cases (decide ((i : Int) < ((List.length ts : Nat) : Int))) <;> rfl
 | d + 1, m, i, acc, hi, hm, hil, ha => by
  obtain ⟨m, rfl⟩ := pos1 (m := m) (by omega)
  simp only [F21_0]
  by_cases hlt : i < ts.length
  ·have hm0 : 0 ≤ (List.getD ts i 0) % 12 := Int.emod_nonneg _ (by decide)
   have hm1 : (List.getD ts i 0) % 12 < 12 := Int.emod_lt_of_pos _ (by decide)
   generalize hx2 : (List.set (List.set (List.set (List.set (List.set (List.set (List.set (List.set (List.set (List.set (List.set (List.set (List.replicate 12 (0 : Int)) 0 (97 : Int)) 1 (97 : Int)) 2 (98 : Int)) 3 (99 : Int)) 4 (49 : Int)) 5 (55 : Int)) 6 (32 : Int)) 7 (120 : Int)) 8 (19969 : Int)) 9 (128512 : Int)) 10 (45 : Int)) 11 (50 : Int)) = x2
   have hx : x2.length = 12 := by rw [← hx2]; rfl
   obtain ⟨l, e, h⟩ := F21_0_ok k ts n hn hl d m (i + 1) (acc ++ [List.getD x2 (Int.toNat (List.getD ts i 0 % 12)) 0]) (by omega) (by omega) (by omega) (by simp [ha])
   refine ⟨l, ?_, h⟩
   rw [dlt hlt, cond_true, decide_eq_true (show (i : Int) < (n : Int) by omega), cond_true, if_pos (inR hlt), tnI i, F47_eq k _ 12 (by decide) (by decide), Option.bind_some]
   simp only
   rw [if_pos ⟨hm0, by rw [hx]; exact hm1⟩]
   have ha1 : ∀ v : Int, (List.length acc + List.length (List.set (List.replicate 1 (0 : Int)) 0 v)) * (8 * 2) ≤ 281474976710656 ∧ List.length acc + List.length (List.set (List.replicate 1 (0 : Int)) 0 v) ≤ 9223372036854775807 := fun v => by simp; omega
   rw [if_pos (ha1 _), wsucc i _ hlt (by omega)]
   rw [show ∀ v : Int, List.set (List.replicate 1 (0 : Int)) 0 v = [v] from fun v => rfl, e]
   rfl
  ·exact ⟨acc, by rw [decide_eq_false (by omega), cond_false], by omega⟩
theorem F21_ok (k : Nat) (ts : List Int) (n : Nat) (hn : n ≤ 1000) (hk : 10000000 ≤ k) (hl : ts.length ≤ 100000000000000) : ∃ l, F21 k ts (n : Int) = some ((l, ()), ()) ∧ l.length ≤ n := by
 obtain ⟨l, e, h⟩ := F21_0_ok k ts n hn hl n k 0 [] (Nat.zero_add _) (by omega) (Nat.zero_le _) rfl
 rw [show ((0 : Nat) : Int) = 0 from rfl] at e
 refine ⟨l, ?_, h⟩
 unfold F21
 rw [e, Option.bind_some]
theorem F46_0_ok (k : Nat) (b c : List Int) (x : Int) (hb : b.length ≤ 5000000) : ∀ (d m i : Nat), i + d + 1 = b.length → d < m → ∃ j : Nat, F46_0 k m b c x (i : Int) = some ((c, ((j : Int), ())), ()) ∧ j < b.length
 | 0, m, i, hi, hm => by
  obtain ⟨m, rfl⟩ := pos1 (m := m) (by omega)
  refine ⟨i, ?_, by omega⟩
  simp only [F46_0]
  rw [wsucc i b.length (by omega) (by omega), decide_eq_false (by omega), cond_false]
 | d + 1, m, i, hi, hm => by
  obtain ⟨m, rfl⟩ := pos1 (m := m) (by omega)
  have hlt : i + 1 < b.length := by omega
  obtain ⟨j, e, h⟩ := F46_0_ok k b c x hb d m (i + 1) (by omega) (by omega)
  simp only [F46_0]
  rw [wsucc i b.length (by omega) (by omega), dlt hlt, cond_true, if_pos (inR hlt)]
  cases (decide (List.getD b (Int.toNat ((i + 1 : Nat) : Int)) 0 ≤ x)) with
  | true => exact ⟨j, by rw [cond_true, e]; rfl, h⟩
  | false => exact ⟨i, by rw [cond_false], by omega⟩
theorem F46_ok (k : Nat) (b c : List Int) (x : Int) (hk : 10000000 ≤ k) (hb : b.length ≤ 5000000) (hbc : b.length = c.length) (hne : c ≠ []) : ∃ v ∈ c, F46 k b c x = some ((v, ()), ()) := by
 have hpos : 0 < c.length := by cases c with
  | nil => exact absurd rfl hne
  | cons y c => simp
 obtain ⟨j, e, h⟩ := F46_0_ok k b c x hb (b.length - 1) k 0 (by omega) (by omega)
 rw [show ((0 : Nat) : Int) = 0 from rfl] at e
 have hj : j < c.length := by omega
 refine ⟨c[j], List.getElem_mem hj, ?_⟩
 unfold F46
 rw [e, Option.bind_some]
 simp only
 rw [if_pos (inR hj), tnI j, getD_lt _ _ _ hj]
abbrev WorT := (FileT × ((List Int) × ((List Int) × ((List (List Bool)) × ((List SideT) × ((List SideT) × (Int × Unit)))))))
theorem F20_0_ok (k : Nat) (t : List Int) (w : WorT) (hk : 10000000 ≤ k) (ht : t.length ≤ 1000000) (hb : w.2.1.length ≤ 5000000) (hbc : w.2.1.length = w.2.2.1.length) (hne : w.2.2.1 ≠ []) : ∀ (d m i : Nat) (acc : List Int), i + d = t.length → d < m → acc.length = i → (∀ x ∈ acc, x ∈ w.2.2.1) → ∃ l, F20_0 k m t (i : Int) w acc = some ((), (l, ())) ∧ l.length = t.length ∧ ∀ x ∈ l, x ∈ w.2.2.1
 | 0, m, i, acc, hi, hm, ha, hx => by
  obtain ⟨m, rfl⟩ := pos1 (m := m) (by omega)
  refine ⟨acc, ?_, by omega, hx⟩
  simp only [F20_0]
  rw [decide_eq_false (by omega), cond_false]
 | d + 1, m, i, acc, hi, hm, ha, hx => by
  obtain ⟨m, rfl⟩ := pos1 (m := m) (by omega)
  have hlt : i < t.length := by omega
  obtain ⟨v, hv, e46⟩ := F46_ok k w.2.1 w.2.2.1 (List.getD t i 0) hk hb hbc hne
  obtain ⟨l, e, h⟩ := F20_0_ok k t w hk ht hb hbc hne d m (i + 1) (acc ++ [v]) (by omega) (by omega) (by simp [ha]) (all_append hx hv)
  refine ⟨l, ?_, h⟩
  simp only [F20_0]
  rw [dlt hlt, cond_true, if_pos (inR hlt), tnI i, e46, Option.bind_some]
  simp only
  rw [show List.set (List.replicate 1 (0 : Int)) 0 v = [v] from rfl, if_pos (by rw [List.length_singleton]; omega), wsucc i _ hlt (by omega), e]
  rfl
theorem F20_ok (k : Nat) (t : List Int) (w : WorT) (hk : 10000000 ≤ k) (ht : t.length ≤ 1000000) (hb : w.2.1.length ≤ 5000000) (hbc : w.2.1.length = w.2.2.1.length) (hne : w.2.2.1 ≠ []) : ∃ l, F20 k w t = some ((l, ()), ()) ∧ l.length = t.length ∧ ∀ x ∈ l, x ∈ w.2.2.1 := by
 obtain ⟨l, e, h⟩ := F20_0_ok k t w hk ht hb hbc hne t.length k 0 [] (Nat.zero_add _) (by omega) rfl (fun x hx => by cases hx)
 rw [show ((0 : Nat) : Int) = 0 from rfl] at e
 refine ⟨l, ?_, h⟩
 unfold F20
 rw [e, Option.bind_some]
theorem F30_1_ne (k : Nat) (t0 : List RgT) (p : List Int) (hk : 10000000 ≤ k) (hn : t0.length ≤ 40) (hs : RgL t0) (hp : p.length ≤ 2000000) : ∀ (d m i : Nat) (t8 : Int) (b c s : List Int), i + d = p.length → d < m → b.length = c.length → c.length ≤ i → s.length ≤ i → LetP s.length c →
  ∃ b' c', F30_1 k m t0 t8 (i : Int) p b c s = some ((), (b', (c', ()))) ∧ c.length ≤ c'.length ∧ (t8 < 0 → 0 < d → 0 < c'.length)
 | 0, m, i, t8, b, c, s, hi, hm, hb, hc, hl, hL => by
  obtain ⟨m, rfl⟩ := pos1 (m := m) (by omega)
  refine ⟨b, c, ?_, Nat.le_refl _, fun _ h => by omega⟩
  simp only [F30_1]
  rw [decide_eq_false (by omega), cond_false]
 | d + 1, m, i, t8, b, c, s, hi, hm, hb, hc, hl, hL => by
  obtain ⟨m, rfl⟩ := pos1 (m := m) (by omega)
  have hlt : i < p.length := by omega
  simp only [F30_1]
  rw [dlt hlt, cond_true, if_pos (inR hlt), tnI i, F54_ok k t0 _ hk hn hs, Option.bind_some]
  simp only
  have hv0 := keyF_range (List.getD p i 0) t0 0 (Int.le_refl _)
  generalize keyF (List.getD p i 0) t0 0 = v at hv0 ⊢
  rw [wsucc i _ hlt (by omega)]
  cases hv : (v == t8) with
  | true =>
   have : v = t8 := by simpa using hv
   obtain ⟨b', c', e, h⟩ := F30_1_ne k t0 p hk hn hs hp d m (i + 1) t8 b c s (by omega) (by omega) hb (by omega) (by omega) hL
   exact ⟨b', c', by rw [cond_true, e]; rfl, h.1, fun h0 => by omega⟩
  | false =>
   obtain ⟨j, e, hj⟩ := F30_0_ok k t0 v (i : Int) v p b c s (by omega) s.length k 0 (Nat.zero_add _) (by omega)
   rw [show ((0 : Nat) : Int) = 0 from rfl] at e
   rw [cond_false, e, Option.bind_some]
   simp only [one_list]
   have k1 : (s.length + [v].length) * (8 * 2) ≤ 281474976710656 ∧ s.length + [v].length ≤ 9223372036854775807 := by rw [List.length_singleton]; omega
   have k2 : (b.length + [List.getD p i 0].length) * (8 * 2) ≤ 281474976710656 ∧ b.length + [List.getD p i 0].length ≤ 9223372036854775807 := by rw [List.length_singleton]; omega
   have k3 : (c.length + [(j : Int)].length) * (8 * 2) ≤ 281474976710656 ∧ c.length + [(j : Int)].length ≤ 9223372036854775807 := by rw [List.length_singleton]; omega
   have hb2 : (b ++ [List.getD p i 0]).length = (c ++ [(j : Int)]).length := by simp [hb]
   have hc2 : (c ++ [(j : Int)]).length ≤ i + 1 := by simp; omega
   have hc3 : (c ++ [(j : Int)]).length = c.length + 1 := by simp
   rw [wsucc i _ hlt (by omega), tnI i]
   by_cases he : j = s.length
   ·subst he
    have hs2 : (s ++ [v]).length = s.length + 1 := by simp
    obtain ⟨b', c', e, h⟩ := F30_1_ne k t0 p hk hn hs hp d m (i + 1) v (b ++ [List.getD p i 0]) (c ++ [((s.length : Nat) : Int)]) (s ++ [v]) (by omega) (by omega) hb2 hc2 (by omega) (by
     rw [hs2]; exact hL.add (by omega) (by omega))
    refine ⟨b', c', ?_, by omega, fun _ _ => by omega⟩
    rw [show (((s.length : Nat) : Int) == ((s.length : Nat) : Int)) = true by simp, cond_true, if_pos k1, if_pos (inR hlt), if_pos k2, if_pos k3, e]
    rfl
   ·obtain ⟨b', c', e, h⟩ := F30_1_ne k t0 p hk hn hs hp d m (i + 1) v (b ++ [List.getD p i 0]) (c ++ [(j : Int)]) s (by omega) (by omega) hb2 hc2 (by omega) (hL.add (by omega) (by omega))
    refine ⟨b', c', ?_, by omega, fun _ _ => by omega⟩
    rw [beq_false_of_ne (show ¬ (j : Int) = ((s.length : Nat) : Int) by omega), cond_false, if_pos (inR hlt), if_pos k2, if_pos k3, e]
    rfl
theorem F30_ne (k : Nat) (t0 : List RgT) (hk : 10000000 ≤ k) (hn : t0.length ≤ 40) (hs : RgL t0) : ∃ b c, F30 k t0 = some ((b, (c, ())), ()) ∧ b.length = c.length ∧ c.length ≤ 2000000 ∧ LetP 2000000 c ∧ c ≠ [] := by
 obtain ⟨b0, c0, e0, h1, h2, h3⟩ := F30_ok k t0 hk hn hs
 refine ⟨b0, c0, e0, h1, h2, h3, fun hc => ?_⟩
 obtain ⟨p, e, hp, h0⟩ := F53_ok k t0 hk (by omega) hs
 have hl := risL_len hp
 have hpos : 0 < p.length := List.length_pos_of_mem h0
 obtain ⟨b, c, e2, _, h⟩ := F30_1_ne k t0 p hk hn hs (by omega) p.length k 0 (-1) [] [] [] (Nat.zero_add _) (by omega) rfl (Nat.le_refl _) (Nat.le_refl _) (fun x hx => by cases hx)
 rw [show ((0 : Nat) : Int) = 0 from rfl] at e2
 have e3 : F30 k t0 = some ((b, (c, ())), ()) := by
  unfold F30
  rw [e, Option.bind_some]
  simp only
  rw [e2, Option.bind_some]
 rw [e0] at e3
 simp only [Option.some.injEq, Prod.mk.injEq] at e3
 have := h (by decide) hpos
 rw [← e3.1.2.1, hc] at this
 simp at this
theorem F31_N (k : Nat) (t0 : List RgT) (p q : List Int) (hk : 10000000 ≤ k) (hn : t0.length ≤ 1000) (hs : RgL t0) (hpq : p.length = q.length) (hp : p.length ≤ 2000000) (hL : LetP 2000000 q) : ∃ (M : List (List Bool)) (N : Nat), F31 k t0 p q = some ((M, ()), ()) ∧ F32 k q = some (((N : Int), ()), ()) ∧ N ≤ 2000000 ∧ M.length = t0.length ∧ (∀ r ∈ M, r.length = N) ∧ ∀ x ∈ q, 0 ≤ x ∧ x < (N : Int) := by
 obtain ⟨c, e, h0, h1, h2⟩ := F32_ok k q hk (by omega) hL
 obtain ⟨M, e2, h3, h4⟩ := F31_1_ok k t0 p q c hk hn hs hpq hp e h0 h1 (fun x hx => ⟨(hL x hx).1, h2 x hx⟩) t0.length k 0 [] (Nat.zero_add _) (by omega) rfl (fun r hr => by cases hr)
 refine ⟨M, c.toNat, ?_, by rw [show ((c.toNat : Nat) : Int) = c by omega]; exact e, by omega, h3, fun r hr => h4 r hr, fun x hx => by have := h2 x hx; have := (hL x hx).1; omega⟩
 rw [show ((0 : Nat) : Int) = 0 from rfl] at e2
 unfold F31
 rw [e2, Option.bind_some]
end Go.Proofs.YtibammoednhnoaaE
set_option linter.unusedSimpArgs false
set_option linter.unusedVariables false
set_option maxRecDepth 20000
namespace Go.Proofs.YtibammoednhnoaaE
abbrev RulT := (Int × (Int × (RexT × (RexT × Unit))))
def RulP (r : RulT) : Prop := RexP true 5 r.2.2.1 ∧ RexP false 5 r.2.2.2.1
theorem w64n (a : Nat) (h : a ≤ 9223372036854775807) : IntKind.wrap .i64 (a : Int) = (a : Int) := w64 _ (by omega) (by omega)
theorem F28_0_ok (k : Nat) (l : List RawT) (ns : List Int) (c6 : FileT) (ds : List DefT) (hk : 20000000 ≤ k) (hl : ∀ r ∈ l, RawH 5 r) (hn : ns.length ≤ 100000000000000) : ∀ (d m j : Nat) (rs : List RulT), j + d = 4 → d < m → rs.length = j → (∀ r ∈ rs, RulP r) → ∃ rs', F28_0 k m l ns ((2 * j : Nat) : Int) c6 (ds, (rs, ())) = some ((), (c6, (ds, (rs', ())), ())) ∧ rs'.length ≤ 4 ∧ ∀ r ∈ rs', RulP r
 | 0, m, j, rs, hj, hm, hr, hp => by
  obtain ⟨m, rfl⟩ := pos1 (m := m) (by omega)
  refine ⟨rs, ?_, by omega, hp⟩
  simp only [F28_0]
  rw [decide_eq_false (show ¬ ((2 * j : Nat) : Int) < 8 by omega), cond_false]
  cases (decide (IntKind.wrap .i64 (((2 * j : Nat) : Int) + 1) < ((List.length l : Nat) : Int))) <;> rfl
 | d + 1, m, j, rs, hj, hm, hr, hp => by
  obtain ⟨m, rfl⟩ := pos1 (m := m) (by omega)
  have hw1 : IntKind.wrap .i64 (((2 * j : Nat) : Int) + 1) = ((2 * j + 1 : Nat) : Int) := by rw [w64 _ (by omega) (by omega)]; omega
  have hw2 : IntKind.wrap .i64 (((2 * j : Nat) : Int) + 2) = ((2 * (j + 1) : Nat) : Int) := by rw [w64 _ (by omega) (by omega)]; omega
  have hw3 : IntKind.wrap .i64 (Int.tdiv ((2 * j : Nat) : Int) 2) = (j : Int) := by
   have : Int.tdiv ((2 * j : Nat) : Int) 2 = (j : Int) := by
    rw [Int.tdiv_eq_ediv_of_nonneg (by omega)]
    omega
   rw [this]
   exact w64n j (by omega)
  simp only [F28_0]
  rw [hw1, hw3]
  by_cases h1 : 2 * j + 1 < l.length
  ·have h0 : 2 * j < l.length := by omega
   obtain ⟨x1, e1, p1⟩ := F51_ok k l[2 * j] false 5 (hl _ (List.getElem_mem h0)) (by omega)
   obtain ⟨x2, e2, p2⟩ := F51_ok k l[2 * j + 1] true 5 (hl _ (List.getElem_mem h1)) (by omega)
   have next : ∀ (u v : Int), ∃ rs', F28_0 k m l ns ((2 * (j + 1) : Nat) : Int) c6 (ds, (rs ++ [(u, (v, (x1, (x2, ()))))], ())) = some ((), (c6, (ds, (rs', ())), ())) ∧ rs'.length ≤ 4 ∧ ∀ r ∈ rs', RulP r := fun u v =>
    F28_0_ok k l ns c6 ds hk hl hn d m (j + 1) (rs ++ [(u, (v, (x1, (x2, ()))))]) (by omega) (by omega) (by simp [hr]) (all_append hp ⟨p1, p2⟩)
   have ha : ∀ y : RulT, (List.length rs + List.length [y]) * (160 * 2) ≤ 281474976710656 ∧ List.length rs + List.length [y] ≤ 9223372036854775807 := fun y => by rw [List.length_singleton]; omega
   have hset : ∀ y z : RulT, List.set (List.replicate 1 z) 0 y = [y] := fun y z => rfl
   rw [dlt h1, cond_true, decide_eq_true (show ((2 * j : Nat) : Int) < 8 by omega), cond_true]
   by_cases h2 : j < ns.length
   ·obtain ⟨rs', e, h⟩ := next (Int.tmod (List.getD ns j 0 % 1073741824) 3) (Int.tmod (IntKind.wrap .i64 (Int.tdiv (List.getD ns j 0 % 1073741824) 3)) 20)
    refine ⟨rs', ?_, h⟩
    rw [dlt h2, cond_true, if_pos (inR h2), tnI j, F50_eq k _ 1073741824 (by decide) (by decide), Option.bind_some]
    simp only
    rw [if_pos (inR h0), if_pos (inR h1), tnI (2 * j), tnI (2 * j + 1), getD_lt _ _ _ h0, getD_lt _ _ _ h1, e1, Option.bind_some]
    simp only
    rw [e2, Option.bind_some]
    simp only
    rw [hset, if_pos (ha _), hw2, e]
    rfl
   ·obtain ⟨rs', e, h⟩ := next (Int.tmod ((2 * j : Nat) : Int) 3) (Int.tmod (IntKind.wrap .i64 (Int.tdiv ((2 * j : Nat) : Int) 3)) 20)
    refine ⟨rs', ?_, h⟩
    rw [decide_eq_false (show ¬ (j : Int) < ((List.length ns : Nat) : Int) by omega), cond_false, if_pos (inR h0), if_pos (inR h1), tnI (2 * j), tnI (2 * j + 1), getD_lt _ _ _ h0, getD_lt _ _ _ h1, e1, Option.bind_some]
    simp only
    rw [e2, Option.bind_some]
    simp only
    rw [hset, if_pos (ha _), hw2, e]
    rfl
  ·refine ⟨rs, ?_, by omega, hp⟩
   rw [decide_eq_false (show ¬ ((2 * j + 1 : Nat) : Int) < ((List.length l : Nat) : Int) by omega), cond_false]
theorem F28_ok (k : Nat) (l : List RawT) (ns ds : List Int) (hk : 20000000 ≤ k) (hl : ∀ r ∈ l, RawH 5 r) (hn : ns.length ≤ 100000000000000) : ∃ (dd : List DefT) (rs : List RulT), F28 k l ns ds = some (((dd, (rs, ())), ()), ()) ∧ 4 ≤ dd.length ∧ dd.length ≤ 6 ∧ DefsP dd ∧ rs.length ≤ 4 ∧ ∀ r ∈ rs, RulP r := by
 obtain ⟨dd, e1, h1, h2, h3⟩ := F49_ok k ds (by omega)
 obtain ⟨rs, e2, h4, h5⟩ := F28_0_ok k l ns (([] : List DefT), (([] : List RulT), ())) dd hk hl hn 4 k 0 [] rfl (by omega) rfl (fun r hr => by cases hr)
 refine ⟨dd, rs, ?_, h1, h2, h3, h4, h5⟩
 unfold F28
 rw [e1, Option.bind_some]
 simp only
 rw [show F28_0 k k l ns 0 (([] : List DefT), (([] : List RulT), ())) (dd, (([] : List RulT), ())) = _ from e2, Option.bind_some]
structure SideW (I : InT) (N M : Nat) (s : SideT) : Prop where
 g : ∃ n, n ≤ 120 ∧ SideG n (cB 5) M s
 ok : SOK s
 io : InOK I N s
theorem sideW {I : InT} {N M : Nat} {s : SideT} (hI : I.length = M) (hr : ∀ r ∈ I, r.length = N) {n : Nat} (hn : n ≤ 120) (h : SideG n (cB 5) M s) : SideW I N M s := by
 have h1 := h.ls
 have h2 := h.lf
 have h3 := h.le
 have h4 := srt_len h.srt h.arcs
 have hnn : n * n ≤ 120 * 120 := Nat.mul_le_mul hn hn
 refine ⟨⟨n, hn, h⟩, ⟨by omega, by omega, fun x hx => ?_, by omega, by omega⟩, ⟨fun x hx => ?_, hr⟩⟩
 ·have := h.arcs x hx
  rw [h1]
  exact ⟨this.1, this.2.1⟩
 ·have := h.sets x hx
  rw [hI]
  omega
structure WG (w : WorT) (N M : Nat) : Prop where
 left : ∀ s ∈ w.2.2.2.2.1, SideW w.2.2.2.1 N M s
 right : ∀ s ∈ w.2.2.2.2.2.1, SideW w.2.2.2.1 N M s
 nl : w.2.2.2.2.1.length = w.1.2.1.length
 nr : w.2.2.2.2.2.1.length = w.1.2.1.length
 nrules : w.1.2.1.length ≤ 4
 num : w.2.2.2.2.2.2.1 = (N : Int)
 le : N ≤ 2000000
 bc : w.2.1.length = w.2.2.1.length
 cl : w.2.2.1.length ≤ 2000000
 ne : w.2.2.1 ≠ []
 lets : ∀ x ∈ w.2.2.1, 0 ≤ x ∧ x < (N : Int)
 il : w.2.2.2.1.length ≤ 1000000
 ir : ∀ r ∈ w.2.2.2.1, r.length ≤ 5000000
theorem F14_0_ok (k : Nat) (fl : FileT) (cu nm : List Int) (I : InT) (Nv : Int × Unit) (c6 : WorT) (N M : Nat) (hk : 20000000 ≤ k) (hfl : fl.1.length ≤ 1000) (hM : fl.1.length = M) (hI : I.length = M) (hrow : ∀ r ∈ I, r.length = N) (hN : N ≤ 2000000) (hrs : ∀ r ∈ fl.2.1, RulP r) (hrl : fl.2.1.length ≤ 4) : ∀ (d m i : Nat) (A B : List SideT), i + d = fl.2.1.length → d < m → A.length = i → B.length = i → (∀ s ∈ A, SideW I N M s) → (∀ s ∈ B, SideW I N M s) →
  (∃ w, F14_0 k m (i : Int) c6 (fl, (cu, (nm, (I, (A, (B, Nv)))))) = some (.inr ((false, ()), (w, ())))) ∨
  ∃ A' B', F14_0 k m (i : Int) c6 (fl, (cu, (nm, (I, (A, (B, Nv)))))) = some (.inl ((), (c6, (fl, (cu, (nm, (I, (A', (B', Nv)))))), ()))) ∧ A'.length = fl.2.1.length ∧ B'.length = fl.2.1.length ∧ (∀ s ∈ A', SideW I N M s) ∧ ∀ s ∈ B', SideW I N M s
 | 0, m, i, A, B, hi, hm, hA, hB, pA, pB => by
  obtain ⟨m, rfl⟩ := pos1 (m := m) (by omega)
  right
  refine ⟨A, B, ?_, by omega, by omega, pA, pB⟩
  simp only [F14_0]
  rw [decide_eq_false (by omega), cond_false]
 | d + 1, m, i, A, B, hi, hm, hA, hB, pA, pB => by
  obtain ⟨m, rfl⟩ := pos1 (m := m) (by omega)
  have hlt : i < fl.2.1.length := by omega
  obtain ⟨p1, p2⟩ := hrs _ (List.getElem_mem hlt)
  have e1 := F33_ok k fl.2.1[i].2.2.1 fl hfl p1 hk
  have e2 := F33_ok k fl.2.1[i].2.2.2.1 fl hfl p2 hk
  have hir : ∀ r ∈ I, r.length ≤ 2000000 := fun r hr => by rw [hrow r hr]; exact hN
  simp only [F14_0]
  rw [dlt hlt, cond_true, if_pos (inR hlt), tnI i, getD_lt _ _ _ hlt, e1, Option.bind_some, if_pos (inR hlt), e2, Option.bind_some]
  by_cases h1 : sizeR 5 fl.2.1[i].2.2.1 > 120
  ·left
   rw [if_pos h1]
   exact ⟨_, rfl⟩
  ·rw [if_neg h1]
   by_cases h2 : sizeR 5 fl.2.1[i].2.2.2.1 > 120
   ·left
    rw [if_pos h2]
    exact ⟨_, rfl⟩
   ·rw [if_neg h2]
    simp only [Bool.not_true, cond_false]
    have g1 := side_G (fnd fl.1) M (fun nm => by have := fnd_range fl.1 nm; rw [hM] at this; exact this) 5 _ (by omega) p1
    have g2 := side_G (fnd fl.1) M (fun nm => by have := fnd_range fl.1 nm; rw [hM] at this; exact this) 5 _ (by omega) p2
    obtain ⟨j1, s1, e3, hj1, hs1⟩ := F34_ok k _ I (by omega) (by omega) g1 (by omega) hir
    obtain ⟨j2, s2, e4, hj2, hs2⟩ := F34_ok k _ I (by omega) (by omega) g2 (by omega) hir
    have w1 : SideW I N M s1 := sideW hI hrow (by omega) hs1
    have w2 : SideW I N M s2 := sideW hI hrow (by omega) hs2
    have hset : ∀ y z : SideT, List.set (List.replicate 1 z) 0 y = [y] := fun y z => rfl
    have ha : ∀ y : SideT, (List.length A + List.length [y]) * (104 * 2) ≤ 281474976710656 ∧ List.length A + List.length [y] ≤ 9223372036854775807 := fun y => by rw [List.length_singleton]; omega
    have hb : ∀ y : SideT, (List.length B + List.length [y]) * (104 * 2) ≤ 281474976710656 ∧ List.length B + List.length [y] ≤ 9223372036854775807 := fun y => by rw [List.length_singleton]; omega
    rw [e3, Option.bind_some]
    simp only
    rw [hset, if_pos (ha _), e4, Option.bind_some]
    simp only
    rw [hset, if_pos (hb _), wsucc i _ hlt (by omega)]
    rcases F14_0_ok k fl cu nm I Nv c6 N M hk hfl hM hI hrow hN hrs hrl d m (i + 1) (A ++ [s1]) (B ++ [s2]) (by omega) (by omega) (by simp [hA]) (by simp [hB]) (all_append pA w1) (all_append pB w2) with ⟨w, e⟩ | ⟨A', B', e, h⟩
    ·left
     exact ⟨w, by rw [e]; rfl⟩
    ·right
     exact ⟨A', B', by rw [e]; rfl, h⟩
theorem F14_ok (k : Nat) (l : List RawT) (ns ds : List Int) (hk : 20000000 ≤ k) (hl : ∀ r ∈ l, RawH 5 r) (hn : ns.length ≤ 100000000000000) : ∃ (w : WorT) (b : Bool), F14 k l ns ds = some ((w, b, ()), ()) ∧ (b = true → ∃ N M, WG w N M) := by
 obtain ⟨dd, rs, e1, h1, h2, h3, h4, h5⟩ := F28_ok k l ns ds hk hl hn
 obtain ⟨sets, e4, h6, h7⟩ := F29_ok k (dd, (rs, ())) (show dd.length ≤ 1000 by omega) h3 hk
 have h6' : sets.length = dd.length := h6
 obtain ⟨bs, cs, e5, g1, g2, g3, g4⟩ := F30_ne k sets (by omega) (by omega) h7
 obtain ⟨I, N, e6, e7, g5, g6, g7, g8⟩ := F31_N k sets bs cs (by omega) (by omega) h7 g1 (by omega) g3
 have e8 := F14_0_ok k (dd, (rs, ())) bs cs I ((N : Int), ()) ((([] : List DefT), (([] : List RulT), ())), (([] : (List Int)), (([] : (List Int)), (([] : (List (List Bool))), (([] : List SideT), (([] : List SideT), ((0 : Int), ()))))))) N dd.length hk (show dd.length ≤ 1000 by omega) rfl (by omega) g7 (by omega) h5 h4 rs.length k 0 [] [] (Nat.zero_add _) (by omega) rfl rfl (fun s hs => by cases hs) (fun s hs => by cases hs)
 rw [show ((0 : Nat) : Int) = 0 from rfl] at e8
 unfold F14
 simp only
 rw [e1, Option.bind_some]
 simp only
 rw [e4, Option.bind_some]
 simp only
 rw [e5, Option.bind_some]
 simp only
 rw [e6, Option.bind_some]
 simp only
 rw [e7, Option.bind_some]
 simp only
 rcases e8 with ⟨w, e8⟩ | ⟨A, B, e8, a1, a2, a3, a4⟩
 ·refine ⟨w, false, ?_, fun q => by cases q⟩
  rw [e8, Option.bind_some]
 ·refine ⟨((dd, (rs, ())), (bs, (cs, (I, (A, (B, ((N : Int), ()))))))), true, ?_, fun _ => ⟨N, dd.length, ⟨a3, a4, a1, a2, h4, rfl, g5, g1, g2, g4, g8, (show I.length ≤ 1000000 by omega), fun r hr => by rw [g7 r hr]; omega⟩⟩⟩
  rw [e8, Option.bind_some]
end Go.Proofs.YtibammoednhnoaaE

