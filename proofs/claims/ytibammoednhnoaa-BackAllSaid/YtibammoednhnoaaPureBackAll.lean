/- The plain law of BackAll. Conditions: none. -/
import Derived.Test.YtibammoednhnoaaP1
set_option linter.unusedSimpArgs false
set_option linter.unusedVariables false
set_option maxRecDepth 20000
namespace Go.Proofs.YtibammoednhnoaaE
theorem F3_0_self (k : Nat) (l : List Int) (hl : l.length ≤ 1000000) : ∀ (d m i : Nat), i + d = l.length → d < m → F3_0 k m (i : Int) l l = some (.inl ((), ()))
  | 0, m, i, hi, hm => by
    obtain ⟨m, rfl⟩ := pos1 (m := m) (by omega)
    simp only [F3_0]
    rw [decide_eq_false (by omega), cond_false]
  | d + 1, m, i, hi, hm => by
    obtain ⟨m, rfl⟩ := pos1 (m := m) (by omega)
    have hlt : i < l.length := by omega
    simp only [F3_0]
    rw [dlt hlt, cond_true, if_pos (inR hlt), if_pos (inR hlt)]
    simp only [bne_self_eq_false, cond_false]
    rw [wsucc i _ hlt (by omega), F3_0_self k l hl d m (i + 1) (by omega) (by omega)]
    rfl
/-- What is asked of both machines. -/
def tail3 (k : Nat) (w : WorT) (a3 : List Int) (r10 r11 : (BackT × (List (List Bool)) × Int × Unit) × Unit) : Option ((Bool × Unit) × Unit) :=
  bif (r10.1.2.2.1 != r11.1.2.2.1) then
    some ((false, ()), ())
  else
    (F18 k r10.1.1 r11.1.1).bind fun r12 =>
    bif (!r12.1.1) then
      some ((false, ()), ())
    else
      (F19 k r10.1.2.1 r11.1.2.1).bind fun r13 =>
      bif (!r13.1.1) then
        some ((false, ()), ())
      else
        bif (r10.1.2.2.1 != (0 : Int)) then
          some ((true, ()), ())
        else
          (F21 k a3 (20 : Int)).bind fun r14 =>
          (F20 k w r14.1.1).bind fun r15 =>
          (F22 k r10.1.1 r15.1.1).bind fun r16 =>
          (F23 k r11.1.1 r15.1.1).bind fun r17 =>
          let x18 := (((List.length r16.1.1 : Nat) : Int) != ((List.length r17.1.1 : Nat) : Int))
          bif x18 then
            some ((false, ()), ())
          else
            (F3_0 k k (0 : Int) r16.1.1 r17.1.1).bind fun r25 =>
            match r25 with
            | .inl r26 =>
              some ((true, ()), ())
            | .inr r26 =>
              let y27 := r26.1.1
              some ((y27, ()), ())
theorem tail3_ok (k : Nat) (hk : 20000000 ≤ k) (w : WorT) (N M : Nat) (hw : WG w N M) (a3 : List Int) (ha : a3.length ≤ 100000000000000) (b : Int) : tail3 k w a3 (outA (mkM w.2.2.2.1 w.2.2.2.2.2.1 N b), ()) (outA (mkM w.2.2.2.1 w.2.2.2.2.2.1 N b), ()) = some ((true, ()), ()) := by
  have hN := hw.le
  have hnr := hw.nr
  have hn4 := hw.nrules
  unfold tail3
  cases hq : mkM w.2.2.2.1 w.2.2.2.2.2.1 N b with
  | none =>
    simp only [outA, bne_self_eq_false, cond_false]
    rw [F18_self k _ (by omega) (by simp) (fun r hr => by cases hr) (by simp), Option.bind_some]
    simp only [Bool.not_true, cond_false]
    rw [F19_self k _ (by omega) (by simp) (fun r hr => by cases hr), Option.bind_some]
    rfl
  | some q =>
    have mw := mkM_ok hq
    have ml := mw.len
    obtain ⟨s1, s2, s3, s4, s5⟩ := mw.small (by omega) (by omega)
    obtain ⟨t, e1, h1⟩ := F21_ok k a3 20 (by omega) (by omega) ha
    obtain ⟨l, e2, h2, h3⟩ := F20_ok k t w (by omega) (by omega) (by have := hw.bc; have := hw.cl; omega) hw.bc hw.ne
    obtain ⟨x, hx, hxN⟩ := lets_nat h3 hw.lets
    have hxl : x.length = l.length := by rw [hx]; simp
    have e3 := F22_ok k (by omega) mw.m (by omega) mw.z x hxN (by omega)
    have e4 := F23_ok k (by omega) mw.m (by omega) mw.z x hxN (by omega)
    simp only [outA, bne_self_eq_false, cond_false]
    rw [F18_self k _ (by omega) s2 s1 s3, Option.bind_some]
    simp only [Bool.not_true, cond_false]
    rw [F19_self k _ (by omega) s4 (fun r hr => by rw [s5 r hr]; omega), Option.bind_some]
    simp only [Bool.not_true, cond_false]
    rw [show F21 k a3 (20 : Int) = _ from e1, Option.bind_some]
    simp only
    rw [e2, Option.bind_some]
    simp only
    rw [hx, e3, Option.bind_some, e4, Option.bind_some]
    have e5 := F3_0_self k (outL (stepL w.2.2.2.1 w.2.2.2.2.2.1) (holdL w.2.2.2.2.2.1) q.2.2.2 (zeroL w.2.2.2.2.2.1) x) (by rw [outL_len]; omega) _ k 0 (Nat.zero_add _) (by rw [outL_len]; omega)
    rw [show ((0 : Nat) : Int) = 0 from rfl] at e5
    simp only [bne_self_eq_false, cond_false]
    rw [e5, Option.bind_some]
theorem back_all (a0 : List RawT) (a1 a2 a3 : List Int) (a4 : Int) (h1 : a1.length ≤ 100000000000000) (h3 : a3.length ≤ 100000000000000) : ∃ k, F3 k a0 a1 a2 a3 a4 = some ((true, ()), ()) := by
  refine ⟨20000000, ?_⟩
  generalize hk : (20000000 : Nat) = k
  have hk' : 20000000 ≤ k := by omega
  obtain ⟨b13, e13, h13⟩ := F13_ok k a0 (by omega)
  unfold F3
  rw [F12_known k (by omega), Option.bind_some]
  simp only [Bool.not_true, cond_false]
  rw [e13, Option.bind_some]
  simp only
  cases b13 with
  | false => rfl
  | true =>
    simp only [Bool.not_true, cond_false]
    obtain ⟨hl, hraw⟩ := h13 rfl
    obtain ⟨w, b, e14, h14⟩ := F14_ok k a0 a1 a2 hk' hraw h1
    rw [e14, Option.bind_some]
    simp only
    cases b with
    | false => rfl
    | true =>
      obtain ⟨N, M, hw⟩ := h14 rfl
      have hN := hw.le
      have hnr := hw.nr
      have hn4 := hw.nrules
      simp only [Bool.not_true, cond_false]
      rw [F15_eq k a4 3 (by decide) (by decide), Option.bind_some]
      simp only
      rw [hw.num]
      cases (a4 % 3 == 0) with
      | true =>
        rw [cond_true, F15_eq k a4 12 (by decide) (by decide), Option.bind_some]
        simp only
        rw [F16_mk k _ N M _ hk' hw.right (by omega) hN, Option.bind_some, F17_mk k _ N M _ hk' hw.right (by omega) hN, Option.bind_some]
        exact tail3_ok k hk' w N M hw a3 h3 _
      | false =>
        rw [cond_false, F16_mk k _ N M _ hk' hw.right (by omega) hN, Option.bind_some, F17_mk k _ N M _ hk' hw.right (by omega) hN, Option.bind_some]
        exact tail3_ok k hk' w N M hw a3 h3 _
end Go.Proofs.YtibammoednhnoaaE
namespace Go.Proofs.Ytibammoednhnoaa.Pure
open Go.Proofs.YtibammoednhnoaaE
theorem BackAll (a0 : List (Tree (Int × (Int × Unit)))) (a1 : List Int) (a2 : List Int) (a3 : List Int) (a4 : Int) : (a1.length * 8 ≤ 140737488351232) → (∀ x ∈ a1, IntKind.min .i64 ≤ x ∧ x ≤ IntKind.max .i64) → (a2.length * 8 ≤ 140737488351232) → (∀ x ∈ a2, IntKind.min .i64 ≤ x ∧ x ≤ IntKind.max .i64) → (a3.length * 8 ≤ 140737488351232) → (∀ x ∈ a3, IntKind.min .i64 ≤ x ∧ x ≤ IntKind.max .i64) → (IntKind.min .i64 ≤ a4 ∧ a4 ≤ IntKind.max .i64) → ∃ k, F3 k a0 a1 a2 a3 a4 = some ((true, ()), ()) := by
  intros
  exact back_all a0 a1 a2 a3 a4 (by omega) (by omega)
end Go.Proofs.Ytibammoednhnoaa.Pure
