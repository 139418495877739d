/- For every input the law BackMeans returns true, and each argument reads behind the call as it read before: the row BackMeansSaid, out of its plain statement and the contract of its function. Conditions: none but the given row's own. -/
import Derived.Test.YtibammoednhnoaaRows
import Derived.Test.YtibammoednhnoaaG1
import Derived.Test.YtibammoednhnoaaE37
import Derived.Test.YtibammoednhnoaaPureBackMeans
import Derived.WalkKit
import Derived.ProofKit
import Derived.OpenShut
import Derived.ShutString
import Derived.ChangeOld
import Derived.Below
import Derived.SizedLaws
namespace Go.Proofs.Ytibammoednhnoaa.backMeans
open Go.ChangeShapes Go.WideShapes Go.ChangeAt Go.RowKit Go.Proofs.YtibammoednhnoaaE
open Go.ChangeMaps (open_string shut_string)
set_option linter.unusedVariables false
theorem own : ownKnob Try.prog.godebug = none := by kernel_rfl
theorem laidOut : laidOutB Try.prog = true := by kernel_rfl
theorem walk (a0 : Option Addr) (len0 cap0 : Nat) (z0 : List Raw2) (a1 : Option Addr) (len1 cap1 : Nat) (z1 : List Int) (a2 : Option Addr) (len2 cap2 : Nat) (z2 : List Int) (a3 : Option Addr) (len3 cap3 : Nat) (z3 : List Int) (w : World) (w0 : IsTl w a0 len0 cap0 z0) (w1 : IsRow .i64 w a1 len1 cap1 z1) (y1 : len1 * 8 ≤ 140737488351232) (b1 : ∀ x, a1 = some x → x.spot = none ∧ ∃ c t f, w.heap[x.block]? = some (.cells c t f) ∧ x.off ≤ c.size) (w2 : IsRow .i64 w a2 len2 cap2 z2) (y2 : len2 * 8 ≤ 140737488351232) (b2 : ∀ x, a2 = some x → x.spot = none ∧ ∃ c t f, w.heap[x.block]? = some (.cells c t f) ∧ x.off ≤ c.size) (w3 : IsRow .i64 w a3 len3 cap3 z3) (y3 : len3 * 8 ≤ 140737488351232) (b3 : ∀ x, a3 = some x → x.spot = none ∧ ∃ c t f, w.heap[x.block]? = some (.cells c t f) ∧ x.off ≤ c.size) : Calls Try.prog 4 #[.slice a0 len0 cap0, .slice a1 len1 cap1, .slice a2 len2 cap2, .slice a3 len3 cap3] w fun e w' => e = .returned (.bool true) ∧ Below w.heap.size w w' := by
  obtain ⟨k, h⟩ := Pure.BackMeans z0 (z1.take len1) (z2.take len2) (z3.take len3) (rowLen w1 y1) (rowIn w1) (rowLen w2 y2) (rowIn w2) (rowLen w3 y3) (rowIn w3)
  exact law_calls (x := (z0, (z1.take len1), (z2.take len2), (z3.take len3), ())) (v4 k).2 h rfl ⟨_, _, rfl, tl_is w0, ⟨_, _, rfl, row_is w1 b1, ⟨_, _, rfl, row_is w2 b2, ⟨_, _, rfl, row_is w3 b3, rfl⟩⟩⟩⟩
set_option maxRecDepth 100000 in
theorem lifted (os : Os) (started : os.Started) (H : Type) (enc : TypeId × Value → H) :
    ReturnsInHanded {} Try.checked os 4 .any (Rows.backMeansSpec.pre6 enc Try.prog Try.f4 Rows.backMeansRow.domain false) (Rows.backMeansSpec.post enc Try.prog Try.f4 false true false false) := by
  refine returnsInHanded_of_change_sized (C := Try.checked) own started (by kernel_rfl) Try.func4
    (ChangeSpec.witness6 (enc := enc) (C := Try.checked) false ⟨#[], #[.slice none 0 0, .slice none 0 0, .slice none 0 0, .slice none 0 0], []⟩ 8 (by kernel_rfl) (by kernel_rfl) (by kernel_rfl) (by kernel_rfl)) ?_
  intro W base args ds gs before hval0 hW hcnd hsz0 _
  have hsz : (DataW.weightsEach Try.prog (Try.f4.params.toList ++ Rows.backMeansSpec.plain.varTypes Try.prog) (ds ++ gs)).all (· ≤ reachBytes) = true := hsz0
  have hval : ∀ (j : Nat) t v, Try.f4.params[j]? = some t → args[j]? = some v → Value.okWide Try.prog W .any base t v := hval0
  have hW' := hW
  obtain ⟨p, q, hA0, hV, rfl, hfz, hnd⟩ := hW
  have hA : DataW.TrodAll enc Try.prog W 0 (fun _ => true) true Try.f4.params.toList args.toList ds p := hA0
  rw [Try.params4] at hA hval hsz
  obtain ⟨v0, vs0, d0, ds0, p0, q0, hargs, rfl, rfl, h0, r0⟩ := trodAll_cons hA
  obtain ⟨v1, vs1, d1, ds1, p1, q1, rfl, rfl, rfl, h1, r1⟩ := trodAll_cons r0
  obtain ⟨v2, vs2, d2, ds2, p2, q2, rfl, rfl, rfl, h2, r2⟩ := trodAll_cons r1
  obtain ⟨v3, vs3, d3, ds3, p3, q3, rfl, rfl, rfl, h3, r3⟩ := trodAll_cons r2
  obtain ⟨rfl, rfl, rfl⟩ := trodAll_nil r3
  obtain rfl : args = #[v0, v1, v2, v3] := by cases args; simp_all
  obtain ⟨rfl, rfl⟩ := trodVars_none hV
  obtain ⟨a0, len0, cap0, rfl⟩ := okWide_slice Try.underlying22 (hval 0 22 v0 rfl rfl)
  have k0 := h0
  have lt0 : ∀ x ∈ p0, x.block < W.heap.size := by obtain ⟨m, hm⟩ := k0; exact DataW.trod_lt m _ _ _ hm
  obtain ⟨z0, w0⟩ := tl_of Try.underlying22 Try.underlying108 Try.underlying3 Try.underlying3 Try.underlying22 (by kernel_rfl) (by kernel_rfl) (by kernel_rfl) (by kernel_rfl) rfl rfl rfl h0
  obtain ⟨a1, len1, cap1, rfl⟩ := okWide_slice Try.underlying23 (hval 1 23 v1 rfl rfl)
  have k1 := h1
  have lt1 : ∀ x ∈ p1, x.block < W.heap.size := by obtain ⟨m, hm⟩ := k1; exact DataW.trod_lt m _ _ _ hm
  obtain ⟨z1, w1⟩ := row_of Try.underlying23 Try.underlying3 (by kernel_rfl) h1
  have y1 : len1 * 8 ≤ 140737488351232 := row_sized hsz (j := 1) (t := 23) rfl rfl Try.underlying23 Try.underlying3 (by kernel_rfl) (by kernel_rfl) h1
  have b1 : ∀ x, a1 = some x → x.spot = none ∧ ∃ c t f, W.heap[x.block]? = some (.cells c t f) ∧ x.off ≤ c.size := fun x e => by subst e; exact has_block Try.underlying23 (hval 1 23 _ rfl rfl)
  obtain ⟨a2, len2, cap2, rfl⟩ := okWide_slice Try.underlying23 (hval 2 23 v2 rfl rfl)
  have k2 := h2
  have lt2 : ∀ x ∈ p2, x.block < W.heap.size := by obtain ⟨m, hm⟩ := k2; exact DataW.trod_lt m _ _ _ hm
  obtain ⟨z2, w2⟩ := row_of Try.underlying23 Try.underlying3 (by kernel_rfl) h2
  have y2 : len2 * 8 ≤ 140737488351232 := row_sized hsz (j := 2) (t := 23) rfl rfl Try.underlying23 Try.underlying3 (by kernel_rfl) (by kernel_rfl) h2
  have b2 : ∀ x, a2 = some x → x.spot = none ∧ ∃ c t f, W.heap[x.block]? = some (.cells c t f) ∧ x.off ≤ c.size := fun x e => by subst e; exact has_block Try.underlying23 (hval 2 23 _ rfl rfl)
  obtain ⟨a3, len3, cap3, rfl⟩ := okWide_slice Try.underlying23 (hval 3 23 v3 rfl rfl)
  have k3 := h3
  have lt3 : ∀ x ∈ p3, x.block < W.heap.size := by obtain ⟨m, hm⟩ := k3; exact DataW.trod_lt m _ _ _ hm
  obtain ⟨z3, w3⟩ := row_of Try.underlying23 Try.underlying3 (by kernel_rfl) h3
  have y3 : len3 * 8 ≤ 140737488351232 := row_sized hsz (j := 3) (t := 23) rfl rfl Try.underlying23 Try.underlying3 (by kernel_rfl) (by kernel_rfl) h3
  have b3 : ∀ x, a3 = some x → x.spot = none ∧ ∃ c t f, W.heap[x.block]? = some (.cells c t f) ∧ x.off ≤ c.size := fun x e => by subst e; exact has_block Try.underlying23 (hval 3 23 _ rfl rfl)
  clear hA0 hval0 hsz0 hsz
  refine (walk a0 len0 cap0 z0 a1 len1 cap1 z1 a2 len2 cap2 z2 a3 len3 cap3 z3 W w0 w1 y1 b1 w2 y2 b2 w3 y3 b3).mono fun e W' ⟨he, bel⟩ => ?_
  subst he
  exact ⟨_, rfl, _, _, _, [], _, [], hW', trodAll_mk1 (shut_bool Try.underlying4 _), (trodAll_cons_mk (Below.trod laidOut (by kernel_rfl) (of_decide_eq_true (by kernel_rfl)) k0 bel lt0) (trodAll_cons_mk (Below.trod laidOut (by kernel_rfl) (of_decide_eq_true (by kernel_rfl)) k1 bel lt1) (trodAll_cons_mk (Below.trod laidOut (by kernel_rfl) (of_decide_eq_true (by kernel_rfl)) k2 bel lt2) (trodAll_cons_mk (Below.trod laidOut (by kernel_rfl) (of_decide_eq_true (by kernel_rfl)) k3 bel lt3) trodAll_mk0)))), rfl, bel.frame _, fun h => by cases h⟩
theorem over : Rows.backMeansRow.holds Try.pinned (OpenSpec.ofChange Rows.backMeansSpec) :=
  OpenClaim.holds_of_wide 4 Try.f4 rfl rfl rfl rfl rfl rfl rfl ⟨rfl, rfl, rfl, rfl, rfl⟩ rfl rfl rfl rfl rfl (by kernel_rfl) Try.func4 (by kernel_rfl)
    (of_decide_eq_true (by kernel_rfl)) (by unfold Func.isWrapper; first | (rw [if_pos (by decide +kernel)]; kernel_rfl) | (rw [if_neg (by decide +kernel)]; exact ⟨rfl, rfl⟩))
    (fun os started H enc _ => lifted os started H enc)
theorem proved : Rows.BackMeansSaid := over
#print axioms proved
end Go.Proofs.Ytibammoednhnoaa.backMeans
namespace Go.Proofs.Ytibammoednhnoaa
/-- The row, under a short name, for the claim. -/
theorem backMeans_holds : Rows.BackMeansSaid := backMeans.proved
end Go.Proofs.Ytibammoednhnoaa
