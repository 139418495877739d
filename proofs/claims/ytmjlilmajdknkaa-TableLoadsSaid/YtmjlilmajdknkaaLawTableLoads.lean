/- For every input the law TableLoads returns true, and each argument reads behind the call as it read before: the row TableLoadsSaid, out of its plain statement and the contract of its function. Conditions: none but the given row's own. -/
import Derived.Test.YtmjlilmajdknkaaRows
import Derived.Test.YtmjlilmajdknkaaG1
import Derived.Test.YtmjlilmajdknkaaE37
import Derived.Test.YtmjlilmajdknkaaPureTableLoads
import Derived.WalkKit
import Derived.ProofKit
import Derived.OpenShut
import Derived.ShutString
import Derived.ChangeOld
import Derived.Below
import Derived.SizedLaws
namespace Go.Proofs.Ytmjlilmajdknkaa.tableLoads
open Go.ChangeShapes Go.WideShapes Go.ChangeAt Go.RowKit Go.Proofs.YtmjlilmajdknkaaE
open Go.ChangeMaps (open_string shut_string)
set_option linter.unusedVariables false
theorem own : ownKnob Try.prog.godebug = none := by kernel_rfl
theorem laidOut : laidOutB Try.prog = true := by kernel_rfl
theorem walk (a0 : Int) (a1 : Int) (a2 : Option Addr) (len2 cap2 : Nat) (z2 : List Int) (a3 : Option Addr) (len3 cap3 : Nat) (z3 : List Int) (a4 : Option Addr) (len4 cap4 : Nat) (z4 : List Int) (a5 : Option Addr) (len5 cap5 : Nat) (z5 : List Int) (a6 : Option Addr) (len6 cap6 : Nat) (z6 : List Int) (a7 : Int) (a8 : Option Addr) (len8 cap8 : Nat) (z8 : List Int) (a9 : Option Addr) (len9 cap9 : Nat) (z9 : List Int) (w : World) (w0 : (Lit.int .i64 a0).wf = true) (w1 : (Lit.int .i64 a1).wf = true) (w2 : IsRow .i64 w a2 len2 cap2 z2) (y2 : len2 * 8 ≤ 140737488351232) (b2 : ∀ x, a2 = some x → x.spot = none ∧ ∃ c t f, w.heap[x.block]? = some (.cells c t f) ∧ x.off ≤ c.size) (w3 : IsRow .i64 w a3 len3 cap3 z3) (y3 : len3 * 8 ≤ 140737488351232) (b3 : ∀ x, a3 = some x → x.spot = none ∧ ∃ c t f, w.heap[x.block]? = some (.cells c t f) ∧ x.off ≤ c.size) (w4 : IsRow .i64 w a4 len4 cap4 z4) (y4 : len4 * 8 ≤ 140737488351232) (b4 : ∀ x, a4 = some x → x.spot = none ∧ ∃ c t f, w.heap[x.block]? = some (.cells c t f) ∧ x.off ≤ c.size) (w5 : IsRow .i64 w a5 len5 cap5 z5) (y5 : len5 * 8 ≤ 140737488351232) (b5 : ∀ x, a5 = some x → x.spot = none ∧ ∃ c t f, w.heap[x.block]? = some (.cells c t f) ∧ x.off ≤ c.size) (w6 : IsRow .u8 w a6 len6 cap6 z6) (y6 : len6 * 1 ≤ 140737488351232) (b6 : ∀ x, a6 = some x → x.spot = none ∧ ∃ c t f, w.heap[x.block]? = some (.cells c t f) ∧ x.off ≤ c.size) (w7 : (Lit.int .i64 a7).wf = true) (w8 : IsRow .u8 w a8 len8 cap8 z8) (y8 : len8 * 1 ≤ 140737488351232) (b8 : ∀ x, a8 = some x → x.spot = none ∧ ∃ c t f, w.heap[x.block]? = some (.cells c t f) ∧ x.off ≤ c.size) (w9 : IsRow .u8 w a9 len9 cap9 z9) (y9 : len9 * 1 ≤ 140737488351232) (b9 : ∀ x, a9 = some x → x.spot = none ∧ ∃ c t f, w.heap[x.block]? = some (.cells c t f) ∧ x.off ≤ c.size) : Calls Try.prog 4 #[.int .i64 a0, .int .i64 a1, .slice a2 len2 cap2, .slice a3 len3 cap3, .slice a4 len4 cap4, .slice a5 len5 cap5, .slice a6 len6 cap6, .int .i64 a7, .slice a8 len8 cap8, .slice a9 len9 cap9] w fun e w' => e = .returned (.bool true) ∧ Below w.heap.size w w' := by
  obtain ⟨k, h⟩ := Pure.TableLoads a0 a1 (z2.take len2) (z3.take len3) (z4.take len4) (z5.take len5) (z6.take len6) a7 (z8.take len8) (z9.take len9) (intIn w0) (intIn w1) (rowLen w2 y2) (rowIn w2) (rowLen w3 y3) (rowIn w3) (rowLen w4 y4) (rowIn w4) (rowLen w5 y5) (rowIn w5) (rowLen w6 y6) (rowIn w6) (intIn w7) (rowLen w8 y8) (rowIn w8) (rowLen w9 y9) (rowIn w9)
  exact law_calls (x := (a0, a1, (z2.take len2), (z3.take len3), (z4.take len4), (z5.take len5), (z6.take len6), a7, (z8.take len8), (z9.take len9), ())) (v4 k).2 h rfl ⟨_, _, rfl, int_in w0, ⟨_, _, rfl, int_in w1, ⟨_, _, rfl, row_is w2 b2, ⟨_, _, rfl, row_is w3 b3, ⟨_, _, rfl, row_is w4 b4, ⟨_, _, rfl, row_is w5 b5, ⟨_, _, rfl, row_is w6 b6, ⟨_, _, rfl, int_in w7, ⟨_, _, rfl, row_is w8 b8, ⟨_, _, rfl, row_is w9 b9, rfl⟩⟩⟩⟩⟩⟩⟩⟩⟩⟩
set_option maxRecDepth 100000 in
theorem lifted (os : Os) (started : os.Started) (H : Type) (enc : TypeId × Value → H) :
    ReturnsInHanded {} Try.checked os 4 .any (Rows.tableLoadsSpec.pre6 enc Try.prog Try.f4 Rows.tableLoadsRow.domain false) (Rows.tableLoadsSpec.post enc Try.prog Try.f4 false true false false) := by
  refine returnsInHanded_of_change_sized (C := Try.checked) own started (by kernel_rfl) Try.func4
    (ChangeSpec.witness6 (enc := enc) (C := Try.checked) false ⟨#[], #[.int .i64 0, .int .i64 0, .slice none 0 0, .slice none 0 0, .slice none 0 0, .slice none 0 0, .slice none 0 0, .int .i64 0, .slice none 0 0, .slice none 0 0], []⟩ 8 (by kernel_rfl) (by kernel_rfl) (by kernel_rfl) (by kernel_rfl)) ?_
  intro W base args ds gs before hval0 hW hcnd hsz0 _
  have hsz : (DataW.weightsEach Try.prog (Try.f4.params.toList ++ Rows.tableLoadsSpec.plain.varTypes Try.prog) (ds ++ gs)).all (· ≤ reachBytes) = true := hsz0
  have hval : ∀ (j : Nat) t v, Try.f4.params[j]? = some t → args[j]? = some v → Value.okWide Try.prog W .any base t v := hval0
  have hW' := hW
  obtain ⟨p, q, hA0, hV, rfl, hfz, hnd⟩ := hW
  have hA : DataW.TrodAll enc Try.prog W 0 (fun _ => true) true Try.f4.params.toList args.toList ds p := hA0
  rw [Try.params4] at hA hval hsz
  obtain ⟨v0, vs0, d0, ds0, p0, q0, hargs, rfl, rfl, h0, r0⟩ := trodAll_cons hA
  obtain ⟨v1, vs1, d1, ds1, p1, q1, rfl, rfl, rfl, h1, r1⟩ := trodAll_cons r0
  obtain ⟨v2, vs2, d2, ds2, p2, q2, rfl, rfl, rfl, h2, r2⟩ := trodAll_cons r1
  obtain ⟨v3, vs3, d3, ds3, p3, q3, rfl, rfl, rfl, h3, r3⟩ := trodAll_cons r2
  obtain ⟨v4, vs4, d4, ds4, p4, q4, rfl, rfl, rfl, h4, r4⟩ := trodAll_cons r3
  obtain ⟨v5, vs5, d5, ds5, p5, q5, rfl, rfl, rfl, h5, r5⟩ := trodAll_cons r4
  obtain ⟨v6, vs6, d6, ds6, p6, q6, rfl, rfl, rfl, h6, r6⟩ := trodAll_cons r5
  obtain ⟨v7, vs7, d7, ds7, p7, q7, rfl, rfl, rfl, h7, r7⟩ := trodAll_cons r6
  obtain ⟨v8, vs8, d8, ds8, p8, q8, rfl, rfl, rfl, h8, r8⟩ := trodAll_cons r7
  obtain ⟨v9, vs9, d9, ds9, p9, q9, rfl, rfl, rfl, h9, r9⟩ := trodAll_cons r8
  obtain ⟨rfl, rfl, rfl⟩ := trodAll_nil r9
  obtain rfl : args = #[v0, v1, v2, v3, v4, v5, v6, v7, v8, v9] := by cases args; simp_all
  obtain ⟨rfl, rfl⟩ := trodVars_none hV
  obtain ⟨a0, rfl, rfl, rfl, w0⟩ := open_int Try.underlying3 (hval 0 3 v0 rfl rfl) h0
  obtain ⟨a1, rfl, rfl, rfl, w1⟩ := open_int Try.underlying3 (hval 1 3 v1 rfl rfl) h1
  obtain ⟨a2, len2, cap2, rfl⟩ := okWide_slice Try.underlying22 (hval 2 22 v2 rfl rfl)
  have k2 := h2
  have lt2 : ∀ x ∈ p2, x.block < W.heap.size := by obtain ⟨m, hm⟩ := k2; exact DataW.trod_lt m _ _ _ hm
  obtain ⟨z2, w2⟩ := row_of Try.underlying22 Try.underlying3 (by kernel_rfl) h2
  have y2 : len2 * 8 ≤ 140737488351232 := row_sized hsz (j := 2) (t := 22) rfl rfl Try.underlying22 Try.underlying3 (by kernel_rfl) (by kernel_rfl) h2
  have b2 : ∀ x, a2 = some x → x.spot = none ∧ ∃ c t f, W.heap[x.block]? = some (.cells c t f) ∧ x.off ≤ c.size := fun x e => by subst e; exact has_block Try.underlying22 (hval 2 22 _ rfl rfl)
  obtain ⟨a3, len3, cap3, rfl⟩ := okWide_slice Try.underlying22 (hval 3 22 v3 rfl rfl)
  have k3 := h3
  have lt3 : ∀ x ∈ p3, x.block < W.heap.size := by obtain ⟨m, hm⟩ := k3; exact DataW.trod_lt m _ _ _ hm
  obtain ⟨z3, w3⟩ := row_of Try.underlying22 Try.underlying3 (by kernel_rfl) h3
  have y3 : len3 * 8 ≤ 140737488351232 := row_sized hsz (j := 3) (t := 22) rfl rfl Try.underlying22 Try.underlying3 (by kernel_rfl) (by kernel_rfl) h3
  have b3 : ∀ x, a3 = some x → x.spot = none ∧ ∃ c t f, W.heap[x.block]? = some (.cells c t f) ∧ x.off ≤ c.size := fun x e => by subst e; exact has_block Try.underlying22 (hval 3 22 _ rfl rfl)
  obtain ⟨a4, len4, cap4, rfl⟩ := okWide_slice Try.underlying22 (hval 4 22 v4 rfl rfl)
  have k4 := h4
  have lt4 : ∀ x ∈ p4, x.block < W.heap.size := by obtain ⟨m, hm⟩ := k4; exact DataW.trod_lt m _ _ _ hm
  obtain ⟨z4, w4⟩ := row_of Try.underlying22 Try.underlying3 (by kernel_rfl) h4
  have y4 : len4 * 8 ≤ 140737488351232 := row_sized hsz (j := 4) (t := 22) rfl rfl Try.underlying22 Try.underlying3 (by kernel_rfl) (by kernel_rfl) h4
  have b4 : ∀ x, a4 = some x → x.spot = none ∧ ∃ c t f, W.heap[x.block]? = some (.cells c t f) ∧ x.off ≤ c.size := fun x e => by subst e; exact has_block Try.underlying22 (hval 4 22 _ rfl rfl)
  obtain ⟨a5, len5, cap5, rfl⟩ := okWide_slice Try.underlying22 (hval 5 22 v5 rfl rfl)
  have k5 := h5
  have lt5 : ∀ x ∈ p5, x.block < W.heap.size := by obtain ⟨m, hm⟩ := k5; exact DataW.trod_lt m _ _ _ hm
  obtain ⟨z5, w5⟩ := row_of Try.underlying22 Try.underlying3 (by kernel_rfl) h5
  have y5 : len5 * 8 ≤ 140737488351232 := row_sized hsz (j := 5) (t := 22) rfl rfl Try.underlying22 Try.underlying3 (by kernel_rfl) (by kernel_rfl) h5
  have b5 : ∀ x, a5 = some x → x.spot = none ∧ ∃ c t f, W.heap[x.block]? = some (.cells c t f) ∧ x.off ≤ c.size := fun x e => by subst e; exact has_block Try.underlying22 (hval 5 22 _ rfl rfl)
  obtain ⟨a6, len6, cap6, rfl⟩ := okWide_slice Try.underlying34 (hval 6 34 v6 rfl rfl)
  have k6 := h6
  have lt6 : ∀ x ∈ p6, x.block < W.heap.size := by obtain ⟨m, hm⟩ := k6; exact DataW.trod_lt m _ _ _ hm
  obtain ⟨z6, w6⟩ := row_of Try.underlying34 Try.underlying5 (by kernel_rfl) h6
  have y6 : len6 * 1 ≤ 140737488351232 := row_sized hsz (j := 6) (t := 34) rfl rfl Try.underlying34 Try.underlying5 (by kernel_rfl) (by kernel_rfl) h6
  have b6 : ∀ x, a6 = some x → x.spot = none ∧ ∃ c t f, W.heap[x.block]? = some (.cells c t f) ∧ x.off ≤ c.size := fun x e => by subst e; exact has_block Try.underlying34 (hval 6 34 _ rfl rfl)
  obtain ⟨a7, rfl, rfl, rfl, w7⟩ := open_int Try.underlying3 (hval 7 3 v7 rfl rfl) h7
  obtain ⟨a8, len8, cap8, rfl⟩ := okWide_slice Try.underlying34 (hval 8 34 v8 rfl rfl)
  have k8 := h8
  have lt8 : ∀ x ∈ p8, x.block < W.heap.size := by obtain ⟨m, hm⟩ := k8; exact DataW.trod_lt m _ _ _ hm
  obtain ⟨z8, w8⟩ := row_of Try.underlying34 Try.underlying5 (by kernel_rfl) h8
  have y8 : len8 * 1 ≤ 140737488351232 := row_sized hsz (j := 8) (t := 34) rfl rfl Try.underlying34 Try.underlying5 (by kernel_rfl) (by kernel_rfl) h8
  have b8 : ∀ x, a8 = some x → x.spot = none ∧ ∃ c t f, W.heap[x.block]? = some (.cells c t f) ∧ x.off ≤ c.size := fun x e => by subst e; exact has_block Try.underlying34 (hval 8 34 _ rfl rfl)
  obtain ⟨a9, len9, cap9, rfl⟩ := okWide_slice Try.underlying34 (hval 9 34 v9 rfl rfl)
  have k9 := h9
  have lt9 : ∀ x ∈ p9, x.block < W.heap.size := by obtain ⟨m, hm⟩ := k9; exact DataW.trod_lt m _ _ _ hm
  obtain ⟨z9, w9⟩ := row_of Try.underlying34 Try.underlying5 (by kernel_rfl) h9
  have y9 : len9 * 1 ≤ 140737488351232 := row_sized hsz (j := 9) (t := 34) rfl rfl Try.underlying34 Try.underlying5 (by kernel_rfl) (by kernel_rfl) h9
  have b9 : ∀ x, a9 = some x → x.spot = none ∧ ∃ c t f, W.heap[x.block]? = some (.cells c t f) ∧ x.off ≤ c.size := fun x e => by subst e; exact has_block Try.underlying34 (hval 9 34 _ rfl rfl)
  clear hA0 hval0 hsz0 hsz
  refine (walk a0 a1 a2 len2 cap2 z2 a3 len3 cap3 z3 a4 len4 cap4 z4 a5 len5 cap5 z5 a6 len6 cap6 z6 a7 a8 len8 cap8 z8 a9 len9 cap9 z9 W w0 w1 w2 y2 b2 w3 y3 b3 w4 y4 b4 w5 y5 b5 w6 y6 b6 w7 w8 y8 b8 w9 y9 b9).mono fun e W' ⟨he, bel⟩ => ?_
  subst he
  exact ⟨_, rfl, _, _, _, [], _, [], hW', trodAll_mk1 (shut_bool Try.underlying4 _), (trodAll_cons_mk (shut_int Try.underlying3 w0) (trodAll_cons_mk (shut_int Try.underlying3 w1) (trodAll_cons_mk (Below.trod laidOut (by kernel_rfl) (of_decide_eq_true (by kernel_rfl)) k2 bel lt2) (trodAll_cons_mk (Below.trod laidOut (by kernel_rfl) (of_decide_eq_true (by kernel_rfl)) k3 bel lt3) (trodAll_cons_mk (Below.trod laidOut (by kernel_rfl) (of_decide_eq_true (by kernel_rfl)) k4 bel lt4) (trodAll_cons_mk (Below.trod laidOut (by kernel_rfl) (of_decide_eq_true (by kernel_rfl)) k5 bel lt5) (trodAll_cons_mk (Below.trod laidOut (by kernel_rfl) (of_decide_eq_true (by kernel_rfl)) k6 bel lt6) (trodAll_cons_mk (shut_int Try.underlying3 w7) (trodAll_cons_mk (Below.trod laidOut (by kernel_rfl) (of_decide_eq_true (by kernel_rfl)) k8 bel lt8) (trodAll_cons_mk (Below.trod laidOut (by kernel_rfl) (of_decide_eq_true (by kernel_rfl)) k9 bel lt9) trodAll_mk0)))))))))), rfl, bel.frame _, fun h => by cases h⟩
theorem over : Rows.tableLoadsRow.holds Try.pinned (OpenSpec.ofChange Rows.tableLoadsSpec) :=
  OpenClaim.holds_of_wide 4 Try.f4 rfl rfl rfl rfl rfl rfl rfl ⟨rfl, rfl, rfl, rfl, rfl⟩ rfl rfl rfl rfl rfl (by kernel_rfl) Try.func4 (by kernel_rfl)
    (of_decide_eq_true (by kernel_rfl)) (by unfold Func.isWrapper; first | (rw [if_pos (by decide +kernel)]; kernel_rfl) | (rw [if_neg (by decide +kernel)]; exact ⟨rfl, rfl⟩))
    (fun os started H enc _ => lifted os started H enc)
theorem proved : Rows.TableLoadsSaid := over
#print axioms proved
end Go.Proofs.Ytmjlilmajdknkaa.tableLoads
namespace Go.Proofs.Ytmjlilmajdknkaa
/-- The row, under a short name, for the claim. -/
theorem tableLoads_holds : Rows.TableLoadsSaid := tableLoads.proved
end Go.Proofs.Ytmjlilmajdknkaa
