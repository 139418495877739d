-- YtcmacpdpphdkcaaF: functions of the seat, told as Lean functions, and their contracts
import Derived.Test.YtcmacpdpphdkcaaF0
namespace Go.Proofs.Ytcmacpdpphdkcaa.F
open Go.RowKit Go.Proofs.YtcmacpdpphdkcaaW.PrintWords Go.Proofs.YtcmacpdpphdkcaaW.PrintLast Go.Proofs.YtcmacpdpphdkcaaW.PrintMore
attribute [local go_sem] max2_int min2_int max_two min_two max_three min_three max_four min_four   -- for this text's walks alone
set_option linter.unusedVariables false
set_option linter.unusedSimpArgs false

/-! ### utf_front_may: function 27 -/
def utf_front_may.f (a0_0 : Int) (a0_1 : Int) (a0_2 : Int) (a1 : Int) (a2 : Int) : Option (Bool) := if a1 = 0 then (if a2 ≥ a0_1 then (some (decide (a2 ≤ a0_2))) else (some false)) else (if a2 ≥ 128 then (some (decide (a2 ≤ 191))) else (some false))
set_option maxHeartbeats 8000000 in
set_option maxRecDepth 100000 in
theorem utf_front_may.calls (a0_0 : Int) (a0_1 : Int) (a0_2 : Int) (a1 : Int) (a2 : Int) (r : Bool) (w : World) (h : utf_front_may.f a0_0 a0_1 a0_2 a1 a2 = some r) :
    Calls Try.prog 27 #[.agg #[.int .i64 a0_0, .int .u8 a0_1, .int .u8 a0_2], .int .i64 a1, .int .u8 a2] w fun e w' => e = .returned (.bool r) ∧ Below w.heap.size w w' := by
  have hu45 := Try.underlying45
  have HB := Aside0.mk (Below.refl w.heap.size w)
  have H : (if a1 = 0 then (if a2 ≥ a0_1 then (some (decide (a2 ≤ a0_2))) else (some false)) else (if a2 ≥ 128 then (some (decide (a2 ≤ 191))) else (some false))) = some r := h
  clear h
  by_cases c4 : a1 = 0
  · rw [if_pos c4] at H
    have c4b0 : (a1 == 0) = true := beq_iff_eq.mpr c4
    have c4b1 : (a1 != 0) = false := bne_eq_false_iff_eq.mpr c4
    clear c4
    by_cases c5 : a2 ≥ a0_1
    · rw [if_pos c5] at H
      have c5b0 : decide (a0_1 ≤ a2) = true := decide_eq_true c5
      clear c5
      obtain rfl := Option.some.inj H
      go_enter Try.func27, Try.ntmps27
      go_wp2_with (first | ((with_reducible refine gate_dst (N := 3) rfl ?_); refine box_event ?hg (N := 3) ?hd (cs := #[.int .i64 a0_0, .int .u8 a0_1, .int .u8 a0_2]) (t := 45) ?hr ?_; (case hd => rfl); (case hg => rfl); (case hr => first | (go_simp; done) | (go_simp; rfl)); intro gb101 hg w6 hbox hb; have n0_ := Aside0.mk (below_step (by repeat (first | (with_reducible first | exact HB.out | apply below_alloc | apply pw_below_drewN | apply below_drew1) | exact HB.out)) hb); have n1_ := Aside0.mk (hbox); have n2_ := Aside0.mk ((by rw [hg]; exact (below_size (by repeat (first | (with_reducible first | exact HB.out | apply below_alloc | apply pw_below_drewN | apply below_drew1) | exact HB.out))) : w.heap.size ≤ gb101)); have n3_ := Aside0.mk ((by rw [hg]; exact (below_size (by repeat (first | (with_reducible first | exact HB.out | apply below_alloc | apply pw_below_drewN | apply below_drew1) | exact HB.out))) : w.heap.size ≤ gb101)); clear HB; have HB := n0_; have BK101 := n1_; have GW101 := n2_; have GE101 := n3_; clear n0_ n1_ n2_ n3_; clear hb hbox hg; have hcz7_0 : w6.cell? ⟨gb101, 0, none⟩ = some (.int .i64 a0_0) := (blk_cell BK101.out 0).trans rfl; have hcz7_1 : w6.cell? ⟨gb101, 1, none⟩ = some (.int .u8 a0_1) := (blk_cell BK101.out 1).trans rfl; have hcz7_2 : w6.cell? ⟨gb101, 2, none⟩ = some (.int .u8 a0_2) := (blk_cell BK101.out 2).trans rfl; have hfz7_0 := blk_frozen BK101.out 0; have hfz7_1 := blk_frozen BK101.out 1; have hfz7_2 := blk_frozen BK101.out 2))
      go_ret
      exact ⟨by first | rfl | (simp [errW_none, errW_some] <;> rfl) | (simp [*, errW_none, errW_some] <;> rfl), by repeat (first | (with_reducible first | exact HB.out | apply below_alloc | apply pw_below_drewN | apply below_drew1 | refine below_set ?_ GE101.out) | exact HB.out)⟩
    · rw [if_neg c5] at H
      have c5b0 : decide (a0_1 ≤ a2) = false := decide_eq_false c5
      clear c5
      obtain rfl := Option.some.inj H
      go_enter Try.func27, Try.ntmps27
      go_wp2_with (first | ((with_reducible refine gate_dst (N := 3) rfl ?_); refine box_event ?hg (N := 3) ?hd (cs := #[.int .i64 a0_0, .int .u8 a0_1, .int .u8 a0_2]) (t := 45) ?hr ?_; (case hd => rfl); (case hg => rfl); (case hr => first | (go_simp; done) | (go_simp; rfl)); intro gb101 hg w8 hbox hb; have n0_ := Aside0.mk (below_step (by repeat (first | (with_reducible first | exact HB.out | apply below_alloc | apply pw_below_drewN | apply below_drew1) | exact HB.out)) hb); have n1_ := Aside0.mk (hbox); have n2_ := Aside0.mk ((by rw [hg]; exact (below_size (by repeat (first | (with_reducible first | exact HB.out | apply below_alloc | apply pw_below_drewN | apply below_drew1) | exact HB.out))) : w.heap.size ≤ gb101)); have n3_ := Aside0.mk ((by rw [hg]; exact (below_size (by repeat (first | (with_reducible first | exact HB.out | apply below_alloc | apply pw_below_drewN | apply below_drew1) | exact HB.out))) : w.heap.size ≤ gb101)); clear HB; have HB := n0_; have BK101 := n1_; have GW101 := n2_; have GE101 := n3_; clear n0_ n1_ n2_ n3_; clear hb hbox hg; have hcz9_0 : w8.cell? ⟨gb101, 0, none⟩ = some (.int .i64 a0_0) := (blk_cell BK101.out 0).trans rfl; have hcz9_1 : w8.cell? ⟨gb101, 1, none⟩ = some (.int .u8 a0_1) := (blk_cell BK101.out 1).trans rfl; have hcz9_2 : w8.cell? ⟨gb101, 2, none⟩ = some (.int .u8 a0_2) := (blk_cell BK101.out 2).trans rfl; have hfz9_0 := blk_frozen BK101.out 0; have hfz9_1 := blk_frozen BK101.out 1; have hfz9_2 := blk_frozen BK101.out 2))
      go_ret
      exact ⟨by first | rfl | (simp [errW_none, errW_some] <;> rfl) | (simp [*, errW_none, errW_some] <;> rfl), by repeat (first | (with_reducible first | exact HB.out | apply below_alloc | apply pw_below_drewN | apply below_drew1 | refine below_set ?_ GE101.out) | exact HB.out)⟩
  · rw [if_neg c4] at H
    have c4b0 : (a1 == 0) = false := beq_eq_false_iff_ne.mpr c4
    have c4b1 : (a1 != 0) = true := bne_iff_ne.mpr c4
    by_cases c10 : a2 ≥ 128
    · rw [if_pos c10] at H
      have c10b0 : decide (128 ≤ a2) = true := decide_eq_true c10
      clear c10
      obtain rfl := Option.some.inj H
      go_enter Try.func27, Try.ntmps27
      go_wp2_with (first | ((with_reducible refine gate_dst (N := 3) rfl ?_); refine box_event ?hg (N := 3) ?hd (cs := #[.int .i64 a0_0, .int .u8 a0_1, .int .u8 a0_2]) (t := 45) ?hr ?_; (case hd => rfl); (case hg => rfl); (case hr => first | (go_simp; done) | (go_simp; rfl)); intro gb101 hg w11 hbox hb; have n0_ := Aside0.mk (below_step (by repeat (first | (with_reducible first | exact HB.out | apply below_alloc | apply pw_below_drewN | apply below_drew1) | exact HB.out)) hb); have n1_ := Aside0.mk (hbox); have n2_ := Aside0.mk ((by rw [hg]; exact (below_size (by repeat (first | (with_reducible first | exact HB.out | apply below_alloc | apply pw_below_drewN | apply below_drew1) | exact HB.out))) : w.heap.size ≤ gb101)); have n3_ := Aside0.mk ((by rw [hg]; exact (below_size (by repeat (first | (with_reducible first | exact HB.out | apply below_alloc | apply pw_below_drewN | apply below_drew1) | exact HB.out))) : w.heap.size ≤ gb101)); clear HB; have HB := n0_; have BK101 := n1_; have GW101 := n2_; have GE101 := n3_; clear n0_ n1_ n2_ n3_; clear hb hbox hg))
      go_ret
      exact ⟨by first | rfl | (simp [errW_none, errW_some] <;> rfl) | (simp [*, errW_none, errW_some] <;> rfl), by repeat (first | (with_reducible first | exact HB.out | apply below_alloc | apply pw_below_drewN | apply below_drew1 | refine below_set ?_ GE101.out) | exact HB.out)⟩
    · rw [if_neg c10] at H
      have c10b0 : decide (128 ≤ a2) = false := decide_eq_false c10
      clear c10
      obtain rfl := Option.some.inj H
      go_enter Try.func27, Try.ntmps27
      go_wp2_with (first | ((with_reducible refine gate_dst (N := 3) rfl ?_); refine box_event ?hg (N := 3) ?hd (cs := #[.int .i64 a0_0, .int .u8 a0_1, .int .u8 a0_2]) (t := 45) ?hr ?_; (case hd => rfl); (case hg => rfl); (case hr => first | (go_simp; done) | (go_simp; rfl)); intro gb101 hg w12 hbox hb; have n0_ := Aside0.mk (below_step (by repeat (first | (with_reducible first | exact HB.out | apply below_alloc | apply pw_below_drewN | apply below_drew1) | exact HB.out)) hb); have n1_ := Aside0.mk (hbox); have n2_ := Aside0.mk ((by rw [hg]; exact (below_size (by repeat (first | (with_reducible first | exact HB.out | apply below_alloc | apply pw_below_drewN | apply below_drew1) | exact HB.out))) : w.heap.size ≤ gb101)); have n3_ := Aside0.mk ((by rw [hg]; exact (below_size (by repeat (first | (with_reducible first | exact HB.out | apply below_alloc | apply pw_below_drewN | apply below_drew1) | exact HB.out))) : w.heap.size ≤ gb101)); clear HB; have HB := n0_; have BK101 := n1_; have GW101 := n2_; have GE101 := n3_; clear n0_ n1_ n2_ n3_; clear hb hbox hg))
      go_ret
      exact ⟨by first | rfl | (simp [errW_none, errW_some] <;> rfl) | (simp [*, errW_none, errW_some] <;> rfl), by repeat (first | (with_reducible first | exact HB.out | apply below_alloc | apply pw_below_drewN | apply below_drew1 | refine below_set ?_ GE101.out) | exact HB.out)⟩

/-! ### utf_behind: function 26 -/
mutual
def utf_behind.j2 : Nat → Int → Int → Int → Int → Option (Int × Int × Int)
  | 0, _, _, _, _ => none
  | k + 1, x0, x104000, x104001, x104002 => if x0 = 224 then (some (x104000, 160, x104002)) else (if x0 = 237 then (some (x104000, x104001, 159)) else (if x0 = 240 then (some (x104000, 144, x104002)) else (if x0 = 244 then (some (x104000, x104001, 143)) else (some (x104000, x104001, x104002)))))
def utf_behind.j0 : Nat → Int → Bool → Int → Int → Int → Option (Int × Int × Int)
  | 0, _, _, _, _, _ => none
  | k + 1, x0, x5, x104000, x104001, x104002 => if x5 = true then (utf_behind.j2 k x0 1 x104001 x104002) else (if x0 ≥ 224 then (utf_behind.j1 k x0 (decide (x0 ≤ 239)) x104000 x104001 x104002) else (utf_behind.j1 k x0 false x104000 x104001 x104002))
def utf_behind.j1 : Nat → Int → Bool → Int → Int → Int → Option (Int × Int × Int)
  | 0, _, _, _, _, _ => none
  | k + 1, x0, x13, x104000, x104001, x104002 => if x13 = true then (utf_behind.j2 k x0 2 x104001 x104002) else (if x0 ≥ 240 then (if x0 ≤ 244 then (utf_behind.j2 k x0 3 x104001 x104002) else (utf_behind.j2 k x0 x104000 x104001 x104002)) else (utf_behind.j2 k x0 x104000 x104001 x104002))
end
def utf_behind.f (k : Nat) (a0 : Int) : Option (Int × Int × Int) := if a0 ≥ 194 then (utf_behind.j0 k a0 (decide (a0 ≤ 223)) 0 128 191) else (utf_behind.j0 k a0 false 0 128 191)
theorem utf_behind.mono_l : ∀ k, (∀ y0 y1 y2 y3, LeO (utf_behind.j2 k y0 y1 y2 y3) (utf_behind.j2 (k + 1) y0 y1 y2 y3)) ∧ (∀ y0 y1 y2 y3 y4, LeO (utf_behind.j0 k y0 y1 y2 y3 y4) (utf_behind.j0 (k + 1) y0 y1 y2 y3 y4)) ∧ (∀ y0 y1 y2 y3 y4, LeO (utf_behind.j1 k y0 y1 y2 y3 y4) (utf_behind.j1 (k + 1) y0 y1 y2 y3 y4))
  | 0 => ⟨fun _ _ _ _ r h => by simp [utf_behind.j2] at h, fun _ _ _ _ _ r h => by simp [utf_behind.j0] at h, fun _ _ _ _ _ r h => by simp [utf_behind.j1] at h⟩
  | k + 1 => by
    obtain ⟨ih0, ih1, ih2⟩ := utf_behind.mono_l k
    refine ⟨?_, ?_, ?_⟩
    · intro y0 y1 y2 y3
      unfold utf_behind.j2
      repeat' first
      | (with_reducible exact ih0 _ _ _ _)
      | (with_reducible exact ih1 _ _ _ _ _)
      | (with_reducible exact ih2 _ _ _ _ _)
      | (with_reducible exact LeO.refl _)
      | (with_reducible exact LeO.none _)
      | (with_reducible refine LeO.ite ?_ ?_)
      | (with_reducible refine LeO.bind ?_ (fun _ => ?_))
      | exact ih0 _ _ _ _
      | exact ih1 _ _ _ _ _
      | exact ih2 _ _ _ _ _
      | exact LeO.none _
      | refine LeO.ite ?_ ?_
      | refine LeO.bind ?_ (fun _ => ?_)
    · intro y0 y1 y2 y3 y4
      unfold utf_behind.j0
      repeat' first
      | (with_reducible exact ih0 _ _ _ _)
      | (with_reducible exact ih1 _ _ _ _ _)
      | (with_reducible exact ih2 _ _ _ _ _)
      | (with_reducible exact LeO.refl _)
      | (with_reducible exact LeO.none _)
      | (with_reducible refine LeO.ite ?_ ?_)
      | (with_reducible refine LeO.bind ?_ (fun _ => ?_))
      | exact ih0 _ _ _ _
      | exact ih1 _ _ _ _ _
      | exact ih2 _ _ _ _ _
      | exact LeO.none _
      | refine LeO.ite ?_ ?_
      | refine LeO.bind ?_ (fun _ => ?_)
    · intro y0 y1 y2 y3 y4
      unfold utf_behind.j1
      repeat' first
      | (with_reducible exact ih0 _ _ _ _)
      | (with_reducible exact ih1 _ _ _ _ _)
      | (with_reducible exact ih2 _ _ _ _ _)
      | (with_reducible exact LeO.refl _)
      | (with_reducible exact LeO.none _)
      | (with_reducible refine LeO.ite ?_ ?_)
      | (with_reducible refine LeO.bind ?_ (fun _ => ?_))
      | exact ih0 _ _ _ _
      | exact ih1 _ _ _ _ _
      | exact ih2 _ _ _ _ _
      | exact LeO.none _
      | refine LeO.ite ?_ ?_
      | refine LeO.bind ?_ (fun _ => ?_)
theorem utf_behind.mono : ∀ a0 k, LeO (utf_behind.f k a0) (utf_behind.f (k + 1) a0) := by
  intro a0 k
  obtain ⟨ih0, ih1, ih2⟩ := utf_behind.mono_l k
  unfold utf_behind.f
  repeat' first
      | (with_reducible exact ih0 _ _ _ _)
      | (with_reducible exact ih1 _ _ _ _ _)
      | (with_reducible exact ih2 _ _ _ _ _)
      | (with_reducible exact LeO.refl _)
      | (with_reducible exact LeO.none _)
      | (with_reducible refine LeO.ite ?_ ?_)
      | (with_reducible refine LeO.bind ?_ (fun _ => ?_))
      | exact ih0 _ _ _ _
      | exact ih1 _ _ _ _ _
      | exact ih2 _ _ _ _ _
      | exact LeO.none _
      | refine LeO.ite ?_ ?_
      | refine LeO.bind ?_ (fun _ => ?_)
set_option maxHeartbeats 8000000 in
set_option maxRecDepth 100000 in
theorem utf_behind.calls (k : Nat) (a0 : Int) (r1 : Int) (r2 : Int) (r3 : Int) (w : World) (h : utf_behind.f k a0 = some (r1, r2, r3)) :
    Calls Try.prog 26 #[.int .u8 a0] w fun e w' => e = .returned (.agg #[.int .i64 r1, .int .u8 r2, .int .u8 r3]) ∧ Below w.heap.size w w' := by
  have hu45 := Try.underlying45
  have HB := Aside0.mk (Below.refl w.heap.size w)
  have H : (if a0 ≥ 194 then (utf_behind.j0 k a0 (decide (a0 ≤ 223)) 0 128 191) else (utf_behind.j0 k a0 false 0 128 191)) = some (r1, r2, r3) := h
  clear h
  have HC2 := Aside0.mk H
  clear H
  go_enter Try.func26, Try.ntmps26
  go_upto_block 0 with (first | ((with_reducible refine gate_dst (N := 2) rfl ?_); refine box_event ?hg (N := 2) ?hd (cs := #[.int .i64 0, .int .u8 0, .int .u8 0]) (t := 45) ?hr ?_; (case hd => rfl); (case hg => rfl); (case hr => first | (go_simp; done) | (go_simp; rfl)); intro gb102 hg w3 hbox hb; have n0_ := Aside0.mk (below_step (by repeat (first | (with_reducible first | exact HB.out | apply below_alloc | apply pw_below_drewN | apply below_drew1) | exact HB.out)) hb); have n1_ := Aside0.mk (hbox); have n2_ := Aside0.mk ((by rw [hg]; exact (below_size (by repeat (first | (with_reducible first | exact HB.out | apply below_alloc | apply pw_below_drewN | apply below_drew1) | exact HB.out))) : w.heap.size ≤ gb102)); have n3_ := Aside0.mk ((by rw [hg]; exact (below_size (by repeat (first | (with_reducible first | exact HB.out | apply below_alloc | apply pw_below_drewN | apply below_drew1) | exact HB.out))) : w.heap.size ≤ gb102)); clear HB; have HB := n0_; have BK102 := n1_; have GW102 := n2_; have GE102 := n3_; clear n0_ n1_ n2_ n3_; clear hb hbox hg) | ((with_reducible refine gate_dst (N := 3) rfl ?_); refine box_event ?hg (N := 3) ?hd (cs := #[.int .i64 0, .int .u8 0, .int .u8 0]) (t := 45) ?hr ?_; (case hd => rfl); (case hg => rfl); (case hr => first | (go_simp; done) | (go_simp; rfl)); intro gb103 hg w4 hbox hb; have n0_ := Aside0.mk (blk_below (g := gb102) (o := .cells #[.int .i64 0, .int .u8 0, .int .u8 0] 45 (0, 0)) (by (with_reducible repeat (first | refine blk_drewN ?_ _ | refine blk_drew ?_ | refine blk_alloc ?_ _)); exact BK102.out) hb); have n1_ := Aside0.mk (below_step (by repeat (first | (with_reducible first | exact HB.out | apply below_alloc | apply pw_below_drewN | apply below_drew1 | refine below_set ?_ GE102.out) | exact HB.out)) hb); have n2_ := Aside0.mk (hbox); have n3_ := Aside0.mk ((by rw [hg]; exact (below_size (by repeat (first | (with_reducible first | exact HB.out | apply below_alloc | apply pw_below_drewN | apply below_drew1 | refine below_set ?_ GE102.out) | exact HB.out))) : w.heap.size ≤ gb103)); have n4_ := Aside0.mk ((by rw [hg]; exact (below_size (by repeat (first | (with_reducible first | exact HB.out | apply below_alloc | apply pw_below_drewN | apply below_drew1 | refine below_set ?_ GE102.out) | exact HB.out))) : w.heap.size ≤ gb103)); have n5_ := Aside0.mk ((by rw [hg]; exact Nat.ne_of_lt (blk_lt (g := gb102) (o := .cells #[.int .i64 0, .int .u8 0, .int .u8 0] 45 (0, 0)) (by (with_reducible repeat (first | refine blk_drewN ?_ _ | refine blk_drew ?_ | refine blk_alloc ?_ _)); exact BK102.out)) : gb102 ≠ gb103)); have n6_ := Aside0.mk ((by rw [hg]; exact Nat.ne_of_gt (blk_lt (g := gb102) (o := .cells #[.int .i64 0, .int .u8 0, .int .u8 0] 45 (0, 0)) (by (with_reducible repeat (first | refine blk_drewN ?_ _ | refine blk_drew ?_ | refine blk_alloc ?_ _)); exact BK102.out)) : gb103 ≠ gb102)); clear BK102; clear HB; have BK102 := n0_; have HB := n1_; have BK103 := n2_; have GW103 := n3_; have GE103 := n4_; have NB102_103 := n5_; have NB103_102 := n6_; clear n0_ n1_ n2_ n3_ n4_ n5_ n6_; clear hb hbox hg; have hnb5 := NB103_102.out; have hnc5 := NB102_103.out; have hcz6_0 : w4.cell? ⟨gb103, 0, none⟩ = some (.int .i64 0) := (blk_cell BK103.out 0).trans rfl; have hcz6_1 : w4.cell? ⟨gb103, 1, none⟩ = some (.int .u8 0) := (blk_cell BK103.out 1).trans rfl; have hcz6_2 : w4.cell? ⟨gb103, 2, none⟩ = some (.int .u8 0) := (blk_cell BK103.out 2).trans rfl; have hfz6_0 := blk_frozen BK103.out 0; have hfz6_1 := blk_frozen BK103.out 1; have hfz6_2 := blk_frozen BK103.out 2))
  (try simp only [Act.put, List.setIfInBounds_toArray, List.set_cons_zero, List.set_cons_succ])
  go_cut [] (fun wc => ∃ (kq : Nat) (x104000_1 : Int), Aside0 (utf_behind.j2 kq a0 x104000_1 128 191 = some (r1, r2, r3)) ∧ Aside0 (kq ≤ k) ∧ Aside0 (wc.heap[gb102]? = some (.cells #[.int .i64 0, .int .u8 0, .int .u8 0] 45 (0, 0))) ∧ Aside0 (wc.heap[gb103]? = some (.cells #[.int .i64 x104000_1, .int .u8 128, .int .u8 191] 45 (0, 0))) ∧ Aside0 (Below w.heap.size w wc))
  case first =>
    have H := HC2.out
    clear HC2
    have HC7 := Aside0.mk H
    clear H
    go_upto_region 2 with (fail)
    go_cut [5] (fun v5 wc => ∃ (kq : Nat) (x5_6 : Bool), v5 = .bool x5_6 ∧ Aside0 (utf_behind.j0 kq a0 x5_6 0 128 191 = some (r1, r2, r3)) ∧ Aside0 (kq ≤ k) ∧ Aside0 (wc.heap[gb102]? = some (.cells #[.int .i64 0, .int .u8 0, .int .u8 0] 45 (0, 0))) ∧ Aside0 (wc.heap[gb103]? = some (.cells #[.int .i64 0, .int .u8 128, .int .u8 191] 45 (0, 0))) ∧ Aside0 (Below w.heap.size w wc))
    case first =>
      have H := HC7.out
      clear HC7
      by_cases c8 : a0 ≥ 194
      · rw [if_pos c8] at H
        have c8b0 : decide (194 ≤ a0) = true := decide_eq_true c8
        clear c8
        (first | rw [c8b0] | (simp only [i64_w, i32_w]; rw [c8b0]) | skip)
        have H' := Aside0.mk H
        clear H
        go_wp2
        go_meet
        case rel => exact ⟨_, (decide (a0 ≤ 223)), (by first | rfl | (simp; done) | (simp [*]; done)), H', ⟨by first | omega | exact Nat.le_refl _⟩, ⟨by (with_reducible repeat (first | refine blk_drewN ?_ _ | refine blk_drew ?_ | refine blk_alloc ?_ _)); refine blk_far ?_ NB102_103.out _; (with_reducible repeat (first | refine blk_drewN ?_ _ | refine blk_drew ?_ | refine blk_alloc ?_ _)); refine blk_far ?_ NB102_103.out _; (with_reducible repeat (first | refine blk_drewN ?_ _ | refine blk_drew ?_ | refine blk_alloc ?_ _)); refine blk_far ?_ NB102_103.out _; (with_reducible repeat (first | refine blk_drewN ?_ _ | refine blk_drew ?_ | refine blk_alloc ?_ _)); exact BK102.out⟩, ⟨by (with_reducible repeat (first | refine blk_drewN ?_ _ | refine blk_drew ?_ | refine blk_alloc ?_ _)); refine blk_put (cs := #[.int .i64 0, .int .u8 128, .int .u8 0]) ?_ 2 _ rfl; (with_reducible repeat (first | refine blk_drewN ?_ _ | refine blk_drew ?_ | refine blk_alloc ?_ _)); refine blk_put (cs := #[.int .i64 0, .int .u8 0, .int .u8 0]) ?_ 1 _ rfl; (with_reducible repeat (first | refine blk_drewN ?_ _ | refine blk_drew ?_ | refine blk_alloc ?_ _)); refine blk_put (cs := #[.int .i64 0, .int .u8 0, .int .u8 0]) ?_ 0 _ rfl; (with_reducible repeat (first | refine blk_drewN ?_ _ | refine blk_drew ?_ | refine blk_alloc ?_ _)); exact BK103.out⟩, ⟨by repeat (first | (with_reducible first | exact HB.out | apply below_alloc | apply pw_below_drewN | apply below_drew1 | refine below_set ?_ GE102.out | refine below_set ?_ GE103.out) | exact HB.out)⟩⟩
      · rw [if_neg c8] at H
        have c8b0 : decide (194 ≤ a0) = false := decide_eq_false c8
        clear c8
        (first | rw [c8b0] | (simp only [i64_w, i32_w]; rw [c8b0]) | skip)
        have H' := Aside0.mk H
        clear H
        go_wp2
        go_meet
        case rel => exact ⟨_, (false), (by first | rfl | (simp; done) | (simp [*]; done)), H', ⟨by first | omega | exact Nat.le_refl _⟩, ⟨by (with_reducible repeat (first | refine blk_drewN ?_ _ | refine blk_drew ?_ | refine blk_alloc ?_ _)); refine blk_far ?_ NB102_103.out _; (with_reducible repeat (first | refine blk_drewN ?_ _ | refine blk_drew ?_ | refine blk_alloc ?_ _)); refine blk_far ?_ NB102_103.out _; (with_reducible repeat (first | refine blk_drewN ?_ _ | refine blk_drew ?_ | refine blk_alloc ?_ _)); refine blk_far ?_ NB102_103.out _; (with_reducible repeat (first | refine blk_drewN ?_ _ | refine blk_drew ?_ | refine blk_alloc ?_ _)); exact BK102.out⟩, ⟨by (with_reducible repeat (first | refine blk_drewN ?_ _ | refine blk_drew ?_ | refine blk_alloc ?_ _)); refine blk_put (cs := #[.int .i64 0, .int .u8 128, .int .u8 0]) ?_ 2 _ rfl; (with_reducible repeat (first | refine blk_drewN ?_ _ | refine blk_drew ?_ | refine blk_alloc ?_ _)); refine blk_put (cs := #[.int .i64 0, .int .u8 0, .int .u8 0]) ?_ 1 _ rfl; (with_reducible repeat (first | refine blk_drewN ?_ _ | refine blk_drew ?_ | refine blk_alloc ?_ _)); refine blk_put (cs := #[.int .i64 0, .int .u8 0, .int .u8 0]) ?_ 0 _ rfl; (with_reducible repeat (first | refine blk_drewN ?_ _ | refine blk_drew ?_ | refine blk_alloc ?_ _)); exact BK103.out⟩, ⟨by repeat (first | (with_reducible first | exact HB.out | apply below_alloc | apply pw_below_drewN | apply below_drew1 | refine below_set ?_ GE102.out | refine below_set ?_ GE103.out) | exact HB.out)⟩⟩
    case rest =>
      clear HC7
      try clear c2
      try clear p2
      try clear c5
      try clear c8
      try clear c8b0
      try clear hcz6_0
      try clear hcz6_1
      try clear hcz6_2
      try clear hfz6_0
      try clear hfz6_1
      try clear hfz6_2
      obtain ⟨kq, x5_6, rfl, HA, HJ6, BK102, BK103, HB⟩ := hcut
      cases kq with
      | zero => exact absurd HA.out (by simp [utf_behind.j0])
      | succ kj6 =>
        have H := HA.out
        clear HA
        simp only [utf_behind.j0] at H
        by_cases c9 : x5_6 = true
        · subst c9
          have H1 : (utf_behind.j2 kj6 a0 1 128 191) = some (r1, r2, r3) := by rw [if_pos rfl] at H; exact H
          clear H
          have H := H1
          clear H1
          have H' := Aside0.mk H
          clear H
          have hnb10 := NB103_102.out
          have hnc10 := NB102_103.out
          have hcz11_0 : wc.cell? ⟨gb103, 0, none⟩ = some (.int .i64 0) := (blk_cell BK103.out 0).trans rfl
          have hcz11_1 : wc.cell? ⟨gb103, 1, none⟩ = some (.int .u8 128) := (blk_cell BK103.out 1).trans rfl
          have hcz11_2 : wc.cell? ⟨gb103, 2, none⟩ = some (.int .u8 191) := (blk_cell BK103.out 2).trans rfl
          have hfz11_0 := blk_frozen BK103.out 0
          have hfz11_1 := blk_frozen BK103.out 1
          have hfz11_2 := blk_frozen BK103.out 2
          go_wp2
          go_meet
          case rel => exact ⟨_, (1), H', ⟨by have := HJ6.out; first | omega | exact Nat.le_refl _⟩, ⟨by (with_reducible repeat (first | refine blk_drewN ?_ _ | refine blk_drew ?_ | refine blk_alloc ?_ _)); refine blk_far ?_ NB102_103.out _; (with_reducible repeat (first | refine blk_drewN ?_ _ | refine blk_drew ?_ | refine blk_alloc ?_ _)); exact BK102.out⟩, ⟨by (with_reducible repeat (first | refine blk_drewN ?_ _ | refine blk_drew ?_ | refine blk_alloc ?_ _)); refine blk_put (cs := #[.int .i64 0, .int .u8 128, .int .u8 191]) ?_ 0 _ rfl; (with_reducible repeat (first | refine blk_drewN ?_ _ | refine blk_drew ?_ | refine blk_alloc ?_ _)); exact BK103.out⟩, ⟨by repeat (first | (with_reducible first | exact HB.out | apply below_alloc | apply pw_below_drewN | apply below_drew1 | refine below_set ?_ GE102.out | refine below_set ?_ GE103.out) | exact HB.out)⟩⟩
        · replace c9 := Bool.eq_false_iff.mpr c9
          subst c9
          have H1 : (if a0 ≥ 224 then (utf_behind.j1 kj6 a0 (decide (a0 ≤ 239)) 0 128 191) else (utf_behind.j1 kj6 a0 false 0 128 191)) = some (r1, r2, r3) := by rw [if_neg (show ¬ (false = true) by decide)] at H; exact H
          clear H
          have H := H1
          clear H1
          have HC12 := Aside0.mk H
          clear H
          go_upto_region 4 with (fail)
          go_cut [13] (fun v13 wc => ∃ (kq : Nat) (x13_11 : Bool), v13 = .bool x13_11 ∧ Aside0 (utf_behind.j1 kq a0 x13_11 0 128 191 = some (r1, r2, r3)) ∧ Aside0 (kq ≤ kj6) ∧ Aside0 (wc.heap[gb102]? = some (.cells #[.int .i64 0, .int .u8 0, .int .u8 0] 45 (0, 0))) ∧ Aside0 (wc.heap[gb103]? = some (.cells #[.int .i64 0, .int .u8 128, .int .u8 191] 45 (0, 0))) ∧ Aside0 (Below w.heap.size w wc))
          case first =>
            have H := HC12.out
            clear HC12
            by_cases c13 : a0 ≥ 224
            · rw [if_pos c13] at H
              have c13b0 : decide (224 ≤ a0) = true := decide_eq_true c13
              clear c13
              (first | rw [c13b0] | (simp only [i64_w, i32_w]; rw [c13b0]) | skip)
              have H' := Aside0.mk H
              clear H
              go_wp2
              go_meet
              case rel => exact ⟨_, (decide (a0 ≤ 239)), (by first | rfl | (simp; done) | (simp [*]; done)), H', ⟨by have := HJ6.out; first | omega | exact Nat.le_refl _⟩, ⟨by (with_reducible repeat (first | refine blk_drewN ?_ _ | refine blk_drew ?_ | refine blk_alloc ?_ _)); exact BK102.out⟩, ⟨by (with_reducible repeat (first | refine blk_drewN ?_ _ | refine blk_drew ?_ | refine blk_alloc ?_ _)); exact BK103.out⟩, ⟨by repeat (first | (with_reducible first | exact HB.out | apply below_alloc | apply pw_below_drewN | apply below_drew1 | refine below_set ?_ GE102.out | refine below_set ?_ GE103.out) | exact HB.out)⟩⟩
            · rw [if_neg c13] at H
              have c13b0 : decide (224 ≤ a0) = false := decide_eq_false c13
              clear c13
              (first | rw [c13b0] | (simp only [i64_w, i32_w]; rw [c13b0]) | skip)
              have H' := Aside0.mk H
              clear H
              go_wp2
              go_meet
              case rel => exact ⟨_, (false), (by first | rfl | (simp; done) | (simp [*]; done)), H', ⟨by have := HJ6.out; first | omega | exact Nat.le_refl _⟩, ⟨by (with_reducible repeat (first | refine blk_drewN ?_ _ | refine blk_drew ?_ | refine blk_alloc ?_ _)); exact BK102.out⟩, ⟨by (with_reducible repeat (first | refine blk_drewN ?_ _ | refine blk_drew ?_ | refine blk_alloc ?_ _)); exact BK103.out⟩, ⟨by repeat (first | (with_reducible first | exact HB.out | apply below_alloc | apply pw_below_drewN | apply below_drew1 | refine below_set ?_ GE102.out | refine below_set ?_ GE103.out) | exact HB.out)⟩⟩
          case rest =>
            clear HC12
            try clear c1
            try clear c2
            try clear p2
            try clear c5
            try clear c8
            try clear c8b0
            try clear c9
            try clear c10
            try clear c13
            try clear c13b0
            try clear hcz11_0
            try clear hcz11_1
            try clear hcz11_2
            try clear hcz6_0
            try clear hcz6_1
            try clear hcz6_2
            try clear hfz11_0
            try clear hfz11_1
            try clear hfz11_2
            try clear hfz6_0
            try clear hfz6_1
            try clear hfz6_2
            try clear p2
            obtain ⟨kq, x13_11, rfl, HA, HJ11, BK102, BK103, HB⟩ := hcut
            cases kq with
            | zero => exact absurd HA.out (by simp [utf_behind.j1])
            | succ kj11 =>
              have H := HA.out
              clear HA
              simp only [utf_behind.j1] at H
              by_cases c14 : x13_11 = true
              · subst c14
                have H1 : (utf_behind.j2 kj11 a0 2 128 191) = some (r1, r2, r3) := by rw [if_pos rfl] at H; exact H
                clear H
                have H := H1
                clear H1
                have H' := Aside0.mk H
                clear H
                have hnb15 := NB103_102.out
                have hnc15 := NB102_103.out
                have hcz16_0 : wc.cell? ⟨gb103, 0, none⟩ = some (.int .i64 0) := (blk_cell BK103.out 0).trans rfl
                have hcz16_1 : wc.cell? ⟨gb103, 1, none⟩ = some (.int .u8 128) := (blk_cell BK103.out 1).trans rfl
                have hcz16_2 : wc.cell? ⟨gb103, 2, none⟩ = some (.int .u8 191) := (blk_cell BK103.out 2).trans rfl
                have hfz16_0 := blk_frozen BK103.out 0
                have hfz16_1 := blk_frozen BK103.out 1
                have hfz16_2 := blk_frozen BK103.out 2
                go_wp2
                go_meet
                case rel => exact ⟨_, (2), H', ⟨by have := HJ6.out; have := HJ11.out; first | omega | exact Nat.le_refl _⟩, ⟨by (with_reducible repeat (first | refine blk_drewN ?_ _ | refine blk_drew ?_ | refine blk_alloc ?_ _)); refine blk_far ?_ NB102_103.out _; (with_reducible repeat (first | refine blk_drewN ?_ _ | refine blk_drew ?_ | refine blk_alloc ?_ _)); exact BK102.out⟩, ⟨by (with_reducible repeat (first | refine blk_drewN ?_ _ | refine blk_drew ?_ | refine blk_alloc ?_ _)); refine blk_put (cs := #[.int .i64 0, .int .u8 128, .int .u8 191]) ?_ 0 _ rfl; (with_reducible repeat (first | refine blk_drewN ?_ _ | refine blk_drew ?_ | refine blk_alloc ?_ _)); exact BK103.out⟩, ⟨by repeat (first | (with_reducible first | exact HB.out | apply below_alloc | apply pw_below_drewN | apply below_drew1 | refine below_set ?_ GE102.out | refine below_set ?_ GE103.out) | exact HB.out)⟩⟩
              · replace c14 := Bool.eq_false_iff.mpr c14
                subst c14
                have H1 : (if a0 ≥ 240 then (if a0 ≤ 244 then (utf_behind.j2 kj11 a0 3 128 191) else (utf_behind.j2 kj11 a0 0 128 191)) else (utf_behind.j2 kj11 a0 0 128 191)) = some (r1, r2, r3) := by rw [if_neg (show ¬ (false = true) by decide)] at H; exact H
                clear H
                have H := H1
                clear H1
                by_cases c17 : a0 ≥ 240
                · rw [if_pos c17] at H
                  have c17b0 : decide (240 ≤ a0) = true := decide_eq_true c17
                  clear c17
                  by_cases c18 : a0 ≤ 244
                  · rw [if_pos c18] at H
                    have c18b0 : decide (a0 ≤ 244) = true := decide_eq_true c18
                    clear c18
                    have H' := Aside0.mk H
                    clear H
                    have hnb19 := NB103_102.out
                    have hnc19 := NB102_103.out
                    have hcz20_0 : wc.cell? ⟨gb103, 0, none⟩ = some (.int .i64 0) := (blk_cell BK103.out 0).trans rfl
                    have hcz20_1 : wc.cell? ⟨gb103, 1, none⟩ = some (.int .u8 128) := (blk_cell BK103.out 1).trans rfl
                    have hcz20_2 : wc.cell? ⟨gb103, 2, none⟩ = some (.int .u8 191) := (blk_cell BK103.out 2).trans rfl
                    have hfz20_0 := blk_frozen BK103.out 0
                    have hfz20_1 := blk_frozen BK103.out 1
                    have hfz20_2 := blk_frozen BK103.out 2
                    go_wp2
                    go_meet
                    case rel => exact ⟨_, (3), H', ⟨by have := HJ6.out; have := HJ11.out; first | omega | exact Nat.le_refl _⟩, ⟨by (with_reducible repeat (first | refine blk_drewN ?_ _ | refine blk_drew ?_ | refine blk_alloc ?_ _)); refine blk_far ?_ NB102_103.out _; (with_reducible repeat (first | refine blk_drewN ?_ _ | refine blk_drew ?_ | refine blk_alloc ?_ _)); exact BK102.out⟩, ⟨by (with_reducible repeat (first | refine blk_drewN ?_ _ | refine blk_drew ?_ | refine blk_alloc ?_ _)); refine blk_put (cs := #[.int .i64 0, .int .u8 128, .int .u8 191]) ?_ 0 _ rfl; (with_reducible repeat (first | refine blk_drewN ?_ _ | refine blk_drew ?_ | refine blk_alloc ?_ _)); exact BK103.out⟩, ⟨by repeat (first | (with_reducible first | exact HB.out | apply below_alloc | apply pw_below_drewN | apply below_drew1 | refine below_set ?_ GE102.out | refine below_set ?_ GE103.out) | exact HB.out)⟩⟩
                  · rw [if_neg c18] at H
                    have c18b0 : decide (a0 ≤ 244) = false := decide_eq_false c18
                    clear c18
                    have H' := Aside0.mk H
                    clear H
                    go_wp2
                    go_meet
                    case rel => exact ⟨_, (0), H', ⟨by have := HJ6.out; have := HJ11.out; first | omega | exact Nat.le_refl _⟩, ⟨by (with_reducible repeat (first | refine blk_drewN ?_ _ | refine blk_drew ?_ | refine blk_alloc ?_ _)); exact BK102.out⟩, ⟨by (with_reducible repeat (first | refine blk_drewN ?_ _ | refine blk_drew ?_ | refine blk_alloc ?_ _)); exact BK103.out⟩, ⟨by repeat (first | (with_reducible first | exact HB.out | apply below_alloc | apply pw_below_drewN | apply below_drew1 | refine below_set ?_ GE102.out | refine below_set ?_ GE103.out) | exact HB.out)⟩⟩
                · rw [if_neg c17] at H
                  have c17b0 : decide (240 ≤ a0) = false := decide_eq_false c17
                  clear c17
                  have H' := Aside0.mk H
                  clear H
                  go_wp2
                  go_meet
                  case rel => exact ⟨_, (0), H', ⟨by have := HJ6.out; have := HJ11.out; first | omega | exact Nat.le_refl _⟩, ⟨by (with_reducible repeat (first | refine blk_drewN ?_ _ | refine blk_drew ?_ | refine blk_alloc ?_ _)); exact BK102.out⟩, ⟨by (with_reducible repeat (first | refine blk_drewN ?_ _ | refine blk_drew ?_ | refine blk_alloc ?_ _)); exact BK103.out⟩, ⟨by repeat (first | (with_reducible first | exact HB.out | apply below_alloc | apply pw_below_drewN | apply below_drew1 | refine below_set ?_ GE102.out | refine below_set ?_ GE103.out) | exact HB.out)⟩⟩
  case rest =>
    clear HC2
    try clear c1
    try clear c2
    try clear p2
    try clear c5
    try clear c8
    try clear c8b0
    try clear c9
    try clear c10
    try clear c13
    try clear c13b0
    try clear c14
    try clear c15
    try clear c17
    try clear c17b0
    try clear c18
    try clear c18b0
    try clear c19
    try clear hcz11_0
    try clear hcz11_1
    try clear hcz11_2
    try clear hcz16_0
    try clear hcz16_1
    try clear hcz16_2
    try clear hcz20_0
    try clear hcz20_1
    try clear hcz20_2
    try clear hcz6_0
    try clear hcz6_1
    try clear hcz6_2
    try clear hfz11_0
    try clear hfz11_1
    try clear hfz11_2
    try clear hfz16_0
    try clear hfz16_1
    try clear hfz16_2
    try clear hfz20_0
    try clear hfz20_1
    try clear hfz20_2
    try clear hfz6_0
    try clear hfz6_1
    try clear hfz6_2
    try clear p2
    obtain ⟨kq, x104000_1, HA, HJ1, BK102, BK103, HB⟩ := hcut
    cases kq with
    | zero => exact absurd HA.out (by simp [utf_behind.j2])
    | succ kj1 =>
      have H := HA.out
      clear HA
      simp only [utf_behind.j2] at H
      by_cases c21 : a0 = 224
      · rw [if_pos c21] at H
        have c21b0 : (a0 == 224) = true := beq_iff_eq.mpr c21
        have c21b1 : (a0 != 224) = false := bne_eq_false_iff_eq.mpr c21
        clear c21
        simp only [Option.some.injEq, Prod.mk.injEq] at H
        obtain ⟨rfl, rfl, rfl⟩ := H
        have hnb22 := NB103_102.out
        have hnc22 := NB102_103.out
        have hcz23_0 : wc.cell? ⟨gb103, 0, none⟩ = some (.int .i64 x104000_1) := (blk_cell BK103.out 0).trans rfl
        have hcz23_1 : wc.cell? ⟨gb103, 1, none⟩ = some (.int .u8 128) := (blk_cell BK103.out 1).trans rfl
        have hcz23_2 : wc.cell? ⟨gb103, 2, none⟩ = some (.int .u8 191) := (blk_cell BK103.out 2).trans rfl
        have hfz23_0 := blk_frozen BK103.out 0
        have hfz23_1 := blk_frozen BK103.out 1
        have hfz23_2 := blk_frozen BK103.out 2
        have hcz24_0 : wc.cell? ⟨gb102, 0, none⟩ = some (.int .i64 0) := (blk_cell BK102.out 0).trans rfl
        have hcz24_1 : wc.cell? ⟨gb102, 1, none⟩ = some (.int .u8 0) := (blk_cell BK102.out 1).trans rfl
        have hcz24_2 : wc.cell? ⟨gb102, 2, none⟩ = some (.int .u8 0) := (blk_cell BK102.out 2).trans rfl
        have hfz24_0 := blk_frozen BK102.out 0
        have hfz24_1 := blk_frozen BK102.out 1
        have hfz24_2 := blk_frozen BK102.out 2
        go_wp2
        refine bodyPost_ret (results_cell_row rfl _ _ gb102 45 #[.int .i64 x104000_1, .int .u8 160, .int .u8 191] (0, 0) _ rfl (by (with_reducible repeat (first | refine blk_drewN ?_ _ | refine blk_drew ?_ | refine blk_alloc ?_ _)); refine blk_put (cs := #[.int .i64 x104000_1, .int .u8 160, .int .u8 0]) ?_ 2 _ rfl; (with_reducible repeat (first | refine blk_drewN ?_ _ | refine blk_drew ?_ | refine blk_alloc ?_ _)); refine blk_put (cs := #[.int .i64 x104000_1, .int .u8 0, .int .u8 0]) ?_ 1 _ rfl; (with_reducible repeat (first | refine blk_drewN ?_ _ | refine blk_drew ?_ | refine blk_alloc ?_ _)); refine blk_put (cs := #[.int .i64 0, .int .u8 0, .int .u8 0]) ?_ 0 _ rfl; (with_reducible repeat (first | refine blk_drewN ?_ _ | refine blk_drew ?_ | refine blk_alloc ?_ _)); refine blk_far ?_ NB102_103.out _; (with_reducible repeat (first | refine blk_drewN ?_ _ | refine blk_drew ?_ | refine blk_alloc ?_ _)); exact BK102.out) Try.underlying45 rfl (by kernel_rfl)) rfl ?_
        exact ⟨by first | rfl | (simp [errW_none, errW_some] <;> rfl) | (simp [*, errW_none, errW_some] <;> rfl), by repeat (first | (with_reducible first | exact HB.out | apply below_alloc | apply pw_below_drewN | apply below_drew1 | refine below_set ?_ GE102.out | refine below_set ?_ GE103.out) | exact HB.out)⟩
      · rw [if_neg c21] at H
        have c21b0 : (a0 == 224) = false := beq_eq_false_iff_ne.mpr c21
        have c21b1 : (a0 != 224) = true := bne_iff_ne.mpr c21
        by_cases c25 : a0 = 237
        · rw [if_pos c25] at H
          have c25b0 : (a0 == 237) = true := beq_iff_eq.mpr c25
          have c25b1 : (a0 != 237) = false := bne_eq_false_iff_eq.mpr c25
          clear c25
          simp only [Option.some.injEq, Prod.mk.injEq] at H
          obtain ⟨rfl, rfl, rfl⟩ := H
          have hnb26 := NB103_102.out
          have hnc26 := NB102_103.out
          have hcz27_0 : wc.cell? ⟨gb103, 0, none⟩ = some (.int .i64 x104000_1) := (blk_cell BK103.out 0).trans rfl
          have hcz27_1 : wc.cell? ⟨gb103, 1, none⟩ = some (.int .u8 128) := (blk_cell BK103.out 1).trans rfl
          have hcz27_2 : wc.cell? ⟨gb103, 2, none⟩ = some (.int .u8 191) := (blk_cell BK103.out 2).trans rfl
          have hfz27_0 := blk_frozen BK103.out 0
          have hfz27_1 := blk_frozen BK103.out 1
          have hfz27_2 := blk_frozen BK103.out 2
          have hcz28_0 : wc.cell? ⟨gb102, 0, none⟩ = some (.int .i64 0) := (blk_cell BK102.out 0).trans rfl
          have hcz28_1 : wc.cell? ⟨gb102, 1, none⟩ = some (.int .u8 0) := (blk_cell BK102.out 1).trans rfl
          have hcz28_2 : wc.cell? ⟨gb102, 2, none⟩ = some (.int .u8 0) := (blk_cell BK102.out 2).trans rfl
          have hfz28_0 := blk_frozen BK102.out 0
          have hfz28_1 := blk_frozen BK102.out 1
          have hfz28_2 := blk_frozen BK102.out 2
          go_wp2
          refine bodyPost_ret (results_cell_row rfl _ _ gb102 45 #[.int .i64 x104000_1, .int .u8 128, .int .u8 159] (0, 0) _ rfl (by (with_reducible repeat (first | refine blk_drewN ?_ _ | refine blk_drew ?_ | refine blk_alloc ?_ _)); refine blk_put (cs := #[.int .i64 x104000_1, .int .u8 128, .int .u8 0]) ?_ 2 _ rfl; (with_reducible repeat (first | refine blk_drewN ?_ _ | refine blk_drew ?_ | refine blk_alloc ?_ _)); refine blk_put (cs := #[.int .i64 x104000_1, .int .u8 0, .int .u8 0]) ?_ 1 _ rfl; (with_reducible repeat (first | refine blk_drewN ?_ _ | refine blk_drew ?_ | refine blk_alloc ?_ _)); refine blk_put (cs := #[.int .i64 0, .int .u8 0, .int .u8 0]) ?_ 0 _ rfl; (with_reducible repeat (first | refine blk_drewN ?_ _ | refine blk_drew ?_ | refine blk_alloc ?_ _)); refine blk_far ?_ NB102_103.out _; (with_reducible repeat (first | refine blk_drewN ?_ _ | refine blk_drew ?_ | refine blk_alloc ?_ _)); exact BK102.out) Try.underlying45 rfl (by kernel_rfl)) rfl ?_
          exact ⟨by first | rfl | (simp [errW_none, errW_some] <;> rfl) | (simp [*, errW_none, errW_some] <;> rfl), by repeat (first | (with_reducible first | exact HB.out | apply below_alloc | apply pw_below_drewN | apply below_drew1 | refine below_set ?_ GE102.out | refine below_set ?_ GE103.out) | exact HB.out)⟩
        · rw [if_neg c25] at H
          have c25b0 : (a0 == 237) = false := beq_eq_false_iff_ne.mpr c25
          have c25b1 : (a0 != 237) = true := bne_iff_ne.mpr c25
          by_cases c29 : a0 = 240
          · rw [if_pos c29] at H
            have c29b0 : (a0 == 240) = true := beq_iff_eq.mpr c29
            have c29b1 : (a0 != 240) = false := bne_eq_false_iff_eq.mpr c29
            clear c29
            simp only [Option.some.injEq, Prod.mk.injEq] at H
            obtain ⟨rfl, rfl, rfl⟩ := H
            have hnb30 := NB103_102.out
            have hnc30 := NB102_103.out
            have hcz31_0 : wc.cell? ⟨gb103, 0, none⟩ = some (.int .i64 x104000_1) := (blk_cell BK103.out 0).trans rfl
            have hcz31_1 : wc.cell? ⟨gb103, 1, none⟩ = some (.int .u8 128) := (blk_cell BK103.out 1).trans rfl
            have hcz31_2 : wc.cell? ⟨gb103, 2, none⟩ = some (.int .u8 191) := (blk_cell BK103.out 2).trans rfl
            have hfz31_0 := blk_frozen BK103.out 0
            have hfz31_1 := blk_frozen BK103.out 1
            have hfz31_2 := blk_frozen BK103.out 2
            have hcz32_0 : wc.cell? ⟨gb102, 0, none⟩ = some (.int .i64 0) := (blk_cell BK102.out 0).trans rfl
            have hcz32_1 : wc.cell? ⟨gb102, 1, none⟩ = some (.int .u8 0) := (blk_cell BK102.out 1).trans rfl
            have hcz32_2 : wc.cell? ⟨gb102, 2, none⟩ = some (.int .u8 0) := (blk_cell BK102.out 2).trans rfl
            have hfz32_0 := blk_frozen BK102.out 0
            have hfz32_1 := blk_frozen BK102.out 1
            have hfz32_2 := blk_frozen BK102.out 2
            go_wp2
            refine bodyPost_ret (results_cell_row rfl _ _ gb102 45 #[.int .i64 x104000_1, .int .u8 144, .int .u8 191] (0, 0) _ rfl (by (with_reducible repeat (first | refine blk_drewN ?_ _ | refine blk_drew ?_ | refine blk_alloc ?_ _)); refine blk_put (cs := #[.int .i64 x104000_1, .int .u8 144, .int .u8 0]) ?_ 2 _ rfl; (with_reducible repeat (first | refine blk_drewN ?_ _ | refine blk_drew ?_ | refine blk_alloc ?_ _)); refine blk_put (cs := #[.int .i64 x104000_1, .int .u8 0, .int .u8 0]) ?_ 1 _ rfl; (with_reducible repeat (first | refine blk_drewN ?_ _ | refine blk_drew ?_ | refine blk_alloc ?_ _)); refine blk_put (cs := #[.int .i64 0, .int .u8 0, .int .u8 0]) ?_ 0 _ rfl; (with_reducible repeat (first | refine blk_drewN ?_ _ | refine blk_drew ?_ | refine blk_alloc ?_ _)); refine blk_far ?_ NB102_103.out _; (with_reducible repeat (first | refine blk_drewN ?_ _ | refine blk_drew ?_ | refine blk_alloc ?_ _)); exact BK102.out) Try.underlying45 rfl (by kernel_rfl)) rfl ?_
            exact ⟨by first | rfl | (simp [errW_none, errW_some] <;> rfl) | (simp [*, errW_none, errW_some] <;> rfl), by repeat (first | (with_reducible first | exact HB.out | apply below_alloc | apply pw_below_drewN | apply below_drew1 | refine below_set ?_ GE102.out | refine below_set ?_ GE103.out) | exact HB.out)⟩
          · rw [if_neg c29] at H
            have c29b0 : (a0 == 240) = false := beq_eq_false_iff_ne.mpr c29
            have c29b1 : (a0 != 240) = true := bne_iff_ne.mpr c29
            by_cases c33 : a0 = 244
            · rw [if_pos c33] at H
              have c33b0 : (a0 == 244) = true := beq_iff_eq.mpr c33
              have c33b1 : (a0 != 244) = false := bne_eq_false_iff_eq.mpr c33
              clear c33
              simp only [Option.some.injEq, Prod.mk.injEq] at H
              obtain ⟨rfl, rfl, rfl⟩ := H
              have hnb34 := NB103_102.out
              have hnc34 := NB102_103.out
              have hcz35_0 : wc.cell? ⟨gb103, 0, none⟩ = some (.int .i64 x104000_1) := (blk_cell BK103.out 0).trans rfl
              have hcz35_1 : wc.cell? ⟨gb103, 1, none⟩ = some (.int .u8 128) := (blk_cell BK103.out 1).trans rfl
              have hcz35_2 : wc.cell? ⟨gb103, 2, none⟩ = some (.int .u8 191) := (blk_cell BK103.out 2).trans rfl
              have hfz35_0 := blk_frozen BK103.out 0
              have hfz35_1 := blk_frozen BK103.out 1
              have hfz35_2 := blk_frozen BK103.out 2
              have hcz36_0 : wc.cell? ⟨gb102, 0, none⟩ = some (.int .i64 0) := (blk_cell BK102.out 0).trans rfl
              have hcz36_1 : wc.cell? ⟨gb102, 1, none⟩ = some (.int .u8 0) := (blk_cell BK102.out 1).trans rfl
              have hcz36_2 : wc.cell? ⟨gb102, 2, none⟩ = some (.int .u8 0) := (blk_cell BK102.out 2).trans rfl
              have hfz36_0 := blk_frozen BK102.out 0
              have hfz36_1 := blk_frozen BK102.out 1
              have hfz36_2 := blk_frozen BK102.out 2
              go_wp2
              refine bodyPost_ret (results_cell_row rfl _ _ gb102 45 #[.int .i64 x104000_1, .int .u8 128, .int .u8 143] (0, 0) _ rfl (by (with_reducible repeat (first | refine blk_drewN ?_ _ | refine blk_drew ?_ | refine blk_alloc ?_ _)); refine blk_put (cs := #[.int .i64 x104000_1, .int .u8 128, .int .u8 0]) ?_ 2 _ rfl; (with_reducible repeat (first | refine blk_drewN ?_ _ | refine blk_drew ?_ | refine blk_alloc ?_ _)); refine blk_put (cs := #[.int .i64 x104000_1, .int .u8 0, .int .u8 0]) ?_ 1 _ rfl; (with_reducible repeat (first | refine blk_drewN ?_ _ | refine blk_drew ?_ | refine blk_alloc ?_ _)); refine blk_put (cs := #[.int .i64 0, .int .u8 0, .int .u8 0]) ?_ 0 _ rfl; (with_reducible repeat (first | refine blk_drewN ?_ _ | refine blk_drew ?_ | refine blk_alloc ?_ _)); refine blk_far ?_ NB102_103.out _; (with_reducible repeat (first | refine blk_drewN ?_ _ | refine blk_drew ?_ | refine blk_alloc ?_ _)); exact BK102.out) Try.underlying45 rfl (by kernel_rfl)) rfl ?_
              exact ⟨by first | rfl | (simp [errW_none, errW_some] <;> rfl) | (simp [*, errW_none, errW_some] <;> rfl), by repeat (first | (with_reducible first | exact HB.out | apply below_alloc | apply pw_below_drewN | apply below_drew1 | refine below_set ?_ GE102.out | refine below_set ?_ GE103.out) | exact HB.out)⟩
            · rw [if_neg c33] at H
              have c33b0 : (a0 == 244) = false := beq_eq_false_iff_ne.mpr c33
              have c33b1 : (a0 != 244) = true := bne_iff_ne.mpr c33
              simp only [Option.some.injEq, Prod.mk.injEq] at H
              obtain ⟨rfl, rfl, rfl⟩ := H
              have hnb37 := NB103_102.out
              have hnc37 := NB102_103.out
              have hcz38_0 : wc.cell? ⟨gb103, 0, none⟩ = some (.int .i64 x104000_1) := (blk_cell BK103.out 0).trans rfl
              have hcz38_1 : wc.cell? ⟨gb103, 1, none⟩ = some (.int .u8 128) := (blk_cell BK103.out 1).trans rfl
              have hcz38_2 : wc.cell? ⟨gb103, 2, none⟩ = some (.int .u8 191) := (blk_cell BK103.out 2).trans rfl
              have hfz38_0 := blk_frozen BK103.out 0
              have hfz38_1 := blk_frozen BK103.out 1
              have hfz38_2 := blk_frozen BK103.out 2
              have hcz39_0 : wc.cell? ⟨gb102, 0, none⟩ = some (.int .i64 0) := (blk_cell BK102.out 0).trans rfl
              have hcz39_1 : wc.cell? ⟨gb102, 1, none⟩ = some (.int .u8 0) := (blk_cell BK102.out 1).trans rfl
              have hcz39_2 : wc.cell? ⟨gb102, 2, none⟩ = some (.int .u8 0) := (blk_cell BK102.out 2).trans rfl
              have hfz39_0 := blk_frozen BK102.out 0
              have hfz39_1 := blk_frozen BK102.out 1
              have hfz39_2 := blk_frozen BK102.out 2
              go_wp2
              refine bodyPost_ret (results_cell_row rfl _ _ gb102 45 #[.int .i64 x104000_1, .int .u8 128, .int .u8 191] (0, 0) _ rfl (by (with_reducible repeat (first | refine blk_drewN ?_ _ | refine blk_drew ?_ | refine blk_alloc ?_ _)); refine blk_put (cs := #[.int .i64 x104000_1, .int .u8 128, .int .u8 0]) ?_ 2 _ rfl; (with_reducible repeat (first | refine blk_drewN ?_ _ | refine blk_drew ?_ | refine blk_alloc ?_ _)); refine blk_put (cs := #[.int .i64 x104000_1, .int .u8 0, .int .u8 0]) ?_ 1 _ rfl; (with_reducible repeat (first | refine blk_drewN ?_ _ | refine blk_drew ?_ | refine blk_alloc ?_ _)); refine blk_put (cs := #[.int .i64 0, .int .u8 0, .int .u8 0]) ?_ 0 _ rfl; (with_reducible repeat (first | refine blk_drewN ?_ _ | refine blk_drew ?_ | refine blk_alloc ?_ _)); exact BK102.out) Try.underlying45 rfl (by kernel_rfl)) rfl ?_
              exact ⟨by first | rfl | (simp [errW_none, errW_some] <;> rfl) | (simp [*, errW_none, errW_some] <;> rfl), by repeat (first | (with_reducible first | exact HB.out | apply below_alloc | apply pw_below_drewN | apply below_drew1 | refine below_set ?_ GE102.out | refine below_set ?_ GE103.out) | exact HB.out)⟩

/-! ### utf_long: function 22 -/
def manyB (c : Int) : Int := if 194 ≤ c ∧ c ≤ 223 then 1 else if 224 ≤ c ∧ c ≤ 239 then 2 else if 240 ≤ c ∧ c ≤ 244 then 3 else 0
def loB (c : Int) : Int := if c = 224 then 160 else if c = 240 then 144 else 128
def hiB (c : Int) : Int := if c = 237 then 159 else if c = 244 then 143 else 191
def mayB (c : Int) (n : Int) (d : Int) : Bool := if n = 0 then decide (loB c ≤ d) && decide (d ≤ hiB c) else decide (128 ≤ d) && decide (d ≤ 191)
/-- From so many on: how many follow. -/
def longFrom (s : ByteArray) : Nat → Int → Int
  | 0, n => n
  | k + 1, n => if n < manyB (bt s 0) ∧ n + 1 < (s.size : Int) ∧ mayB (bt s 0) n (bt s (n + 1)) = true then longFrom s k (n + 1) else n
def longN (s : ByteArray) : Int := longFrom s 3 0 + 1
def utf_long.f (a0 : ByteArray) : Option Int := if 0 < a0.size ∧ a0.size ≤ 9223372036854775807 then some (longN a0) else none

theorem behind_all : ∀ c : Fin 256, utf_behind.f 4 (c.val : Int) = some (manyB (c.val : Int), loB (c.val : Int), hiB (c.val : Int)) := by decide +kernel
theorem behind_at (c : Int) (h0 : 0 ≤ c) (h1 : c ≤ 255) : utf_behind.f 4 c = some (manyB c, loB c, hiB c) := by
  have h := behind_all ⟨c.toNat, by omega⟩
  simpa [Int.toNat_of_nonneg h0] using h
theorem many_bound (c : Int) : 0 ≤ manyB c ∧ manyB c ≤ 3 := by
  unfold manyB
  repeat' split
  all_goals omega
theorem may_at (c : Int) (n : Int) (d : Int) : utf_front_may.f (manyB c) (loB c) (hiB c) n d = some (mayB c n d) := by
  unfold utf_front_may.f mayB
  by_cases h : n = 0
  · subst h
    by_cases h2 : d ≥ loB c
    · have h3 : loB c ≤ d := h2
      simp [h3]
    · have h3 : ¬ loB c ≤ d := h2
      simp [h3]
  · by_cases h2 : d ≥ 128
    · have h3 : 128 ≤ d := h2
      simp [h, h3]
    · have h3 : ¬ 128 ≤ d := h2
      simp [h, h3]
set_option maxHeartbeats 1000000 in
theorem utf_long.calls (a0 : ByteArray) (r : Int) (w : World) (h : utf_long.f a0 = some r) :
    Calls Try.prog 22 #[.string a0] w fun e w' => e = .returned (.int .i64 r) ∧ Below w.heap.size w w' := by
  unfold utf_long.f at h
  split at h
  case isFalse => cases h
  case isTrue hs =>
  obtain ⟨hs0, hs1⟩ := hs
  have hr : r = longN a0 := by injection h with h; exact h.symm
  subst hr
  clear h
  have hb := bt_range a0 0
  have q0 : (0 : Nat) < a0.size := hs0
  have hx0 : ∀ h : 0 < a0.size, ((a0[0]'h).toNat : Int) = bt a0 0 := bt_at a0 0
  have hbe := Aside0.mk (behind_at (bt a0 0) hb.1 hb.2)
  have hu45 := Try.underlying45
  go_enter Try.func22, Try.ntmps22
  go_wp2_with ((with_reducible refine gate_callee (f := 26) rfl ?_); refine goesL_ (some 8) rfl rfl Try.func26 (by kernel_rfl) rfl #[.int .u8 (bt a0 0)] rfl (by (try simp only [List.map_toArray, List.map_cons, List.map_nil]); first | done | rfl) ?_; (with_reducible refine (utf_behind.calls 4 (bt a0 0) _ _ _ _ hbe.out).mono ?_); rintro e w1 ⟨rfl, hb1⟩; refine ⟨_, rfl, ?_⟩)
  have hmb := many_bound (bt a0 0)
  have hbox : (w1.alloc (.cells #[.int .i64 (manyB (bt a0 0)), .int .u8 (loB (bt a0 0)), .int .u8 (hiB (bt a0 0))] 45)).heap[w1.heap.size]? = some (.cells #[.int .i64 (manyB (bt a0 0)), .int .u8 (loB (bt a0 0)), .int .u8 (hiB (bt a0 0))] 45 (0, 0)) := by simpa using heap_alloc_new w1 _
  have HBOX := Aside0.mk hbox
  have HB1 := Aside0.mk hb1
  clear hbox hb1
  obtain ⟨L, hL⟩ : ∃ L, longFrom a0 3 0 = L := ⟨_, rfl⟩
  have HL := Aside0.mk hL
  have HN := Aside0.mk (show longN a0 = L + 1 by unfold longN; rw [hL])
  clear hL
  go_loopg [5] 3 (fun kq v5 w' => ∃ x : Int, v5 = .int .i64 x ∧ 0 ≤ x ∧ x + kq = 3 ∧ Aside0 (longFrom a0 kq x = L) ∧ Aside0 (w'.heap[w1.heap.size]? = some (.cells #[.int .i64 (manyB (bt a0 0)), .int .u8 (loB (bt a0 0)), .int .u8 (hiB (bt a0 0))] 45 (0, 0))) ∧ Aside0 (Below w.heap.size w w'))
  case atStart => exact ⟨0, rfl, by omega, by omega, HL, ⟨HBOX.out⟩, ⟨below_alloc HB1.out _⟩⟩
  case round =>
    obtain ⟨x, rfl, hx1, hk, HA, HBX, HBL⟩ := hrel
    have hcz0 : wr.cell? ⟨w1.heap.size, 0, none⟩ = some (.int .i64 (manyB (bt a0 0))) := (blk_cell HBX.out 0).trans rfl
    clear hx0 q0 HL
    have hxb : x ≤ 3 := by omega
    by_cases c1 : x < manyB (bt a0 0)
    · have c1b : decide (x < manyB (bt a0 0)) = true := decide_eq_true c1
      cases gk with
      | zero => exfalso; omega
      | succ gk =>
      have HA2 := HA.out
      rw [longFrom] at HA2
      clear HA
      by_cases c2 : x + 1 < (a0.size : Int)
      · have c2b : decide (x + 1 < (a0.size : Int)) = true := decide_eq_true c2
        have p1 : 0 ≤ x + 1 := by omega
        have hx2 := bt_at a0 (x + 1)
        have p1b := eq_true p1
        have c2c := eq_true c2
        have hma := Aside0.mk (may_at (bt a0 0) x (bt a0 (x + 1)))
        by_cases c3 : mayB (bt a0 0) x (bt a0 (x + 1)) = true
        · rw [if_pos ⟨c1, c2, c3⟩] at HA2
          have HA3 := Aside0.mk HA2
          clear HA2
          rw [c3] at hma
          clear c3
          go_wp2_with (go_at_call 27; refine (utf_front_may.calls _ _ _ _ _ _ _ hma.out).mono ?_; rintro e w2 ⟨rfl, hb2⟩; have HX2 := Aside0.mk (blk_below HBX.out hb2); have HB2 := Aside0.mk (below_step HBL.out hb2); clear hb2)
          go_roundg gk
          case measure => omega
          case rel => exact ⟨x + 1, rfl, by omega, by omega, HA3, HX2, HB2⟩
        · rw [if_neg (fun h => c3 h.2.2)] at HA2
          have HA3 := Aside0.mk HA2
          clear HA2
          rw [Bool.not_eq_true] at c3
          rw [c3] at hma
          clear c3
          go_wp2_with (go_at_call 27; refine (utf_front_may.calls _ _ _ _ _ _ _ hma.out).mono ?_; rintro e w2 ⟨rfl, hb2⟩; have HX2 := Aside0.mk (blk_below HBX.out hb2); have HB2 := Aside0.mk (below_step HBL.out hb2); clear hb2)
          go_ret
          exact ⟨by rw [HN.out, ← HA3.out]; rfl, HB2.out⟩
      · rw [if_neg (fun h => c2 h.2.1)] at HA2
        have HA3 := Aside0.mk HA2
        clear HA2
        have c2b : decide (x + 1 < (a0.size : Int)) = false := decide_eq_false c2
        go_wp2_with fail
        go_ret
        exact ⟨by rw [HN.out, ← HA3.out]; first | done | rfl, HBL.out⟩
    · have HA3 : Aside0 (x = L) := by
        have HA2 := HA.out
        cases gk with
        | zero => exact ⟨HA2⟩
        | succ gk =>
          rw [longFrom, if_neg (fun h => c1 h.1)] at HA2
          exact ⟨HA2⟩
      have c1b : decide (x < manyB (bt a0 0)) = false := decide_eq_false c1
      go_wp2_with fail
      go_ret
      exact ⟨by rw [HN.out, ← HA3.out]; first | done | rfl, HBL.out⟩

/-! ### slices_Clone_int_int: function 23 -/
def slices_Clone_int_int.f (l0 : List Int) : Option (List Int) := (some (([] : List Int) : List Int)).bind fun y107 => (if y107.length + l0.length < 17592186044416 then (some (y107 ++ l0)) else (none))
set_option maxHeartbeats 8000000 in
set_option maxRecDepth 100000 in
theorem slices_Clone_int_int.calls_some (ad0 : Addr) (c0 : Nat) (l0 : List Int) (r : List Int) (w : World) (hr0 : Kd.C (Kd.int .i64) w (some ad0) l0.length l0) (hc0 : l0.length ≤ c0) (h : slices_Clone_int_int.f l0 = some r) :
    Calls Try.prog 23 #[.slice (some ad0) l0.length c0] w fun e w' => ∃ v0_ : Value, e = .returned (v0_) ∧ Kd.R (Kd.int .i64) 3 w' w.heap.size (fun _ => True) v0_ r ∧ Below w.heap.size w w' := by
  have HR0 := Aside0.mk hr0
  have HC0 := Aside0.mk hc0
  clear hr0 hc0
  have HB := Aside0.mk (Below.refl w.heap.size w)
  have H : ((some (([] : List Int) : List Int)).bind fun y107 => (if y107.length + l0.length < 17592186044416 then (some (y107 ++ l0)) else (none))) = some r := h
  clear h
  have hnil := fun w : World => Lib.run_eql_slice_nil (P := Try.prog) w 22 3 (some ad0) l0.length c0 0 0 Try.underlying22
  simp only [Option.isNone_some] at hnil
  obtain ⟨y107, hy107⟩ : ∃ y_ : List Int, y_ = (([] : List Int)) := ⟨_, rfl⟩
  replace H : (if y107.length + l0.length < 17592186044416 then (some (y107 ++ l0)) else (none)) = some r := by first | (rw [hy107]; with_reducible exact H) | (have H2_ := (Option.bind_some _ _).symm.trans H; rw [hy107]; with_reducible exact H2_) | (have H2_ := (Option.bind_some _ _).symm.trans H; with_reducible exact H2_) | with_reducible exact H | (rw [hy107]; exact H) | exact H
  have Ny107 := Aside0.mk hy107
  clear hy107
  by_cases c2 : y107.length + l0.length < 17592186044416
  · rw [if_pos c2] at H
    have LMc2 := Aside0.mk c2
    clear c2
    obtain ⟨y110, hy110⟩ : ∃ y_ : List Int, y_ = (y107 ++ l0) := ⟨_, rfl⟩
    replace H : (some y110) = some r := by first | (rw [hy110]; with_reducible exact H) | (have H2_ := (Option.bind_some _ _).symm.trans H; rw [hy110]; with_reducible exact H2_) | (have H2_ := (Option.bind_some _ _).symm.trans H; with_reducible exact H2_) | with_reducible exact H | (rw [hy110]; exact H) | exact H
    have Ny110 := Aside0.mk hy110
    clear hy110
    obtain rfl := Option.some.inj H
    go_enter Try.func23, Try.ntmps23
    go_wp2_with (first | ((with_reducible refine gate_dst (N := 5) rfl ?_); refine Kd.R_lit (Kd.int .i64) _ 3 ?hg (N := 5) ?hd (xs := ([] : List Int)) (inner := []) (ok := fun _ => True) (okp := fun _ => True) ?hr ?hp (fun _ hk => hk) trivial (Below.refl _ _) (Nat.le_refl _) (by simp) ?_; (case hd => rfl); (case hg => rfl); (case hr => first | (go_simp; done) | (go_simp; rfl)); (case hp => exact (Reps.none _ _)); intro v108 w3 ho4 hb hg_ hnew_; clear hg_ hnew_; (first | rw [← Ny107.out] at ho4 | (simp only [Int.reduceToNat] at ho4; rw [← Ny107.out] at ho4)); have n0_ := Aside0.mk (Kd.R_lower ho4 (below_size (by repeat (first | (with_reducible first | exact HB.out | apply below_alloc | apply pw_below_drewN | apply below_drew1) | exact HB.out)))); have n1_ := Aside0.mk (below_step (by repeat (first | (with_reducible first | exact HB.out | apply below_alloc | apply pw_below_drewN | apply below_drew1) | exact HB.out)) hb); clear HB; have HO109 := n0_; have HB := n1_; clear n0_ n1_; clear hb ho4) | ((with_reducible refine gate_builtin (b := .append) (xs := #[.tmp 5, .tmp 6]) rfl ?_); at_builtin; refine Kd.R_append_rows (Kd.int .i64) (w0 := w) w.heap.size rfl (.tmp 5) (.tmp 6) 22 3 (.int .i64 0) 8 rfl Try.underlying22 info3 rfl (by decide) (by omega) v108 y107 l0 _ _ _ (fun _ => True) (fun _ => False) rfl rfl ?aO ?aR (fun _ _ h => h) (fun _ h => h.elim) ?aF ?aB ?aS ?aL ?_; (case aR => repeat (first | exact (Kd.C_below HR0.out HB.out) | (with_reducible refine Kd.C_alloc ?_ _) | (with_reducible refine Kd.C_drewN ?_ _) | (with_reducible refine Kd.C_drew ?_))); (case aB => exact (by repeat (first | (with_reducible first | exact HB.out | apply below_alloc | apply pw_below_drewN | apply below_drew1) | exact HB.out))); (case aF => exact (fun _ _ => trivial)); (case aO => exact (by (with_reducible repeat (first | apply Kd.R_alloc | apply Kd.R_drewN | apply Kd.R_drew)); exact HO109.out)); (case aS => exact (below_size (by repeat (first | (with_reducible first | exact HB.out | apply below_alloc | apply pw_below_drewN | apply below_drew1) | exact HB.out)))); (case aL => have := LMc2.out; omega); intro v111 w5 ho hb hg hat; rw [← Ny110.out] at ho; have n0_ := Aside0.mk (hb); have n1_ := Aside0.mk (ho); clear HB; clear HO109; have HB := n0_; have HO112 := n1_; clear n0_ n1_; clear ho hb hg hat))
    go_ret
    exact ⟨_, by first | rfl | (simp [errW_none, errW_some] <;> rfl) | (simp [*, errW_none, errW_some] <;> rfl), by (with_reducible repeat (first | apply Kd.R_alloc | apply Kd.R_drewN | apply Kd.R_drew)); exact HO112.out, by repeat (first | (with_reducible first | exact HB.out | apply below_alloc | apply pw_below_drewN | apply below_drew1) | exact HB.out)⟩
  · rw [if_neg c2] at H
    exact absurd H (by simp)


theorem slices_Clone_int_int.calls (A0 : Option Addr) (c0 : Nat) (l0 : List Int) (r : List Int) (w : World) (hr0 : Kd.C (Kd.int .i64) w A0 l0.length l0) (hc0 : l0.length ≤ c0) (h : slices_Clone_int_int.f l0 = some r) :
    Calls Try.prog 23 #[.slice A0 l0.length c0] w fun e w' => ∃ v0_ : Value, e = .returned (v0_) ∧ Kd.R (Kd.int .i64) 3 w' w.heap.size (fun _ => True) v0_ r ∧ Below w.heap.size w w' := by
  rcases A0 with _ | ad0
  · have hl : l0 = [] := by
      rcases Nat.eq_zero_or_pos l0.length with h0 | h0
      · exact List.eq_nil_of_length_eq_zero h0
      · obtain ⟨ad, e, _⟩ := hr0.2.2 h0
        cases e
    subst hl
    have hr : r = [] := by simpa [slices_Clone_int_int.f, eq_comm] using h
    subst hr
    clear h hr0 hc0
    have hnil := fun w : World => Lib.run_eql_slice_nil (P := Try.prog) w 22 3 none 0 c0 0 0 Try.underlying22
    simp only [Option.isNone_none] at hnil
    go_enter Try.func23, Try.ntmps23
    go_wp2
    go_ret
    exact ⟨_, rfl, Kd.R_nil _ _ _ _ _, Below.refl _ _⟩
  · exact slices_Clone_int_int.calls_some ad0 c0 l0 r w hr0 hc0 h

/-! ### utf_Decode: function 14 -/
theorem run_next_at {P : Program} (W : World) (g : Nat) (s : ByteArray) (pos : Nat) (hb : W.heap[g]? = some (.stringIter s pos)) (h : pos < s.size) :
    ∃ W1 : World, (∀ ty, (Instr.next (.pointer (some ⟨g, 0, none⟩)) true ty).run P W = .ok (.tuple #[.bool true, .int .i64 pos, .int .i32 (Utf8.decode s pos).1]) W1) ∧
      W1.heap[g]? = some (.stringIter s (pos + (Utf8.decode s pos).2)) ∧ W1.heap.size = W.heap.size ∧ (∀ k, k ≠ g → W1.heap[k]? = W.heap[k]?) ∧ W1.os = W.os ∧ W1.tape = W.tape ∧ W1.output = W.output := by
  have hg : g < W.heap.size := blk_lt hb
  refine ⟨{ W with heap := W.heap.setIfInBounds g (.stringIter s (pos + (Utf8.decode s pos).2)) }, fun ty => ?_, by simp [hg], by simp, fun k hk => ?_, rfl, rfl, rfl⟩
  · simp only [Instr.next, getObj, setObj, Sem.run_bind, Sem.run, hb, Result.andThen, h, if_true]
    simp [goInt]
  · simp [Array.getElem?_setIfInBounds, Ne.symm hk]
theorem run_next_over {P : Program} (W : World) (g : Nat) (s : ByteArray) (pos : Nat) (hb : W.heap[g]? = some (.stringIter s pos)) (h : ¬ pos < s.size) (ty : TypeId) :
    (Instr.next (.pointer (some ⟨g, 0, none⟩)) true ty).run P W = .ok (.tuple #[.bool false]) W := by
  simp [Instr.next, getObj, Sem.run, hb, h]
theorem below_iter {w W W1 : World} {g : Nat} (h : Below w.heap.size w W) (hg : w.heap.size ≤ g) (hs : W1.heap.size = W.heap.size) (hk : ∀ k, k ≠ g → W1.heap[k]? = W.heap[k]?) (h1 : W1.os = W.os) (h2 : W1.tape = W.tape) (h3 : W1.output = W.output) : Below w.heap.size w W1 :=
  ⟨h1.trans h.os, h2.trans h.tape, h3.trans h.output, by rw [hs]; exact h.size, fun i hi => (hk i (by omega)).trans (h.block i hi)⟩
theorem row_iter {α : Type} {d : Kd α} {e base : Nat} {ok : Nat → Prop} {W W1 : World} {v : Value} {xs : List α} {g : Nat} {s : ByteArray} {pos : Nat} (h : d.R e W base ok v xs) (hb : W.heap[g]? = some (.stringIter s pos)) (hk : ∀ k, k ≠ g → W1.heap[k]? = W.heap[k]?) : d.R e W1 base ok v xs :=
  Kd.R_mono (Kd.R_move (Kd.R_bound h) (fun k hk2 => hk k (fun e => by
    obtain ⟨_, _, _, _, _, cells, hc⟩ := hk2
    subst e
    rw [hc] at hb
    cases hb))) (fun _ hk => hk.1)
theorem iter_ne {α : Type} {d : Kd α} {e base : Nat} {ok : Nat → Prop} {W : World} {v : Value} {xs : List α} {g : Nat} {s : ByteArray} {pos : Nat} (h : d.R e W base ok v xs) (hb : W.heap[g]? = some (.stringIter s pos)) : some g ≠ v.ownBlock := fun he => by
  obtain ⟨inner, ho⟩ := Kd.R_own h
  obtain ⟨cells, hc⟩ := own_typed ho g he.symm
  rw [hc] at hb
  cases hb
theorem iter_grown {W W1 : World} {g : Nat} {o : Obj} {row : Option Nat} (h : W.heap[g]? = some o) (hg : W.grownBy W1 row) (hne : some g ≠ row) : W1.heap[g]? = some o := (hg.block g (blk_lt h) hne).trans h
theorem width_pos (s : ByteArray) (pos : Nat) (h : pos < s.size) : 1 ≤ (Utf8.decode s pos).2 := by
  by_cases ha : (s[pos]'h).toNat < 128
  · rw [decode_ascii s pos h ha]
    exact Nat.le_refl _
  · exact (decode_high s pos h (by omega)).2
theorem longFrom_bound (s : ByteArray) : ∀ k n, n ≤ longFrom s k n ∧ longFrom s k n ≤ n + k
  | 0, n => by unfold longFrom; omega
  | k + 1, n => by
    unfold longFrom
    have h := longFrom_bound s k (n + 1)
    split <;> omega
theorem longN_bound (s : ByteArray) : 1 ≤ longN s ∧ longN s ≤ 4 := by
  have := longFrom_bound s 3 0
  unfold longN
  omega
theorem rows_two {α β : Type} {d : Kd α} {d2 : Kd β} {e e2 b : Nat} {ok ok2 : Nat → Prop} {W W1 : World} {v u : Value} {xs : List α} {ys : List β} (h1 : d.R e W b ok v xs) (hb : Below W.heap.size W W1) (h2 : d2.R e2 W1 W.heap.size ok2 u ys) :
    d.R e W1 b (fun k => ok k ∧ some k ≠ u.ownBlock) v xs ∧ d2.R e2 W1 W.heap.size (fun k => ok2 k ∧ some k ≠ v.ownBlock) u ys := by
  refine ⟨Kd.R_mono (Kd.R_below (Kd.R_bound h1) hb) (fun k hk => ⟨hk.1, fun he => ?_⟩), ?_⟩
  · have h3 := Kd.R_base h2 k he.symm
    have h4 := hk.2.2.1
    omega
  · obtain ⟨inner, ho⟩ := Kd.R_own h1
    exact Kd.R_new h2 ho
def decGo (s : ByteArray) : Nat → Nat → Int → List Int → List Int → List Int × List Int
  | 0, _, _, xs, ys => (xs, ys)
  | k + 1, pos, nx, xs, ys => if pos < s.size then (if (pos : Int) < nx then decGo s k (pos + (Utf8.decode s pos).2) nx xs ys else decGo s k (pos + (Utf8.decode s pos).2) (pos + longN (s.extract pos s.size)) (xs ++ [((Utf8.decode s pos).1 : Int)]) (ys ++ [(pos : Int)])) else (xs, ys)
def utf_Decode.f (a0 : ByteArray) : Option (List Int × List Int) := if a0.size ≤ 17592186044414 then some ((decGo a0 (a0.size + 1) 0 0 [] []).1, (decGo a0 (a0.size + 1) 0 0 [] []).2 ++ [(a0.size : Int)]) else none

set_option maxHeartbeats 4000000 in
theorem utf_Decode.calls (a0 : ByteArray) (r1 : List Int) (r2 : List Int) (w : World) (h : utf_Decode.f a0 = some (r1, r2)) :
    Calls Try.prog 14 #[.string a0] w fun e w' => ∃ v0_ v1_ : Value, e = .returned (.tuple #[v0_, v1_]) ∧ Kd.R (Kd.int .i64) 3 w' w.heap.size (fun k_ => some k_ ≠ (v1_ : Value).ownBlock) v0_ r1 ∧ Kd.R (Kd.int .i64) 3 w' w.heap.size (fun k_ => some k_ ≠ (v0_ : Value).ownBlock) v1_ r2 ∧ Below w.heap.size w w' := by
  unfold utf_Decode.f at h
  split at h
  case isFalse => cases h
  case isTrue hs =>
  obtain ⟨z, hz⟩ : ∃ z, decGo a0 (a0.size + 1) 0 0 [] [] = z := ⟨_, rfl⟩
  rw [hz] at h
  simp only [Option.some.injEq, Prod.mk.injEq] at h
  have HR := Aside0.mk h
  have HZ := Aside0.mk hz
  clear h hz
  go_enter Try.func14, Try.ntmps14
  go_wp2
  go_loopg [2, 3, 4] (a0.size + 1) (fun kq v2 v3 v4 w' => ∃ (xs ys : List Int) (nx : Int) (pos : Nat), v4 = .int .i64 nx ∧ 0 ≤ nx ∧ nx ≤ a0.size + 4 ∧ a0.size < pos + kq ∧ pos + kq ≤ a0.size + 1 + pos ∧ xs.length ≤ pos ∧ ys.length ≤ pos ∧ xs.length ≤ a0.size ∧ ys.length ≤ a0.size ∧ Aside0 (decGo a0 kq pos nx xs ys = z) ∧ Aside0 (w'.heap[w.heap.size]? = some (.stringIter a0 pos)) ∧ Aside0 (Kd.R (Kd.int .i64) 3 w' w.heap.size (fun k_ => some k_ ≠ (v3 : Value).ownBlock) v2 xs) ∧ Aside0 (Kd.R (Kd.int .i64) 3 w' w.heap.size (fun k_ => some k_ ≠ (v2 : Value).ownBlock) v3 ys) ∧ Aside0 (Below w.heap.size w w'))
  case atStart => exact ⟨[], [], 0, 0, rfl, by omega, by omega, by omega, by omega, by simp, by simp, by simp, by simp, HZ, ⟨World.iter_heap _ _ _⟩, ⟨Kd.R_nil _ _ _ _ _⟩, ⟨Kd.R_nil _ _ _ _ _⟩, ⟨(Below.refl _ _).alloc (Nat.le_refl _) _⟩⟩
  case round =>
    obtain ⟨xs, ys, nx, pos, rfl, hn0, hn1, hk1, hk2, hx, hy, hx2, hy2, HA, HIT, HX, HY, HBL⟩ := hrel
    clear HZ
    by_cases hp : pos < a0.size
    · obtain ⟨W1, hnx, hit, hsz, hot, h1, h2, h3⟩ := run_next_at (P := Try.prog) wr w.heap.size a0 pos HIT.out hp
      have HIT1 := Aside0.mk hit
      have HX1 := Aside0.mk (row_iter HX.out HIT.out hot)
      have HY1 := Aside0.mk (row_iter HY.out HIT.out hot)
      have HB1 := Aside0.mk (below_iter HBL.out (Nat.le_refl _) hsz hot h1 h2 h3)
      clear hit hsz hot h1 h2 h3 HIT HX HY HBL
      have hwd := width_pos a0 pos hp
      obtain ⟨wd, hwde⟩ : ∃ wd, (Utf8.decode a0 pos).2 = wd := ⟨_, rfl⟩
      obtain ⟨ru, hrue⟩ : ∃ ru, (Utf8.decode a0 pos).1 = ru := ⟨_, rfl⟩
      cases gk with
      | zero => exfalso; omega
      | succ gk =>
      have HA2 := HA.out
      clear HA
      rw [decGo, if_pos hp] at HA2
      rw [hwde] at HA2 hwd HIT1
      rw [hrue] at HA2 hnx
      by_cases hc : (pos : Int) < nx
      · rw [if_pos hc] at HA2
        have HA3 := Aside0.mk HA2
        clear HA2 hwde hrue
        have hcb : decide ((pos : Int) < nx) = true := decide_eq_true hc
        go_wp2_with fail
        go_roundg gk
        case measure => omega
        case rel => exact ⟨xs, ys, nx, pos + wd, rfl, hn0, hn1, by omega, by omega, by omega, by omega, hx2, hy2, HA3, HIT1, HX1, HY1, HB1⟩
      · rw [if_neg hc] at HA2
        have hru : ru ≤ 2147483647 := by rw [← hrue]; exact decode_le a0 pos
        have hes : (a0.extract pos a0.size).size = a0.size - pos := by simp
        have hlo := longN_bound (a0.extract pos a0.size)
        have hlf : Aside0 (utf_long.f (a0.extract pos a0.size) = some (longN (a0.extract pos a0.size))) := ⟨by unfold utf_long.f; rw [if_pos (by rw [hes]; omega)]⟩
        obtain ⟨lo, hloe⟩ : ∃ lo, longN (a0.extract pos a0.size) = lo := ⟨_, rfl⟩
        rw [hloe] at HA2 hlf hlo
        have HA3 := Aside0.mk HA2
        clear HA2 hwde hrue hes hloe
        have hcb : decide ((pos : Int) < nx) = false := decide_eq_false hc
        go_wp2_with (first
          | ((with_reducible refine gate_builtin (b := .append) (xs := #[.tmp 16, .tmp 19]) rfl ?_); at_builtin; refine Kd.R_append (Kd.int .i64) (w0 := w) w.heap.size rfl (.tmp 16) (.tmp 19) 22 3 (.int .i64 0) 8 rfl Try.underlying22 info3 rfl (by decide) (by omega) u2 xs (ru : Int) [.int .i64 (ru : Int)] (fun k_ => some k_ ≠ (u3 : Value).ownBlock) (fun _ => False) rfl rfl rfl (fun _ hk => hk.elim) ?aF ?aO ?aB ?aS ?aL ?_; (case aB => exact HB1.out); (case aF => exact (fun k_ hk => Kd.fresh' (Kd.R_lt HY1.out) k_ hk)); (case aO => exact HX1.out); (case aS => exact below_size HB1.out); (case aL => omega); intro v1 w2 ho hb hg hat; have HY2 := Aside0.mk (Kd.R_mono (Kd.R_after (ok := (fun _ => True)) (Kd.R_mono HY1.out (fun _ hk => ⟨trivial, hk⟩)) hg hat) (fun _ hk => hk.2)); have HIT2 := Aside0.mk (iter_grown HIT1.out hg (iter_ne HX1.out HIT1.out)); have HB2 := Aside0.mk hb; have HX2 := Aside0.mk ho; clear ho hb hg hat HX1 HY1 HB1 HIT1)
          | ((with_reducible refine gate_builtin (b := .append) (xs := #[.tmp 21, .tmp 23]) rfl ?_); at_builtin; refine Kd.R_append (Kd.int .i64) (w0 := w) w.heap.size rfl (.tmp 21) (.tmp 23) 22 3 (.int .i64 0) 8 rfl Try.underlying22 info3 rfl (by decide) (by omega) u3 ys (pos : Int) [.int .i64 (pos : Int)] (fun k_ => some k_ ≠ (v1 : Value).ownBlock) (fun _ => False) rfl rfl rfl (fun _ hk => hk.elim) ?aF ?aO ?aB ?aS ?aL ?_; (case aB => exact HB2.out); (case aF => exact (fun k_ hk => Kd.fresh' (Kd.R_lt HX2.out) k_ hk)); (case aO => exact HY2.out); (case aS => exact below_size HB2.out); (case aL => omega); intro v2 w3 ho hb hg hat; have HX3 := Aside0.mk (Kd.R_mono (Kd.R_after (ok := (fun _ => True)) (Kd.R_mono HX2.out (fun _ hk => ⟨trivial, hk⟩)) hg hat) (fun _ hk => hk.2)); have HIT3 := Aside0.mk (iter_grown HIT2.out hg (iter_ne HY2.out HIT2.out)); have HB3 := Aside0.mk hb; have HY3 := Aside0.mk ho; clear ho hb hg hat HX2 HY2 HB2 HIT2)
          | (go_at_call 22; refine (utf_long.calls _ _ _ hlf.out).mono ?_; rintro e w4 ⟨rfl, hb⟩; have HX4 := Aside0.mk (Kd.R_below HX3.out hb); have HY4 := Aside0.mk (Kd.R_below HY3.out hb); have HIT4 := Aside0.mk (blk_below HIT3.out hb); have HB4 := Aside0.mk (below_step HB3.out hb); clear hb HX3 HY3 HIT3 HB3))
        go_roundg gk
        case measure => omega
        case rel => exact ⟨_, _, _, pos + wd, rfl, by omega, by omega, by omega, by omega, by simp; omega, by simp; omega, by simp; omega, by simp; omega, HA3, HIT4, HX4, HY4, HB4⟩
    · have hnx := run_next_over (P := Try.prog) wr w.heap.size a0 pos HIT.out hp
      have hz : z = (xs, ys) := by
        have HA2 := HA.out
        cases gk with
        | zero => exact HA2.symm
        | succ gk => rw [decGo, if_neg hp] at HA2; exact HA2.symm
      have HR2 := HR.out
      rw [hz] at HR2
      obtain ⟨rfl, hr2⟩ := HR2
      obtain ⟨yy, hyy⟩ : ∃ yy, ys ++ [(a0.size : Int)] = yy := ⟨_, rfl⟩
      have HYY := Aside0.mk hyy
      have HR3 := Aside0.mk (hyy.symm.trans hr2)
      clear hr2 hz HR HA hyy
      have hc1 : Aside0 (slices_Clone_int_int.f xs = some xs) := ⟨by unfold slices_Clone_int_int.f; simp; omega⟩
      have hc2 : Aside0 (slices_Clone_int_int.f yy = some yy) := ⟨by rw [← HYY.out]; unfold slices_Clone_int_int.f; simp; omega⟩
      obtain ⟨A2, c2, rfl, hle2, hC2⟩ := Kd.R_reads HX.out
      have HC2 := Aside0.mk hC2
      clear hC2
      go_wp2_with (first
          | (go_at_call 23; refine (slices_Clone_int_int.calls _ _ _ _ _ HC2.out hle2 hc1.out).mono ?_; rintro e w1 ⟨v4, rfl, hr4, hb⟩; have HR4 := Aside0.mk (rows_two HY.out hb hr4).2; have HY1 := Aside0.mk (Kd.R_below HY.out hb); have HB1 := Aside0.mk (below_step HBL.out hb); clear hb hr4 hc1)
          | ((with_reducible refine gate_builtin (b := .append) (xs := #[.tmp 33, .tmp 36]) rfl ?_); at_builtin; refine Kd.R_append (Kd.int .i64) (w0 := w) w.heap.size rfl (.tmp 33) (.tmp 36) 22 3 (.int .i64 0) 8 rfl Try.underlying22 info3 rfl (by decide) (by omega) u3 ys (a0.size : Int) [.int .i64 (a0.size : Int)] (fun _ => True) (fun _ => False) rfl rfl rfl (fun _ hk => hk.elim) (fun _ _ => trivial) ?aO ?aB ?aS ?aL ?_; (case aB => exact HB1.out); (case aO => exact Kd.R_mono HY1.out (fun _ _ => trivial)); (case aS => exact below_size HB1.out); (case aL => omega); intro v5 w3 ho hb hg hat; rw [HYY.out] at ho; have HB3 := Aside0.mk hb; have HR5 := Aside0.mk (Kd.R_grown HR4.out hg (fun k hk => hk.2)); obtain ⟨A5, c5, rfl, hle5, hC5⟩ := Kd.R_reads ho; have HC5 := Aside0.mk hC5; clear ho hb hg hat hC5 HY1 HB1 HR4)
          | (go_at_call 23; refine (slices_Clone_int_int.calls _ _ _ _ _ HC5.out hle5 hc2.out).mono ?_; rintro e w6 ⟨v6, rfl, hr6, hb⟩; have HR6 := Aside0.mk (rows_two HR5.out hb hr6); have HB6 := Aside0.mk (below_step HB3.out hb); have hl6 := below_size HB3.out; clear hb hr6))
      go_ret2
      have hl4 := below_size HBL.out
      exact ⟨_, _, rfl, Kd.R_mono (Kd.R_lower HR6.out.1 hl4) (fun _ hk => hk.2), by rw [← HR3.out]; exact Kd.R_mono (Kd.R_lower HR6.out.2 hl6) (fun _ hk => hk.2), HB6.out⟩

/-! ### utf_Scalar: function 20 -/
def utf_Scalar.f (a0 : Int) : Option (Bool) := if a0 ≥ 0 then (if a0 ≤ 1114111 then (if a0 < 55296 then (some true) else (some (decide (a0 > 57343)))) else (some false)) else (some false)
set_option maxHeartbeats 8000000 in
set_option maxRecDepth 100000 in
theorem utf_Scalar.calls (a0 : Int) (r : Bool) (w : World) (h : utf_Scalar.f a0 = some r) :
    Calls Try.prog 20 #[.int .i64 a0] w fun e w' => e = .returned (.bool r) ∧ Drawn0 w w' := by
  have H : (if a0 ≥ 0 then (if a0 ≤ 1114111 then (if a0 < 55296 then (some true) else (some (decide (a0 > 57343)))) else (some false)) else (some false)) = some r := h
  clear h
  by_cases c2 : a0 ≥ 0
  · rw [if_pos c2] at H
    have c2b0 : decide (0 ≤ a0) = true := decide_eq_true c2
    clear c2
    by_cases c3 : a0 ≤ 1114111
    · rw [if_pos c3] at H
      have c3b0 : decide (a0 ≤ 1114111) = true := decide_eq_true c3
      clear c3
      by_cases c4 : a0 < 55296
      · rw [if_pos c4] at H
        have c4b0 : decide (a0 < 55296) = true := decide_eq_true c4
        clear c4
        obtain rfl := Option.some.inj H
        go_enter Try.func20, Try.ntmps20
        go_wp2
        go_ret
        exact ⟨by first | rfl | (simp; done) | (simp [*]; done), by repeat (first | exact Drawn0.refl _ | apply Drawn0.step)⟩
      · rw [if_neg c4] at H
        have c4b0 : decide (a0 < 55296) = false := decide_eq_false c4
        clear c4
        obtain rfl := Option.some.inj H
        go_enter Try.func20, Try.ntmps20
        go_wp2
        go_ret
        exact ⟨by first | rfl | (simp; done) | (simp [*]; done), by repeat (first | exact Drawn0.refl _ | apply Drawn0.step)⟩
    · rw [if_neg c3] at H
      have c3b0 : decide (a0 ≤ 1114111) = false := decide_eq_false c3
      clear c3
      obtain rfl := Option.some.inj H
      go_enter Try.func20, Try.ntmps20
      go_wp2
      go_ret
      exact ⟨by first | rfl | (simp; done) | (simp [*]; done), by repeat (first | exact Drawn0.refl _ | apply Drawn0.step)⟩
  · rw [if_neg c2] at H
    have c2b0 : decide (0 ≤ a0) = false := decide_eq_false c2
    clear c2
    obtain rfl := Option.some.inj H
    go_enter Try.func20, Try.ntmps20
    go_wp2
    go_ret
    exact ⟨by first | rfl | (simp; done) | (simp [*]; done), by repeat (first | exact Drawn0.refl _ | apply Drawn0.step)⟩

end Go.Proofs.Ytcmacpdpphdkcaa.F
