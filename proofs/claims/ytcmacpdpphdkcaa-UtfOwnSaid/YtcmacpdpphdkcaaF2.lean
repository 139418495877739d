-- YtcmacpdpphdkcaaF: functions of the seat, told as Lean functions, and their contracts
import Derived.Test.YtcmacpdpphdkcaaF0
import Derived.Test.YtcmacpdpphdkcaaF1
namespace Go.Proofs.Ytcmacpdpphdkcaa.F
open Go.RowKit Go.Proofs.YtcmacpdpphdkcaaW.PrintWords Go.Proofs.YtcmacpdpphdkcaaW.PrintLast Go.Proofs.YtcmacpdpphdkcaaW.PrintMore
attribute [local go_sem] max2_int min2_int max_two min_two max_three min_three max_four min_four   -- for this text's walks alone
set_option linter.unusedVariables false
set_option linter.unusedSimpArgs false

/-! ### utf_Encode: function 18 -/
def utf_Encode.l0 : Nat → List Int → List Int → Int → Int → Option (ByteArray)
  | 0, _, _, _, _ => none
  | k + 1, x3, x6, x7, x8 => if x8 < x7 then (if 0 ≤ x8 then (if x8 < (x6.length : Int) then ((utf_Scalar.f (rd x6 x8)).bind fun t105 => (if t105 = true then (if x3.length + (Utf8.encode (wrap32 (rd x6 x8))).size < 140737488355328 then (utf_Encode.l0 k (x3 ++ bytesOf (Utf8.encode (wrap32 (rd x6 x8)))) x6 x7 (wrap64 (x8 + 1))) else (none)) else (if x3.length + (Utf8.encode 65533).size < 140737488355328 then (utf_Encode.l0 k (x3 ++ bytesOf (Utf8.encode 65533)) x6 x7 (wrap64 (x8 + 1))) else (none)))) else (none)) else (none)) else (some (strOfNums x3))
def utf_Encode.f (k : Nat) (l0 : List Int) : Option (ByteArray) := utf_Encode.l0 k ([] : List Int) l0 (l0.length : Int) 0
theorem utf_Encode.mono_l : ∀ k, (∀ y0 y1 y2 y3, LeO (utf_Encode.l0 k y0 y1 y2 y3) (utf_Encode.l0 (k + 1) y0 y1 y2 y3))
  | 0 => fun _ _ _ _ r h => by simp [utf_Encode.l0] at h
  | k + 1 => by
    have ih0 := utf_Encode.mono_l k
    · intro y0 y1 y2 y3
      unfold utf_Encode.l0
      repeat' first
      | (with_reducible exact ih0 _ _ _ _)
      | (with_reducible exact LeO.refl _)
      | (with_reducible exact LeO.none _)
      | (with_reducible refine LeO.ite ?_ ?_)
      | (with_reducible refine LeO.bind ?_ (fun _ => ?_))
      | exact ih0 _ _ _ _
      | exact LeO.none _
      | refine LeO.ite ?_ ?_
      | refine LeO.bind ?_ (fun _ => ?_)
theorem utf_Encode.mono : ∀ a0 k, LeO (utf_Encode.f k a0) (utf_Encode.f (k + 1) a0) := by
  intro a0 k
  have ih0 := utf_Encode.mono_l k
  unfold utf_Encode.f
  repeat' first
      | (with_reducible exact ih0 _ _ _ _)
      | (with_reducible exact LeO.refl _)
      | (with_reducible exact LeO.none _)
      | (with_reducible refine LeO.ite ?_ ?_)
      | (with_reducible refine LeO.bind ?_ (fun _ => ?_))
      | exact ih0 _ _ _ _
      | exact LeO.none _
      | refine LeO.ite ?_ ?_
      | refine LeO.bind ?_ (fun _ => ?_)
set_option maxHeartbeats 8000000 in
set_option maxRecDepth 100000 in
theorem utf_Encode.calls (k : Nat) (A0 : Option Addr) (c0 : Nat) (l0 : List Int) (r : ByteArray) (w : World) (hr0 : Kd.C (Kd.int .i64) w A0 l0.length l0) (hc0 : l0.length ≤ c0) (h : utf_Encode.f k l0 = some r) :
    Calls Try.prog 18 #[.slice A0 l0.length c0] w fun e w' => e = .returned (.string r) ∧ Below w.heap.size w w' := by
  have HR0 := Aside0.mk hr0
  have HC0 := Aside0.mk hc0
  clear hr0 hc0
  have HB := Aside0.mk (Below.refl w.heap.size w)
  have H : (utf_Encode.l0 k ([] : List Int) l0 (l0.length : Int) 0) = some r := h
  clear h
  have H' := Aside0.mk H
  clear H
  go_enter Try.func18, Try.ntmps18
  go_wp2
  go_loopg [3, 8] k (fun kq v3 v8 w' => ∃ (x3_1 : List Int) (x8_1 : Int), v8 = .int .i64 x8_1 ∧ Aside0 (utf_Encode.l0 kq x3_1 l0 (l0.length : Int) x8_1 = some r) ∧ Aside0 (kq ≤ k) ∧ Aside0 (Kd.R (Kd.int .u8) 5 w' w.heap.size (fun _ => True) v3 x3_1) ∧ Aside0 (Below w.heap.size w w'))
  case atStart => exact ⟨(([] : List Int)), (0), (by first | rfl | (simp; done) | (simp [*]; done)), H', ⟨Nat.le_refl _⟩, ⟨by first | exact Kd.R_nil _ _ _ _ _ | exact Kd.N_nil _ _ _ _ _ | exact Kd.V_nil _ _ _ _ _ | exact Kd.Q_nil _ _ _ _ _ | exact Kd.S_nil _ _ _ _ _⟩, ⟨by repeat (first | (with_reducible first | exact HB.out | apply below_alloc | apply pw_below_drewN | apply below_drew1) | exact HB.out)⟩⟩
  case round =>
    clear H'
    try clear c1
    obtain ⟨x3_1, x8_1, rfl, HA, HK1, HO_3, HB⟩ := hrel
    cases gk with
    | zero => exact absurd HA.out (by simp [utf_Encode.l0])
    | succ k1 =>
      have H := HA.out
      clear HA
      simp only [utf_Encode.l0] at H
      by_cases c2 : x8_1 < (l0.length : Int)
      · rw [if_pos c2] at H
        have c2b0 : decide (x8_1 < (l0.length : Int)) = true := decide_eq_true c2
        clear c2
        by_cases c3 : 0 ≤ x8_1
        · rw [if_pos c3] at H
          have c3b0 : decide (0 ≤ x8_1) = true := decide_eq_true c3
          clear c3
          by_cases c4 : x8_1 < (l0.length : Int)
          · rw [if_pos c4] at H
            have c4b0 : decide (x8_1 < (l0.length : Int)) = true := decide_eq_true c4
            clear c4
            replace H := Option.bind_eq_some_iff.mp H
            obtain ⟨t105, A50, H⟩ := H
            replace H : (if t105 = true then (if x3_1.length + (Utf8.encode (wrap32 (rd l0 x8_1))).size < 140737488355328 then (utf_Encode.l0 k1 (x3_1 ++ bytesOf (Utf8.encode (wrap32 (rd l0 x8_1)))) l0 (l0.length : Int) (wrap64 (x8_1 + 1))) else (none)) else (if x3_1.length + (Utf8.encode 65533).size < 140737488355328 then (utf_Encode.l0 k1 (x3_1 ++ bytesOf (Utf8.encode 65533)) l0 (l0.length : Int) (wrap64 (x8_1 + 1))) else (none))) = some r := H
            have A5 := Aside0.mk A50
            clear A50
            by_cases c6 : t105 = true
            · subst c6
              have H1 : (if x3_1.length + (Utf8.encode (wrap32 (rd l0 x8_1))).size < 140737488355328 then (utf_Encode.l0 k1 (x3_1 ++ bytesOf (Utf8.encode (wrap32 (rd l0 x8_1)))) l0 (l0.length : Int) (wrap64 (x8_1 + 1))) else (none)) = some r := by rw [if_pos rfl] at H; exact H
              clear H
              have H := H1
              clear H1
              by_cases c7 : x3_1.length + (Utf8.encode (wrap32 (rd l0 x8_1))).size < 140737488355328
              · rw [if_pos c7] at H
                have LMc7 := Aside0.mk c7
                clear c7
                obtain ⟨y106, hy106⟩ : ∃ y_ : List Int, y_ = (x3_1 ++ bytesOf (Utf8.encode (wrap32 (rd l0 x8_1)))) := ⟨_, rfl⟩
                replace H : (utf_Encode.l0 k1 y106 l0 (l0.length : Int) (wrap64 (x8_1 + 1))) = some r := by first | (rw [hy106]; with_reducible exact H) | (have H2_ := (Option.bind_some _ _).symm.trans H; rw [hy106]; with_reducible exact H2_) | (have H2_ := (Option.bind_some _ _).symm.trans H; with_reducible exact H2_) | with_reducible exact H | (rw [hy106]; exact H) | exact H
                have Ny106 := Aside0.mk hy106
                clear hy106
                have H' := Aside0.mk H
                clear H
                have p104 : 0 ≤ (x8_1 : Int) := of_decide_eq_true (by first | (with_reducible assumption) | assumption)
                have q104 : x8_1 < (l0.length : Int) := of_decide_eq_true (by first | (with_reducible assumption) | assumption)
                obtain ⟨ad104, e104, hx104_0⟩ := Kd.at_int HR0.out x8_1 p104 q104
                cases e104
                replace hx104_0 := (HB.out.cell (World.block_lt_of_cell? w _ hx104_0)).trans hx104_0
                replace p104 := eq_true p104
                replace q104 := eq_true q104
                go_wp2_with (first | ((with_reducible refine gate_callee (f := 20) rfl ?_); refine goesL_ (some 13) rfl rfl Try.func20 (by kernel_rfl) rfl #[.int .i64 (rd l0 x8_1)] rfl (by (try simp only [List.map_toArray, List.map_cons, List.map_nil]); first | done | rfl | (simp only [List.length_drop, List.length_take]; rfl)) ?_; (with_reducible refine (utf_Scalar.calls (rd l0 x8_1) true _ A5.out).mono ?_); rintro e w' ⟨rfl, ⟨nd, rfl⟩⟩; refine ⟨_, rfl, ?_⟩) | (at_builtin; refine print_append_str (w0 := w) w.heap.size rfl (.tmp 15) _ 23 9 5 rfl Try.underlying23 Try.underlying9 info5 u3 x3_1 (Utf8.encode (wrap32 (rd l0 x8_1))) rfl rfl ?aO ?aB ?aS ?aL ?_; (case aB => exact (by repeat (first | (with_reducible first | exact HB.out | apply below_alloc | apply pw_below_drewN | apply below_drew1) | exact HB.out))); (case aO => exact (Kd.own_of_R (by (with_reducible repeat (first | apply Kd.R_alloc | apply Kd.R_drewN | apply Kd.R_drew)); exact HO_3.out))); (case aS => exact (below_size (by repeat (first | (with_reducible first | exact HB.out | apply below_alloc | apply pw_below_drewN | apply below_drew1) | exact HB.out)))); (case aL => have := LMc7.out; omega); intro v107 w8 ho0 hb hg; have ho := Kd.R_of_own (h1 := fun _ => rfl) (ok := fun _ => True) ho0 (fun _ _ => trivial); clear ho0; have hat := True.intro; rw [← Ny106.out] at ho; change Kd.R (Kd.int .u8) 5 w8 w.heap.size (fun _ => True) v107 y106 at ho; have n0_ := Aside0.mk (hb); have n1_ := Aside0.mk (ho); clear HB; clear HO_3; have HB := n0_; have HO108 := n1_; clear n0_ n1_; clear ho hb hg hat))
                go_roundg k1
                case measure => have := HK1.out; omega
                case rel => exact ⟨(y106), (wrap64 (x8_1 + 1)), (by first | rfl | (simp; done) | (simp [*]; done)), H', ⟨by have := HK1.out; omega⟩, ⟨by (with_reducible repeat (first | apply Kd.R_alloc | apply Kd.R_drewN | apply Kd.R_drew)); exact HO108.out⟩, ⟨by repeat (first | (with_reducible first | exact HB.out | apply below_alloc | apply pw_below_drewN | apply below_drew1) | exact HB.out)⟩⟩
              · rw [if_neg c7] at H
                exact absurd H (by simp)
            · replace c6 := Bool.eq_false_iff.mpr c6
              subst c6
              have H1 : (if x3_1.length + (Utf8.encode 65533).size < 140737488355328 then (utf_Encode.l0 k1 (x3_1 ++ bytesOf (Utf8.encode 65533)) l0 (l0.length : Int) (wrap64 (x8_1 + 1))) else (none)) = some r := by rw [if_neg (show ¬ (false = true) by decide)] at H; exact H
              clear H
              have H := H1
              clear H1
              by_cases c9 : x3_1.length + (Utf8.encode 65533).size < 140737488355328
              · rw [if_pos c9] at H
                have LMc9 := Aside0.mk c9
                clear c9
                obtain ⟨y109, hy109⟩ : ∃ y_ : List Int, y_ = (x3_1 ++ bytesOf (Utf8.encode 65533)) := ⟨_, rfl⟩
                replace H : (utf_Encode.l0 k1 y109 l0 (l0.length : Int) (wrap64 (x8_1 + 1))) = some r := by first | (rw [hy109]; with_reducible exact H) | (have H2_ := (Option.bind_some _ _).symm.trans H; rw [hy109]; with_reducible exact H2_) | (have H2_ := (Option.bind_some _ _).symm.trans H; with_reducible exact H2_) | with_reducible exact H | (rw [hy109]; exact H) | exact H
                have Ny109 := Aside0.mk hy109
                clear hy109
                have H' := Aside0.mk H
                clear H
                have p104 : 0 ≤ (x8_1 : Int) := of_decide_eq_true (by first | (with_reducible assumption) | assumption)
                have q104 : x8_1 < (l0.length : Int) := of_decide_eq_true (by first | (with_reducible assumption) | assumption)
                obtain ⟨ad104, e104, hx104_0⟩ := Kd.at_int HR0.out x8_1 p104 q104
                cases e104
                replace hx104_0 := (HB.out.cell (World.block_lt_of_cell? w _ hx104_0)).trans hx104_0
                replace p104 := eq_true p104
                replace q104 := eq_true q104
                go_wp2_with (first | ((with_reducible refine gate_callee (f := 20) rfl ?_); refine goesL_ (some 13) rfl rfl Try.func20 (by kernel_rfl) rfl #[.int .i64 (rd l0 x8_1)] rfl (by (try simp only [List.map_toArray, List.map_cons, List.map_nil]); first | done | rfl | (simp only [List.length_drop, List.length_take]; rfl)) ?_; (with_reducible refine (utf_Scalar.calls (rd l0 x8_1) false _ A5.out).mono ?_); rintro e w' ⟨rfl, ⟨nd, rfl⟩⟩; refine ⟨_, rfl, ?_⟩) | (at_builtin; refine print_append_str (w0 := w) w.heap.size rfl (.tmp 15) _ 23 9 5 rfl Try.underlying23 Try.underlying9 info5 u3 x3_1 (Utf8.encode 65533) rfl rfl ?aO ?aB ?aS ?aL ?_; (case aB => exact (by repeat (first | (with_reducible first | exact HB.out | apply below_alloc | apply pw_below_drewN | apply below_drew1) | exact HB.out))); (case aO => exact (Kd.own_of_R (by (with_reducible repeat (first | apply Kd.R_alloc | apply Kd.R_drewN | apply Kd.R_drew)); exact HO_3.out))); (case aS => exact (below_size (by repeat (first | (with_reducible first | exact HB.out | apply below_alloc | apply pw_below_drewN | apply below_drew1) | exact HB.out)))); (case aL => have := LMc9.out; omega); intro v110 w10 ho0 hb hg; have ho := Kd.R_of_own (h1 := fun _ => rfl) (ok := fun _ => True) ho0 (fun _ _ => trivial); clear ho0; have hat := True.intro; rw [← Ny109.out] at ho; change Kd.R (Kd.int .u8) 5 w10 w.heap.size (fun _ => True) v110 y109 at ho; have n0_ := Aside0.mk (hb); have n1_ := Aside0.mk (ho); clear HB; clear HO_3; have HB := n0_; have HO111 := n1_; clear n0_ n1_; clear ho hb hg hat))
                go_roundg k1
                case measure => have := HK1.out; omega
                case rel => exact ⟨(y109), (wrap64 (x8_1 + 1)), (by first | rfl | (simp; done) | (simp [*]; done)), H', ⟨by have := HK1.out; omega⟩, ⟨by (with_reducible repeat (first | apply Kd.R_alloc | apply Kd.R_drewN | apply Kd.R_drew)); exact HO111.out⟩, ⟨by repeat (first | (with_reducible first | exact HB.out | apply below_alloc | apply pw_below_drewN | apply below_drew1) | exact HB.out)⟩⟩
              · rw [if_neg c9] at H
                exact absurd H (by simp)
          · rw [if_neg c4] at H
            exact absurd H (by simp)
        · rw [if_neg c3] at H
          exact absurd H (by simp)
      · rw [if_neg c2] at H
        have c2b0 : decide (x8_1 < (l0.length : Int)) = false := decide_eq_false c2
        clear c2
        obtain rfl := Option.some.inj H
        have hcv11 := own_string (P := Try.prog) Try.underlying23 Try.underlying5 Try.underlying9 (Kd.own_of_R HO_3.out)
        go_wp2
        go_ret
        exact ⟨by first | rfl | (simp [errW_none, errW_some] <;> rfl) | (simp [*, errW_none, errW_some] <;> rfl), by repeat (first | (with_reducible first | exact HB.out | apply below_alloc | apply pw_below_drewN | apply below_drew1) | exact HB.out)⟩

/-! ### hyphenlaw2_known: function 12 -/
def hyphenlaw2_known.f (k : Nat)  : Option (Bool) := (utf_Decode.f (⟨#[226, 130, 65]⟩ : ByteArray)).bind fun bt112 => (if (bt112.1.length : Int) = 2 then (if 0 < (bt112.1.length : Int) then (if (rd bt112.1 0) = 65533 then (if 1 < (bt112.1.length : Int) then (if (rd bt112.1 1) = 65 then (if (bt112.2.length : Int) = 3 then (if 1 < (bt112.2.length : Int) then (if (rd bt112.2 1) = 2 then ((utf_Encode.f k (([8364] : List Int))).bind fun t124 => (if t124.toList = ([226, 130, 172] : List UInt8) then ((utf_Scalar.f 0).bind fun t125 => (if t125 = true then ((utf_Scalar.f 55296).bind fun t126 => (some (!t126))) else (some false))) else (some false))) else (some false)) else (none)) else (some false)) else (some false)) else (none)) else (some false)) else (none)) else (some false))
theorem hyphenlaw2_known.mono : ∀ k, LeO (hyphenlaw2_known.f k ) (hyphenlaw2_known.f (k + 1) ) := by
  intro  k
  unfold hyphenlaw2_known.f
  repeat' first
      | (with_reducible exact utf_Encode.mono _ _)
      | (with_reducible exact LeO.refl _)
      | (with_reducible exact LeO.none _)
      | (with_reducible refine LeO.ite ?_ ?_)
      | (with_reducible refine LeO.bind ?_ (fun _ => ?_))
      | exact utf_Encode.mono _ _
      | exact LeO.none _
      | refine LeO.ite ?_ ?_
      | refine LeO.bind ?_ (fun _ => ?_)
set_option maxHeartbeats 8000000 in
set_option maxRecDepth 100000 in
theorem hyphenlaw2_known.calls (k : Nat)  (r : Bool) (w : World) (h : hyphenlaw2_known.f k  = some r) :
    Calls Try.prog 12 #[] w fun e w' => e = .returned (.bool r) ∧ Below w.heap.size w w' := by
  have HB := Aside0.mk (Below.refl w.heap.size w)
  have H : ((utf_Decode.f (⟨#[226, 130, 65]⟩ : ByteArray)).bind fun bt112 => (if (bt112.1.length : Int) = 2 then (if 0 < (bt112.1.length : Int) then (if (rd bt112.1 0) = 65533 then (if 1 < (bt112.1.length : Int) then (if (rd bt112.1 1) = 65 then (if (bt112.2.length : Int) = 3 then (if 1 < (bt112.2.length : Int) then (if (rd bt112.2 1) = 2 then ((utf_Encode.f k (([8364] : List Int))).bind fun t124 => (if t124.toList = ([226, 130, 172] : List UInt8) then ((utf_Scalar.f 0).bind fun t125 => (if t125 = true then ((utf_Scalar.f 55296).bind fun t126 => (some (!t126))) else (some false))) else (some false))) else (some false)) else (none)) else (some false)) else (some false)) else (none)) else (some false)) else (none)) else (some false))) = some r := h
  clear h
  replace H := Option.bind_eq_some_iff.mp H
  obtain ⟨⟨t112, t113⟩, A10, H⟩ := H
  replace H : (if (t112.length : Int) = 2 then (if 0 < (t112.length : Int) then (if (rd t112 0) = 65533 then (if 1 < (t112.length : Int) then (if (rd t112 1) = 65 then (if (t113.length : Int) = 3 then (if 1 < (t113.length : Int) then (if (rd t113 1) = 2 then ((utf_Encode.f k (([8364] : List Int))).bind fun t124 => (if t124.toList = ([226, 130, 172] : List UInt8) then ((utf_Scalar.f 0).bind fun t125 => (if t125 = true then ((utf_Scalar.f 55296).bind fun t126 => (some (!t126))) else (some false))) else (some false))) else (some false)) else (none)) else (some false)) else (some false)) else (none)) else (some false)) else (none)) else (some false)) = some r := H
  have A1 := Aside0.mk A10
  clear A10
  by_cases c2 : (t112.length : Int) = 2
  · rw [if_pos c2] at H
    have c2b0 : ((t112.length : Int) == 2) = true := beq_iff_eq.mpr c2
    have c2b1 : ((t112.length : Int) != 2) = false := bne_eq_false_iff_eq.mpr c2
    clear c2
    by_cases c3 : 0 < (t112.length : Int)
    · rw [if_pos c3] at H
      have c3b0 : decide (0 < (t112.length : Int)) = true := decide_eq_true c3
      have c3b1 : decide (0 < t112.length) = true := decide_eq_true (by omega)
      clear c3
      by_cases c4 : (rd t112 0) = 65533
      · rw [if_pos c4] at H
        have c4b0 : ((rd t112 0) == 65533) = true := beq_iff_eq.mpr c4
        have c4b1 : ((rd t112 0) != 65533) = false := bne_eq_false_iff_eq.mpr c4
        clear c4
        by_cases c5 : 1 < (t112.length : Int)
        · rw [if_pos c5] at H
          have c5b0 : decide (1 < (t112.length : Int)) = true := decide_eq_true c5
          have c5b1 : decide (1 < t112.length) = true := decide_eq_true (by omega)
          clear c5
          by_cases c6 : (rd t112 1) = 65
          · rw [if_pos c6] at H
            have c6b0 : ((rd t112 1) == 65) = true := beq_iff_eq.mpr c6
            have c6b1 : ((rd t112 1) != 65) = false := bne_eq_false_iff_eq.mpr c6
            clear c6
            by_cases c7 : (t113.length : Int) = 3
            · rw [if_pos c7] at H
              have c7b0 : ((t113.length : Int) == 3) = true := beq_iff_eq.mpr c7
              have c7b1 : ((t113.length : Int) != 3) = false := bne_eq_false_iff_eq.mpr c7
              clear c7
              by_cases c8 : 1 < (t113.length : Int)
              · rw [if_pos c8] at H
                have c8b0 : decide (1 < (t113.length : Int)) = true := decide_eq_true c8
                have c8b1 : decide (1 < t113.length) = true := decide_eq_true (by omega)
                clear c8
                by_cases c9 : (rd t113 1) = 2
                · rw [if_pos c9] at H
                  have c9b0 : ((rd t113 1) == 2) = true := beq_iff_eq.mpr c9
                  have c9b1 : ((rd t113 1) != 2) = false := bne_eq_false_iff_eq.mpr c9
                  clear c9
                  obtain ⟨y121, hy121⟩ : ∃ y_ : List Int, y_ = (([8364] : List Int)) := ⟨_, rfl⟩
                  replace H : ((utf_Encode.f k y121).bind fun t124 => (if t124.toList = ([226, 130, 172] : List UInt8) then ((utf_Scalar.f 0).bind fun t125 => (if t125 = true then ((utf_Scalar.f 55296).bind fun t126 => (some (!t126))) else (some false))) else (some false))) = some r := by first | (rw [hy121]; with_reducible exact H) | (have H2_ := (Option.bind_some _ _).symm.trans H; rw [hy121]; with_reducible exact H2_) | (have H2_ := (Option.bind_some _ _).symm.trans H; with_reducible exact H2_) | with_reducible exact H | (rw [hy121]; exact H) | exact H
                  have Ny121 := Aside0.mk hy121
                  clear hy121
                  replace H := Option.bind_eq_some_iff.mp H
                  obtain ⟨t124, A100, H⟩ := H
                  replace H : (if t124.toList = ([226, 130, 172] : List UInt8) then ((utf_Scalar.f 0).bind fun t125 => (if t125 = true then ((utf_Scalar.f 55296).bind fun t126 => (some (!t126))) else (some false))) else (some false)) = some r := H
                  have A10 := Aside0.mk A100
                  clear A100
                  by_cases c11 : t124.toList = ([226, 130, 172] : List UInt8)
                  · rw [if_pos c11] at H
                    have c11b0 : (t124.toList == ([226, 130, 172] : List UInt8)) = true := beq_iff_eq.mpr c11
                    have c11b1 : (t124.toList != ([226, 130, 172] : List UInt8)) = false := bne_eq_false_iff_eq.mpr c11
                    clear c11
                    replace H := Option.bind_eq_some_iff.mp H
                    obtain ⟨t125, A120, H⟩ := H
                    replace H : (if t125 = true then ((utf_Scalar.f 55296).bind fun t126 => (some (!t126))) else (some false)) = some r := H
                    have A12 := Aside0.mk A120
                    clear A120
                    by_cases c13 : t125 = true
                    · subst c13
                      have H1 : ((utf_Scalar.f 55296).bind fun t126 => (some (!t126))) = some r := by rw [if_pos rfl] at H; exact H
                      clear H
                      have H := H1
                      clear H1
                      replace H := Option.bind_eq_some_iff.mp H
                      obtain ⟨t126, A140, H⟩ := H
                      replace H : (some (!t126)) = some r := H
                      have A14 := Aside0.mk A140
                      clear A140
                      obtain rfl := Option.some.inj H
                      go_enter Try.func12, Try.ntmps12
                      go_wp2_with (first | ((with_reducible refine gate_callee (f := 14) rfl ?_); refine goesL_ (some 4) rfl rfl Try.func14 (by kernel_rfl) rfl #[.string (⟨#[226, 130, 65]⟩ : ByteArray)] rfl (by (try simp only [List.map_toArray, List.map_cons, List.map_nil]); first | done | rfl | (simp only [List.length_drop, List.length_take]; rfl)) ?_; (with_reducible refine (utf_Decode.calls (⟨#[226, 130, 65]⟩ : ByteArray) t112 t113 _ A1.out).mono ?_); rintro e w15 ⟨v114, v116, rfl, ho0, ho1, hb⟩; refine ⟨_, rfl, ?_⟩; have n0_ := Aside0.mk (Kd.R_lower ho0 (below_size (by repeat (first | (with_reducible first | exact HB.out | apply below_alloc | apply pw_below_drewN | apply below_drew1) | exact HB.out)))); have n1_ := Aside0.mk (Kd.R_lower ho1 (below_size (by repeat (first | (with_reducible first | exact HB.out | apply below_alloc | apply pw_below_drewN | apply below_drew1) | exact HB.out)))); have n2_ := Aside0.mk (below_step (by repeat (first | (with_reducible first | exact HB.out | apply below_alloc | apply pw_below_drewN | apply below_drew1) | exact HB.out)) hb); clear HB; have HO115 := n0_; have HO117 := n1_; have HB := n2_; clear n0_ n1_ n2_; (try clear hb); (try clear hb2); (try clear hk); (try clear hi); (try clear ho0); (try clear ho1); obtain ⟨Ao16, co16, eo16⟩ := Kd.R_slice HO115.out; subst eo16; have p118 : 0 ≤ (0 : Int) := (by omega); have q118 : 0 < (t112.length : Int) := of_decide_eq_true (by first | (with_reducible assumption) | assumption); obtain ⟨ad118, e118, hx118_0⟩ := Kd.at_int (Kd.R_reads' HO115.out).2.2 0 p118 q118; cases e118; have qi118 : (0 < t112.length) = True := eq_true (by omega); (try rw [show ((0 : Int)).toNat = 0 from rfl] at hx118_0); (try rw [Addr.add_zero'] at hx118_0); replace p118 := eq_true p118; replace q118 := eq_true q118; have p119 : 0 ≤ (1 : Int) := (by omega); have q119 : 1 < (t112.length : Int) := of_decide_eq_true (by first | (with_reducible assumption) | assumption); obtain ⟨ad119, e119, hx119_0⟩ := Kd.at_int (Kd.R_reads' HO115.out).2.2 1 p119 q119; obtain rfl : ad118 = ad119 := (by injection e119); (try simp only [show (1 : Int).toNat = 1 from rfl, Nat.reduceMul, Nat.reduceEqDiff, Go.Addr.add, ↓reduceIte] at hx119_0); have qi119 : (1 < t112.length) = True := eq_true (by omega); (try rw [show ((1 : Int)).toNat = 1 from rfl] at hx119_0); replace p119 := eq_true p119; replace q119 := eq_true q119; obtain ⟨Ao17, co17, eo17⟩ := Kd.R_slice HO117.out; subst eo17; have p120 : 0 ≤ (1 : Int) := (by omega); have q120 : 1 < (t113.length : Int) := of_decide_eq_true (by first | (with_reducible assumption) | assumption); obtain ⟨ad120, e120, hx120_0⟩ := Kd.at_int (Kd.R_reads' HO117.out).2.2 1 p120 q120; cases e120; (try simp only [show (1 : Int).toNat = 1 from rfl, Nat.reduceMul, Nat.reduceEqDiff, Go.Addr.add, ↓reduceIte] at hx120_0); have qi120 : (1 < t113.length) = True := eq_true (by omega); (try rw [show ((1 : Int)).toNat = 1 from rfl] at hx120_0); replace p120 := eq_true p120; replace q120 := eq_true q120) | ((with_reducible refine gate_dst (N := 34) rfl ?_); (try (refine gate_guard (by rfl) ?_; dsimp only)); refine Kd.R_lit (Kd.int .i64) _ 3 ?hg (N := 34) ?hd (xs := ([8364] : List Int)) (inner := [.int .i64 8364]) (ok := fun _ => True) (okp := fun _ => True) ?hr ?hp (fun _ hk => hk) trivial (Below.refl _ _) (Nat.le_refl _) (by simp) ?_; (case hd => rfl); (case hg => rfl); (case hr => first | (go_simp; done) | (go_simp; rfl)); (case hp => exact (Reps.one (show Kd.M (Kd.int .i64) _ _ _ 8364 [.int .i64 8364] from rfl) (Reps.none _ _))); intro v122 w18 ho19 hb hg_ hnew_; clear hg_ hnew_; (first | rw [← Ny121.out] at ho19 | (simp only [Int.reduceToNat] at ho19; rw [← Ny121.out] at ho19)); have n0_ := Aside0.mk (Kd.R_elder' (by (with_reducible repeat (first | apply Kd.R_alloc | apply Kd.R_drewN | apply Kd.R_drew)); exact HO115.out) (Kd.R_base ho19) hb); have n1_ := Aside0.mk (Kd.R_elder' (by (with_reducible repeat (first | apply Kd.R_alloc | apply Kd.R_drewN | apply Kd.R_drew)); exact HO117.out) (Kd.R_base ho19) hb); have n2_ := Aside0.mk (Kd.R_lower (Kd.R_new' (Kd.R_new' ho19 (Kd.R_lt (by (with_reducible repeat (first | apply Kd.R_alloc | apply Kd.R_drewN | apply Kd.R_drew)); exact HO115.out))) (Kd.R_lt (by (with_reducible repeat (first | apply Kd.R_alloc | apply Kd.R_drewN | apply Kd.R_drew)); exact HO117.out))) (below_size (by repeat (first | (with_reducible first | exact HB.out | apply below_alloc | apply pw_below_drewN | apply below_drew1) | exact HB.out)))); have n3_ := Aside0.mk (below_step (by repeat (first | (with_reducible first | exact HB.out | apply below_alloc | apply pw_below_drewN | apply below_drew1) | exact HB.out)) hb); clear HO115; clear HO117; clear HB; have HO115 := n0_; have HO117 := n1_; have HO123 := n2_; have HB := n3_; clear n0_ n1_ n2_ n3_; clear hb ho19; obtain ⟨Ao20, co20, eo20⟩ := Kd.R_slice HO123.out; subst eo20) | (go_at_call 18; (with_reducible refine (utf_Encode.calls k _ _ y121 t124 _ ?side1 ?side2 A10.out).mono ?_); (case side1 => repeat (first | exact (Kd.R_reads' HO123.out).2.2 | (with_reducible refine Kd.C_alloc ?_ _) | (with_reducible refine Kd.C_drewN ?_ _) | (with_reducible refine Kd.C_drew ?_))); (case side2 => exact (Kd.R_reads' HO123.out).2.1); rintro e w21 ⟨rfl, hb⟩; have n0_ := Aside0.mk (Kd.R_below (by (with_reducible repeat (first | apply Kd.R_alloc | apply Kd.R_drewN | apply Kd.R_drew)); exact HO115.out) hb); have n1_ := Aside0.mk (Kd.R_below (by (with_reducible repeat (first | apply Kd.R_alloc | apply Kd.R_drewN | apply Kd.R_drew)); exact HO117.out) hb); have n2_ := Aside0.mk (Kd.R_below (by (with_reducible repeat (first | apply Kd.R_alloc | apply Kd.R_drewN | apply Kd.R_drew)); exact HO123.out) hb); have n3_ := Aside0.mk (below_step (by repeat (first | (with_reducible first | exact HB.out | apply below_alloc | apply pw_below_drewN | apply below_drew1) | exact HB.out)) hb); clear HO115; clear HO117; clear HO123; clear HB; have HO115 := n0_; have HO117 := n1_; have HO123 := n2_; have HB := n3_; clear n0_ n1_ n2_ n3_; (try clear hb); (try clear hb2); (try clear hk); (try clear hi)) | (go_at_call 20; (with_reducible refine (utf_Scalar.calls 0 true _ A12.out).mono ?_); rintro e w' ⟨rfl, ⟨nd, rfl⟩⟩) | (go_at_call 20; (with_reducible refine (utf_Scalar.calls 55296 t126 _ A14.out).mono ?_); rintro e w' ⟨rfl, ⟨nd, rfl⟩⟩))
                      go_ret
                      exact ⟨by first | rfl | (simp [errW_none, errW_some] <;> rfl) | (simp [*, errW_none, errW_some] <;> rfl), by repeat (first | (with_reducible first | exact HB.out | apply below_alloc | apply pw_below_drewN | apply below_drew1) | exact HB.out)⟩
                    · replace c13 := Bool.eq_false_iff.mpr c13
                      subst c13
                      have H1 : (some false) = some r := by rw [if_neg (show ¬ (false = true) by decide)] at H; exact H
                      clear H
                      have H := H1
                      clear H1
                      obtain rfl := Option.some.inj H
                      go_enter Try.func12, Try.ntmps12
                      go_wp2_with (first | ((with_reducible refine gate_callee (f := 14) rfl ?_); refine goesL_ (some 4) rfl rfl Try.func14 (by kernel_rfl) rfl #[.string (⟨#[226, 130, 65]⟩ : ByteArray)] rfl (by (try simp only [List.map_toArray, List.map_cons, List.map_nil]); first | done | rfl | (simp only [List.length_drop, List.length_take]; rfl)) ?_; (with_reducible refine (utf_Decode.calls (⟨#[226, 130, 65]⟩ : ByteArray) t112 t113 _ A1.out).mono ?_); rintro e w22 ⟨v114, v116, rfl, ho0, ho1, hb⟩; refine ⟨_, rfl, ?_⟩; have n0_ := Aside0.mk (Kd.R_lower ho0 (below_size (by repeat (first | (with_reducible first | exact HB.out | apply below_alloc | apply pw_below_drewN | apply below_drew1) | exact HB.out)))); have n1_ := Aside0.mk (Kd.R_lower ho1 (below_size (by repeat (first | (with_reducible first | exact HB.out | apply below_alloc | apply pw_below_drewN | apply below_drew1) | exact HB.out)))); have n2_ := Aside0.mk (below_step (by repeat (first | (with_reducible first | exact HB.out | apply below_alloc | apply pw_below_drewN | apply below_drew1) | exact HB.out)) hb); clear HB; have HO115 := n0_; have HO117 := n1_; have HB := n2_; clear n0_ n1_ n2_; (try clear hb); (try clear hb2); (try clear hk); (try clear hi); (try clear ho0); (try clear ho1); obtain ⟨Ao23, co23, eo23⟩ := Kd.R_slice HO115.out; subst eo23; have p118 : 0 ≤ (0 : Int) := (by omega); have q118 : 0 < (t112.length : Int) := of_decide_eq_true (by first | (with_reducible assumption) | assumption); obtain ⟨ad118, e118, hx118_0⟩ := Kd.at_int (Kd.R_reads' HO115.out).2.2 0 p118 q118; cases e118; have qi118 : (0 < t112.length) = True := eq_true (by omega); (try rw [show ((0 : Int)).toNat = 0 from rfl] at hx118_0); (try rw [Addr.add_zero'] at hx118_0); replace p118 := eq_true p118; replace q118 := eq_true q118; have p119 : 0 ≤ (1 : Int) := (by omega); have q119 : 1 < (t112.length : Int) := of_decide_eq_true (by first | (with_reducible assumption) | assumption); obtain ⟨ad119, e119, hx119_0⟩ := Kd.at_int (Kd.R_reads' HO115.out).2.2 1 p119 q119; obtain rfl : ad118 = ad119 := (by injection e119); (try simp only [show (1 : Int).toNat = 1 from rfl, Nat.reduceMul, Nat.reduceEqDiff, Go.Addr.add, ↓reduceIte] at hx119_0); have qi119 : (1 < t112.length) = True := eq_true (by omega); (try rw [show ((1 : Int)).toNat = 1 from rfl] at hx119_0); replace p119 := eq_true p119; replace q119 := eq_true q119; obtain ⟨Ao24, co24, eo24⟩ := Kd.R_slice HO117.out; subst eo24; have p120 : 0 ≤ (1 : Int) := (by omega); have q120 : 1 < (t113.length : Int) := of_decide_eq_true (by first | (with_reducible assumption) | assumption); obtain ⟨ad120, e120, hx120_0⟩ := Kd.at_int (Kd.R_reads' HO117.out).2.2 1 p120 q120; cases e120; (try simp only [show (1 : Int).toNat = 1 from rfl, Nat.reduceMul, Nat.reduceEqDiff, Go.Addr.add, ↓reduceIte] at hx120_0); have qi120 : (1 < t113.length) = True := eq_true (by omega); (try rw [show ((1 : Int)).toNat = 1 from rfl] at hx120_0); replace p120 := eq_true p120; replace q120 := eq_true q120) | ((with_reducible refine gate_dst (N := 34) rfl ?_); (try (refine gate_guard (by rfl) ?_; dsimp only)); refine Kd.R_lit (Kd.int .i64) _ 3 ?hg (N := 34) ?hd (xs := ([8364] : List Int)) (inner := [.int .i64 8364]) (ok := fun _ => True) (okp := fun _ => True) ?hr ?hp (fun _ hk => hk) trivial (Below.refl _ _) (Nat.le_refl _) (by simp) ?_; (case hd => rfl); (case hg => rfl); (case hr => first | (go_simp; done) | (go_simp; rfl)); (case hp => exact (Reps.one (show Kd.M (Kd.int .i64) _ _ _ 8364 [.int .i64 8364] from rfl) (Reps.none _ _))); intro v122 w25 ho26 hb hg_ hnew_; clear hg_ hnew_; (first | rw [← Ny121.out] at ho26 | (simp only [Int.reduceToNat] at ho26; rw [← Ny121.out] at ho26)); have n0_ := Aside0.mk (Kd.R_elder' (by (with_reducible repeat (first | apply Kd.R_alloc | apply Kd.R_drewN | apply Kd.R_drew)); exact HO115.out) (Kd.R_base ho26) hb); have n1_ := Aside0.mk (Kd.R_elder' (by (with_reducible repeat (first | apply Kd.R_alloc | apply Kd.R_drewN | apply Kd.R_drew)); exact HO117.out) (Kd.R_base ho26) hb); have n2_ := Aside0.mk (Kd.R_lower (Kd.R_new' (Kd.R_new' ho26 (Kd.R_lt (by (with_reducible repeat (first | apply Kd.R_alloc | apply Kd.R_drewN | apply Kd.R_drew)); exact HO115.out))) (Kd.R_lt (by (with_reducible repeat (first | apply Kd.R_alloc | apply Kd.R_drewN | apply Kd.R_drew)); exact HO117.out))) (below_size (by repeat (first | (with_reducible first | exact HB.out | apply below_alloc | apply pw_below_drewN | apply below_drew1) | exact HB.out)))); have n3_ := Aside0.mk (below_step (by repeat (first | (with_reducible first | exact HB.out | apply below_alloc | apply pw_below_drewN | apply below_drew1) | exact HB.out)) hb); clear HO115; clear HO117; clear HB; have HO115 := n0_; have HO117 := n1_; have HO123 := n2_; have HB := n3_; clear n0_ n1_ n2_ n3_; clear hb ho26; obtain ⟨Ao27, co27, eo27⟩ := Kd.R_slice HO123.out; subst eo27) | (go_at_call 18; (with_reducible refine (utf_Encode.calls k _ _ y121 t124 _ ?side1 ?side2 A10.out).mono ?_); (case side1 => repeat (first | exact (Kd.R_reads' HO123.out).2.2 | (with_reducible refine Kd.C_alloc ?_ _) | (with_reducible refine Kd.C_drewN ?_ _) | (with_reducible refine Kd.C_drew ?_))); (case side2 => exact (Kd.R_reads' HO123.out).2.1); rintro e w28 ⟨rfl, hb⟩; have n0_ := Aside0.mk (Kd.R_below (by (with_reducible repeat (first | apply Kd.R_alloc | apply Kd.R_drewN | apply Kd.R_drew)); exact HO115.out) hb); have n1_ := Aside0.mk (Kd.R_below (by (with_reducible repeat (first | apply Kd.R_alloc | apply Kd.R_drewN | apply Kd.R_drew)); exact HO117.out) hb); have n2_ := Aside0.mk (Kd.R_below (by (with_reducible repeat (first | apply Kd.R_alloc | apply Kd.R_drewN | apply Kd.R_drew)); exact HO123.out) hb); have n3_ := Aside0.mk (below_step (by repeat (first | (with_reducible first | exact HB.out | apply below_alloc | apply pw_below_drewN | apply below_drew1) | exact HB.out)) hb); clear HO115; clear HO117; clear HO123; clear HB; have HO115 := n0_; have HO117 := n1_; have HO123 := n2_; have HB := n3_; clear n0_ n1_ n2_ n3_; (try clear hb); (try clear hb2); (try clear hk); (try clear hi)) | (go_at_call 20; (with_reducible refine (utf_Scalar.calls 0 false _ A12.out).mono ?_); rintro e w' ⟨rfl, ⟨nd, rfl⟩⟩))
                      go_ret
                      exact ⟨by first | rfl | (simp [errW_none, errW_some] <;> rfl) | (simp [*, errW_none, errW_some] <;> rfl), by repeat (first | (with_reducible first | exact HB.out | apply below_alloc | apply pw_below_drewN | apply below_drew1) | exact HB.out)⟩
                  · rw [if_neg c11] at H
                    have c11b0 : (t124.toList == ([226, 130, 172] : List UInt8)) = false := beq_eq_false_iff_ne.mpr c11
                    have c11b1 : (t124.toList != ([226, 130, 172] : List UInt8)) = true := bne_iff_ne.mpr c11
                    obtain rfl := Option.some.inj H
                    go_enter Try.func12, Try.ntmps12
                    go_wp2_with (first | ((with_reducible refine gate_callee (f := 14) rfl ?_); refine goesL_ (some 4) rfl rfl Try.func14 (by kernel_rfl) rfl #[.string (⟨#[226, 130, 65]⟩ : ByteArray)] rfl (by (try simp only [List.map_toArray, List.map_cons, List.map_nil]); first | done | rfl | (simp only [List.length_drop, List.length_take]; rfl)) ?_; (with_reducible refine (utf_Decode.calls (⟨#[226, 130, 65]⟩ : ByteArray) t112 t113 _ A1.out).mono ?_); rintro e w29 ⟨v114, v116, rfl, ho0, ho1, hb⟩; refine ⟨_, rfl, ?_⟩; have n0_ := Aside0.mk (Kd.R_lower ho0 (below_size (by repeat (first | (with_reducible first | exact HB.out | apply below_alloc | apply pw_below_drewN | apply below_drew1) | exact HB.out)))); have n1_ := Aside0.mk (Kd.R_lower ho1 (below_size (by repeat (first | (with_reducible first | exact HB.out | apply below_alloc | apply pw_below_drewN | apply below_drew1) | exact HB.out)))); have n2_ := Aside0.mk (below_step (by repeat (first | (with_reducible first | exact HB.out | apply below_alloc | apply pw_below_drewN | apply below_drew1) | exact HB.out)) hb); clear HB; have HO115 := n0_; have HO117 := n1_; have HB := n2_; clear n0_ n1_ n2_; (try clear hb); (try clear hb2); (try clear hk); (try clear hi); (try clear ho0); (try clear ho1); obtain ⟨Ao30, co30, eo30⟩ := Kd.R_slice HO115.out; subst eo30; have p118 : 0 ≤ (0 : Int) := (by omega); have q118 : 0 < (t112.length : Int) := of_decide_eq_true (by first | (with_reducible assumption) | assumption); obtain ⟨ad118, e118, hx118_0⟩ := Kd.at_int (Kd.R_reads' HO115.out).2.2 0 p118 q118; cases e118; have qi118 : (0 < t112.length) = True := eq_true (by omega); (try rw [show ((0 : Int)).toNat = 0 from rfl] at hx118_0); (try rw [Addr.add_zero'] at hx118_0); replace p118 := eq_true p118; replace q118 := eq_true q118; have p119 : 0 ≤ (1 : Int) := (by omega); have q119 : 1 < (t112.length : Int) := of_decide_eq_true (by first | (with_reducible assumption) | assumption); obtain ⟨ad119, e119, hx119_0⟩ := Kd.at_int (Kd.R_reads' HO115.out).2.2 1 p119 q119; obtain rfl : ad118 = ad119 := (by injection e119); (try simp only [show (1 : Int).toNat = 1 from rfl, Nat.reduceMul, Nat.reduceEqDiff, Go.Addr.add, ↓reduceIte] at hx119_0); have qi119 : (1 < t112.length) = True := eq_true (by omega); (try rw [show ((1 : Int)).toNat = 1 from rfl] at hx119_0); replace p119 := eq_true p119; replace q119 := eq_true q119; obtain ⟨Ao31, co31, eo31⟩ := Kd.R_slice HO117.out; subst eo31; have p120 : 0 ≤ (1 : Int) := (by omega); have q120 : 1 < (t113.length : Int) := of_decide_eq_true (by first | (with_reducible assumption) | assumption); obtain ⟨ad120, e120, hx120_0⟩ := Kd.at_int (Kd.R_reads' HO117.out).2.2 1 p120 q120; cases e120; (try simp only [show (1 : Int).toNat = 1 from rfl, Nat.reduceMul, Nat.reduceEqDiff, Go.Addr.add, ↓reduceIte] at hx120_0); have qi120 : (1 < t113.length) = True := eq_true (by omega); (try rw [show ((1 : Int)).toNat = 1 from rfl] at hx120_0); replace p120 := eq_true p120; replace q120 := eq_true q120) | ((with_reducible refine gate_dst (N := 34) rfl ?_); (try (refine gate_guard (by rfl) ?_; dsimp only)); refine Kd.R_lit (Kd.int .i64) _ 3 ?hg (N := 34) ?hd (xs := ([8364] : List Int)) (inner := [.int .i64 8364]) (ok := fun _ => True) (okp := fun _ => True) ?hr ?hp (fun _ hk => hk) trivial (Below.refl _ _) (Nat.le_refl _) (by simp) ?_; (case hd => rfl); (case hg => rfl); (case hr => first | (go_simp; done) | (go_simp; rfl)); (case hp => exact (Reps.one (show Kd.M (Kd.int .i64) _ _ _ 8364 [.int .i64 8364] from rfl) (Reps.none _ _))); intro v122 w32 ho33 hb hg_ hnew_; clear hg_ hnew_; (first | rw [← Ny121.out] at ho33 | (simp only [Int.reduceToNat] at ho33; rw [← Ny121.out] at ho33)); have n0_ := Aside0.mk (Kd.R_elder' (by (with_reducible repeat (first | apply Kd.R_alloc | apply Kd.R_drewN | apply Kd.R_drew)); exact HO115.out) (Kd.R_base ho33) hb); have n1_ := Aside0.mk (Kd.R_elder' (by (with_reducible repeat (first | apply Kd.R_alloc | apply Kd.R_drewN | apply Kd.R_drew)); exact HO117.out) (Kd.R_base ho33) hb); have n2_ := Aside0.mk (Kd.R_lower (Kd.R_new' (Kd.R_new' ho33 (Kd.R_lt (by (with_reducible repeat (first | apply Kd.R_alloc | apply Kd.R_drewN | apply Kd.R_drew)); exact HO115.out))) (Kd.R_lt (by (with_reducible repeat (first | apply Kd.R_alloc | apply Kd.R_drewN | apply Kd.R_drew)); exact HO117.out))) (below_size (by repeat (first | (with_reducible first | exact HB.out | apply below_alloc | apply pw_below_drewN | apply below_drew1) | exact HB.out)))); have n3_ := Aside0.mk (below_step (by repeat (first | (with_reducible first | exact HB.out | apply below_alloc | apply pw_below_drewN | apply below_drew1) | exact HB.out)) hb); clear HO115; clear HO117; clear HB; have HO115 := n0_; have HO117 := n1_; have HO123 := n2_; have HB := n3_; clear n0_ n1_ n2_ n3_; clear hb ho33; obtain ⟨Ao34, co34, eo34⟩ := Kd.R_slice HO123.out; subst eo34) | (go_at_call 18; (with_reducible refine (utf_Encode.calls k _ _ y121 t124 _ ?side1 ?side2 A10.out).mono ?_); (case side1 => repeat (first | exact (Kd.R_reads' HO123.out).2.2 | (with_reducible refine Kd.C_alloc ?_ _) | (with_reducible refine Kd.C_drewN ?_ _) | (with_reducible refine Kd.C_drew ?_))); (case side2 => exact (Kd.R_reads' HO123.out).2.1); rintro e w35 ⟨rfl, hb⟩; have n0_ := Aside0.mk (Kd.R_below (by (with_reducible repeat (first | apply Kd.R_alloc | apply Kd.R_drewN | apply Kd.R_drew)); exact HO115.out) hb); have n1_ := Aside0.mk (Kd.R_below (by (with_reducible repeat (first | apply Kd.R_alloc | apply Kd.R_drewN | apply Kd.R_drew)); exact HO117.out) hb); have n2_ := Aside0.mk (Kd.R_below (by (with_reducible repeat (first | apply Kd.R_alloc | apply Kd.R_drewN | apply Kd.R_drew)); exact HO123.out) hb); have n3_ := Aside0.mk (below_step (by repeat (first | (with_reducible first | exact HB.out | apply below_alloc | apply pw_below_drewN | apply below_drew1) | exact HB.out)) hb); clear HO115; clear HO117; clear HO123; clear HB; have HO115 := n0_; have HO117 := n1_; have HO123 := n2_; have HB := n3_; clear n0_ n1_ n2_ n3_; (try clear hb); (try clear hb2); (try clear hk); (try clear hi)))
                    go_ret
                    exact ⟨by first | rfl | (simp [errW_none, errW_some] <;> rfl) | (simp [*, errW_none, errW_some] <;> rfl), by repeat (first | (with_reducible first | exact HB.out | apply below_alloc | apply pw_below_drewN | apply below_drew1) | exact HB.out)⟩
                · rw [if_neg c9] at H
                  have c9b0 : ((rd t113 1) == 2) = false := beq_eq_false_iff_ne.mpr c9
                  have c9b1 : ((rd t113 1) != 2) = true := bne_iff_ne.mpr c9
                  obtain rfl := Option.some.inj H
                  go_enter Try.func12, Try.ntmps12
                  go_wp2_with (first | ((with_reducible refine gate_callee (f := 14) rfl ?_); refine goesL_ (some 4) rfl rfl Try.func14 (by kernel_rfl) rfl #[.string (⟨#[226, 130, 65]⟩ : ByteArray)] rfl (by (try simp only [List.map_toArray, List.map_cons, List.map_nil]); first | done | rfl | (simp only [List.length_drop, List.length_take]; rfl)) ?_; (with_reducible refine (utf_Decode.calls (⟨#[226, 130, 65]⟩ : ByteArray) t112 t113 _ A1.out).mono ?_); rintro e w36 ⟨v114, v116, rfl, ho0, ho1, hb⟩; refine ⟨_, rfl, ?_⟩; have n0_ := Aside0.mk (Kd.R_lower ho0 (below_size (by repeat (first | (with_reducible first | exact HB.out | apply below_alloc | apply pw_below_drewN | apply below_drew1) | exact HB.out)))); have n1_ := Aside0.mk (Kd.R_lower ho1 (below_size (by repeat (first | (with_reducible first | exact HB.out | apply below_alloc | apply pw_below_drewN | apply below_drew1) | exact HB.out)))); have n2_ := Aside0.mk (below_step (by repeat (first | (with_reducible first | exact HB.out | apply below_alloc | apply pw_below_drewN | apply below_drew1) | exact HB.out)) hb); clear HB; have HO115 := n0_; have HO117 := n1_; have HB := n2_; clear n0_ n1_ n2_; (try clear hb); (try clear hb2); (try clear hk); (try clear hi); (try clear ho0); (try clear ho1); obtain ⟨Ao37, co37, eo37⟩ := Kd.R_slice HO115.out; subst eo37; have p118 : 0 ≤ (0 : Int) := (by omega); have q118 : 0 < (t112.length : Int) := of_decide_eq_true (by first | (with_reducible assumption) | assumption); obtain ⟨ad118, e118, hx118_0⟩ := Kd.at_int (Kd.R_reads' HO115.out).2.2 0 p118 q118; cases e118; have qi118 : (0 < t112.length) = True := eq_true (by omega); (try rw [show ((0 : Int)).toNat = 0 from rfl] at hx118_0); (try rw [Addr.add_zero'] at hx118_0); replace p118 := eq_true p118; replace q118 := eq_true q118; have p119 : 0 ≤ (1 : Int) := (by omega); have q119 : 1 < (t112.length : Int) := of_decide_eq_true (by first | (with_reducible assumption) | assumption); obtain ⟨ad119, e119, hx119_0⟩ := Kd.at_int (Kd.R_reads' HO115.out).2.2 1 p119 q119; obtain rfl : ad118 = ad119 := (by injection e119); (try simp only [show (1 : Int).toNat = 1 from rfl, Nat.reduceMul, Nat.reduceEqDiff, Go.Addr.add, ↓reduceIte] at hx119_0); have qi119 : (1 < t112.length) = True := eq_true (by omega); (try rw [show ((1 : Int)).toNat = 1 from rfl] at hx119_0); replace p119 := eq_true p119; replace q119 := eq_true q119; obtain ⟨Ao38, co38, eo38⟩ := Kd.R_slice HO117.out; subst eo38; have p120 : 0 ≤ (1 : Int) := (by omega); have q120 : 1 < (t113.length : Int) := of_decide_eq_true (by first | (with_reducible assumption) | assumption); obtain ⟨ad120, e120, hx120_0⟩ := Kd.at_int (Kd.R_reads' HO117.out).2.2 1 p120 q120; cases e120; (try simp only [show (1 : Int).toNat = 1 from rfl, Nat.reduceMul, Nat.reduceEqDiff, Go.Addr.add, ↓reduceIte] at hx120_0); have qi120 : (1 < t113.length) = True := eq_true (by omega); (try rw [show ((1 : Int)).toNat = 1 from rfl] at hx120_0); replace p120 := eq_true p120; replace q120 := eq_true q120))
                  go_ret
                  exact ⟨by first | rfl | (simp [errW_none, errW_some] <;> rfl) | (simp [*, errW_none, errW_some] <;> rfl), by repeat (first | (with_reducible first | exact HB.out | apply below_alloc | apply pw_below_drewN | apply below_drew1) | exact HB.out)⟩
              · rw [if_neg c8] at H
                exact absurd H (by simp)
            · rw [if_neg c7] at H
              have c7b0 : ((t113.length : Int) == 3) = false := beq_eq_false_iff_ne.mpr c7
              have c7b1 : ((t113.length : Int) != 3) = true := bne_iff_ne.mpr c7
              obtain rfl := Option.some.inj H
              go_enter Try.func12, Try.ntmps12
              go_wp2_with (first | ((with_reducible refine gate_callee (f := 14) rfl ?_); refine goesL_ (some 4) rfl rfl Try.func14 (by kernel_rfl) rfl #[.string (⟨#[226, 130, 65]⟩ : ByteArray)] rfl (by (try simp only [List.map_toArray, List.map_cons, List.map_nil]); first | done | rfl | (simp only [List.length_drop, List.length_take]; rfl)) ?_; (with_reducible refine (utf_Decode.calls (⟨#[226, 130, 65]⟩ : ByteArray) t112 t113 _ A1.out).mono ?_); rintro e w39 ⟨v114, v116, rfl, ho0, ho1, hb⟩; refine ⟨_, rfl, ?_⟩; have n0_ := Aside0.mk (Kd.R_lower ho0 (below_size (by repeat (first | (with_reducible first | exact HB.out | apply below_alloc | apply pw_below_drewN | apply below_drew1) | exact HB.out)))); have n1_ := Aside0.mk (Kd.R_lower ho1 (below_size (by repeat (first | (with_reducible first | exact HB.out | apply below_alloc | apply pw_below_drewN | apply below_drew1) | exact HB.out)))); have n2_ := Aside0.mk (below_step (by repeat (first | (with_reducible first | exact HB.out | apply below_alloc | apply pw_below_drewN | apply below_drew1) | exact HB.out)) hb); clear HB; have HO115 := n0_; have HO117 := n1_; have HB := n2_; clear n0_ n1_ n2_; (try clear hb); (try clear hb2); (try clear hk); (try clear hi); (try clear ho0); (try clear ho1); obtain ⟨Ao40, co40, eo40⟩ := Kd.R_slice HO115.out; subst eo40; have p118 : 0 ≤ (0 : Int) := (by omega); have q118 : 0 < (t112.length : Int) := of_decide_eq_true (by first | (with_reducible assumption) | assumption); obtain ⟨ad118, e118, hx118_0⟩ := Kd.at_int (Kd.R_reads' HO115.out).2.2 0 p118 q118; cases e118; have qi118 : (0 < t112.length) = True := eq_true (by omega); (try rw [show ((0 : Int)).toNat = 0 from rfl] at hx118_0); (try rw [Addr.add_zero'] at hx118_0); replace p118 := eq_true p118; replace q118 := eq_true q118; have p119 : 0 ≤ (1 : Int) := (by omega); have q119 : 1 < (t112.length : Int) := of_decide_eq_true (by first | (with_reducible assumption) | assumption); obtain ⟨ad119, e119, hx119_0⟩ := Kd.at_int (Kd.R_reads' HO115.out).2.2 1 p119 q119; obtain rfl : ad118 = ad119 := (by injection e119); (try simp only [show (1 : Int).toNat = 1 from rfl, Nat.reduceMul, Nat.reduceEqDiff, Go.Addr.add, ↓reduceIte] at hx119_0); have qi119 : (1 < t112.length) = True := eq_true (by omega); (try rw [show ((1 : Int)).toNat = 1 from rfl] at hx119_0); replace p119 := eq_true p119; replace q119 := eq_true q119; obtain ⟨Ao41, co41, eo41⟩ := Kd.R_slice HO117.out; subst eo41))
              go_ret
              exact ⟨by first | rfl | (simp [errW_none, errW_some] <;> rfl) | (simp [*, errW_none, errW_some] <;> rfl), by repeat (first | (with_reducible first | exact HB.out | apply below_alloc | apply pw_below_drewN | apply below_drew1) | exact HB.out)⟩
          · rw [if_neg c6] at H
            have c6b0 : ((rd t112 1) == 65) = false := beq_eq_false_iff_ne.mpr c6
            have c6b1 : ((rd t112 1) != 65) = true := bne_iff_ne.mpr c6
            obtain rfl := Option.some.inj H
            go_enter Try.func12, Try.ntmps12
            go_wp2_with (first | ((with_reducible refine gate_callee (f := 14) rfl ?_); refine goesL_ (some 4) rfl rfl Try.func14 (by kernel_rfl) rfl #[.string (⟨#[226, 130, 65]⟩ : ByteArray)] rfl (by (try simp only [List.map_toArray, List.map_cons, List.map_nil]); first | done | rfl | (simp only [List.length_drop, List.length_take]; rfl)) ?_; (with_reducible refine (utf_Decode.calls (⟨#[226, 130, 65]⟩ : ByteArray) t112 t113 _ A1.out).mono ?_); rintro e w42 ⟨v114, v116, rfl, ho0, ho1, hb⟩; refine ⟨_, rfl, ?_⟩; have n0_ := Aside0.mk (Kd.R_lower ho0 (below_size (by repeat (first | (with_reducible first | exact HB.out | apply below_alloc | apply pw_below_drewN | apply below_drew1) | exact HB.out)))); have n1_ := Aside0.mk (Kd.R_lower ho1 (below_size (by repeat (first | (with_reducible first | exact HB.out | apply below_alloc | apply pw_below_drewN | apply below_drew1) | exact HB.out)))); have n2_ := Aside0.mk (below_step (by repeat (first | (with_reducible first | exact HB.out | apply below_alloc | apply pw_below_drewN | apply below_drew1) | exact HB.out)) hb); clear HB; have HO115 := n0_; have HO117 := n1_; have HB := n2_; clear n0_ n1_ n2_; (try clear hb); (try clear hb2); (try clear hk); (try clear hi); (try clear ho0); (try clear ho1); obtain ⟨Ao43, co43, eo43⟩ := Kd.R_slice HO115.out; subst eo43; have p118 : 0 ≤ (0 : Int) := (by omega); have q118 : 0 < (t112.length : Int) := of_decide_eq_true (by first | (with_reducible assumption) | assumption); obtain ⟨ad118, e118, hx118_0⟩ := Kd.at_int (Kd.R_reads' HO115.out).2.2 0 p118 q118; cases e118; have qi118 : (0 < t112.length) = True := eq_true (by omega); (try rw [show ((0 : Int)).toNat = 0 from rfl] at hx118_0); (try rw [Addr.add_zero'] at hx118_0); replace p118 := eq_true p118; replace q118 := eq_true q118; have p119 : 0 ≤ (1 : Int) := (by omega); have q119 : 1 < (t112.length : Int) := of_decide_eq_true (by first | (with_reducible assumption) | assumption); obtain ⟨ad119, e119, hx119_0⟩ := Kd.at_int (Kd.R_reads' HO115.out).2.2 1 p119 q119; obtain rfl : ad118 = ad119 := (by injection e119); (try simp only [show (1 : Int).toNat = 1 from rfl, Nat.reduceMul, Nat.reduceEqDiff, Go.Addr.add, ↓reduceIte] at hx119_0); have qi119 : (1 < t112.length) = True := eq_true (by omega); (try rw [show ((1 : Int)).toNat = 1 from rfl] at hx119_0); replace p119 := eq_true p119; replace q119 := eq_true q119))
            go_ret
            exact ⟨by first | rfl | (simp [errW_none, errW_some] <;> rfl) | (simp [*, errW_none, errW_some] <;> rfl), by repeat (first | (with_reducible first | exact HB.out | apply below_alloc | apply pw_below_drewN | apply below_drew1) | exact HB.out)⟩
        · rw [if_neg c5] at H
          exact absurd H (by simp)
      · rw [if_neg c4] at H
        have c4b0 : ((rd t112 0) == 65533) = false := beq_eq_false_iff_ne.mpr c4
        have c4b1 : ((rd t112 0) != 65533) = true := bne_iff_ne.mpr c4
        obtain rfl := Option.some.inj H
        go_enter Try.func12, Try.ntmps12
        go_wp2_with (first | ((with_reducible refine gate_callee (f := 14) rfl ?_); refine goesL_ (some 4) rfl rfl Try.func14 (by kernel_rfl) rfl #[.string (⟨#[226, 130, 65]⟩ : ByteArray)] rfl (by (try simp only [List.map_toArray, List.map_cons, List.map_nil]); first | done | rfl | (simp only [List.length_drop, List.length_take]; rfl)) ?_; (with_reducible refine (utf_Decode.calls (⟨#[226, 130, 65]⟩ : ByteArray) t112 t113 _ A1.out).mono ?_); rintro e w44 ⟨v114, v116, rfl, ho0, ho1, hb⟩; refine ⟨_, rfl, ?_⟩; have n0_ := Aside0.mk (Kd.R_lower ho0 (below_size (by repeat (first | (with_reducible first | exact HB.out | apply below_alloc | apply pw_below_drewN | apply below_drew1) | exact HB.out)))); have n1_ := Aside0.mk (Kd.R_lower ho1 (below_size (by repeat (first | (with_reducible first | exact HB.out | apply below_alloc | apply pw_below_drewN | apply below_drew1) | exact HB.out)))); have n2_ := Aside0.mk (below_step (by repeat (first | (with_reducible first | exact HB.out | apply below_alloc | apply pw_below_drewN | apply below_drew1) | exact HB.out)) hb); clear HB; have HO115 := n0_; have HO117 := n1_; have HB := n2_; clear n0_ n1_ n2_; (try clear hb); (try clear hb2); (try clear hk); (try clear hi); (try clear ho0); (try clear ho1); obtain ⟨Ao45, co45, eo45⟩ := Kd.R_slice HO115.out; subst eo45; have p118 : 0 ≤ (0 : Int) := (by omega); have q118 : 0 < (t112.length : Int) := of_decide_eq_true (by first | (with_reducible assumption) | assumption); obtain ⟨ad118, e118, hx118_0⟩ := Kd.at_int (Kd.R_reads' HO115.out).2.2 0 p118 q118; cases e118; have qi118 : (0 < t112.length) = True := eq_true (by omega); (try rw [show ((0 : Int)).toNat = 0 from rfl] at hx118_0); (try rw [Addr.add_zero'] at hx118_0); replace p118 := eq_true p118; replace q118 := eq_true q118))
        go_ret
        exact ⟨by first | rfl | (simp [errW_none, errW_some] <;> rfl) | (simp [*, errW_none, errW_some] <;> rfl), by repeat (first | (with_reducible first | exact HB.out | apply below_alloc | apply pw_below_drewN | apply below_drew1) | exact HB.out)⟩
    · rw [if_neg c3] at H
      exact absurd H (by simp)
  · rw [if_neg c2] at H
    have c2b0 : ((t112.length : Int) == 2) = false := beq_eq_false_iff_ne.mpr c2
    have c2b1 : ((t112.length : Int) != 2) = true := bne_iff_ne.mpr c2
    obtain rfl := Option.some.inj H
    go_enter Try.func12, Try.ntmps12
    go_wp2_with (first | ((with_reducible refine gate_callee (f := 14) rfl ?_); refine goesL_ (some 4) rfl rfl Try.func14 (by kernel_rfl) rfl #[.string (⟨#[226, 130, 65]⟩ : ByteArray)] rfl (by (try simp only [List.map_toArray, List.map_cons, List.map_nil]); first | done | rfl | (simp only [List.length_drop, List.length_take]; rfl)) ?_; (with_reducible refine (utf_Decode.calls (⟨#[226, 130, 65]⟩ : ByteArray) t112 t113 _ A1.out).mono ?_); rintro e w46 ⟨v114, v116, rfl, ho0, ho1, hb⟩; refine ⟨_, rfl, ?_⟩; have n0_ := Aside0.mk (Kd.R_lower ho0 (below_size (by repeat (first | (with_reducible first | exact HB.out | apply below_alloc | apply pw_below_drewN | apply below_drew1) | exact HB.out)))); have n1_ := Aside0.mk (Kd.R_lower ho1 (below_size (by repeat (first | (with_reducible first | exact HB.out | apply below_alloc | apply pw_below_drewN | apply below_drew1) | exact HB.out)))); have n2_ := Aside0.mk (below_step (by repeat (first | (with_reducible first | exact HB.out | apply below_alloc | apply pw_below_drewN | apply below_drew1) | exact HB.out)) hb); clear HB; have HO115 := n0_; have HO117 := n1_; have HB := n2_; clear n0_ n1_ n2_; (try clear hb); (try clear hb2); (try clear hk); (try clear hi); (try clear ho0); (try clear ho1); obtain ⟨Ao47, co47, eo47⟩ := Kd.R_slice HO115.out; subst eo47))
    go_ret
    exact ⟨by first | rfl | (simp [errW_none, errW_some] <;> rfl) | (simp [*, errW_none, errW_some] <;> rfl), by repeat (first | (with_reducible first | exact HB.out | apply below_alloc | apply pw_below_drewN | apply below_drew1) | exact HB.out)⟩

/-! ### hyphenlaw2_within: function 17 -/
def hyphenlaw2_within.f (a0 : Int) (a1 : Int) : Option (Int) := if a1 = 0 then (none) else (if (Int.tmod a0 a1) < 0 then (some (wrap64 ((Int.tmod a0 a1) + a1))) else (some (Int.tmod a0 a1)))
set_option maxHeartbeats 8000000 in
set_option maxRecDepth 100000 in
theorem hyphenlaw2_within.calls (a0 : Int) (a1 : Int) (r : Int) (w : World) (h : hyphenlaw2_within.f a0 a1 = some r) :
    Calls Try.prog 17 #[.int .i64 a0, .int .i64 a1] w fun e w' => e = .returned (.int .i64 r) ∧ Drawn0 w w' := by
  have H : (if a1 = 0 then (none) else (if (Int.tmod a0 a1) < 0 then (some (wrap64 ((Int.tmod a0 a1) + a1))) else (some (Int.tmod a0 a1)))) = some r := h
  clear h
  by_cases c3 : a1 = 0
  · rw [if_pos c3] at H
    exact absurd H (by simp)
  · rw [if_neg c3] at H
    have c3b0 : (a1 == 0) = false := beq_eq_false_iff_ne.mpr c3
    have c3b1 : (a1 != 0) = true := bne_iff_ne.mpr c3
    by_cases c4 : (Int.tmod a0 a1) < 0
    · rw [if_pos c4] at H
      have c4b0 : decide ((Int.tmod a0 a1) < 0) = true := decide_eq_true c4
      clear c4
      obtain rfl := Option.some.inj H
      go_enter Try.func17, Try.ntmps17
      go_wp2
      go_ret
      exact ⟨by first | rfl | (simp; done) | (simp [*]; done), by repeat (first | exact Drawn0.refl _ | apply Drawn0.step)⟩
    · rw [if_neg c4] at H
      have c4b0 : decide ((Int.tmod a0 a1) < 0) = false := decide_eq_false c4
      clear c4
      obtain rfl := Option.some.inj H
      go_enter Try.func17, Try.ntmps17
      go_wp2
      go_ret
      exact ⟨by first | rfl | (simp; done) | (simp [*]; done), by repeat (first | exact Drawn0.refl _ | apply Drawn0.step)⟩

/-! ### hyphenlaw2_Bytes: function 13 -/
mutual
def hyphenlaw2_Bytes.l0 : Nat → List Int → List Int → List ByteArray → ByteArray → Int → Option (ByteArray)
  | 0, _, _, _, _, _ => none
  | k + 1, x0, x1, x5, x6, x7 => if x7 < (x0.length : Int) then (if x7 < 40 then (hyphenlaw2_Bytes.j1 k x0 x1 x5 x6 x7 (decide ((x6.size : Int) < 1000))) else (hyphenlaw2_Bytes.j1 k x0 x1 x5 x6 x7 false)) else (hyphenlaw2_Bytes.j1 k x0 x1 x5 x6 x7 false)
def hyphenlaw2_Bytes.j1 : Nat → List Int → List Int → List ByteArray → ByteArray → Int → Bool → Option (ByteArray)
  | 0, _, _, _, _, _, _ => none
  | k + 1, x0, x1, x5, x6, x7, x21 => if x21 = true then (if 0 ≤ x7 then (if x7 < (x0.length : Int) then ((hyphenlaw2_within.f (rd x0 x7) (x5.length : Int)).bind fun t131 => (if 0 ≤ t131 then (if t131 < (x5.length : Int) then (if x6.size + (rdOf ByteArray.empty x5 t131).size ≤ 9223372036854775807 then ((hyphenlaw2_within.f (wrap64 (Int.tdiv (rd x0 x7) 32)) 8).bind fun t134 => (if t134 = 0 then ((hyphenlaw2_within.f (wrap64 (Int.tdiv (rd x0 x7) 256)) (wrap64 ((x1.length : Int) + 1))).bind fun t136 => (if 0 ≤ t136 then (if t136 ≤ (x1.length : Int) then (if (x6 ++ (rdOf ByteArray.empty x5 t131)).size + (strOfNums (x1.take (t136 : Int).toNat)).size ≤ 9223372036854775807 then (hyphenlaw2_Bytes.l0 k x0 x1 x5 ((x6 ++ (rdOf ByteArray.empty x5 t131)) ++ (strOfNums (x1.take (t136 : Int).toNat))) (wrap64 (x7 + 1))) else (none)) else (none)) else (none))) else (hyphenlaw2_Bytes.l0 k x0 x1 x5 (x6 ++ (rdOf ByteArray.empty x5 t131)) (wrap64 (x7 + 1))))) else (none)) else (none)) else (none))) else (none)) else (none)) else (some x6)
end
def hyphenlaw2_Bytes.f (k : Nat) (l0 : List Int) (l1 : List Int) : Option (ByteArray) := hyphenlaw2_Bytes.l0 k l0 l1 (([(⟨#[97]⟩ : ByteArray), (⟨#[90]⟩ : ByteArray), (⟨#[32]⟩ : ByteArray), (⟨#[195, 164]⟩ : ByteArray), (⟨#[226, 130, 172]⟩ : ByteArray), (⟨#[228, 184, 128]⟩ : ByteArray), (⟨#[240, 159, 152, 128]⟩ : ByteArray), (⟨#[239, 191, 189]⟩ : ByteArray), (⟨#[128]⟩ : ByteArray), (⟨#[255]⟩ : ByteArray), (⟨#[195]⟩ : ByteArray), (⟨#[192, 128]⟩ : ByteArray), (⟨#[226, 130]⟩ : ByteArray), (⟨#[224, 128]⟩ : ByteArray), (⟨#[237, 160, 128]⟩ : ByteArray), (⟨#[240, 159]⟩ : ByteArray), (⟨#[240, 159, 152]⟩ : ByteArray), (⟨#[244, 144]⟩ : ByteArray), (⟨#[245]⟩ : ByteArray), (⟨#[224, 160]⟩ : ByteArray)] : List ByteArray)) (⟨#[]⟩ : ByteArray) 0
theorem hyphenlaw2_Bytes.mono_l : ∀ k, (∀ y0 y1 y2 y3 y4, LeO (hyphenlaw2_Bytes.l0 k y0 y1 y2 y3 y4) (hyphenlaw2_Bytes.l0 (k + 1) y0 y1 y2 y3 y4)) ∧ (∀ y0 y1 y2 y3 y4 y5, LeO (hyphenlaw2_Bytes.j1 k y0 y1 y2 y3 y4 y5) (hyphenlaw2_Bytes.j1 (k + 1) y0 y1 y2 y3 y4 y5))
  | 0 => ⟨fun _ _ _ _ _ r h => by simp [hyphenlaw2_Bytes.l0] at h, fun _ _ _ _ _ _ r h => by simp [hyphenlaw2_Bytes.j1] at h⟩
  | k + 1 => by
    obtain ⟨ih0, ih1⟩ := hyphenlaw2_Bytes.mono_l k
    refine ⟨?_, ?_⟩
    · intro y0 y1 y2 y3 y4
      unfold hyphenlaw2_Bytes.l0
      repeat' first
      | (with_reducible exact ih0 _ _ _ _ _)
      | (with_reducible exact ih1 _ _ _ _ _ _)
      | (with_reducible exact LeO.refl _)
      | (with_reducible exact LeO.none _)
      | (with_reducible refine LeO.ite ?_ ?_)
      | (with_reducible refine LeO.bind ?_ (fun _ => ?_))
      | exact ih0 _ _ _ _ _
      | exact ih1 _ _ _ _ _ _
      | exact LeO.none _
      | refine LeO.ite ?_ ?_
      | refine LeO.bind ?_ (fun _ => ?_)
    · intro y0 y1 y2 y3 y4 y5
      unfold hyphenlaw2_Bytes.j1
      repeat' first
      | (with_reducible exact ih0 _ _ _ _ _)
      | (with_reducible exact ih1 _ _ _ _ _ _)
      | (with_reducible exact LeO.refl _)
      | (with_reducible exact LeO.none _)
      | (with_reducible refine LeO.ite ?_ ?_)
      | (with_reducible refine LeO.bind ?_ (fun _ => ?_))
      | exact ih0 _ _ _ _ _
      | exact ih1 _ _ _ _ _ _
      | exact LeO.none _
      | refine LeO.ite ?_ ?_
      | refine LeO.bind ?_ (fun _ => ?_)
theorem hyphenlaw2_Bytes.mono : ∀ a0 a1 k, LeO (hyphenlaw2_Bytes.f k a0 a1) (hyphenlaw2_Bytes.f (k + 1) a0 a1) := by
  intro a0 a1 k
  obtain ⟨ih0, ih1⟩ := hyphenlaw2_Bytes.mono_l k
  unfold hyphenlaw2_Bytes.f
  repeat' first
      | (with_reducible exact ih0 _ _ _ _ _)
      | (with_reducible exact ih1 _ _ _ _ _ _)
      | (with_reducible exact LeO.refl _)
      | (with_reducible exact LeO.none _)
      | (with_reducible refine LeO.ite ?_ ?_)
      | (with_reducible refine LeO.bind ?_ (fun _ => ?_))
      | exact ih0 _ _ _ _ _
      | exact ih1 _ _ _ _ _ _
      | exact LeO.none _
      | refine LeO.ite ?_ ?_
      | refine LeO.bind ?_ (fun _ => ?_)
set_option maxHeartbeats 8000000 in
set_option maxRecDepth 100000 in
theorem hyphenlaw2_Bytes.calls (k : Nat) (A0 : Option Addr) (c0 : Nat) (l0 : List Int) (A1 : Option Addr) (c1 : Nat) (l1 : List Int) (r : ByteArray) (w : World) (hr0 : Kd.C (Kd.int .i64) w A0 l0.length l0) (hc0 : l0.length ≤ c0) (hr1 : Kd.C (Kd.int .u8) w A1 l1.length l1) (hc1 : l1.length ≤ c1) (h : hyphenlaw2_Bytes.f k l0 l1 = some r) :
    Calls Try.prog 13 #[.slice A0 l0.length c0, .slice A1 l1.length c1] w fun e w' => e = .returned (.string r) ∧ Below w.heap.size w w' := by
  have HR0 := Aside0.mk hr0
  have HC0 := Aside0.mk hc0
  clear hr0 hc0
  have HR1 := Aside0.mk hr1
  have HC1 := Aside0.mk hc1
  clear hr1 hc1
  have HB := Aside0.mk (Below.refl w.heap.size w)
  have H : (hyphenlaw2_Bytes.l0 k l0 l1 (([(⟨#[97]⟩ : ByteArray), (⟨#[90]⟩ : ByteArray), (⟨#[32]⟩ : ByteArray), (⟨#[195, 164]⟩ : ByteArray), (⟨#[226, 130, 172]⟩ : ByteArray), (⟨#[228, 184, 128]⟩ : ByteArray), (⟨#[240, 159, 152, 128]⟩ : ByteArray), (⟨#[239, 191, 189]⟩ : ByteArray), (⟨#[128]⟩ : ByteArray), (⟨#[255]⟩ : ByteArray), (⟨#[195]⟩ : ByteArray), (⟨#[192, 128]⟩ : ByteArray), (⟨#[226, 130]⟩ : ByteArray), (⟨#[224, 128]⟩ : ByteArray), (⟨#[237, 160, 128]⟩ : ByteArray), (⟨#[240, 159]⟩ : ByteArray), (⟨#[240, 159, 152]⟩ : ByteArray), (⟨#[244, 144]⟩ : ByteArray), (⟨#[245]⟩ : ByteArray), (⟨#[224, 160]⟩ : ByteArray)] : List ByteArray)) (⟨#[]⟩ : ByteArray) 0) = some r := h
  clear h
  obtain ⟨y127, hy127⟩ : ∃ y_ : List ByteArray, y_ = (([(⟨#[97]⟩ : ByteArray), (⟨#[90]⟩ : ByteArray), (⟨#[32]⟩ : ByteArray), (⟨#[195, 164]⟩ : ByteArray), (⟨#[226, 130, 172]⟩ : ByteArray), (⟨#[228, 184, 128]⟩ : ByteArray), (⟨#[240, 159, 152, 128]⟩ : ByteArray), (⟨#[239, 191, 189]⟩ : ByteArray), (⟨#[128]⟩ : ByteArray), (⟨#[255]⟩ : ByteArray), (⟨#[195]⟩ : ByteArray), (⟨#[192, 128]⟩ : ByteArray), (⟨#[226, 130]⟩ : ByteArray), (⟨#[224, 128]⟩ : ByteArray), (⟨#[237, 160, 128]⟩ : ByteArray), (⟨#[240, 159]⟩ : ByteArray), (⟨#[240, 159, 152]⟩ : ByteArray), (⟨#[244, 144]⟩ : ByteArray), (⟨#[245]⟩ : ByteArray), (⟨#[224, 160]⟩ : ByteArray)] : List ByteArray)) := ⟨_, rfl⟩
  replace H : (hyphenlaw2_Bytes.l0 k l0 l1 y127 (⟨#[]⟩ : ByteArray) 0) = some r := by first | (rw [hy127]; with_reducible exact H) | (have H2_ := (Option.bind_some _ _).symm.trans H; rw [hy127]; with_reducible exact H2_) | (have H2_ := (Option.bind_some _ _).symm.trans H; with_reducible exact H2_) | with_reducible exact H | (rw [hy127]; exact H) | exact H
  have Ny127 := Aside0.mk hy127
  clear hy127
  have H' := Aside0.mk H
  clear H
  go_enter Try.func13, Try.ntmps13
  go_wp2_with (first | ((with_reducible refine gate_dst (N := 8) rfl ?_); (try (refine gate_guard (by rfl) ?_; dsimp only)); refine Kd.R_lit Kd.string _ 9 ?hg (N := 8) ?hd (xs := ([(⟨#[97]⟩ : ByteArray), (⟨#[90]⟩ : ByteArray), (⟨#[32]⟩ : ByteArray), (⟨#[195, 164]⟩ : ByteArray), (⟨#[226, 130, 172]⟩ : ByteArray), (⟨#[228, 184, 128]⟩ : ByteArray), (⟨#[240, 159, 152, 128]⟩ : ByteArray), (⟨#[239, 191, 189]⟩ : ByteArray), (⟨#[128]⟩ : ByteArray), (⟨#[255]⟩ : ByteArray), (⟨#[195]⟩ : ByteArray), (⟨#[192, 128]⟩ : ByteArray), (⟨#[226, 130]⟩ : ByteArray), (⟨#[224, 128]⟩ : ByteArray), (⟨#[237, 160, 128]⟩ : ByteArray), (⟨#[240, 159]⟩ : ByteArray), (⟨#[240, 159, 152]⟩ : ByteArray), (⟨#[244, 144]⟩ : ByteArray), (⟨#[245]⟩ : ByteArray), (⟨#[224, 160]⟩ : ByteArray)] : List ByteArray)) (inner := [.string (⟨#[97]⟩ : ByteArray), .string (⟨#[90]⟩ : ByteArray), .string (⟨#[32]⟩ : ByteArray), .string (⟨#[195, 164]⟩ : ByteArray), .string (⟨#[226, 130, 172]⟩ : ByteArray), .string (⟨#[228, 184, 128]⟩ : ByteArray), .string (⟨#[240, 159, 152, 128]⟩ : ByteArray), .string (⟨#[239, 191, 189]⟩ : ByteArray), .string (⟨#[128]⟩ : ByteArray), .string (⟨#[255]⟩ : ByteArray), .string (⟨#[195]⟩ : ByteArray), .string (⟨#[192, 128]⟩ : ByteArray), .string (⟨#[226, 130]⟩ : ByteArray), .string (⟨#[224, 128]⟩ : ByteArray), .string (⟨#[237, 160, 128]⟩ : ByteArray), .string (⟨#[240, 159]⟩ : ByteArray), .string (⟨#[240, 159, 152]⟩ : ByteArray), .string (⟨#[244, 144]⟩ : ByteArray), .string (⟨#[245]⟩ : ByteArray), .string (⟨#[224, 160]⟩ : ByteArray)]) (ok := fun _ => True) (okp := fun _ => True) ?hr ?hp (fun _ hk => hk) trivial (Below.refl _ _) (Nat.le_refl _) (by simp) ?_; (case hd => rfl); (case hg => rfl); (case hr => first | (go_simp; done) | (go_simp; rfl)); (case hp => exact (Reps.one (show Kd.M Kd.string _ _ _ (⟨#[97]⟩ : ByteArray) [.string (⟨#[97]⟩ : ByteArray)] from rfl) (Reps.one (show Kd.M Kd.string _ _ _ (⟨#[90]⟩ : ByteArray) [.string (⟨#[90]⟩ : ByteArray)] from rfl) (Reps.one (show Kd.M Kd.string _ _ _ (⟨#[32]⟩ : ByteArray) [.string (⟨#[32]⟩ : ByteArray)] from rfl) (Reps.one (show Kd.M Kd.string _ _ _ (⟨#[195, 164]⟩ : ByteArray) [.string (⟨#[195, 164]⟩ : ByteArray)] from rfl) (Reps.one (show Kd.M Kd.string _ _ _ (⟨#[226, 130, 172]⟩ : ByteArray) [.string (⟨#[226, 130, 172]⟩ : ByteArray)] from rfl) (Reps.one (show Kd.M Kd.string _ _ _ (⟨#[228, 184, 128]⟩ : ByteArray) [.string (⟨#[228, 184, 128]⟩ : ByteArray)] from rfl) (Reps.one (show Kd.M Kd.string _ _ _ (⟨#[240, 159, 152, 128]⟩ : ByteArray) [.string (⟨#[240, 159, 152, 128]⟩ : ByteArray)] from rfl) (Reps.one (show Kd.M Kd.string _ _ _ (⟨#[239, 191, 189]⟩ : ByteArray) [.string (⟨#[239, 191, 189]⟩ : ByteArray)] from rfl) (Reps.one (show Kd.M Kd.string _ _ _ (⟨#[128]⟩ : ByteArray) [.string (⟨#[128]⟩ : ByteArray)] from rfl) (Reps.one (show Kd.M Kd.string _ _ _ (⟨#[255]⟩ : ByteArray) [.string (⟨#[255]⟩ : ByteArray)] from rfl) (Reps.one (show Kd.M Kd.string _ _ _ (⟨#[195]⟩ : ByteArray) [.string (⟨#[195]⟩ : ByteArray)] from rfl) (Reps.one (show Kd.M Kd.string _ _ _ (⟨#[192, 128]⟩ : ByteArray) [.string (⟨#[192, 128]⟩ : ByteArray)] from rfl) (Reps.one (show Kd.M Kd.string _ _ _ (⟨#[226, 130]⟩ : ByteArray) [.string (⟨#[226, 130]⟩ : ByteArray)] from rfl) (Reps.one (show Kd.M Kd.string _ _ _ (⟨#[224, 128]⟩ : ByteArray) [.string (⟨#[224, 128]⟩ : ByteArray)] from rfl) (Reps.one (show Kd.M Kd.string _ _ _ (⟨#[237, 160, 128]⟩ : ByteArray) [.string (⟨#[237, 160, 128]⟩ : ByteArray)] from rfl) (Reps.one (show Kd.M Kd.string _ _ _ (⟨#[240, 159]⟩ : ByteArray) [.string (⟨#[240, 159]⟩ : ByteArray)] from rfl) (Reps.one (show Kd.M Kd.string _ _ _ (⟨#[240, 159, 152]⟩ : ByteArray) [.string (⟨#[240, 159, 152]⟩ : ByteArray)] from rfl) (Reps.one (show Kd.M Kd.string _ _ _ (⟨#[244, 144]⟩ : ByteArray) [.string (⟨#[244, 144]⟩ : ByteArray)] from rfl) (Reps.one (show Kd.M Kd.string _ _ _ (⟨#[245]⟩ : ByteArray) [.string (⟨#[245]⟩ : ByteArray)] from rfl) (Reps.one (show Kd.M Kd.string _ _ _ (⟨#[224, 160]⟩ : ByteArray) [.string (⟨#[224, 160]⟩ : ByteArray)] from rfl) (Reps.none _ _)))))))))))))))))))))); intro v128 w3 ho4 hb hg_ hnew_; clear hg_ hnew_; (first | rw [← Ny127.out] at ho4 | (simp only [Int.reduceToNat] at ho4; rw [← Ny127.out] at ho4)); have n0_ := Aside0.mk (Kd.R_lower ho4 (below_size (by repeat (first | (with_reducible first | exact HB.out | apply below_alloc | apply pw_below_drewN | apply below_drew1) | exact HB.out)))); have n1_ := Aside0.mk (below_step (by repeat (first | (with_reducible first | exact HB.out | apply below_alloc | apply pw_below_drewN | apply below_drew1) | exact HB.out)) hb); clear HB; have HO129 := n0_; have HB := n1_; clear n0_ n1_; clear hb ho4))
  go_loopg [6, 7] k (fun kq v6 v7 w' => ∃ (x6_1 : ByteArray) (x7_1 : Int), v6 = .string x6_1 ∧ v7 = .int .i64 x7_1 ∧ Aside0 (hyphenlaw2_Bytes.l0 kq l0 l1 y127 x6_1 x7_1 = some r) ∧ Aside0 (kq ≤ k) ∧ Aside0 (Kd.R Kd.string 9 w' w.heap.size (fun _ => True) v128 y127) ∧ Aside0 (Below w.heap.size w w'))
  case atStart => exact ⟨((⟨#[]⟩ : ByteArray)), (0), (by first | rfl | (simp; done) | (simp [*]; done)), (by first | rfl | (simp; done) | (simp [*]; done)), H', ⟨Nat.le_refl _⟩, ⟨by (with_reducible repeat (first | apply Kd.R_alloc | apply Kd.R_drewN | apply Kd.R_drew)); exact HO129.out⟩, ⟨by repeat (first | (with_reducible first | exact HB.out | apply below_alloc | apply pw_below_drewN | apply below_drew1) | exact HB.out)⟩⟩
  case round =>
    clear H'
    try clear c1
    try clear p2
    obtain ⟨x6_1, x7_1, rfl, rfl, HA, HK1, HO_5, HB⟩ := hrel
    cases gk with
    | zero => exact absurd HA.out (by simp [hyphenlaw2_Bytes.l0])
    | succ k1 =>
      have H := HA.out
      clear HA
      simp only [hyphenlaw2_Bytes.l0] at H
      have HC5 := Aside0.mk H
      clear H
      go_upto_region 4 with (fail)
      go_cut [21] (fun v21 wc => ∃ (kq : Nat) (x21_4 : Bool), v21 = .bool x21_4 ∧ Aside0 (hyphenlaw2_Bytes.j1 kq l0 l1 y127 x6_1 x7_1 x21_4 = some r) ∧ Aside0 (kq ≤ k1) ∧ Aside0 (Kd.R Kd.string 9 wc w.heap.size (fun _ => True) v128 y127) ∧ Aside0 (Below w.heap.size w wc))
      case first =>
        have H := HC5.out
        clear HC5
        by_cases c6 : x7_1 < (l0.length : Int)
        · rw [if_pos c6] at H
          have c6b0 : decide (x7_1 < (l0.length : Int)) = true := decide_eq_true c6
          clear c6
          (first | rw [c6b0] | (simp only [i64_w, i32_w]; rw [c6b0]) | skip)
          by_cases c7 : x7_1 < 40
          · rw [if_pos c7] at H
            have c7b0 : decide (x7_1 < 40) = true := decide_eq_true c7
            clear c7
            have H' := Aside0.mk H
            clear H
            go_wp2
            go_meet
            case rel => exact ⟨_, (decide ((x6_1.size : Int) < 1000)), (by first | rfl | (simp; done) | (simp [*]; done)), H', ⟨by have := HK1.out; first | omega | exact Nat.le_refl _⟩, ⟨by (with_reducible repeat (first | apply Kd.R_alloc | apply Kd.R_drewN | apply Kd.R_drew)); exact HO_5.out⟩, ⟨by repeat (first | (with_reducible first | exact HB.out | apply below_alloc | apply pw_below_drewN | apply below_drew1) | exact HB.out)⟩⟩
          · rw [if_neg c7] at H
            have c7b0 : decide (x7_1 < 40) = false := decide_eq_false c7
            clear c7
            have H' := Aside0.mk H
            clear H
            go_wp2
            go_meet
            case rel => exact ⟨_, (false), (by first | rfl | (simp; done) | (simp [*]; done)), H', ⟨by have := HK1.out; first | omega | exact Nat.le_refl _⟩, ⟨by (with_reducible repeat (first | apply Kd.R_alloc | apply Kd.R_drewN | apply Kd.R_drew)); exact HO_5.out⟩, ⟨by repeat (first | (with_reducible first | exact HB.out | apply below_alloc | apply pw_below_drewN | apply below_drew1) | exact HB.out)⟩⟩
        · rw [if_neg c6] at H
          have c6b0 : decide (x7_1 < (l0.length : Int)) = false := decide_eq_false c6
          clear c6
          (first | rw [c6b0] | (simp only [i64_w, i32_w]; rw [c6b0]) | skip)
          have H' := Aside0.mk H
          clear H
          go_wp2
          go_meet
          case rel => exact ⟨_, (false), (by first | rfl | (simp; done) | (simp [*]; done)), H', ⟨by have := HK1.out; first | omega | exact Nat.le_refl _⟩, ⟨by (with_reducible repeat (first | apply Kd.R_alloc | apply Kd.R_drewN | apply Kd.R_drew)); exact HO_5.out⟩, ⟨by repeat (first | (with_reducible first | exact HB.out | apply below_alloc | apply pw_below_drewN | apply below_drew1) | exact HB.out)⟩⟩
      case rest =>
        clear HC5
        try clear c1
        try clear p2
        try clear c6
        try clear c6b0
        try clear c7
        try clear c7b0
        try clear p2
        obtain ⟨kq, x21_4, rfl, HA, HJ4, HO_5, HB⟩ := hcut
        cases kq with
        | zero => exact absurd HA.out (by simp [hyphenlaw2_Bytes.j1])
        | succ kj4 =>
          have H := HA.out
          clear HA
          simp only [hyphenlaw2_Bytes.j1] at H
          by_cases c8 : x21_4 = true
          · subst c8
            have H1 : (if 0 ≤ x7_1 then (if x7_1 < (l0.length : Int) then ((hyphenlaw2_within.f (rd l0 x7_1) (y127.length : Int)).bind fun t131 => (if 0 ≤ t131 then (if t131 < (y127.length : Int) then (if x6_1.size + (rdOf ByteArray.empty y127 t131).size ≤ 9223372036854775807 then ((hyphenlaw2_within.f (wrap64 (Int.tdiv (rd l0 x7_1) 32)) 8).bind fun t134 => (if t134 = 0 then ((hyphenlaw2_within.f (wrap64 (Int.tdiv (rd l0 x7_1) 256)) (wrap64 ((l1.length : Int) + 1))).bind fun t136 => (if 0 ≤ t136 then (if t136 ≤ (l1.length : Int) then (if (x6_1 ++ (rdOf ByteArray.empty y127 t131)).size + (strOfNums (l1.take (t136 : Int).toNat)).size ≤ 9223372036854775807 then (hyphenlaw2_Bytes.l0 kj4 l0 l1 y127 ((x6_1 ++ (rdOf ByteArray.empty y127 t131)) ++ (strOfNums (l1.take (t136 : Int).toNat))) (wrap64 (x7_1 + 1))) else (none)) else (none)) else (none))) else (hyphenlaw2_Bytes.l0 kj4 l0 l1 y127 (x6_1 ++ (rdOf ByteArray.empty y127 t131)) (wrap64 (x7_1 + 1))))) else (none)) else (none)) else (none))) else (none)) else (none)) = some r := by rw [if_pos rfl] at H; exact H
            clear H
            have H := H1
            clear H1
            by_cases c9 : 0 ≤ x7_1
            · rw [if_pos c9] at H
              have c9b0 : decide (0 ≤ x7_1) = true := decide_eq_true c9
              clear c9
              by_cases c10 : x7_1 < (l0.length : Int)
              · rw [if_pos c10] at H
                have c10b0 : decide (x7_1 < (l0.length : Int)) = true := decide_eq_true c10
                clear c10
                replace H := Option.bind_eq_some_iff.mp H
                obtain ⟨t131, A110, H⟩ := H
                replace H : (if 0 ≤ t131 then (if t131 < (y127.length : Int) then (if x6_1.size + (rdOf ByteArray.empty y127 t131).size ≤ 9223372036854775807 then ((hyphenlaw2_within.f (wrap64 (Int.tdiv (rd l0 x7_1) 32)) 8).bind fun t134 => (if t134 = 0 then ((hyphenlaw2_within.f (wrap64 (Int.tdiv (rd l0 x7_1) 256)) (wrap64 ((l1.length : Int) + 1))).bind fun t136 => (if 0 ≤ t136 then (if t136 ≤ (l1.length : Int) then (if (x6_1 ++ (rdOf ByteArray.empty y127 t131)).size + (strOfNums (l1.take (t136 : Int).toNat)).size ≤ 9223372036854775807 then (hyphenlaw2_Bytes.l0 kj4 l0 l1 y127 ((x6_1 ++ (rdOf ByteArray.empty y127 t131)) ++ (strOfNums (l1.take (t136 : Int).toNat))) (wrap64 (x7_1 + 1))) else (none)) else (none)) else (none))) else (hyphenlaw2_Bytes.l0 kj4 l0 l1 y127 (x6_1 ++ (rdOf ByteArray.empty y127 t131)) (wrap64 (x7_1 + 1))))) else (none)) else (none)) else (none)) = some r := H
                have A11 := Aside0.mk A110
                clear A110
                by_cases c12 : 0 ≤ t131
                · rw [if_pos c12] at H
                  have c12b0 : decide (0 ≤ t131) = true := decide_eq_true c12
                  clear c12
                  by_cases c13 : t131 < (y127.length : Int)
                  · rw [if_pos c13] at H
                    have c13b0 : decide (t131 < (y127.length : Int)) = true := decide_eq_true c13
                    clear c13
                    by_cases c14 : x6_1.size + (rdOf ByteArray.empty y127 t131).size ≤ 9223372036854775807
                    · rw [if_pos c14] at H
                      have c14b0 := eq_true c14
                      have c14b1 : decide (x6_1.size + (rdOf ByteArray.empty y127 t131).size ≤ 9223372036854775807) = true := decide_eq_true c14
                      try have c14b2 : (9223372036854775807 < x6_1.size + (rdOf ByteArray.empty y127 t131).size) = False := eq_false (Nat.not_lt.2 c14)
                      replace H := Option.bind_eq_some_iff.mp H
                      obtain ⟨t134, A150, H⟩ := H
                      replace H : (if t134 = 0 then ((hyphenlaw2_within.f (wrap64 (Int.tdiv (rd l0 x7_1) 256)) (wrap64 ((l1.length : Int) + 1))).bind fun t136 => (if 0 ≤ t136 then (if t136 ≤ (l1.length : Int) then (if (x6_1 ++ (rdOf ByteArray.empty y127 t131)).size + (strOfNums (l1.take (t136 : Int).toNat)).size ≤ 9223372036854775807 then (hyphenlaw2_Bytes.l0 kj4 l0 l1 y127 ((x6_1 ++ (rdOf ByteArray.empty y127 t131)) ++ (strOfNums (l1.take (t136 : Int).toNat))) (wrap64 (x7_1 + 1))) else (none)) else (none)) else (none))) else (hyphenlaw2_Bytes.l0 kj4 l0 l1 y127 (x6_1 ++ (rdOf ByteArray.empty y127 t131)) (wrap64 (x7_1 + 1)))) = some r := H
                      have A15 := Aside0.mk A150
                      clear A150
                      by_cases c16 : t134 = 0
                      · rw [if_pos c16] at H
                        have c16b0 : (t134 == 0) = true := beq_iff_eq.mpr c16
                        have c16b1 : (t134 != 0) = false := bne_eq_false_iff_eq.mpr c16
                        clear c16
                        replace H := Option.bind_eq_some_iff.mp H
                        obtain ⟨t136, A170, H⟩ := H
                        replace H : (if 0 ≤ t136 then (if t136 ≤ (l1.length : Int) then (if (x6_1 ++ (rdOf ByteArray.empty y127 t131)).size + (strOfNums (l1.take (t136 : Int).toNat)).size ≤ 9223372036854775807 then (hyphenlaw2_Bytes.l0 kj4 l0 l1 y127 ((x6_1 ++ (rdOf ByteArray.empty y127 t131)) ++ (strOfNums (l1.take (t136 : Int).toNat))) (wrap64 (x7_1 + 1))) else (none)) else (none)) else (none)) = some r := H
                        have A17 := Aside0.mk A170
                        clear A170
                        by_cases c18 : 0 ≤ t136
                        · rw [if_pos c18] at H
                          have c18b0 := eq_true c18
                          have c18b1 : decide (0 ≤ t136) = true := decide_eq_true c18
                          clear c18
                          by_cases c19 : t136 ≤ (l1.length : Int)
                          · rw [if_pos c19] at H
                            have c19b0 := eq_true c19
                            have c19b1 : decide (t136 ≤ (l1.length : Int)) = true := decide_eq_true c19
                            clear c19
                            by_cases c20 : (x6_1 ++ (rdOf ByteArray.empty y127 t131)).size + (strOfNums (l1.take (t136 : Int).toNat)).size ≤ 9223372036854775807
                            · rw [if_pos c20] at H
                              have c20b0 := eq_true c20
                              have c20b1 : decide ((x6_1 ++ (rdOf ByteArray.empty y127 t131)).size + (strOfNums (l1.take (t136 : Int).toNat)).size ≤ 9223372036854775807) = true := decide_eq_true c20
                              try have c20b2 : (9223372036854775807 < (x6_1 ++ (rdOf ByteArray.empty y127 t131)).size + (strOfNums (l1.take (t136 : Int).toNat)).size) = False := eq_false (Nat.not_lt.2 c20)
                              have H' := Aside0.mk H
                              clear H
                              have p130 : 0 ≤ (x7_1 : Int) := of_decide_eq_true (by first | (with_reducible assumption) | assumption)
                              have q130 : x7_1 < (l0.length : Int) := of_decide_eq_true (by first | (with_reducible assumption) | assumption)
                              obtain ⟨ad130, e130, hx130_0⟩ := Kd.at_int HR0.out x7_1 p130 q130
                              cases e130
                              replace hx130_0 := (HB.out.cell (World.block_lt_of_cell? w _ hx130_0)).trans hx130_0
                              replace p130 := eq_true p130
                              replace q130 := eq_true q130
                              obtain ⟨Ao21, co21, eo21⟩ := Kd.R_slice HO_5.out
                              subst eo21
                              go_wp2_with (first | ((with_reducible refine gate_callee (f := 17) rfl ?_); refine goesL_ (some 32) rfl rfl Try.func17 (by kernel_rfl) rfl #[.int .i64 (rd l0 x7_1), .int .i64 (y127.length : Int)] rfl (by (try simp only [List.map_toArray, List.map_cons, List.map_nil]); first | done | rfl | (simp only [List.length_drop, List.length_take]; rfl)) ?_; (with_reducible refine (hyphenlaw2_within.calls (rd l0 x7_1) (y127.length : Int) t131 _ A11.out).mono ?_); rintro e w' ⟨rfl, ⟨nd, rfl⟩⟩; refine ⟨_, rfl, ?_⟩; have p132 : 0 ≤ (t131 : Int) := of_decide_eq_true (by first | (with_reducible assumption) | assumption); have q132 : t131 < (y127.length : Int) := of_decide_eq_true (by first | (with_reducible assumption) | assumption); obtain ⟨ad132, e132, hx132_0⟩ := Kd.at_string (Kd.R_reads' HO_5.out).2.2 t131 p132 q132; cases e132; replace p132 := eq_true p132; replace q132 := eq_true q132; have p133 : 0 ≤ (x7_1 : Int) := of_decide_eq_true (by first | (with_reducible assumption) | assumption); have q133 : x7_1 < (l0.length : Int) := of_decide_eq_true (by first | (with_reducible assumption) | assumption); obtain ⟨ad133, e133, hx133_0⟩ := Kd.at_int HR0.out x7_1 p133 q133; obtain rfl : ad130 = ad133 := (by injection e133); replace hx133_0 := (HB.out.cell (World.block_lt_of_cell? w _ hx133_0)).trans hx133_0; replace p133 := eq_true p133; replace q133 := eq_true q133) | ((with_reducible refine gate_callee (f := 17) rfl ?_); refine goesL_ (some 41) rfl rfl Try.func17 (by kernel_rfl) rfl #[.int .i64 (wrap64 (Int.tdiv (rd l0 x7_1) 32)), .int .i64 8] rfl (by (try simp only [List.map_toArray, List.map_cons, List.map_nil]); first | done | rfl | (simp only [List.length_drop, List.length_take]; rfl)) ?_; (with_reducible refine (hyphenlaw2_within.calls (wrap64 (Int.tdiv (rd l0 x7_1) 32)) 8 t134 _ A15.out).mono ?_); rintro e w' ⟨rfl, ⟨nd, rfl⟩⟩; refine ⟨_, rfl, ?_⟩; have p135 : 0 ≤ (x7_1 : Int) := of_decide_eq_true (by first | (with_reducible assumption) | assumption); have q135 : x7_1 < (l0.length : Int) := of_decide_eq_true (by first | (with_reducible assumption) | assumption); obtain ⟨ad135, e135, hx135_0⟩ := Kd.at_int HR0.out x7_1 p135 q135; obtain rfl : ad130 = ad135 := (by injection e135); replace hx135_0 := (HB.out.cell (World.block_lt_of_cell? w _ hx135_0)).trans hx135_0; replace p135 := eq_true p135; replace q135 := eq_true q135) | ((with_reducible refine gate_callee (f := 17) rfl ?_); refine goesL_ (some 53) rfl rfl Try.func17 (by kernel_rfl) rfl #[.int .i64 (wrap64 (Int.tdiv (rd l0 x7_1) 256)), .int .i64 (wrap64 ((l1.length : Int) + 1))] rfl (by (try simp only [List.map_toArray, List.map_cons, List.map_nil]); first | done | rfl | (simp only [List.length_drop, List.length_take]; rfl)) ?_; (with_reducible refine (hyphenlaw2_within.calls (wrap64 (Int.tdiv (rd l0 x7_1) 256)) (wrap64 ((l1.length : Int) + 1)) t136 _ A17.out).mono ?_); rintro e w' ⟨rfl, ⟨nd, rfl⟩⟩; refine ⟨_, rfl, ?_⟩; obtain ⟨i022, hi022, _, hsz22, _⟩ := info_parts info5; obtain ⟨hcut22, hA22, hC22⟩ := print_take_of (P := Try.prog) (Value.int .u8) 0 23 5 .i64 Try.underlying23 hi022 hsz22 A1 c1 l1 t136 (of_decide_eq_true (by first | (with_reducible assumption) | assumption)) (of_decide_eq_true (by first | (with_reducible assumption) | assumption)) HC1.out; have HR137 := Aside0.mk (Kd.C_of_reads (h1 := fun _ => rfl) (hA22 _ (Kd.reads_of_C HR1.out))); have HC137 := Aside0.mk hC22; clear hA22 hC22 hi022 hsz22; have hcv23 := Kd.C_string (P := Try.prog) (A := A1) (c := c1) Try.underlying23 Try.underlying5 Try.underlying9 (Kd.C_below HR137.out HB.out); have hcv24 := fun (m_ : Nat) => Kd.C_string (P := Try.prog) (A := A1) (c := c1) Try.underlying23 Try.underlying5 Try.underlying9 (Kd.C_drewN (Kd.C_below HR137.out HB.out) m_); have hcl_ : (l1.take (t136 : Int).toNat).length = (t136 : Int).toNat := (by have h_ : t136 ≤ (l1.length : Int) := of_decide_eq_true (by first | (with_reducible assumption) | assumption); rw [List.length_take]; omega); (try rw [hcl_] at hcv23); (try rw [hcl_] at hcv24); clear hcl_))
                              go_roundg kj4
                              case measure => have := HK1.out; have := HJ4.out; omega
                              case rel => exact ⟨((x6_1 ++ (rdOf ByteArray.empty y127 t131)) ++ (strOfNums (l1.take (t136 : Int).toNat))), (wrap64 (x7_1 + 1)), (by first | rfl | (simp; done) | (simp [*]; done)), (by first | rfl | (simp; done) | (simp [*]; done)), H', ⟨by have := HK1.out; have := HJ4.out; omega⟩, ⟨by (with_reducible repeat (first | apply Kd.R_alloc | apply Kd.R_drewN | apply Kd.R_drew)); exact HO_5.out⟩, ⟨by repeat (first | (with_reducible first | exact HB.out | apply below_alloc | apply pw_below_drewN | apply below_drew1) | exact HB.out)⟩⟩
                            · rw [if_neg c20] at H
                              exact absurd H (by simp)
                          · rw [if_neg c19] at H
                            exact absurd H (by simp)
                        · rw [if_neg c18] at H
                          exact absurd H (by simp)
                      · rw [if_neg c16] at H
                        have c16b0 : (t134 == 0) = false := beq_eq_false_iff_ne.mpr c16
                        have c16b1 : (t134 != 0) = true := bne_iff_ne.mpr c16
                        have H' := Aside0.mk H
                        clear H
                        have p130 : 0 ≤ (x7_1 : Int) := of_decide_eq_true (by first | (with_reducible assumption) | assumption)
                        have q130 : x7_1 < (l0.length : Int) := of_decide_eq_true (by first | (with_reducible assumption) | assumption)
                        obtain ⟨ad130, e130, hx130_0⟩ := Kd.at_int HR0.out x7_1 p130 q130
                        cases e130
                        replace hx130_0 := (HB.out.cell (World.block_lt_of_cell? w _ hx130_0)).trans hx130_0
                        replace p130 := eq_true p130
                        replace q130 := eq_true q130
                        obtain ⟨Ao25, co25, eo25⟩ := Kd.R_slice HO_5.out
                        subst eo25
                        go_wp2_with (first | ((with_reducible refine gate_callee (f := 17) rfl ?_); refine goesL_ (some 32) rfl rfl Try.func17 (by kernel_rfl) rfl #[.int .i64 (rd l0 x7_1), .int .i64 (y127.length : Int)] rfl (by (try simp only [List.map_toArray, List.map_cons, List.map_nil]); first | done | rfl | (simp only [List.length_drop, List.length_take]; rfl)) ?_; (with_reducible refine (hyphenlaw2_within.calls (rd l0 x7_1) (y127.length : Int) t131 _ A11.out).mono ?_); rintro e w' ⟨rfl, ⟨nd, rfl⟩⟩; refine ⟨_, rfl, ?_⟩; have p132 : 0 ≤ (t131 : Int) := of_decide_eq_true (by first | (with_reducible assumption) | assumption); have q132 : t131 < (y127.length : Int) := of_decide_eq_true (by first | (with_reducible assumption) | assumption); obtain ⟨ad132, e132, hx132_0⟩ := Kd.at_string (Kd.R_reads' HO_5.out).2.2 t131 p132 q132; cases e132; replace p132 := eq_true p132; replace q132 := eq_true q132; have p133 : 0 ≤ (x7_1 : Int) := of_decide_eq_true (by first | (with_reducible assumption) | assumption); have q133 : x7_1 < (l0.length : Int) := of_decide_eq_true (by first | (with_reducible assumption) | assumption); obtain ⟨ad133, e133, hx133_0⟩ := Kd.at_int HR0.out x7_1 p133 q133; obtain rfl : ad130 = ad133 := (by injection e133); replace hx133_0 := (HB.out.cell (World.block_lt_of_cell? w _ hx133_0)).trans hx133_0; replace p133 := eq_true p133; replace q133 := eq_true q133) | ((with_reducible refine gate_callee (f := 17) rfl ?_); refine goesL_ (some 41) rfl rfl Try.func17 (by kernel_rfl) rfl #[.int .i64 (wrap64 (Int.tdiv (rd l0 x7_1) 32)), .int .i64 8] rfl (by (try simp only [List.map_toArray, List.map_cons, List.map_nil]); first | done | rfl | (simp only [List.length_drop, List.length_take]; rfl)) ?_; (with_reducible refine (hyphenlaw2_within.calls (wrap64 (Int.tdiv (rd l0 x7_1) 32)) 8 t134 _ A15.out).mono ?_); rintro e w' ⟨rfl, ⟨nd, rfl⟩⟩; refine ⟨_, rfl, ?_⟩))
                        go_roundg kj4
                        case measure => have := HK1.out; have := HJ4.out; omega
                        case rel => exact ⟨(x6_1 ++ (rdOf ByteArray.empty y127 t131)), (wrap64 (x7_1 + 1)), (by first | rfl | (simp; done) | (simp [*]; done)), (by first | rfl | (simp; done) | (simp [*]; done)), H', ⟨by have := HK1.out; have := HJ4.out; omega⟩, ⟨by (with_reducible repeat (first | apply Kd.R_alloc | apply Kd.R_drewN | apply Kd.R_drew)); exact HO_5.out⟩, ⟨by repeat (first | (with_reducible first | exact HB.out | apply below_alloc | apply pw_below_drewN | apply below_drew1) | exact HB.out)⟩⟩
                    · rw [if_neg c14] at H
                      exact absurd H (by simp)
                  · rw [if_neg c13] at H
                    exact absurd H (by simp)
                · rw [if_neg c12] at H
                  exact absurd H (by simp)
              · rw [if_neg c10] at H
                exact absurd H (by simp)
            · rw [if_neg c9] at H
              exact absurd H (by simp)
          · replace c8 := Bool.eq_false_iff.mpr c8
            subst c8
            have H1 : (some x6_1) = some r := by rw [if_neg (show ¬ (false = true) by decide)] at H; exact H
            clear H
            have H := H1
            clear H1
            obtain rfl := Option.some.inj H
            go_wp2
            go_ret
            exact ⟨by first | rfl | (simp [errW_none, errW_some] <;> rfl) | (simp [*, errW_none, errW_some] <;> rfl), by repeat (first | (with_reducible first | exact HB.out | apply below_alloc | apply pw_below_drewN | apply below_drew1) | exact HB.out)⟩

/-! ### hyphenref2_size: function 28 -/
mutual
def hyphenref2_size.j0 : Nat → Int → Bool → Option (Int)
  | 0, _, _ => none
  | k + 1, x0, x6 => if x6 = true then (some 2) else (if x0 ≥ 224 then (hyphenref2_size.j1 k x0 (decide (x0 ≤ 239))) else (hyphenref2_size.j1 k x0 false))
def hyphenref2_size.j1 : Nat → Int → Bool → Option (Int)
  | 0, _, _ => none
  | k + 1, x0, x13 => if x13 = true then (some 3) else (if x0 ≥ 240 then (if x0 ≤ 244 then (some 4) else (some 0)) else (some 0))
end
def hyphenref2_size.f (k : Nat) (a0 : Int) : Option (Int) := if a0 < 128 then (some 1) else (if a0 ≥ 194 then (hyphenref2_size.j0 k a0 (decide (a0 ≤ 223))) else (hyphenref2_size.j0 k a0 false))
theorem hyphenref2_size.mono_l : ∀ k, (∀ y0 y1, LeO (hyphenref2_size.j0 k y0 y1) (hyphenref2_size.j0 (k + 1) y0 y1)) ∧ (∀ y0 y1, LeO (hyphenref2_size.j1 k y0 y1) (hyphenref2_size.j1 (k + 1) y0 y1))
  | 0 => ⟨fun _ _ r h => by simp [hyphenref2_size.j0] at h, fun _ _ r h => by simp [hyphenref2_size.j1] at h⟩
  | k + 1 => by
    obtain ⟨ih0, ih1⟩ := hyphenref2_size.mono_l k
    refine ⟨?_, ?_⟩
    · intro y0 y1
      unfold hyphenref2_size.j0
      repeat' first
      | (with_reducible exact ih0 _ _)
      | (with_reducible exact ih1 _ _)
      | (with_reducible exact LeO.refl _)
      | (with_reducible exact LeO.none _)
      | (with_reducible refine LeO.ite ?_ ?_)
      | (with_reducible refine LeO.bind ?_ (fun _ => ?_))
      | exact ih0 _ _
      | exact ih1 _ _
      | exact LeO.none _
      | refine LeO.ite ?_ ?_
      | refine LeO.bind ?_ (fun _ => ?_)
    · intro y0 y1
      unfold hyphenref2_size.j1
      repeat' first
      | (with_reducible exact ih0 _ _)
      | (with_reducible exact ih1 _ _)
      | (with_reducible exact LeO.refl _)
      | (with_reducible exact LeO.none _)
      | (with_reducible refine LeO.ite ?_ ?_)
      | (with_reducible refine LeO.bind ?_ (fun _ => ?_))
      | exact ih0 _ _
      | exact ih1 _ _
      | exact LeO.none _
      | refine LeO.ite ?_ ?_
      | refine LeO.bind ?_ (fun _ => ?_)
theorem hyphenref2_size.mono : ∀ a0 k, LeO (hyphenref2_size.f k a0) (hyphenref2_size.f (k + 1) a0) := by
  intro a0 k
  obtain ⟨ih0, ih1⟩ := hyphenref2_size.mono_l k
  unfold hyphenref2_size.f
  repeat' first
      | (with_reducible exact ih0 _ _)
      | (with_reducible exact ih1 _ _)
      | (with_reducible exact LeO.refl _)
      | (with_reducible exact LeO.none _)
      | (with_reducible refine LeO.ite ?_ ?_)
      | (with_reducible refine LeO.bind ?_ (fun _ => ?_))
      | exact ih0 _ _
      | exact ih1 _ _
      | exact LeO.none _
      | refine LeO.ite ?_ ?_
      | refine LeO.bind ?_ (fun _ => ?_)
set_option maxHeartbeats 8000000 in
set_option maxRecDepth 100000 in
theorem hyphenref2_size.calls (k : Nat) (a0 : Int) (r : Int) (w : World) (h : hyphenref2_size.f k a0 = some r) :
    Calls Try.prog 28 #[.int .u8 a0] w fun e w' => e = .returned (.int .i64 r) ∧ Drawn0 w w' := by
  have H : (if a0 < 128 then (some 1) else (if a0 ≥ 194 then (hyphenref2_size.j0 k a0 (decide (a0 ≤ 223))) else (hyphenref2_size.j0 k a0 false))) = some r := h
  clear h
  by_cases c2 : a0 < 128
  · rw [if_pos c2] at H
    have c2b0 : decide (a0 < 128) = true := decide_eq_true c2
    clear c2
    obtain rfl := Option.some.inj H
    go_enter Try.func28, Try.ntmps28
    go_wp2
    go_ret
    exact ⟨by first | rfl | (simp; done) | (simp [*]; done), by repeat (first | exact Drawn0.refl _ | apply Drawn0.step)⟩
  · rw [if_neg c2] at H
    have c2b0 : decide (a0 < 128) = false := decide_eq_false c2
    clear c2
    have HC3 := Aside0.mk H
    clear H
    go_enter Try.func28, Try.ntmps28
    go_upto_region 3 with (fail)
    go_cut [6] (fun v6 wc => ∃ (kq : Nat) (x6_2 : Bool), v6 = .bool x6_2 ∧ Aside0 (hyphenref2_size.j0 kq a0 x6_2 = some r) ∧ Aside0 (kq ≤ k) ∧ Drawn0 w wc)
    case first =>
      have H := HC3.out
      clear HC3
      by_cases c4 : a0 ≥ 194
      · rw [if_pos c4] at H
        have c4b0 : decide (194 ≤ a0) = true := decide_eq_true c4
        clear c4
        (first | rw [c4b0] | (simp only [i64_w, i32_w]; rw [c4b0]) | skip)
        have H' := Aside0.mk H
        clear H
        go_wp2
        go_meet
        case rel => exact ⟨_, (decide (a0 ≤ 223)), (by first | rfl | (simp; done) | (simp [*]; done)), H', ⟨by first | omega | exact Nat.le_refl _⟩, by repeat (first | exact Drawn0.refl _ | apply Drawn0.step)⟩
      · rw [if_neg c4] at H
        have c4b0 : decide (194 ≤ a0) = false := decide_eq_false c4
        clear c4
        (first | rw [c4b0] | (simp only [i64_w, i32_w]; rw [c4b0]) | skip)
        have H' := Aside0.mk H
        clear H
        go_wp2
        go_meet
        case rel => exact ⟨_, (false), (by first | rfl | (simp; done) | (simp [*]; done)), H', ⟨by first | omega | exact Nat.le_refl _⟩, by repeat (first | exact Drawn0.refl _ | apply Drawn0.step)⟩
    case rest =>
      clear HC3
      try clear c2
      try clear c2b0
      try clear p2
      try clear c4
      try clear c4b0
      obtain ⟨kq, x6_2, rfl, HA, HJ2, ⟨mc2, rfl⟩⟩ := hcut
      cases kq with
      | zero => exact absurd HA.out (by simp [hyphenref2_size.j0])
      | succ kj2 =>
        have H := HA.out
        clear HA
        simp only [hyphenref2_size.j0] at H
        by_cases c5 : x6_2 = true
        · subst c5
          have H1 : (some 2) = some r := by rw [if_pos rfl] at H; exact H
          clear H
          have H := H1
          clear H1
          obtain rfl := Option.some.inj H
          go_wp2
          go_ret
          exact ⟨by first | rfl | (simp; done) | (simp [*]; done), by repeat (first | exact Drawn0.refl _ | apply Drawn0.step)⟩
        · replace c5 := Bool.eq_false_iff.mpr c5
          subst c5
          have H1 : (if a0 ≥ 224 then (hyphenref2_size.j1 kj2 a0 (decide (a0 ≤ 239))) else (hyphenref2_size.j1 kj2 a0 false)) = some r := by rw [if_neg (show ¬ (false = true) by decide)] at H; exact H
          clear H
          have H := H1
          clear H1
          have HC6 := Aside0.mk H
          clear H
          go_upto_region 5 with (fail)
          go_cut [13] (fun v13 wc => ∃ (kq : Nat) (x13_5 : Bool), v13 = .bool x13_5 ∧ Aside0 (hyphenref2_size.j1 kq a0 x13_5 = some r) ∧ Aside0 (kq ≤ kj2) ∧ Drawn0 w wc)
          case first =>
            have H := HC6.out
            clear HC6
            by_cases c7 : a0 ≥ 224
            · rw [if_pos c7] at H
              have c7b0 : decide (224 ≤ a0) = true := decide_eq_true c7
              clear c7
              (first | rw [c7b0] | (simp only [i64_w, i32_w]; rw [c7b0]) | skip)
              have H' := Aside0.mk H
              clear H
              go_wp2
              go_meet
              case rel => exact ⟨_, (decide (a0 ≤ 239)), (by first | rfl | (simp; done) | (simp [*]; done)), H', ⟨by have := HJ2.out; first | omega | exact Nat.le_refl _⟩, by repeat (first | exact Drawn0.refl _ | apply Drawn0.step)⟩
            · rw [if_neg c7] at H
              have c7b0 : decide (224 ≤ a0) = false := decide_eq_false c7
              clear c7
              (first | rw [c7b0] | (simp only [i64_w, i32_w]; rw [c7b0]) | skip)
              have H' := Aside0.mk H
              clear H
              go_wp2
              go_meet
              case rel => exact ⟨_, (false), (by first | rfl | (simp; done) | (simp [*]; done)), H', ⟨by have := HJ2.out; first | omega | exact Nat.le_refl _⟩, by repeat (first | exact Drawn0.refl _ | apply Drawn0.step)⟩
          case rest =>
            clear HC6
            try clear c2
            try clear c2b0
            try clear p2
            try clear c4
            try clear c4b0
            try clear c5
            try clear c7
            try clear c7b0
            try clear p2
            obtain ⟨kq, x13_5, rfl, HA, HJ5, ⟨mc5, rfl⟩⟩ := hcut
            cases kq with
            | zero => exact absurd HA.out (by simp [hyphenref2_size.j1])
            | succ kj5 =>
              have H := HA.out
              clear HA
              simp only [hyphenref2_size.j1] at H
              by_cases c8 : x13_5 = true
              · subst c8
                have H1 : (some 3) = some r := by rw [if_pos rfl] at H; exact H
                clear H
                have H := H1
                clear H1
                obtain rfl := Option.some.inj H
                go_wp2
                go_ret
                exact ⟨by first | rfl | (simp; done) | (simp [*]; done), by repeat (first | exact Drawn0.refl _ | apply Drawn0.step)⟩
              · replace c8 := Bool.eq_false_iff.mpr c8
                subst c8
                have H1 : (if a0 ≥ 240 then (if a0 ≤ 244 then (some 4) else (some 0)) else (some 0)) = some r := by rw [if_neg (show ¬ (false = true) by decide)] at H; exact H
                clear H
                have H := H1
                clear H1
                by_cases c9 : a0 ≥ 240
                · rw [if_pos c9] at H
                  have c9b0 : decide (240 ≤ a0) = true := decide_eq_true c9
                  clear c9
                  by_cases c10 : a0 ≤ 244
                  · rw [if_pos c10] at H
                    have c10b0 : decide (a0 ≤ 244) = true := decide_eq_true c10
                    clear c10
                    obtain rfl := Option.some.inj H
                    go_wp2
                    go_ret
                    exact ⟨by first | rfl | (simp; done) | (simp [*]; done), by repeat (first | exact Drawn0.refl _ | apply Drawn0.step)⟩
                  · rw [if_neg c10] at H
                    have c10b0 : decide (a0 ≤ 244) = false := decide_eq_false c10
                    clear c10
                    obtain rfl := Option.some.inj H
                    go_wp2
                    go_ret
                    exact ⟨by first | rfl | (simp; done) | (simp [*]; done), by repeat (first | exact Drawn0.refl _ | apply Drawn0.step)⟩
                · rw [if_neg c9] at H
                  have c9b0 : decide (240 ≤ a0) = false := decide_eq_false c9
                  clear c9
                  obtain rfl := Option.some.inj H
                  go_wp2
                  go_ret
                  exact ⟨by first | rfl | (simp; done) | (simp [*]; done), by repeat (first | exact Drawn0.refl _ | apply Drawn0.step)⟩

end Go.Proofs.Ytcmacpdpphdkcaa.F
