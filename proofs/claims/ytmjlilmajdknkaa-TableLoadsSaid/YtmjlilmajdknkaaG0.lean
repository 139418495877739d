/- Functions of the program, as Lean functions, with their contracts; printed by gen.py. Conditions: none. -/
import Derived.Test.YtmjlilmajdknkaaE38
import Derived.Test.YtmjlilmajdknkaaProg
set_option linter.unusedVariables false
namespace Go.Proofs.YtmjlilmajdknkaaE
open Kd
set_option maxRecDepth 20000
/-! f38 (*hyphen/table.bytes).number -/
def F38_0 (k : Nat) : Nat → Int → Int → (((List Int) × Unit) × Unit) → Option ((Unit × ((((List Int) × Unit) × Unit) × Unit)))
  | 0, _, _, _ => none
  | n + 1, t1, t4, c0 =>
    bif (decide (t4 ≥ (0 : Int))) then
      if 0 ≤ t4 then
        let x3 := (Int.fdiv t1 (2 ^ (min (Int.toNat t4) (IntKind.bits .i64))))
        let x4 := (List.set (List.replicate 1 (0 : Int)) 0 (IntKind.wrap .u8 x3))
        if (List.length c0.1.1 + List.length x4) * (1 * 2) ≤ 281474976710656 ∧ List.length c0.1.1 + List.length x4 ≤ 9223372036854775807 then
          (F38_0 k n t1 (IntKind.wrap .i64 (t4 - (8 : Int))) (((c0.1.1 ++ x4), c0.1.2), c0.2)).bind some
        else none
      else none
    else
      some ((), (c0, ()))
def fr38_0 (k : Nat) : Frag := ⟨⟨[], [(0, .ptr 0 [.fst]), (1, .val (.int .i64)), (4, .val (.int .i64))], [(0, some 65, (.pair (.pair (.sl true 5 (.int .u8) none) .unit) .unit))]⟩, [(.exit 0, ⟨[], [], [(0, some 65, (.pair (.pair (.sl true 5 (.int .u8) none) .unit) .unit))]⟩)], fun v => F38_0 k k v.1.1 v.1.2.1 v.2.1⟩
def F38 (k : Nat) (a0 : (((List Int) × Unit) × Unit)) (a1 : Int) : Option (Unit × ((((List Int) × Unit) × Unit) × Unit)) :=
  (F38_0 k k a1 (56 : Int) a0).bind fun r5 =>
  let y6 := r5.2.1
  some ((), (y6, ()))
def sp38 (k : Nat) : Spec := ⟨[.ptr 65 (.pair (.pair (.sl true 5 (.int .u8) none) .unit) .unit) [.fst], .val (.int .i64)], [], fun x => F38 k x.1 x.2.1⟩
def lim38 : Lim := ⟨22, 2, false, false⟩
def cfg38 (k : Nat) : Nat → Option Spec := cfgL []
theorem cfg38_ok (k : Nat) : CfgOK Try.prog (cfg38 k) := cfgL_nil
def pl38_0 (k : Nat) : Plan := .go
theorem pq38_0 (k : Nat) : PlanOK Try.prog lim38 (pl38_0 k) (codeAt (bodyOf Try.f38) [.r, .s, .b]) = PlanOK Try.prog lim38 .go (codeAt (bodyOf Try.f38) [.r, .s, .b]) := by kernel_rfl
theorem ps38_0 (k m : Nat) (v : (fr38_0 k).sh.V) : F38_0 k (m + 1) v.1.1 v.1.2.1 v.2.1 = (body Try.prog (stepper Try.prog (cfg38 k) lim38) (pl38_0 k) (codeAt (bodyOf Try.f38) [.r, .s, .b]) ((fr38_0 k).sh.st v) (loopK (fr38_0 k) fun v => F38_0 k m v.1.1 v.1.2.1 v.2.1)).eval := by kernel_rfl
theorem pe38_0 (k m : Nat) (v : (fr38_0 k).sh.V) : (body Try.prog (stepper Try.prog (cfg38 k) lim38) (pl38_0 k) (codeAt (bodyOf Try.f38) [.r, .s, .b]) ((fr38_0 k).sh.st v) (loopK (fr38_0 k) fun v => F38_0 k m v.1.1 v.1.2.1 v.2.1)).left = (body Try.prog (stepper Try.prog (cfg38 k) lim38) (pl38_0 k) (codeAt (bodyOf Try.f38) [.r, .s, .b]) ((fr38_0 k).sh.st v) (loopK (fr38_0 k) fun v => F38_0 k m v.1.1 v.1.2.1 v.2.1)).right := by kernel_rfl
theorem fr38_0_ok (k : Nat) : FragOK Try.prog lim38 (fr38_0 k) (codeAt (bodyOf Try.f38) [.r, .s]) :=
  frag_cast (by kernel_rfl) (loop_ok (cfg38_ok k) (Eq.mpr (pq38_0 k) (planOK_go _)) (fun m v => F38_0 k m v.1.1 v.1.2.1 v.2.1) k (fun _ => rfl) (fun _ => rfl) fun m v => ⟨ps38_0 k m v, pe38_0 k m v⟩)
def pl38 (k : Nat) : Plan := (.seq .go (.sub (.frag (fr38_0 k))))
theorem pq38 (k : Nat) : PlanOK Try.prog lim38 (pl38 k) (codeAt (bodyOf Try.f38) []) = (PlanOK Try.prog lim38 .go (codeAt (bodyOf Try.f38) [.l]) ∧ FragOK Try.prog lim38 (fr38_0 k) (codeAt (bodyOf Try.f38) [.r, .s])) := by kernel_rfl
theorem ev38 (k : Nat) (x : AT (sp38 k).ps) : (sp38 k).impl x = (fnT Try.prog (cfg38 k) lim38 Try.f38 (bodyOf Try.f38) (pl38 k) (sp38 k) x).eval := by kernel_rfl
theorem eq38 (k : Nat) (x : AT (sp38 k).ps) : (fnT Try.prog (cfg38 k) lim38 Try.f38 (bodyOf Try.f38) (pl38 k) (sp38 k) x).left = (fnT Try.prog (cfg38 k) lim38 Try.f38 (bodyOf Try.f38) (pl38 k) (sp38 k) x).right := by kernel_rfl
theorem v38 (k : Nat) : Callable Try.prog 38 ∧ Valid Try.prog 38 (sp38 k) :=
  fn_ok (cfg38_ok k) (f := 38) (fn := Try.f38) (by kernel_rfl) (c := bodyOf Try.f38) (by kernel_rfl) (by kernel_rfl) rfl rfl (Nat.le_of_ble_eq_true rfl) (Nat.le_of_ble_eq_true rfl) (p := pl38 k) (Eq.mpr (pq38 k) ⟨(planOK_go _), (fr38_0_ok k)⟩) fun x => ⟨ev38 k x, eq38 k x⟩
/-! f36 (*hyphen/table.writer).numbers -/
def F36_0 (k : Nat) : Nat → (List Int) → Int → Int → (((List Int) × Unit) × Unit) → Option ((Unit × ((((List Int) × Unit) × Unit) × Unit)))
  | 0, _, _, _, _ => none
  | n + 1, t12, t13, t14, c0 =>
    bif (decide (t14 < t13)) then
      if 0 ≤ t14 ∧ t14 < ((List.length t12 : Nat) : Int) then
        (F38 k c0 (List.getD t12 (Int.toNat t14) (0 : Int))).bind fun r3 =>
        (F36_0 k n t12 t13 (IntKind.wrap .i64 (t14 + (1 : Int))) r3.2.1).bind some
      else none
    else
      some ((), (c0, ()))
def fr36_0 (k : Nat) : Frag := ⟨⟨[], [(0, .ptr 0 []), (12, .val (.sl false 3 (.int .i64) none)), (13, .val (.int .i64)), (14, .val (.int .i64))], [(0, some 65, (.pair (.pair (.sl true 5 (.int .u8) none) .unit) .unit))]⟩, [(.exit 0, ⟨[], [], [(0, some 65, (.pair (.pair (.sl true 5 (.int .u8) none) .unit) .unit))]⟩)], fun v => F36_0 k k v.1.1 v.1.2.1 v.1.2.2.1 v.2.1⟩
def F36 (k : Nat) (a0 : (((List Int) × Unit) × Unit)) (a1 : (List Int)) : Option (Unit × ((((List Int) × Unit) × Unit) × Unit)) :=
  (F38 k a0 ((List.length a1 : Nat) : Int)).bind fun r1 =>
  (F36_0 k k a1 ((List.length a1 : Nat) : Int) (0 : Int) r1.2.1).bind fun r4 =>
  let y5 := r4.2.1
  some ((), (y5, ()))
def sp36 (k : Nat) : Spec := ⟨[.ptr 65 (.pair (.pair (.sl true 5 (.int .u8) none) .unit) .unit) [], .val (.sl false 3 (.int .i64) none)], [], fun x => F36 k x.1 x.2.1⟩
def lim36 : Lim := ⟨24, 2, false, false⟩
def cfg36 (k : Nat) : Nat → Option Spec := cfgL [(38, sp38 k)]
theorem cfg36_ok (k : Nat) : CfgOK Try.prog (cfg36 k) := cfgL_cons (v38 k) (cfgL_nil)
def pl36_0 (k : Nat) : Plan := .go
theorem pq36_0 (k : Nat) : PlanOK Try.prog lim36 (pl36_0 k) (codeAt (bodyOf Try.f36) [.r, .r, .s, .b]) = PlanOK Try.prog lim36 .go (codeAt (bodyOf Try.f36) [.r, .r, .s, .b]) := by kernel_rfl
theorem ps36_0 (k m : Nat) (v : (fr36_0 k).sh.V) : F36_0 k (m + 1) v.1.1 v.1.2.1 v.1.2.2.1 v.2.1 = (body Try.prog (stepper Try.prog (cfg36 k) lim36) (pl36_0 k) (codeAt (bodyOf Try.f36) [.r, .r, .s, .b]) ((fr36_0 k).sh.st v) (loopK (fr36_0 k) fun v => F36_0 k m v.1.1 v.1.2.1 v.1.2.2.1 v.2.1)).eval := by kernel_rfl
theorem pe36_0 (k m : Nat) (v : (fr36_0 k).sh.V) : (body Try.prog (stepper Try.prog (cfg36 k) lim36) (pl36_0 k) (codeAt (bodyOf Try.f36) [.r, .r, .s, .b]) ((fr36_0 k).sh.st v) (loopK (fr36_0 k) fun v => F36_0 k m v.1.1 v.1.2.1 v.1.2.2.1 v.2.1)).left = (body Try.prog (stepper Try.prog (cfg36 k) lim36) (pl36_0 k) (codeAt (bodyOf Try.f36) [.r, .r, .s, .b]) ((fr36_0 k).sh.st v) (loopK (fr36_0 k) fun v => F36_0 k m v.1.1 v.1.2.1 v.1.2.2.1 v.2.1)).right := by kernel_rfl
theorem fr36_0_ok (k : Nat) : FragOK Try.prog lim36 (fr36_0 k) (codeAt (bodyOf Try.f36) [.r, .r, .s]) :=
  frag_cast (by kernel_rfl) (loop_ok (cfg36_ok k) (Eq.mpr (pq36_0 k) (planOK_go _)) (fun m v => F36_0 k m v.1.1 v.1.2.1 v.1.2.2.1 v.2.1) k (fun _ => rfl) (fun _ => rfl) fun m v => ⟨ps36_0 k m v, pe36_0 k m v⟩)
def pl36 (k : Nat) : Plan := (.seq .go (.seq .go (.sub (.frag (fr36_0 k)))))
theorem pq36 (k : Nat) : PlanOK Try.prog lim36 (pl36 k) (codeAt (bodyOf Try.f36) []) = (PlanOK Try.prog lim36 .go (codeAt (bodyOf Try.f36) [.l]) ∧ (PlanOK Try.prog lim36 .go (codeAt (bodyOf Try.f36) [.r, .l]) ∧ FragOK Try.prog lim36 (fr36_0 k) (codeAt (bodyOf Try.f36) [.r, .r, .s]))) := by kernel_rfl
theorem ev36 (k : Nat) (x : AT (sp36 k).ps) : (sp36 k).impl x = (fnT Try.prog (cfg36 k) lim36 Try.f36 (bodyOf Try.f36) (pl36 k) (sp36 k) x).eval := by kernel_rfl
theorem eq36 (k : Nat) (x : AT (sp36 k).ps) : (fnT Try.prog (cfg36 k) lim36 Try.f36 (bodyOf Try.f36) (pl36 k) (sp36 k) x).left = (fnT Try.prog (cfg36 k) lim36 Try.f36 (bodyOf Try.f36) (pl36 k) (sp36 k) x).right := by kernel_rfl
theorem v36 (k : Nat) : Callable Try.prog 36 ∧ Valid Try.prog 36 (sp36 k) :=
  fn_ok (cfg36_ok k) (f := 36) (fn := Try.f36) (by kernel_rfl) (c := bodyOf Try.f36) (by kernel_rfl) (by kernel_rfl) rfl rfl (Nat.le_of_ble_eq_true rfl) (Nat.le_of_ble_eq_true rfl) (p := pl36 k) (Eq.mpr (pq36 k) ⟨(planOK_go _), ⟨(planOK_go _), (fr36_0_ok k)⟩⟩) fun x => ⟨ev36 k x, eq36 k x⟩
/-! f37 (*hyphen/table.writer).lists -/
def F37_0 (k : Nat) : Nat → (List (List Int)) → Int → Int → (((List Int) × Unit) × Unit) → Option ((Unit × ((((List Int) × Unit) × Unit) × Unit)))
  | 0, _, _, _, _ => none
  | n + 1, t12, t13, t14, c0 =>
    bif (decide (t14 < t13)) then
      if 0 ≤ t14 ∧ t14 < ((List.length t12 : Nat) : Int) then
        let x4 := (List.getD t12 (Int.toNat t14) ([] : (List Int)))
        (F36 k c0 x4).bind fun r5 =>
        (F37_0 k n t12 t13 (IntKind.wrap .i64 (t14 + (1 : Int))) r5.2.1).bind some
      else none
    else
      some ((), (c0, ()))
def fr37_0 (k : Nat) : Frag := ⟨⟨[], [(0, .ptr 0 []), (12, .val (.sl false 22 (.sl false 3 (.int .i64) none) none)), (13, .val (.int .i64)), (14, .val (.int .i64))], [(0, some 65, (.pair (.pair (.sl true 5 (.int .u8) none) .unit) .unit))]⟩, [(.exit 0, ⟨[], [], [(0, some 65, (.pair (.pair (.sl true 5 (.int .u8) none) .unit) .unit))]⟩)], fun v => F37_0 k k v.1.1 v.1.2.1 v.1.2.2.1 v.2.1⟩
def F37 (k : Nat) (a0 : (((List Int) × Unit) × Unit)) (a1 : (List (List Int))) : Option (Unit × ((((List Int) × Unit) × Unit) × Unit)) :=
  (F38 k a0 ((List.length a1 : Nat) : Int)).bind fun r1 =>
  (F37_0 k k a1 ((List.length a1 : Nat) : Int) (0 : Int) r1.2.1).bind fun r6 =>
  let y7 := r6.2.1
  some ((), (y7, ()))
def sp37 (k : Nat) : Spec := ⟨[.ptr 65 (.pair (.pair (.sl true 5 (.int .u8) none) .unit) .unit) [], .val (.sl false 22 (.sl false 3 (.int .i64) none) none)], [], fun x => F37 k x.1 x.2.1⟩
def lim37 : Lim := ⟨22, 2, false, false⟩
def cfg37 (k : Nat) : Nat → Option Spec := cfgL [(36, sp36 k), (38, sp38 k)]
theorem cfg37_ok (k : Nat) : CfgOK Try.prog (cfg37 k) := cfgL_cons (v36 k) (cfgL_cons (v38 k) (cfgL_nil))
def pl37_0 (k : Nat) : Plan := .go
theorem pq37_0 (k : Nat) : PlanOK Try.prog lim37 (pl37_0 k) (codeAt (bodyOf Try.f37) [.r, .r, .s, .b]) = PlanOK Try.prog lim37 .go (codeAt (bodyOf Try.f37) [.r, .r, .s, .b]) := by kernel_rfl
theorem ps37_0 (k m : Nat) (v : (fr37_0 k).sh.V) : F37_0 k (m + 1) v.1.1 v.1.2.1 v.1.2.2.1 v.2.1 = (body Try.prog (stepper Try.prog (cfg37 k) lim37) (pl37_0 k) (codeAt (bodyOf Try.f37) [.r, .r, .s, .b]) ((fr37_0 k).sh.st v) (loopK (fr37_0 k) fun v => F37_0 k m v.1.1 v.1.2.1 v.1.2.2.1 v.2.1)).eval := by kernel_rfl
theorem pe37_0 (k m : Nat) (v : (fr37_0 k).sh.V) : (body Try.prog (stepper Try.prog (cfg37 k) lim37) (pl37_0 k) (codeAt (bodyOf Try.f37) [.r, .r, .s, .b]) ((fr37_0 k).sh.st v) (loopK (fr37_0 k) fun v => F37_0 k m v.1.1 v.1.2.1 v.1.2.2.1 v.2.1)).left = (body Try.prog (stepper Try.prog (cfg37 k) lim37) (pl37_0 k) (codeAt (bodyOf Try.f37) [.r, .r, .s, .b]) ((fr37_0 k).sh.st v) (loopK (fr37_0 k) fun v => F37_0 k m v.1.1 v.1.2.1 v.1.2.2.1 v.2.1)).right := by kernel_rfl
theorem fr37_0_ok (k : Nat) : FragOK Try.prog lim37 (fr37_0 k) (codeAt (bodyOf Try.f37) [.r, .r, .s]) :=
  frag_cast (by kernel_rfl) (loop_ok (cfg37_ok k) (Eq.mpr (pq37_0 k) (planOK_go _)) (fun m v => F37_0 k m v.1.1 v.1.2.1 v.1.2.2.1 v.2.1) k (fun _ => rfl) (fun _ => rfl) fun m v => ⟨ps37_0 k m v, pe37_0 k m v⟩)
def pl37 (k : Nat) : Plan := (.seq .go (.seq .go (.sub (.frag (fr37_0 k)))))
theorem pq37 (k : Nat) : PlanOK Try.prog lim37 (pl37 k) (codeAt (bodyOf Try.f37) []) = (PlanOK Try.prog lim37 .go (codeAt (bodyOf Try.f37) [.l]) ∧ (PlanOK Try.prog lim37 .go (codeAt (bodyOf Try.f37) [.r, .l]) ∧ FragOK Try.prog lim37 (fr37_0 k) (codeAt (bodyOf Try.f37) [.r, .r, .s]))) := by kernel_rfl
theorem ev37 (k : Nat) (x : AT (sp37 k).ps) : (sp37 k).impl x = (fnT Try.prog (cfg37 k) lim37 Try.f37 (bodyOf Try.f37) (pl37 k) (sp37 k) x).eval := by kernel_rfl
theorem eq37 (k : Nat) (x : AT (sp37 k).ps) : (fnT Try.prog (cfg37 k) lim37 Try.f37 (bodyOf Try.f37) (pl37 k) (sp37 k) x).left = (fnT Try.prog (cfg37 k) lim37 Try.f37 (bodyOf Try.f37) (pl37 k) (sp37 k) x).right := by kernel_rfl
theorem v37 (k : Nat) : Callable Try.prog 37 ∧ Valid Try.prog 37 (sp37 k) :=
  fn_ok (cfg37_ok k) (f := 37) (fn := Try.f37) (by kernel_rfl) (c := bodyOf Try.f37) (by kernel_rfl) (by kernel_rfl) rfl rfl (Nat.le_of_ble_eq_true rfl) (Nat.le_of_ble_eq_true rfl) (p := pl37 k) (Eq.mpr (pq37 k) ⟨(planOK_go _), ⟨(planOK_go _), (fr37_0_ok k)⟩⟩) fun x => ⟨ev37 k x, eq37 k x⟩
/-! f23 hyphen/table.Sum -/
def F23_0 (k : Nat) : Nat → Int → (List Int) → Int → Int → Option (((Int × Unit) × Unit))
  | 0, _, _, _, _ => none
  | n + 1, t3, t6, t7, t8 =>
    bif (decide (t8 < t7)) then
      if 0 ≤ t8 ∧ t8 < ((List.length t6 : Nat) : Int) then
        let x3 := (IntKind.wrap .i64 (List.getD t6 (Int.toNat t8) (0 : Int)))
        let x4 := (IntKind.wrap .i64 ((IntKind.wrap .i64 (t3 * (31 : Int))) + x3))
        (F23_0 k n (Int.tmod x4 (1000003 : Int)) t6 t7 (IntKind.wrap .i64 (t8 + (1 : Int)))).bind some
      else none
    else
      some ((t3, ()), ())
def fr23_0 (k : Nat) : Frag := ⟨⟨[], [(3, .val (.int .i64)), (6, .val (.sl false 5 (.int .u8) none)), (7, .val (.int .i64)), (8, .val (.int .i64))], []⟩, [(.exit 0, ⟨[], [(3, .val (.int .i64))], []⟩)], fun v => F23_0 k k v.1.1 v.1.2.1 v.1.2.2.1 v.1.2.2.2.1⟩
def F23 (k : Nat) (a0 : (List Int)) : Option ((Int × Unit) × Unit) :=
  (F23_0 k k (1 : Int) a0 ((List.length a0 : Nat) : Int) (0 : Int)).bind fun r5 =>
  let y6 := r5.1.1
  some ((y6, ()), ())
def sp23 (k : Nat) : Spec := ⟨[.val (.sl false 5 (.int .u8) none)], [.val (.int .i64)], fun x => F23 k x.1⟩
def lim23 : Lim := ⟨20, 1, false, false⟩
def cfg23 (k : Nat) : Nat → Option Spec := cfgL []
theorem cfg23_ok (k : Nat) : CfgOK Try.prog (cfg23 k) := cfgL_nil
def pl23_0 (k : Nat) : Plan := .go
theorem pq23_0 (k : Nat) : PlanOK Try.prog lim23 (pl23_0 k) (codeAt (bodyOf Try.f23) [.r, .r, .l, .r, .s, .b]) = PlanOK Try.prog lim23 .go (codeAt (bodyOf Try.f23) [.r, .r, .l, .r, .s, .b]) := by kernel_rfl
theorem ps23_0 (k m : Nat) (v : (fr23_0 k).sh.V) : F23_0 k (m + 1) v.1.1 v.1.2.1 v.1.2.2.1 v.1.2.2.2.1 = (body Try.prog (stepper Try.prog (cfg23 k) lim23) (pl23_0 k) (codeAt (bodyOf Try.f23) [.r, .r, .l, .r, .s, .b]) ((fr23_0 k).sh.st v) (loopK (fr23_0 k) fun v => F23_0 k m v.1.1 v.1.2.1 v.1.2.2.1 v.1.2.2.2.1)).eval := by kernel_rfl
theorem pe23_0 (k m : Nat) (v : (fr23_0 k).sh.V) : (body Try.prog (stepper Try.prog (cfg23 k) lim23) (pl23_0 k) (codeAt (bodyOf Try.f23) [.r, .r, .l, .r, .s, .b]) ((fr23_0 k).sh.st v) (loopK (fr23_0 k) fun v => F23_0 k m v.1.1 v.1.2.1 v.1.2.2.1 v.1.2.2.2.1)).left = (body Try.prog (stepper Try.prog (cfg23 k) lim23) (pl23_0 k) (codeAt (bodyOf Try.f23) [.r, .r, .l, .r, .s, .b]) ((fr23_0 k).sh.st v) (loopK (fr23_0 k) fun v => F23_0 k m v.1.1 v.1.2.1 v.1.2.2.1 v.1.2.2.2.1)).right := by kernel_rfl
theorem fr23_0_ok (k : Nat) : FragOK Try.prog lim23 (fr23_0 k) (codeAt (bodyOf Try.f23) [.r, .r, .l, .r, .s]) :=
  frag_cast (by kernel_rfl) (loop_ok (cfg23_ok k) (Eq.mpr (pq23_0 k) (planOK_go _)) (fun m v => F23_0 k m v.1.1 v.1.2.1 v.1.2.2.1 v.1.2.2.2.1) k (fun _ => rfl) (fun _ => rfl) fun m v => ⟨ps23_0 k m v, pe23_0 k m v⟩)
def pl23 (k : Nat) : Plan := (.seq .go (.seq .go (.seq (.seq .go (.sub (.frag (fr23_0 k)))) .go)))
theorem pq23 (k : Nat) : PlanOK Try.prog lim23 (pl23 k) (codeAt (bodyOf Try.f23) []) = (PlanOK Try.prog lim23 .go (codeAt (bodyOf Try.f23) [.l]) ∧ (PlanOK Try.prog lim23 .go (codeAt (bodyOf Try.f23) [.r, .l]) ∧ ((PlanOK Try.prog lim23 .go (codeAt (bodyOf Try.f23) [.r, .r, .l, .l]) ∧ FragOK Try.prog lim23 (fr23_0 k) (codeAt (bodyOf Try.f23) [.r, .r, .l, .r, .s])) ∧ PlanOK Try.prog lim23 .go (codeAt (bodyOf Try.f23) [.r, .r, .r])))) := by kernel_rfl
theorem ev23 (k : Nat) (x : AT (sp23 k).ps) : (sp23 k).impl x = (fnT Try.prog (cfg23 k) lim23 Try.f23 (bodyOf Try.f23) (pl23 k) (sp23 k) x).eval := by kernel_rfl
theorem eq23 (k : Nat) (x : AT (sp23 k).ps) : (fnT Try.prog (cfg23 k) lim23 Try.f23 (bodyOf Try.f23) (pl23 k) (sp23 k) x).left = (fnT Try.prog (cfg23 k) lim23 Try.f23 (bodyOf Try.f23) (pl23 k) (sp23 k) x).right := by kernel_rfl
theorem v23 (k : Nat) : Callable Try.prog 23 ∧ Valid Try.prog 23 (sp23 k) :=
  fn_ok (cfg23_ok k) (f := 23) (fn := Try.f23) (by kernel_rfl) (c := bodyOf Try.f23) (by kernel_rfl) (by kernel_rfl) rfl rfl (Nat.le_of_ble_eq_true rfl) (Nat.le_of_ble_eq_true rfl) (p := pl23 k) (Eq.mpr (pq23 k) ⟨(planOK_go _), ⟨(planOK_go _), ⟨⟨(planOK_go _), (fr23_0_ok k)⟩, (planOK_go _)⟩⟩⟩) fun x => ⟨ev23 k x, eq23 k x⟩
/-! f39 slices.Clone[[]byte,byte] -/
def F39 (k : Nat) (a0 : (List Int)) : Option (((List Int) × Unit) × Unit) :=
  bif (((List.length a0 : Nat) : Int) == 0) then
    some (([], ()), ())
  else
    if (List.length (List.replicate 0 (0 : Int)) + List.length a0) * (1 * 2) ≤ 281474976710656 ∧ List.length (List.replicate 0 (0 : Int)) + List.length a0 ≤ 9223372036854775807 then
      some ((((List.replicate 0 (0 : Int)) ++ a0), ()), ())
    else none
def sp39 (k : Nat) : Spec := ⟨[.val (.sl false 5 (.int .u8) none)], [.own (.sl true 5 (.int .u8) none)], fun x => F39 k x.1⟩
def lim39 : Lim := ⟨8, 1, true, false⟩
def cfg39 (k : Nat) : Nat → Option Spec := cfgL []
theorem cfg39_ok (k : Nat) : CfgOK Try.prog (cfg39 k) := cfgL_nil
def pl39 (k : Nat) : Plan := .go
theorem pq39 (k : Nat) : PlanOK Try.prog lim39 (pl39 k) (codeAt (bodyOf Try.f39) []) = PlanOK Try.prog lim39 .go (codeAt (bodyOf Try.f39) []) := by kernel_rfl
theorem ev39 (k : Nat) (x : AT (sp39 k).ps) : (sp39 k).impl x = (fnT Try.prog (cfg39 k) lim39 Try.f39 (bodyOf Try.f39) (pl39 k) (sp39 k) x).eval := by kernel_rfl
theorem tr39 (k : Nat) (x : AT (sp39 k).ps) : (fnT Try.prog (cfg39 k) lim39 Try.f39 (bodyOf Try.f39) (pl39 k) (sp39 k) x) = (Tr.split (((List.length x.1 : Nat) : Int) == 0) (.both (.split true (.leaf (([], ()), ())) (.need ((List.length (List.replicate 0 (0 : Int)) + List.length x.1) * (1 * 2) ≤ 281474976710656 ∧ List.length (List.replicate 0 (0 : Int)) + List.length x.1 ≤ 9223372036854775807) (.leaf (([] ++ x.1, ()), ())))) (.split false (.leaf (([], ()), ())) (.need ((List.length (List.replicate 0 (0 : Int)) + List.length x.1) * (1 * 2) ≤ 281474976710656 ∧ List.length (List.replicate 0 (0 : Int)) + List.length x.1 ≤ 9223372036854775807) (.leaf (([] ++ x.1, ()), ()))))) (.split false (.leaf (([], ()), ())) (.need ((List.length (List.replicate 0 (0 : Int)) + List.length x.1) * (1 * 2) ≤ 281474976710656 ∧ List.length (List.replicate 0 (0 : Int)) + List.length x.1 ≤ 9223372036854775807) (.leaf (([] ++ x.1, ()), ()))))) := by kernel_rfl
theorem sa39 (k : Nat) (x : AT (sp39 k).ps) (r) (h : (sp39 k).impl x = some r) : (fnT Try.prog (cfg39 k) lim39 Try.f39 (bodyOf Try.f39) (pl39 k) (sp39 k) x).sat (· = r) := sat_of_eq (tr39 k x) (clone_sat (a := x.1) (p := (List.length (List.replicate 0 (0 : Int)) + List.length x.1) * (1 * 2) ≤ 281474976710656 ∧ List.length (List.replicate 0 (0 : Int)) + List.length x.1 ≤ 9223372036854775807) (fun e => by rw [e]; simp) h)
theorem v39 (k : Nat) : Callable Try.prog 39 ∧ Valid Try.prog 39 (sp39 k) :=
  fn_sat (cfg39_ok k) (f := 39) (fn := Try.f39) (by kernel_rfl) (c := bodyOf Try.f39) (by kernel_rfl) (by kernel_rfl) rfl rfl (Nat.le_of_ble_eq_true rfl) (Nat.le_of_ble_eq_true rfl) (p := pl39 k) (Eq.mpr (pq39 k) (planOK_go _)) fun x r h => sa39 k x r h
/-! f15 hyphen/table.Save -/
def F15_0 (k : Nat) : Nat → (List (List (List Int))) → Int → Int → (List (List Int)) → Int → Int → (List Int) → Int → (((List Int) × Unit) × Unit) → Option ((((List (List (List Int))) × Int × Int × (List (List Int)) × Int × Int × Unit) × ((((List Int) × Unit) × Unit) × Unit)))
  | 0, _, _, _, _, _, _, _, _, _ => none
  | n + 1, t45, t46, t47, t57, t58, t59, t63, t64, c11 =>
    bif (decide (t64 < (3 : Int))) then
      if 0 ≤ t64 ∧ t64 < ((3 : Nat) : Int) then
        (F38 k c11 (List.getD t63 (Int.toNat t64) (0 : Int))).bind fun r11 =>
        (F15_0 k n t45 t46 t47 t57 t58 t59 t63 (IntKind.wrap .i64 (t64 + (1 : Int))) r11.2.1).bind some
      else none
    else
      some ((t45, t46, t47, t57, t58, t59, ()), (c11, ()))
def fr15_0 (k : Nat) : Frag := ⟨⟨[], [(3, .ptr 11 []), (45, .val (.sl false 46 (.sl false 45 (.arr 3 (.int .i64)) none) none)), (46, .val (.int .i64)), (47, .val (.int .i64)), (57, .val (.sl false 45 (.arr 3 (.int .i64)) none)), (58, .val (.int .i64)), (59, .val (.int .i64)), (63, .val (.arr 3 (.int .i64))), (64, .val (.int .i64))], [(11, some 65, (.pair (.pair (.sl true 5 (.int .u8) none) .unit) .unit))]⟩, [(.exit 4, ⟨[], [(3, .ptr 11 []), (45, .val (.sl false 46 (.sl false 45 (.arr 3 (.int .i64)) none) none)), (46, .val (.int .i64)), (47, .val (.int .i64)), (57, .val (.sl false 45 (.arr 3 (.int .i64)) none)), (58, .val (.int .i64)), (59, .val (.int .i64))], [(11, some 65, (.pair (.pair (.sl true 5 (.int .u8) none) .unit) .unit))]⟩)], fun v => F15_0 k k v.1.1 v.1.2.1 v.1.2.2.1 v.1.2.2.2.1 v.1.2.2.2.2.1 v.1.2.2.2.2.2.1 v.1.2.2.2.2.2.2.1 v.1.2.2.2.2.2.2.2.1 v.2.1⟩
def F15_1 (k : Nat) : Nat → (List (List (List Int))) → Int → Int → (List (List Int)) → Int → Int → (((List Int) × Unit) × Unit) → Option ((((List (List (List Int))) × Int × Int × Unit) × ((((List Int) × Unit) × Unit) × Unit)))
  | 0, _, _, _, _, _, _, _ => none
  | n + 1, t45, t46, t47, t57, t58, t59, c11 =>
    bif (decide (t59 < t58)) then
      if 0 ≤ t59 ∧ t59 < ((List.length t57 : Nat) : Int) then
        let x20 := (List.getD t57 (Int.toNat t59) ([] : (List Int)))
        (F15_0 k k t45 t46 t47 t57 t58 t59 x20 (0 : Int) c11).bind fun r21 =>
        let y22 := r21.1.1
        let y23 := r21.1.2.1
        let y24 := r21.1.2.2.1
        let y25 := r21.1.2.2.2.1
        let y26 := r21.1.2.2.2.2.1
        let y27 := r21.1.2.2.2.2.2.1
        let y28 := r21.2.1
        (F15_1 k n y22 y23 y24 y25 y26 (IntKind.wrap .i64 (y27 + (1 : Int))) y28).bind some
      else none
    else
      some ((t45, t46, t47, ()), (c11, ()))
def fr15_1 (k : Nat) : Frag := ⟨⟨[], [(3, .ptr 11 []), (45, .val (.sl false 46 (.sl false 45 (.arr 3 (.int .i64)) none) none)), (46, .val (.int .i64)), (47, .val (.int .i64)), (57, .val (.sl false 45 (.arr 3 (.int .i64)) none)), (58, .val (.int .i64)), (59, .val (.int .i64))], [(11, some 65, (.pair (.pair (.sl true 5 (.int .u8) none) .unit) .unit))]⟩, [(.exit 2, ⟨[], [(3, .ptr 11 []), (45, .val (.sl false 46 (.sl false 45 (.arr 3 (.int .i64)) none) none)), (46, .val (.int .i64)), (47, .val (.int .i64))], [(11, some 65, (.pair (.pair (.sl true 5 (.int .u8) none) .unit) .unit))]⟩)], fun v => F15_1 k k v.1.1 v.1.2.1 v.1.2.2.1 v.1.2.2.2.1 v.1.2.2.2.2.1 v.1.2.2.2.2.2.1 v.2.1⟩
def F15_2 (k : Nat) : Nat → (List (List (List Int))) → Int → Int → (((List Int) × Unit) × Unit) → Option ((Unit × ((((List Int) × Unit) × Unit) × Unit)))
  | 0, _, _, _, _ => none
  | n + 1, t45, t46, t47, c11 =>
    bif (decide (t47 < t46)) then
      if 0 ≤ t47 ∧ t47 < ((List.length t45 : Nat) : Int) then
        let x34 := (List.getD t45 (Int.toNat t47) ([] : (List (List Int))))
        (F38 k c11 ((List.length x34 : Nat) : Int)).bind fun r35 =>
        (F15_1 k k t45 t46 t47 x34 ((List.length x34 : Nat) : Int) (0 : Int) r35.2.1).bind fun r36 =>
        let y37 := r36.1.1
        let y38 := r36.1.2.1
        let y39 := r36.1.2.2.1
        let y40 := r36.2.1
        (F15_2 k n y37 y38 (IntKind.wrap .i64 (y39 + (1 : Int))) y40).bind some
      else none
    else
      some ((), (c11, ()))
def fr15_2 (k : Nat) : Frag := ⟨⟨[], [(3, .ptr 11 []), (45, .val (.sl false 46 (.sl false 45 (.arr 3 (.int .i64)) none) none)), (46, .val (.int .i64)), (47, .val (.int .i64))], [(11, some 65, (.pair (.pair (.sl true 5 (.int .u8) none) .unit) .unit))]⟩, [(.exit 0, ⟨[], [(3, .ptr 11 [])], [(11, some 65, (.pair (.pair (.sl true 5 (.int .u8) none) .unit) .unit))]⟩)], fun v => F15_2 k k v.1.1 v.1.2.1 v.1.2.2.1 v.2.1⟩
def F15 (k : Nat) (a0 : ((List Int) × ((List Int) × (((List (List Int)) × ((List Int) × Unit)) × (((List (List Int)) × ((List (List (List Int))) × Unit)) × Unit))))) : Option (((List Int) × Unit) × Unit) :=
  (F36 k ((([] : (List Int)), ()), ()) a0.1).bind fun r1 =>
  (F36 k r1.2.1 a0.2.1).bind fun r2 =>
  (F37 k r2.2.1 a0.2.2.1.1).bind fun r3 =>
  (F36 k r3.2.1 a0.2.2.1.2.1).bind fun r4 =>
  (F37 k r4.2.1 a0.2.2.2.1.1).bind fun r5 =>
  (F38 k r5.2.1 ((List.length a0.2.2.2.1.2.1 : Nat) : Int)).bind fun r6 =>
  (F15_2 k k a0.2.2.2.1.2.1 ((List.length a0.2.2.2.1.2.1 : Nat) : Int) (0 : Int) r6.2.1).bind fun r41 =>
  let y42 := r41.2.1
  (F23 k y42.1.1).bind fun r43 =>
  (F38 k y42 r43.1.1).bind fun r44 =>
  (F39 k r44.2.1.1.1).bind fun r45 =>
  some ((r45.1.1, ()), ())
def sp15 (k : Nat) : Spec := ⟨[.val (.pair (.sl false 3 (.int .i64) none) (.pair (.sl false 3 (.int .i64) none) (.pair (.pair (.sl false 22 (.sl false 3 (.int .i64) none) none) (.pair (.sl false 3 (.int .i64) none) .unit)) (.pair (.pair (.sl false 22 (.sl false 3 (.int .i64) none) none) (.pair (.sl false 46 (.sl false 45 (.arr 3 (.int .i64)) none) none) .unit)) .unit))))], [.own (.sl true 5 (.int .u8) none)], fun x => F15 k x.1⟩
def lim15 : Lim := ⟨91, 1, false, false⟩
def cfg15 (k : Nat) : Nat → Option Spec := cfgL [(23, sp23 k), (36, sp36 k), (37, sp37 k), (38, sp38 k), (39, sp39 k)]
theorem cfg15_ok (k : Nat) : CfgOK Try.prog (cfg15 k) := cfgL_cons (v23 k) (cfgL_cons (v36 k) (cfgL_cons (v37 k) (cfgL_cons (v38 k) (cfgL_cons (v39 k) (cfgL_nil)))))
def pl15_0 (k : Nat) : Plan := .go
theorem pq15_0 (k : Nat) : PlanOK Try.prog lim15 (pl15_0 k) (codeAt (bodyOf Try.f15) [.r, .r, .r, .r, .r, .r, .r, .r, .l, .r, .s, .b, .r, .r, .l, .s, .r, .r, .r, .s, .b, .r, .r, .l, .s, .r, .r, .s, .b]) = PlanOK Try.prog lim15 .go (codeAt (bodyOf Try.f15) [.r, .r, .r, .r, .r, .r, .r, .r, .l, .r, .s, .b, .r, .r, .l, .s, .r, .r, .r, .s, .b, .r, .r, .l, .s, .r, .r, .s, .b]) := by kernel_rfl
theorem ps15_0 (k m : Nat) (v : (fr15_0 k).sh.V) : F15_0 k (m + 1) v.1.1 v.1.2.1 v.1.2.2.1 v.1.2.2.2.1 v.1.2.2.2.2.1 v.1.2.2.2.2.2.1 v.1.2.2.2.2.2.2.1 v.1.2.2.2.2.2.2.2.1 v.2.1 = (body Try.prog (stepper Try.prog (cfg15 k) lim15) (pl15_0 k) (codeAt (bodyOf Try.f15) [.r, .r, .r, .r, .r, .r, .r, .r, .l, .r, .s, .b, .r, .r, .l, .s, .r, .r, .r, .s, .b, .r, .r, .l, .s, .r, .r, .s, .b]) ((fr15_0 k).sh.st v) (loopK (fr15_0 k) fun v => F15_0 k m v.1.1 v.1.2.1 v.1.2.2.1 v.1.2.2.2.1 v.1.2.2.2.2.1 v.1.2.2.2.2.2.1 v.1.2.2.2.2.2.2.1 v.1.2.2.2.2.2.2.2.1 v.2.1)).eval := by kernel_rfl
theorem pe15_0 (k m : Nat) (v : (fr15_0 k).sh.V) : (body Try.prog (stepper Try.prog (cfg15 k) lim15) (pl15_0 k) (codeAt (bodyOf Try.f15) [.r, .r, .r, .r, .r, .r, .r, .r, .l, .r, .s, .b, .r, .r, .l, .s, .r, .r, .r, .s, .b, .r, .r, .l, .s, .r, .r, .s, .b]) ((fr15_0 k).sh.st v) (loopK (fr15_0 k) fun v => F15_0 k m v.1.1 v.1.2.1 v.1.2.2.1 v.1.2.2.2.1 v.1.2.2.2.2.1 v.1.2.2.2.2.2.1 v.1.2.2.2.2.2.2.1 v.1.2.2.2.2.2.2.2.1 v.2.1)).left = (body Try.prog (stepper Try.prog (cfg15 k) lim15) (pl15_0 k) (codeAt (bodyOf Try.f15) [.r, .r, .r, .r, .r, .r, .r, .r, .l, .r, .s, .b, .r, .r, .l, .s, .r, .r, .r, .s, .b, .r, .r, .l, .s, .r, .r, .s, .b]) ((fr15_0 k).sh.st v) (loopK (fr15_0 k) fun v => F15_0 k m v.1.1 v.1.2.1 v.1.2.2.1 v.1.2.2.2.1 v.1.2.2.2.2.1 v.1.2.2.2.2.2.1 v.1.2.2.2.2.2.2.1 v.1.2.2.2.2.2.2.2.1 v.2.1)).right := by kernel_rfl
theorem fr15_0_ok (k : Nat) : FragOK Try.prog lim15 (fr15_0 k) (codeAt (bodyOf Try.f15) [.r, .r, .r, .r, .r, .r, .r, .r, .l, .r, .s, .b, .r, .r, .l, .s, .r, .r, .r, .s, .b, .r, .r, .l, .s, .r, .r, .s]) :=
  frag_cast (by kernel_rfl) (loop_ok (cfg15_ok k) (Eq.mpr (pq15_0 k) (planOK_go _)) (fun m v => F15_0 k m v.1.1 v.1.2.1 v.1.2.2.1 v.1.2.2.2.1 v.1.2.2.2.2.1 v.1.2.2.2.2.2.1 v.1.2.2.2.2.2.2.1 v.1.2.2.2.2.2.2.2.1 v.2.1) k (fun _ => rfl) (fun _ => rfl) fun m v => ⟨ps15_0 k m v, pe15_0 k m v⟩)
def pl15_1 (k : Nat) : Plan := (.seq .go (.seq .go (.seq (.sub (.seq .go (.seq .go (.sub (.frag (fr15_0 k)))))) .go)))
theorem pq15_1 (k : Nat) : PlanOK Try.prog lim15 (pl15_1 k) (codeAt (bodyOf Try.f15) [.r, .r, .r, .r, .r, .r, .r, .r, .l, .r, .s, .b, .r, .r, .l, .s, .r, .r, .r, .s, .b]) = (PlanOK Try.prog lim15 .go (codeAt (bodyOf Try.f15) [.r, .r, .r, .r, .r, .r, .r, .r, .l, .r, .s, .b, .r, .r, .l, .s, .r, .r, .r, .s, .b, .l]) ∧ (PlanOK Try.prog lim15 .go (codeAt (bodyOf Try.f15) [.r, .r, .r, .r, .r, .r, .r, .r, .l, .r, .s, .b, .r, .r, .l, .s, .r, .r, .r, .s, .b, .r, .l]) ∧ ((PlanOK Try.prog lim15 .go (codeAt (bodyOf Try.f15) [.r, .r, .r, .r, .r, .r, .r, .r, .l, .r, .s, .b, .r, .r, .l, .s, .r, .r, .r, .s, .b, .r, .r, .l, .s, .l]) ∧ (PlanOK Try.prog lim15 .go (codeAt (bodyOf Try.f15) [.r, .r, .r, .r, .r, .r, .r, .r, .l, .r, .s, .b, .r, .r, .l, .s, .r, .r, .r, .s, .b, .r, .r, .l, .s, .r, .l]) ∧ FragOK Try.prog lim15 (fr15_0 k) (codeAt (bodyOf Try.f15) [.r, .r, .r, .r, .r, .r, .r, .r, .l, .r, .s, .b, .r, .r, .l, .s, .r, .r, .r, .s, .b, .r, .r, .l, .s, .r, .r, .s]))) ∧ PlanOK Try.prog lim15 .go (codeAt (bodyOf Try.f15) [.r, .r, .r, .r, .r, .r, .r, .r, .l, .r, .s, .b, .r, .r, .l, .s, .r, .r, .r, .s, .b, .r, .r, .r])))) := by kernel_rfl
theorem ps15_1 (k m : Nat) (v : (fr15_1 k).sh.V) : F15_1 k (m + 1) v.1.1 v.1.2.1 v.1.2.2.1 v.1.2.2.2.1 v.1.2.2.2.2.1 v.1.2.2.2.2.2.1 v.2.1 = (body Try.prog (stepper Try.prog (cfg15 k) lim15) (pl15_1 k) (codeAt (bodyOf Try.f15) [.r, .r, .r, .r, .r, .r, .r, .r, .l, .r, .s, .b, .r, .r, .l, .s, .r, .r, .r, .s, .b]) ((fr15_1 k).sh.st v) (loopK (fr15_1 k) fun v => F15_1 k m v.1.1 v.1.2.1 v.1.2.2.1 v.1.2.2.2.1 v.1.2.2.2.2.1 v.1.2.2.2.2.2.1 v.2.1)).eval := by kernel_rfl
theorem pe15_1 (k m : Nat) (v : (fr15_1 k).sh.V) : (body Try.prog (stepper Try.prog (cfg15 k) lim15) (pl15_1 k) (codeAt (bodyOf Try.f15) [.r, .r, .r, .r, .r, .r, .r, .r, .l, .r, .s, .b, .r, .r, .l, .s, .r, .r, .r, .s, .b]) ((fr15_1 k).sh.st v) (loopK (fr15_1 k) fun v => F15_1 k m v.1.1 v.1.2.1 v.1.2.2.1 v.1.2.2.2.1 v.1.2.2.2.2.1 v.1.2.2.2.2.2.1 v.2.1)).left = (body Try.prog (stepper Try.prog (cfg15 k) lim15) (pl15_1 k) (codeAt (bodyOf Try.f15) [.r, .r, .r, .r, .r, .r, .r, .r, .l, .r, .s, .b, .r, .r, .l, .s, .r, .r, .r, .s, .b]) ((fr15_1 k).sh.st v) (loopK (fr15_1 k) fun v => F15_1 k m v.1.1 v.1.2.1 v.1.2.2.1 v.1.2.2.2.1 v.1.2.2.2.2.1 v.1.2.2.2.2.2.1 v.2.1)).right := by kernel_rfl
theorem fr15_1_ok (k : Nat) : FragOK Try.prog lim15 (fr15_1 k) (codeAt (bodyOf Try.f15) [.r, .r, .r, .r, .r, .r, .r, .r, .l, .r, .s, .b, .r, .r, .l, .s, .r, .r, .r, .s]) :=
  frag_cast (by kernel_rfl) (loop_ok (cfg15_ok k) (Eq.mpr (pq15_1 k) ⟨(planOK_go _), ⟨(planOK_go _), ⟨⟨(planOK_go _), ⟨(planOK_go _), (fr15_0_ok k)⟩⟩, (planOK_go _)⟩⟩⟩) (fun m v => F15_1 k m v.1.1 v.1.2.1 v.1.2.2.1 v.1.2.2.2.1 v.1.2.2.2.2.1 v.1.2.2.2.2.2.1 v.2.1) k (fun _ => rfl) (fun _ => rfl) fun m v => ⟨ps15_1 k m v, pe15_1 k m v⟩)
def pl15_2 (k : Nat) : Plan := (.seq .go (.seq .go (.seq (.sub (.seq .go (.seq .go (.seq .go (.sub (.frag (fr15_1 k))))))) .go)))
theorem pq15_2 (k : Nat) : PlanOK Try.prog lim15 (pl15_2 k) (codeAt (bodyOf Try.f15) [.r, .r, .r, .r, .r, .r, .r, .r, .l, .r, .s, .b]) = (PlanOK Try.prog lim15 .go (codeAt (bodyOf Try.f15) [.r, .r, .r, .r, .r, .r, .r, .r, .l, .r, .s, .b, .l]) ∧ (PlanOK Try.prog lim15 .go (codeAt (bodyOf Try.f15) [.r, .r, .r, .r, .r, .r, .r, .r, .l, .r, .s, .b, .r, .l]) ∧ ((PlanOK Try.prog lim15 .go (codeAt (bodyOf Try.f15) [.r, .r, .r, .r, .r, .r, .r, .r, .l, .r, .s, .b, .r, .r, .l, .s, .l]) ∧ (PlanOK Try.prog lim15 .go (codeAt (bodyOf Try.f15) [.r, .r, .r, .r, .r, .r, .r, .r, .l, .r, .s, .b, .r, .r, .l, .s, .r, .l]) ∧ (PlanOK Try.prog lim15 .go (codeAt (bodyOf Try.f15) [.r, .r, .r, .r, .r, .r, .r, .r, .l, .r, .s, .b, .r, .r, .l, .s, .r, .r, .l]) ∧ FragOK Try.prog lim15 (fr15_1 k) (codeAt (bodyOf Try.f15) [.r, .r, .r, .r, .r, .r, .r, .r, .l, .r, .s, .b, .r, .r, .l, .s, .r, .r, .r, .s])))) ∧ PlanOK Try.prog lim15 .go (codeAt (bodyOf Try.f15) [.r, .r, .r, .r, .r, .r, .r, .r, .l, .r, .s, .b, .r, .r, .r])))) := by kernel_rfl
theorem ps15_2 (k m : Nat) (v : (fr15_2 k).sh.V) : F15_2 k (m + 1) v.1.1 v.1.2.1 v.1.2.2.1 v.2.1 = (body Try.prog (stepper Try.prog (cfg15 k) lim15) (pl15_2 k) (codeAt (bodyOf Try.f15) [.r, .r, .r, .r, .r, .r, .r, .r, .l, .r, .s, .b]) ((fr15_2 k).sh.st v) (loopK (fr15_2 k) fun v => F15_2 k m v.1.1 v.1.2.1 v.1.2.2.1 v.2.1)).eval := by kernel_rfl
theorem pe15_2 (k m : Nat) (v : (fr15_2 k).sh.V) : (body Try.prog (stepper Try.prog (cfg15 k) lim15) (pl15_2 k) (codeAt (bodyOf Try.f15) [.r, .r, .r, .r, .r, .r, .r, .r, .l, .r, .s, .b]) ((fr15_2 k).sh.st v) (loopK (fr15_2 k) fun v => F15_2 k m v.1.1 v.1.2.1 v.1.2.2.1 v.2.1)).left = (body Try.prog (stepper Try.prog (cfg15 k) lim15) (pl15_2 k) (codeAt (bodyOf Try.f15) [.r, .r, .r, .r, .r, .r, .r, .r, .l, .r, .s, .b]) ((fr15_2 k).sh.st v) (loopK (fr15_2 k) fun v => F15_2 k m v.1.1 v.1.2.1 v.1.2.2.1 v.2.1)).right := by kernel_rfl
theorem fr15_2_ok (k : Nat) : FragOK Try.prog lim15 (fr15_2 k) (codeAt (bodyOf Try.f15) [.r, .r, .r, .r, .r, .r, .r, .r, .l, .r, .s]) :=
  frag_cast (by kernel_rfl) (loop_ok (cfg15_ok k) (Eq.mpr (pq15_2 k) ⟨(planOK_go _), ⟨(planOK_go _), ⟨⟨(planOK_go _), ⟨(planOK_go _), ⟨(planOK_go _), (fr15_1_ok k)⟩⟩⟩, (planOK_go _)⟩⟩⟩) (fun m v => F15_2 k m v.1.1 v.1.2.1 v.1.2.2.1 v.2.1) k (fun _ => rfl) (fun _ => rfl) fun m v => ⟨ps15_2 k m v, pe15_2 k m v⟩)
def pl15 (k : Nat) : Plan := (.seq .go (.seq .go (.seq .go (.seq .go (.seq .go (.seq .go (.seq .go (.seq .go (.seq (.seq .go (.sub (.frag (fr15_2 k)))) .go)))))))))
theorem pq15 (k : Nat) : PlanOK Try.prog lim15 (pl15 k) (codeAt (bodyOf Try.f15) []) = (PlanOK Try.prog lim15 .go (codeAt (bodyOf Try.f15) [.l]) ∧ (PlanOK Try.prog lim15 .go (codeAt (bodyOf Try.f15) [.r, .l]) ∧ (PlanOK Try.prog lim15 .go (codeAt (bodyOf Try.f15) [.r, .r, .l]) ∧ (PlanOK Try.prog lim15 .go (codeAt (bodyOf Try.f15) [.r, .r, .r, .l]) ∧ (PlanOK Try.prog lim15 .go (codeAt (bodyOf Try.f15) [.r, .r, .r, .r, .l]) ∧ (PlanOK Try.prog lim15 .go (codeAt (bodyOf Try.f15) [.r, .r, .r, .r, .r, .l]) ∧ (PlanOK Try.prog lim15 .go (codeAt (bodyOf Try.f15) [.r, .r, .r, .r, .r, .r, .l]) ∧ (PlanOK Try.prog lim15 .go (codeAt (bodyOf Try.f15) [.r, .r, .r, .r, .r, .r, .r, .l]) ∧ ((PlanOK Try.prog lim15 .go (codeAt (bodyOf Try.f15) [.r, .r, .r, .r, .r, .r, .r, .r, .l, .l]) ∧ FragOK Try.prog lim15 (fr15_2 k) (codeAt (bodyOf Try.f15) [.r, .r, .r, .r, .r, .r, .r, .r, .l, .r, .s])) ∧ PlanOK Try.prog lim15 .go (codeAt (bodyOf Try.f15) [.r, .r, .r, .r, .r, .r, .r, .r, .r])))))))))) := by kernel_rfl
theorem ev15 (k : Nat) (x : AT (sp15 k).ps) : (sp15 k).impl x = (fnT Try.prog (cfg15 k) lim15 Try.f15 (bodyOf Try.f15) (pl15 k) (sp15 k) x).eval := by kernel_rfl
theorem eq15 (k : Nat) (x : AT (sp15 k).ps) : (fnT Try.prog (cfg15 k) lim15 Try.f15 (bodyOf Try.f15) (pl15 k) (sp15 k) x).left = (fnT Try.prog (cfg15 k) lim15 Try.f15 (bodyOf Try.f15) (pl15 k) (sp15 k) x).right := by kernel_rfl
theorem v15 (k : Nat) : Callable Try.prog 15 ∧ Valid Try.prog 15 (sp15 k) :=
  fn_ok (cfg15_ok k) (f := 15) (fn := Try.f15) (by kernel_rfl) (c := bodyOf Try.f15) (by kernel_rfl) (by kernel_rfl) rfl rfl (Nat.le_of_ble_eq_true rfl) (Nat.le_of_ble_eq_true rfl) (p := pl15 k) (Eq.mpr (pq15 k) ⟨(planOK_go _), ⟨(planOK_go _), ⟨(planOK_go _), ⟨(planOK_go _), ⟨(planOK_go _), ⟨(planOK_go _), ⟨(planOK_go _), ⟨(planOK_go _), ⟨⟨(planOK_go _), (fr15_2_ok k)⟩, (planOK_go _)⟩⟩⟩⟩⟩⟩⟩⟩⟩) fun x => ⟨ev15 k x, eq15 k x⟩
/-! f45 (*hyphen/table.source).number -/
def F45_0 (k : Nat) : Nat → Int → (List Int) → Int → Int → (((List Int) × (Bool × Unit)) × Unit) → Option (((Int × Unit) × ((((List Int) × (Bool × Unit)) × Unit) × Unit)))
  | 0, _, _, _, _, _ => none
  | n + 1, t3, t22, t23, t24, c0 =>
    bif (decide (t24 < t23)) then
      if 0 ≤ t24 ∧ t24 < ((List.length t22 : Nat) : Int) then
        let x6 := (IntKind.wrap .i64 (t3 * 2 ^ (min (Int.toNat (8 : Int)) (IntKind.bits .i64))))
        let x7 := (IntKind.wrap .i64 (List.getD t22 (Int.toNat t24) (0 : Int)))
        let x8 := (IntKind.wrap .i64 (((BitVec.ofInt (IntKind.bits .i64) x6 ||| BitVec.ofInt (IntKind.bits .i64) x7).toNat : Nat) : Int))
        (F45_0 k n x8 t22 t23 (IntKind.wrap .i64 (t24 + (1 : Int))) c0).bind some
      else none
    else
      some ((t3, ()), (c0, ()))
def fr45_0 (k : Nat) : Frag := ⟨⟨[], [(0, .ptr 0 [.fst]), (3, .val (.int .i64)), (22, .val (.sl false 5 (.int .u8) none)), (23, .val (.int .i64)), (24, .val (.int .i64))], [(0, some 73, (.pair (.pair (.sl false 5 (.int .u8) none) (.pair .bool .unit)) .unit))]⟩, [(.exit 0, ⟨[], [(0, .ptr 0 [.fst]), (3, .val (.int .i64))], [(0, some 73, (.pair (.pair (.sl false 5 (.int .u8) none) (.pair .bool .unit)) .unit))]⟩)], fun v => F45_0 k k v.1.1 v.1.2.1 v.1.2.2.1 v.1.2.2.2.1 v.2.1⟩
def F45 (k : Nat) (a0 : (((List Int) × (Bool × Unit)) × Unit)) : Option ((Int × Unit) × ((((List Int) × (Bool × Unit)) × Unit) × Unit)) :=
  let x1 := (decide (((List.length a0.1.1 : Nat) : Int) < (8 : Int)))
  bif x1 then
    some (((0 : Int), ()), ((([], (true, a0.1.2.2)), a0.2), ()))
  else
    if 0 ≤ (0 : Int) ∧ (0 : Int) ≤ (8 : Int) ∧ (8 : Int) ≤ ((List.length a0.1.1 : Nat) : Int) then
      let x2 := (List.take (Int.toNat (8 : Int) - Int.toNat (0 : Int)) (List.drop (Int.toNat (0 : Int)) a0.1.1))
      (F45_0 k k (0 : Int) x2 ((List.length x2 : Nat) : Int) (0 : Int) a0).bind fun r9 =>
      let y10 := r9.1.1
      let y11 := r9.2.1
      if 0 ≤ (8 : Int) ∧ (8 : Int) ≤ ((List.length y11.1.1 : Nat) : Int) ∧ ((List.length y11.1.1 : Nat) : Int) ≤ ((List.length y11.1.1 : Nat) : Int) then
        let x12 := (List.take (Int.toNat ((List.length y11.1.1 : Nat) : Int) - Int.toNat (8 : Int)) (List.drop (Int.toNat (8 : Int)) y11.1.1))
        some ((y10, ()), (((x12, y11.1.2), y11.2), ()))
      else none
    else none
def sp45 (k : Nat) : Spec := ⟨[.ptr 73 (.pair (.pair (.sl false 5 (.int .u8) none) (.pair .bool .unit)) .unit) [.fst]], [.val (.int .i64)], fun x => F45 k x.1⟩
def lim45 : Lim := ⟨43, 1, false, false⟩
def cfg45 (k : Nat) : Nat → Option Spec := cfgL []
theorem cfg45_ok (k : Nat) : CfgOK Try.prog (cfg45 k) := cfgL_nil
def pl45_0 (k : Nat) : Plan := .go
theorem pq45_0 (k : Nat) : PlanOK Try.prog lim45 (pl45_0 k) (codeAt (bodyOf Try.f45) [.r, .r, .r, .l, .r, .s, .b]) = PlanOK Try.prog lim45 .go (codeAt (bodyOf Try.f45) [.r, .r, .r, .l, .r, .s, .b]) := by kernel_rfl
theorem ps45_0 (k m : Nat) (v : (fr45_0 k).sh.V) : F45_0 k (m + 1) v.1.1 v.1.2.1 v.1.2.2.1 v.1.2.2.2.1 v.2.1 = (body Try.prog (stepper Try.prog (cfg45 k) lim45) (pl45_0 k) (codeAt (bodyOf Try.f45) [.r, .r, .r, .l, .r, .s, .b]) ((fr45_0 k).sh.st v) (loopK (fr45_0 k) fun v => F45_0 k m v.1.1 v.1.2.1 v.1.2.2.1 v.1.2.2.2.1 v.2.1)).eval := by kernel_rfl
theorem pe45_0 (k m : Nat) (v : (fr45_0 k).sh.V) : (body Try.prog (stepper Try.prog (cfg45 k) lim45) (pl45_0 k) (codeAt (bodyOf Try.f45) [.r, .r, .r, .l, .r, .s, .b]) ((fr45_0 k).sh.st v) (loopK (fr45_0 k) fun v => F45_0 k m v.1.1 v.1.2.1 v.1.2.2.1 v.1.2.2.2.1 v.2.1)).left = (body Try.prog (stepper Try.prog (cfg45 k) lim45) (pl45_0 k) (codeAt (bodyOf Try.f45) [.r, .r, .r, .l, .r, .s, .b]) ((fr45_0 k).sh.st v) (loopK (fr45_0 k) fun v => F45_0 k m v.1.1 v.1.2.1 v.1.2.2.1 v.1.2.2.2.1 v.2.1)).right := by kernel_rfl
theorem fr45_0_ok (k : Nat) : FragOK Try.prog lim45 (fr45_0 k) (codeAt (bodyOf Try.f45) [.r, .r, .r, .l, .r, .s]) :=
  frag_cast (by kernel_rfl) (loop_ok (cfg45_ok k) (Eq.mpr (pq45_0 k) (planOK_go _)) (fun m v => F45_0 k m v.1.1 v.1.2.1 v.1.2.2.1 v.1.2.2.2.1 v.2.1) k (fun _ => rfl) (fun _ => rfl) fun m v => ⟨ps45_0 k m v, pe45_0 k m v⟩)
def pl45 (k : Nat) : Plan := (.seq .go (.seq .go (.seq .go (.seq (.seq .go (.sub (.frag (fr45_0 k)))) .go))))
theorem pq45 (k : Nat) : PlanOK Try.prog lim45 (pl45 k) (codeAt (bodyOf Try.f45) []) = (PlanOK Try.prog lim45 .go (codeAt (bodyOf Try.f45) [.l]) ∧ (PlanOK Try.prog lim45 .go (codeAt (bodyOf Try.f45) [.r, .l]) ∧ (PlanOK Try.prog lim45 .go (codeAt (bodyOf Try.f45) [.r, .r, .l]) ∧ ((PlanOK Try.prog lim45 .go (codeAt (bodyOf Try.f45) [.r, .r, .r, .l, .l]) ∧ FragOK Try.prog lim45 (fr45_0 k) (codeAt (bodyOf Try.f45) [.r, .r, .r, .l, .r, .s])) ∧ PlanOK Try.prog lim45 .go (codeAt (bodyOf Try.f45) [.r, .r, .r, .r]))))) := by kernel_rfl
theorem ev45 (k : Nat) (x : AT (sp45 k).ps) : (sp45 k).impl x = (fnT Try.prog (cfg45 k) lim45 Try.f45 (bodyOf Try.f45) (pl45 k) (sp45 k) x).eval := by kernel_rfl
theorem eq45 (k : Nat) (x : AT (sp45 k).ps) : (fnT Try.prog (cfg45 k) lim45 Try.f45 (bodyOf Try.f45) (pl45 k) (sp45 k) x).left = (fnT Try.prog (cfg45 k) lim45 Try.f45 (bodyOf Try.f45) (pl45 k) (sp45 k) x).right := by kernel_rfl
theorem v45 (k : Nat) : Callable Try.prog 45 ∧ Valid Try.prog 45 (sp45 k) :=
  fn_ok (cfg45_ok k) (f := 45) (fn := Try.f45) (by kernel_rfl) (c := bodyOf Try.f45) (by kernel_rfl) (by kernel_rfl) rfl rfl (Nat.le_of_ble_eq_true rfl) (Nat.le_of_ble_eq_true rfl) (p := pl45 k) (Eq.mpr (pq45 k) ⟨(planOK_go _), ⟨(planOK_go _), ⟨(planOK_go _), ⟨⟨(planOK_go _), (fr45_0_ok k)⟩, (planOK_go _)⟩⟩⟩⟩) fun x => ⟨ev45 k x, eq45 k x⟩
/-! f42 (*hyphen/table.reader).many -/
def F42 (k : Nat) (a0 : (((List Int) × (Bool × Unit)) × Unit)) (a1 : Int) : Option ((Int × Unit) × ((((List Int) × (Bool × Unit)) × Unit) × Unit)) :=
  (F45 k a0).bind fun r1 =>
  bif (decide (r1.1.1 < (0 : Int))) then
    some (((0 : Int), ()), (((r1.2.1.1.1, (true, r1.2.1.1.2.2)), r1.2.1.2), ()))
  else
    bif (decide (r1.1.1 > (100000 : Int))) then
      some (((0 : Int), ()), (((r1.2.1.1.1, (true, r1.2.1.1.2.2)), r1.2.1.2), ()))
    else
      if a1 ≠ 0 then
        let x2 := (IntKind.wrap .i64 (Int.tdiv ((List.length r1.2.1.1.1 : Nat) : Int) a1))
        bif (decide (r1.1.1 > x2)) then
          some (((0 : Int), ()), (((r1.2.1.1.1, (true, r1.2.1.1.2.2)), r1.2.1.2), ()))
        else
          some ((r1.1.1, ()), (r1.2.1, ()))
      else none
def sp42 (k : Nat) : Spec := ⟨[.ptr 73 (.pair (.pair (.sl false 5 (.int .u8) none) (.pair .bool .unit)) .unit) [], .val (.int .i64)], [.val (.int .i64)], fun x => F42 k x.1 x.2.1⟩
def lim42 : Lim := ⟨33, 2, false, false⟩
def cfg42 (k : Nat) : Nat → Option Spec := cfgL [(45, sp45 k)]
theorem cfg42_ok (k : Nat) : CfgOK Try.prog (cfg42 k) := cfgL_cons (v45 k) (cfgL_nil)
def pl42 (k : Nat) : Plan := .go
theorem pq42 (k : Nat) : PlanOK Try.prog lim42 (pl42 k) (codeAt (bodyOf Try.f42) []) = PlanOK Try.prog lim42 .go (codeAt (bodyOf Try.f42) []) := by kernel_rfl
theorem ev42 (k : Nat) (x : AT (sp42 k).ps) : (sp42 k).impl x = (fnT Try.prog (cfg42 k) lim42 Try.f42 (bodyOf Try.f42) (pl42 k) (sp42 k) x).eval := by kernel_rfl
theorem eq42 (k : Nat) (x : AT (sp42 k).ps) : (fnT Try.prog (cfg42 k) lim42 Try.f42 (bodyOf Try.f42) (pl42 k) (sp42 k) x).left = (fnT Try.prog (cfg42 k) lim42 Try.f42 (bodyOf Try.f42) (pl42 k) (sp42 k) x).right := by kernel_rfl
theorem v42 (k : Nat) : Callable Try.prog 42 ∧ Valid Try.prog 42 (sp42 k) :=
  fn_ok (cfg42_ok k) (f := 42) (fn := Try.f42) (by kernel_rfl) (c := bodyOf Try.f42) (by kernel_rfl) (by kernel_rfl) rfl rfl (Nat.le_of_ble_eq_true rfl) (Nat.le_of_ble_eq_true rfl) (p := pl42 k) (Eq.mpr (pq42 k) (planOK_go _)) fun x => ⟨ev42 k x, eq42 k x⟩
/-! f62 slices.Clone[[]int,int] -/
def F62 (k : Nat) (a0 : (List Int)) : Option (((List Int) × Unit) × Unit) :=
  bif (((List.length a0 : Nat) : Int) == 0) then
    some (([], ()), ())
  else
    if (List.length (List.replicate 0 (0 : Int)) + List.length a0) * (8 * 2) ≤ 281474976710656 ∧ List.length (List.replicate 0 (0 : Int)) + List.length a0 ≤ 9223372036854775807 then
      some ((((List.replicate 0 (0 : Int)) ++ a0), ()), ())
    else none
def sp62 (k : Nat) : Spec := ⟨[.val (.sl false 3 (.int .i64) none)], [.own (.sl true 3 (.int .i64) none)], fun x => F62 k x.1⟩
def lim62 : Lim := ⟨8, 1, true, false⟩
def cfg62 (k : Nat) : Nat → Option Spec := cfgL []
theorem cfg62_ok (k : Nat) : CfgOK Try.prog (cfg62 k) := cfgL_nil
def pl62 (k : Nat) : Plan := .go
theorem pq62 (k : Nat) : PlanOK Try.prog lim62 (pl62 k) (codeAt (bodyOf Try.f62) []) = PlanOK Try.prog lim62 .go (codeAt (bodyOf Try.f62) []) := by kernel_rfl
theorem ev62 (k : Nat) (x : AT (sp62 k).ps) : (sp62 k).impl x = (fnT Try.prog (cfg62 k) lim62 Try.f62 (bodyOf Try.f62) (pl62 k) (sp62 k) x).eval := by kernel_rfl
theorem tr62 (k : Nat) (x : AT (sp62 k).ps) : (fnT Try.prog (cfg62 k) lim62 Try.f62 (bodyOf Try.f62) (pl62 k) (sp62 k) x) = (Tr.split (((List.length x.1 : Nat) : Int) == 0) (.both (.split true (.leaf (([], ()), ())) (.need ((List.length (List.replicate 0 (0 : Int)) + List.length x.1) * (8 * 2) ≤ 281474976710656 ∧ List.length (List.replicate 0 (0 : Int)) + List.length x.1 ≤ 9223372036854775807) (.leaf (([] ++ x.1, ()), ())))) (.split false (.leaf (([], ()), ())) (.need ((List.length (List.replicate 0 (0 : Int)) + List.length x.1) * (8 * 2) ≤ 281474976710656 ∧ List.length (List.replicate 0 (0 : Int)) + List.length x.1 ≤ 9223372036854775807) (.leaf (([] ++ x.1, ()), ()))))) (.split false (.leaf (([], ()), ())) (.need ((List.length (List.replicate 0 (0 : Int)) + List.length x.1) * (8 * 2) ≤ 281474976710656 ∧ List.length (List.replicate 0 (0 : Int)) + List.length x.1 ≤ 9223372036854775807) (.leaf (([] ++ x.1, ()), ()))))) := by kernel_rfl
theorem sa62 (k : Nat) (x : AT (sp62 k).ps) (r) (h : (sp62 k).impl x = some r) : (fnT Try.prog (cfg62 k) lim62 Try.f62 (bodyOf Try.f62) (pl62 k) (sp62 k) x).sat (· = r) := sat_of_eq (tr62 k x) (clone_sat (a := x.1) (p := (List.length (List.replicate 0 (0 : Int)) + List.length x.1) * (8 * 2) ≤ 281474976710656 ∧ List.length (List.replicate 0 (0 : Int)) + List.length x.1 ≤ 9223372036854775807) (fun e => by rw [e]; simp) h)
theorem v62 (k : Nat) : Callable Try.prog 62 ∧ Valid Try.prog 62 (sp62 k) :=
  fn_sat (cfg62_ok k) (f := 62) (fn := Try.f62) (by kernel_rfl) (c := bodyOf Try.f62) (by kernel_rfl) (by kernel_rfl) rfl rfl (Nat.le_of_ble_eq_true rfl) (Nat.le_of_ble_eq_true rfl) (p := pl62 k) (Eq.mpr (pq62 k) (planOK_go _)) fun x r h => sa62 k x r h
/-! f40 (*hyphen/table.reader).numbers -/
def F40_0 (k : Nat) : Nat → Int → Int → (((List Int) × (Bool × Unit)) × Unit) → (List Int) → Option ((Unit × ((((List Int) × (Bool × Unit)) × Unit) × (List Int) × Unit)))
  | 0, _, _, _, _ => none
  | n + 1, t5, t6, c0, c2000003 =>
    bif (decide (t6 < t5)) then
      (F45 k c0).bind fun r2 =>
      let x3 := (List.set (List.replicate 1 (0 : Int)) 0 r2.1.1)
      if (List.length c2000003 + List.length x3) * (8 * 2) ≤ 281474976710656 ∧ List.length c2000003 + List.length x3 ≤ 9223372036854775807 then
        (F40_0 k n t5 (IntKind.wrap .i64 (t6 + (1 : Int))) r2.2.1 (c2000003 ++ x3)).bind some
      else none
    else
      some ((), (c0, c2000003, ()))
def fr40_0 (k : Nat) : Frag := ⟨⟨[(3, (.sl true 3 (.int .i64) none))], [(0, .ptr 0 []), (3, .at 2000003 []), (5, .val (.int .i64)), (6, .val (.int .i64))], [(0, some 73, (.pair (.pair (.sl false 5 (.int .u8) none) (.pair .bool .unit)) .unit)), (2000003, none, (.sl true 3 (.int .i64) none))]⟩, [(.exit 0, ⟨[(3, (.sl true 3 (.int .i64) none))], [(3, .at 2000003 [])], [(0, some 73, (.pair (.pair (.sl false 5 (.int .u8) none) (.pair .bool .unit)) .unit)), (2000003, none, (.sl true 3 (.int .i64) none))]⟩)], fun v => F40_0 k k v.1.1 v.1.2.1 v.2.1 v.2.2.1⟩
def F40 (k : Nat) (a0 : (((List Int) × (Bool × Unit)) × Unit)) : Option (((List Int) × Unit) × ((((List Int) × (Bool × Unit)) × Unit) × Unit)) :=
  (F42 k a0 (8 : Int)).bind fun r1 =>
  (F40_0 k k r1.1.1 (0 : Int) r1.2.1 []).bind fun r4 =>
  let y5 := r4.2.1
  let y6 := r4.2.2.1
  (F62 k y6).bind fun r7 =>
  some ((r7.1.1, ()), (y5, ()))
def sp40 (k : Nat) : Spec := ⟨[.ptr 73 (.pair (.pair (.sl false 5 (.int .u8) none) (.pair .bool .unit)) .unit) []], [.own (.sl true 3 (.int .i64) none)], fun x => F40 k x.1⟩
def lim40 : Lim := ⟨18, 1, false, false⟩
def cfg40 (k : Nat) : Nat → Option Spec := cfgL [(42, sp42 k), (45, sp45 k), (62, sp62 k)]
theorem cfg40_ok (k : Nat) : CfgOK Try.prog (cfg40 k) := cfgL_cons (v42 k) (cfgL_cons (v45 k) (cfgL_cons (v62 k) (cfgL_nil)))
def pl40_0 (k : Nat) : Plan := .go
theorem pq40_0 (k : Nat) : PlanOK Try.prog lim40 (pl40_0 k) (codeAt (bodyOf Try.f40) [.r, .r, .l, .r, .s, .b]) = PlanOK Try.prog lim40 .go (codeAt (bodyOf Try.f40) [.r, .r, .l, .r, .s, .b]) := by kernel_rfl
theorem ps40_0 (k m : Nat) (v : (fr40_0 k).sh.V) : F40_0 k (m + 1) v.1.1 v.1.2.1 v.2.1 v.2.2.1 = (body Try.prog (stepper Try.prog (cfg40 k) lim40) (pl40_0 k) (codeAt (bodyOf Try.f40) [.r, .r, .l, .r, .s, .b]) ((fr40_0 k).sh.st v) (loopK (fr40_0 k) fun v => F40_0 k m v.1.1 v.1.2.1 v.2.1 v.2.2.1)).eval := by kernel_rfl
theorem pe40_0 (k m : Nat) (v : (fr40_0 k).sh.V) : (body Try.prog (stepper Try.prog (cfg40 k) lim40) (pl40_0 k) (codeAt (bodyOf Try.f40) [.r, .r, .l, .r, .s, .b]) ((fr40_0 k).sh.st v) (loopK (fr40_0 k) fun v => F40_0 k m v.1.1 v.1.2.1 v.2.1 v.2.2.1)).left = (body Try.prog (stepper Try.prog (cfg40 k) lim40) (pl40_0 k) (codeAt (bodyOf Try.f40) [.r, .r, .l, .r, .s, .b]) ((fr40_0 k).sh.st v) (loopK (fr40_0 k) fun v => F40_0 k m v.1.1 v.1.2.1 v.2.1 v.2.2.1)).right := by kernel_rfl
theorem fr40_0_ok (k : Nat) : FragOK Try.prog lim40 (fr40_0 k) (codeAt (bodyOf Try.f40) [.r, .r, .l, .r, .s]) :=
  frag_cast (by kernel_rfl) (loop_ok (cfg40_ok k) (Eq.mpr (pq40_0 k) (planOK_go _)) (fun m v => F40_0 k m v.1.1 v.1.2.1 v.2.1 v.2.2.1) k (fun _ => rfl) (fun _ => rfl) fun m v => ⟨ps40_0 k m v, pe40_0 k m v⟩)
def pl40 (k : Nat) : Plan := (.seq .go (.seq .go (.seq (.seq .go (.sub (.frag (fr40_0 k)))) .go)))
theorem pq40 (k : Nat) : PlanOK Try.prog lim40 (pl40 k) (codeAt (bodyOf Try.f40) []) = (PlanOK Try.prog lim40 .go (codeAt (bodyOf Try.f40) [.l]) ∧ (PlanOK Try.prog lim40 .go (codeAt (bodyOf Try.f40) [.r, .l]) ∧ ((PlanOK Try.prog lim40 .go (codeAt (bodyOf Try.f40) [.r, .r, .l, .l]) ∧ FragOK Try.prog lim40 (fr40_0 k) (codeAt (bodyOf Try.f40) [.r, .r, .l, .r, .s])) ∧ PlanOK Try.prog lim40 .go (codeAt (bodyOf Try.f40) [.r, .r, .r])))) := by kernel_rfl
theorem ev40 (k : Nat) (x : AT (sp40 k).ps) : (sp40 k).impl x = (fnT Try.prog (cfg40 k) lim40 Try.f40 (bodyOf Try.f40) (pl40 k) (sp40 k) x).eval := by kernel_rfl
theorem eq40 (k : Nat) (x : AT (sp40 k).ps) : (fnT Try.prog (cfg40 k) lim40 Try.f40 (bodyOf Try.f40) (pl40 k) (sp40 k) x).left = (fnT Try.prog (cfg40 k) lim40 Try.f40 (bodyOf Try.f40) (pl40 k) (sp40 k) x).right := by kernel_rfl
theorem v40 (k : Nat) : Callable Try.prog 40 ∧ Valid Try.prog 40 (sp40 k) :=
  fn_ok (cfg40_ok k) (f := 40) (fn := Try.f40) (by kernel_rfl) (c := bodyOf Try.f40) (by kernel_rfl) (by kernel_rfl) rfl rfl (Nat.le_of_ble_eq_true rfl) (Nat.le_of_ble_eq_true rfl) (p := pl40 k) (Eq.mpr (pq40 k) ⟨(planOK_go _), ⟨(planOK_go _), ⟨⟨(planOK_go _), (fr40_0_ok k)⟩, (planOK_go _)⟩⟩⟩) fun x => ⟨ev40 k x, eq40 k x⟩
/-! f63 slices.Clone[[][]int,[]int] -/
def F63 (k : Nat) (a0 : (List (List Int))) : Option (((List (List Int)) × Unit) × Unit) :=
  bif (((List.length a0 : Nat) : Int) == 0) then
    some (([], ()), ())
  else
    if (List.length (List.replicate 0 ([] : (List Int))) + List.length a0) * (24 * 2) ≤ 281474976710656 ∧ List.length (List.replicate 0 ([] : (List Int))) + List.length a0 ≤ 9223372036854775807 then
      some ((((List.replicate 0 ([] : (List Int))) ++ a0), ()), ())
    else none
def sp63 (k : Nat) : Spec := ⟨[.own (.sl true 22 (.sl true 3 (.int .i64) none) none)], [.own (.sl true 22 (.sl true 3 (.int .i64) none) none)], fun x => F63 k x.1⟩
def lim63 : Lim := ⟨8, 1, true, false⟩
def cfg63 (k : Nat) : Nat → Option Spec := cfgL []
theorem cfg63_ok (k : Nat) : CfgOK Try.prog (cfg63 k) := cfgL_nil
def pl63 (k : Nat) : Plan := .go
theorem pq63 (k : Nat) : PlanOK Try.prog lim63 (pl63 k) (codeAt (bodyOf Try.f63) []) = PlanOK Try.prog lim63 .go (codeAt (bodyOf Try.f63) []) := by kernel_rfl
theorem ev63 (k : Nat) (x : AT (sp63 k).ps) : (sp63 k).impl x = (fnT Try.prog (cfg63 k) lim63 Try.f63 (bodyOf Try.f63) (pl63 k) (sp63 k) x).eval := by kernel_rfl
theorem tr63 (k : Nat) (x : AT (sp63 k).ps) : (fnT Try.prog (cfg63 k) lim63 Try.f63 (bodyOf Try.f63) (pl63 k) (sp63 k) x) = (Tr.split (((List.length x.1 : Nat) : Int) == 0) (.both (.split true (.leaf (([], ()), ())) (.need ((List.length (List.replicate 0 ([] : (List Int))) + List.length x.1) * (24 * 2) ≤ 281474976710656 ∧ List.length (List.replicate 0 ([] : (List Int))) + List.length x.1 ≤ 9223372036854775807) (.leaf (([] ++ x.1, ()), ())))) (.split false (.leaf (([], ()), ())) (.need ((List.length (List.replicate 0 ([] : (List Int))) + List.length x.1) * (24 * 2) ≤ 281474976710656 ∧ List.length (List.replicate 0 ([] : (List Int))) + List.length x.1 ≤ 9223372036854775807) (.leaf (([] ++ x.1, ()), ()))))) (.split false (.leaf (([], ()), ())) (.need ((List.length (List.replicate 0 ([] : (List Int))) + List.length x.1) * (24 * 2) ≤ 281474976710656 ∧ List.length (List.replicate 0 ([] : (List Int))) + List.length x.1 ≤ 9223372036854775807) (.leaf (([] ++ x.1, ()), ()))))) := by kernel_rfl
theorem sa63 (k : Nat) (x : AT (sp63 k).ps) (r) (h : (sp63 k).impl x = some r) : (fnT Try.prog (cfg63 k) lim63 Try.f63 (bodyOf Try.f63) (pl63 k) (sp63 k) x).sat (· = r) := sat_of_eq (tr63 k x) (clone_sat (a := x.1) (p := (List.length (List.replicate 0 ([] : (List Int))) + List.length x.1) * (24 * 2) ≤ 281474976710656 ∧ List.length (List.replicate 0 ([] : (List Int))) + List.length x.1 ≤ 9223372036854775807) (fun e => by rw [e]; simp) h)
theorem v63 (k : Nat) : Callable Try.prog 63 ∧ Valid Try.prog 63 (sp63 k) :=
  fn_sat (cfg63_ok k) (f := 63) (fn := Try.f63) (by kernel_rfl) (c := bodyOf Try.f63) (by kernel_rfl) (by kernel_rfl) rfl rfl (Nat.le_of_ble_eq_true rfl) (Nat.le_of_ble_eq_true rfl) (p := pl63 k) (Eq.mpr (pq63 k) (planOK_go _)) fun x r h => sa63 k x r h
/-! f41 (*hyphen/table.reader).lists -/
def F41_0 (k : Nat) : Nat → Int → Int → (((List Int) × (Bool × Unit)) × Unit) → (List (List Int)) → Option ((Unit × ((((List Int) × (Bool × Unit)) × Unit) × (List (List Int)) × Unit)))
  | 0, _, _, _, _ => none
  | n + 1, t5, t6, c0, c2000003 =>
    bif (decide (t6 < t5)) then
      (F40 k c0).bind fun r2 =>
      let x3 := (List.set (List.replicate 1 ([] : (List Int))) 0 r2.1.1)
      if (List.length c2000003 + List.length x3) * (24 * 2) ≤ 281474976710656 ∧ List.length c2000003 + List.length x3 ≤ 9223372036854775807 then
        (F41_0 k n t5 (IntKind.wrap .i64 (t6 + (1 : Int))) r2.2.1 (c2000003 ++ x3)).bind some
      else none
    else
      some ((), (c0, c2000003, ()))
def fr41_0 (k : Nat) : Frag := ⟨⟨[(3, (.sl true 22 (.sl true 3 (.int .i64) none) none))], [(0, .ptr 0 []), (3, .at 2000003 []), (5, .val (.int .i64)), (6, .val (.int .i64))], [(0, some 73, (.pair (.pair (.sl false 5 (.int .u8) none) (.pair .bool .unit)) .unit)), (2000003, none, (.sl true 22 (.sl true 3 (.int .i64) none) none))]⟩, [(.exit 0, ⟨[(3, (.sl true 22 (.sl true 3 (.int .i64) none) none))], [(3, .at 2000003 [])], [(0, some 73, (.pair (.pair (.sl false 5 (.int .u8) none) (.pair .bool .unit)) .unit)), (2000003, none, (.sl true 22 (.sl true 3 (.int .i64) none) none))]⟩)], fun v => F41_0 k k v.1.1 v.1.2.1 v.2.1 v.2.2.1⟩
def F41 (k : Nat) (a0 : (((List Int) × (Bool × Unit)) × Unit)) : Option (((List (List Int)) × Unit) × ((((List Int) × (Bool × Unit)) × Unit) × Unit)) :=
  (F42 k a0 (8 : Int)).bind fun r1 =>
  (F41_0 k k r1.1.1 (0 : Int) r1.2.1 []).bind fun r4 =>
  let y5 := r4.2.1
  let y6 := r4.2.2.1
  (F63 k y6).bind fun r7 =>
  some ((r7.1.1, ()), (y5, ()))
def sp41 (k : Nat) : Spec := ⟨[.ptr 73 (.pair (.pair (.sl false 5 (.int .u8) none) (.pair .bool .unit)) .unit) []], [.own (.sl true 22 (.sl true 3 (.int .i64) none) none)], fun x => F41 k x.1⟩
def lim41 : Lim := ⟨16, 1, false, false⟩
def cfg41 (k : Nat) : Nat → Option Spec := cfgL [(40, sp40 k), (42, sp42 k), (63, sp63 k)]
theorem cfg41_ok (k : Nat) : CfgOK Try.prog (cfg41 k) := cfgL_cons (v40 k) (cfgL_cons (v42 k) (cfgL_cons (v63 k) (cfgL_nil)))
def pl41_0 (k : Nat) : Plan := .go
theorem pq41_0 (k : Nat) : PlanOK Try.prog lim41 (pl41_0 k) (codeAt (bodyOf Try.f41) [.r, .r, .l, .r, .s, .b]) = PlanOK Try.prog lim41 .go (codeAt (bodyOf Try.f41) [.r, .r, .l, .r, .s, .b]) := by kernel_rfl
theorem ps41_0 (k m : Nat) (v : (fr41_0 k).sh.V) : F41_0 k (m + 1) v.1.1 v.1.2.1 v.2.1 v.2.2.1 = (body Try.prog (stepper Try.prog (cfg41 k) lim41) (pl41_0 k) (codeAt (bodyOf Try.f41) [.r, .r, .l, .r, .s, .b]) ((fr41_0 k).sh.st v) (loopK (fr41_0 k) fun v => F41_0 k m v.1.1 v.1.2.1 v.2.1 v.2.2.1)).eval := by kernel_rfl
theorem pe41_0 (k m : Nat) (v : (fr41_0 k).sh.V) : (body Try.prog (stepper Try.prog (cfg41 k) lim41) (pl41_0 k) (codeAt (bodyOf Try.f41) [.r, .r, .l, .r, .s, .b]) ((fr41_0 k).sh.st v) (loopK (fr41_0 k) fun v => F41_0 k m v.1.1 v.1.2.1 v.2.1 v.2.2.1)).left = (body Try.prog (stepper Try.prog (cfg41 k) lim41) (pl41_0 k) (codeAt (bodyOf Try.f41) [.r, .r, .l, .r, .s, .b]) ((fr41_0 k).sh.st v) (loopK (fr41_0 k) fun v => F41_0 k m v.1.1 v.1.2.1 v.2.1 v.2.2.1)).right := by kernel_rfl
theorem fr41_0_ok (k : Nat) : FragOK Try.prog lim41 (fr41_0 k) (codeAt (bodyOf Try.f41) [.r, .r, .l, .r, .s]) :=
  frag_cast (by kernel_rfl) (loop_ok (cfg41_ok k) (Eq.mpr (pq41_0 k) (planOK_go _)) (fun m v => F41_0 k m v.1.1 v.1.2.1 v.2.1 v.2.2.1) k (fun _ => rfl) (fun _ => rfl) fun m v => ⟨ps41_0 k m v, pe41_0 k m v⟩)
def pl41 (k : Nat) : Plan := (.seq .go (.seq .go (.seq (.seq .go (.sub (.frag (fr41_0 k)))) .go)))
theorem pq41 (k : Nat) : PlanOK Try.prog lim41 (pl41 k) (codeAt (bodyOf Try.f41) []) = (PlanOK Try.prog lim41 .go (codeAt (bodyOf Try.f41) [.l]) ∧ (PlanOK Try.prog lim41 .go (codeAt (bodyOf Try.f41) [.r, .l]) ∧ ((PlanOK Try.prog lim41 .go (codeAt (bodyOf Try.f41) [.r, .r, .l, .l]) ∧ FragOK Try.prog lim41 (fr41_0 k) (codeAt (bodyOf Try.f41) [.r, .r, .l, .r, .s])) ∧ PlanOK Try.prog lim41 .go (codeAt (bodyOf Try.f41) [.r, .r, .r])))) := by kernel_rfl
theorem ev41 (k : Nat) (x : AT (sp41 k).ps) : (sp41 k).impl x = (fnT Try.prog (cfg41 k) lim41 Try.f41 (bodyOf Try.f41) (pl41 k) (sp41 k) x).eval := by kernel_rfl
theorem eq41 (k : Nat) (x : AT (sp41 k).ps) : (fnT Try.prog (cfg41 k) lim41 Try.f41 (bodyOf Try.f41) (pl41 k) (sp41 k) x).left = (fnT Try.prog (cfg41 k) lim41 Try.f41 (bodyOf Try.f41) (pl41 k) (sp41 k) x).right := by kernel_rfl
theorem v41 (k : Nat) : Callable Try.prog 41 ∧ Valid Try.prog 41 (sp41 k) :=
  fn_ok (cfg41_ok k) (f := 41) (fn := Try.f41) (by kernel_rfl) (c := bodyOf Try.f41) (by kernel_rfl) (by kernel_rfl) rfl rfl (Nat.le_of_ble_eq_true rfl) (Nat.le_of_ble_eq_true rfl) (p := pl41 k) (Eq.mpr (pq41 k) ⟨(planOK_go _), ⟨(planOK_go _), ⟨⟨(planOK_go _), (fr41_0_ok k)⟩, (planOK_go _)⟩⟩⟩) fun x => ⟨ev41 k x, eq41 k x⟩
/-! f64 slices.Clone[[]hyphen/api.Vec,hyphen/api.Vec] -/
def F64 (k : Nat) (a0 : (List (List Int))) : Option (((List (List Int)) × Unit) × Unit) :=
  bif (((List.length a0 : Nat) : Int) == 0) then
    some (([], ()), ())
  else
    if (List.length (List.replicate 0 (List.replicate 3 (0 : Int))) + List.length a0) * (24 * 2) ≤ 281474976710656 ∧ List.length (List.replicate 0 (List.replicate 3 (0 : Int))) + List.length a0 ≤ 9223372036854775807 then
      some ((((List.replicate 0 (List.replicate 3 (0 : Int))) ++ a0), ()), ())
    else none
def sp64 (k : Nat) : Spec := ⟨[.val (.sl false 45 (.arr 3 (.int .i64)) none)], [.own (.sl true 45 (.arr 3 (.int .i64)) none)], fun x => F64 k x.1⟩
def lim64 : Lim := ⟨8, 1, true, false⟩
def cfg64 (k : Nat) : Nat → Option Spec := cfgL []
theorem cfg64_ok (k : Nat) : CfgOK Try.prog (cfg64 k) := cfgL_nil
def pl64 (k : Nat) : Plan := .go
theorem pq64 (k : Nat) : PlanOK Try.prog lim64 (pl64 k) (codeAt (bodyOf Try.f64) []) = PlanOK Try.prog lim64 .go (codeAt (bodyOf Try.f64) []) := by kernel_rfl
theorem ev64 (k : Nat) (x : AT (sp64 k).ps) : (sp64 k).impl x = (fnT Try.prog (cfg64 k) lim64 Try.f64 (bodyOf Try.f64) (pl64 k) (sp64 k) x).eval := by kernel_rfl
theorem tr64 (k : Nat) (x : AT (sp64 k).ps) : (fnT Try.prog (cfg64 k) lim64 Try.f64 (bodyOf Try.f64) (pl64 k) (sp64 k) x) = (Tr.split (((List.length x.1 : Nat) : Int) == 0) (.both (.split true (.leaf (([], ()), ())) (.need ((List.length (List.replicate 0 (List.replicate 3 (0 : Int))) + List.length x.1) * (24 * 2) ≤ 281474976710656 ∧ List.length (List.replicate 0 (List.replicate 3 (0 : Int))) + List.length x.1 ≤ 9223372036854775807) (.leaf (([] ++ x.1, ()), ())))) (.split false (.leaf (([], ()), ())) (.need ((List.length (List.replicate 0 (List.replicate 3 (0 : Int))) + List.length x.1) * (24 * 2) ≤ 281474976710656 ∧ List.length (List.replicate 0 (List.replicate 3 (0 : Int))) + List.length x.1 ≤ 9223372036854775807) (.leaf (([] ++ x.1, ()), ()))))) (.split false (.leaf (([], ()), ())) (.need ((List.length (List.replicate 0 (List.replicate 3 (0 : Int))) + List.length x.1) * (24 * 2) ≤ 281474976710656 ∧ List.length (List.replicate 0 (List.replicate 3 (0 : Int))) + List.length x.1 ≤ 9223372036854775807) (.leaf (([] ++ x.1, ()), ()))))) := by kernel_rfl
theorem sa64 (k : Nat) (x : AT (sp64 k).ps) (r) (h : (sp64 k).impl x = some r) : (fnT Try.prog (cfg64 k) lim64 Try.f64 (bodyOf Try.f64) (pl64 k) (sp64 k) x).sat (· = r) := sat_of_eq (tr64 k x) (clone_sat (a := x.1) (p := (List.length (List.replicate 0 (List.replicate 3 (0 : Int))) + List.length x.1) * (24 * 2) ≤ 281474976710656 ∧ List.length (List.replicate 0 (List.replicate 3 (0 : Int))) + List.length x.1 ≤ 9223372036854775807) (fun e => by rw [e]; simp) h)
theorem v64 (k : Nat) : Callable Try.prog 64 ∧ Valid Try.prog 64 (sp64 k) :=
  fn_sat (cfg64_ok k) (f := 64) (fn := Try.f64) (by kernel_rfl) (c := bodyOf Try.f64) (by kernel_rfl) (by kernel_rfl) rfl rfl (Nat.le_of_ble_eq_true rfl) (Nat.le_of_ble_eq_true rfl) (p := pl64 k) (Eq.mpr (pq64 k) (planOK_go _)) fun x r h => sa64 k x r h
/-! f43 (*hyphen/table.reader).vecs -/
def F43_0 (k : Nat) : Nat → Int → Int → Int → (((List Int) × (Bool × Unit)) × Unit) → (List Int) → (List (List Int)) → Option (((Int × Int × Unit) × ((((List Int) × (Bool × Unit)) × Unit) × (List Int) × (List (List Int)) × Unit)))
  | 0, _, _, _, _, _, _ => none
  | n + 1, t7, t8, t10, c0, c4, c2000003 =>
    bif (decide (t10 < (3 : Int))) then
      (F45 k c0).bind fun r2 =>
      if 0 ≤ t10 ∧ t10 < ((3 : Nat) : Int) then
        (F43_0 k n t7 t8 (IntKind.wrap .i64 (t10 + (1 : Int))) r2.2.1 (List.set c4 (Int.toNat t10) r2.1.1) c2000003).bind some
      else none
    else
      some ((t7, t8, ()), (c0, c4, c2000003, ()))
def fr43_0 (k : Nat) : Frag := ⟨⟨[(3, (.sl true 45 (.arr 3 (.int .i64)) none))], [(0, .ptr 0 []), (3, .at 2000003 []), (4, .ptr 4 []), (7, .val (.int .i64)), (8, .val (.int .i64)), (10, .val (.int .i64))], [(0, some 73, (.pair (.pair (.sl false 5 (.int .u8) none) (.pair .bool .unit)) .unit)), (4, some 45, (.arr 3 (.int .i64))), (2000003, none, (.sl true 45 (.arr 3 (.int .i64)) none))]⟩, [(.exit 2, ⟨[], [(0, .ptr 0 []), (3, .at 2000003 []), (4, .ptr 4 []), (7, .val (.int .i64)), (8, .val (.int .i64))], [(0, some 73, (.pair (.pair (.sl false 5 (.int .u8) none) (.pair .bool .unit)) .unit)), (4, some 45, (.arr 3 (.int .i64))), (2000003, none, (.sl true 45 (.arr 3 (.int .i64)) none))]⟩)], fun v => F43_0 k k v.1.1 v.1.2.1 v.1.2.2.1 v.2.1 v.2.2.1 v.2.2.2.1⟩
def F43_1 (k : Nat) : Nat → Int → Int → (((List Int) × (Bool × Unit)) × Unit) → (List (List Int)) → Option ((Unit × ((((List Int) × (Bool × Unit)) × Unit) × (List (List Int)) × Unit)))
  | 0, _, _, _, _ => none
  | n + 1, t7, t8, c0, c2000003 =>
    bif (decide (t8 < t7)) then
      (F43_0 k k t7 t8 (0 : Int) c0 (List.replicate 3 (0 : Int)) c2000003).bind fun r3 =>
      let y4 := r3.1.1
      let y5 := r3.1.2.1
      let y6 := r3.2.1
      let y7 := r3.2.2.1
      let y8 := r3.2.2.2.1
      let x9 := (List.set (List.replicate 1 (List.replicate 3 (0 : Int))) 0 y7)
      if (List.length y8 + List.length x9) * (24 * 2) ≤ 281474976710656 ∧ List.length y8 + List.length x9 ≤ 9223372036854775807 then
        (F43_1 k n y4 (IntKind.wrap .i64 (y5 + (1 : Int))) y6 (y8 ++ x9)).bind some
      else none
    else
      some ((), (c0, c2000003, ()))
def fr43_1 (k : Nat) : Frag := ⟨⟨[(3, (.sl true 45 (.arr 3 (.int .i64)) none))], [(0, .ptr 0 []), (3, .at 2000003 []), (7, .val (.int .i64)), (8, .val (.int .i64))], [(0, some 73, (.pair (.pair (.sl false 5 (.int .u8) none) (.pair .bool .unit)) .unit)), (2000003, none, (.sl true 45 (.arr 3 (.int .i64)) none))]⟩, [(.exit 0, ⟨[(3, (.sl true 45 (.arr 3 (.int .i64)) none))], [(3, .at 2000003 [])], [(0, some 73, (.pair (.pair (.sl false 5 (.int .u8) none) (.pair .bool .unit)) .unit)), (2000003, none, (.sl true 45 (.arr 3 (.int .i64)) none))]⟩)], fun v => F43_1 k k v.1.1 v.1.2.1 v.2.1 v.2.2.1⟩
def F43 (k : Nat) (a0 : (((List Int) × (Bool × Unit)) × Unit)) : Option (((List (List Int)) × Unit) × ((((List Int) × (Bool × Unit)) × Unit) × Unit)) :=
  (F42 k a0 (24 : Int)).bind fun r1 =>
  (F43_1 k k r1.1.1 (0 : Int) r1.2.1 []).bind fun r10 =>
  let y11 := r10.2.1
  let y12 := r10.2.2.1
  (F64 k y12).bind fun r13 =>
  some ((r13.1.1, ()), (y11, ()))
def sp43 (k : Nat) : Spec := ⟨[.ptr 73 (.pair (.pair (.sl false 5 (.int .u8) none) (.pair .bool .unit)) .unit) []], [.own (.sl true 45 (.arr 3 (.int .i64)) none)], fun x => F43 k x.1⟩
def lim43 : Lim := ⟨27, 1, false, false⟩
def cfg43 (k : Nat) : Nat → Option Spec := cfgL [(42, sp42 k), (45, sp45 k), (64, sp64 k)]
theorem cfg43_ok (k : Nat) : CfgOK Try.prog (cfg43 k) := cfgL_cons (v42 k) (cfgL_cons (v45 k) (cfgL_cons (v64 k) (cfgL_nil)))
def pl43_0 (k : Nat) : Plan := .go
theorem pq43_0 (k : Nat) : PlanOK Try.prog lim43 (pl43_0 k) (codeAt (bodyOf Try.f43) [.r, .r, .l, .r, .s, .b, .r, .r, .l, .s, .r, .l, .r, .s, .b]) = PlanOK Try.prog lim43 .go (codeAt (bodyOf Try.f43) [.r, .r, .l, .r, .s, .b, .r, .r, .l, .s, .r, .l, .r, .s, .b]) := by kernel_rfl
theorem ps43_0 (k m : Nat) (v : (fr43_0 k).sh.V) : F43_0 k (m + 1) v.1.1 v.1.2.1 v.1.2.2.1 v.2.1 v.2.2.1 v.2.2.2.1 = (body Try.prog (stepper Try.prog (cfg43 k) lim43) (pl43_0 k) (codeAt (bodyOf Try.f43) [.r, .r, .l, .r, .s, .b, .r, .r, .l, .s, .r, .l, .r, .s, .b]) ((fr43_0 k).sh.st v) (loopK (fr43_0 k) fun v => F43_0 k m v.1.1 v.1.2.1 v.1.2.2.1 v.2.1 v.2.2.1 v.2.2.2.1)).eval := by kernel_rfl
theorem pe43_0 (k m : Nat) (v : (fr43_0 k).sh.V) : (body Try.prog (stepper Try.prog (cfg43 k) lim43) (pl43_0 k) (codeAt (bodyOf Try.f43) [.r, .r, .l, .r, .s, .b, .r, .r, .l, .s, .r, .l, .r, .s, .b]) ((fr43_0 k).sh.st v) (loopK (fr43_0 k) fun v => F43_0 k m v.1.1 v.1.2.1 v.1.2.2.1 v.2.1 v.2.2.1 v.2.2.2.1)).left = (body Try.prog (stepper Try.prog (cfg43 k) lim43) (pl43_0 k) (codeAt (bodyOf Try.f43) [.r, .r, .l, .r, .s, .b, .r, .r, .l, .s, .r, .l, .r, .s, .b]) ((fr43_0 k).sh.st v) (loopK (fr43_0 k) fun v => F43_0 k m v.1.1 v.1.2.1 v.1.2.2.1 v.2.1 v.2.2.1 v.2.2.2.1)).right := by kernel_rfl
theorem fr43_0_ok (k : Nat) : FragOK Try.prog lim43 (fr43_0 k) (codeAt (bodyOf Try.f43) [.r, .r, .l, .r, .s, .b, .r, .r, .l, .s, .r, .l, .r, .s]) :=
  frag_cast (by kernel_rfl) (loop_ok (cfg43_ok k) (Eq.mpr (pq43_0 k) (planOK_go _)) (fun m v => F43_0 k m v.1.1 v.1.2.1 v.1.2.2.1 v.2.1 v.2.2.1 v.2.2.2.1) k (fun _ => rfl) (fun _ => rfl) fun m v => ⟨ps43_0 k m v, pe43_0 k m v⟩)
def pl43_1 (k : Nat) : Plan := (.seq .go (.seq .go (.seq (.sub (.seq .go (.seq (.seq .go (.sub (.frag (fr43_0 k)))) .go))) .go)))
theorem pq43_1 (k : Nat) : PlanOK Try.prog lim43 (pl43_1 k) (codeAt (bodyOf Try.f43) [.r, .r, .l, .r, .s, .b]) = (PlanOK Try.prog lim43 .go (codeAt (bodyOf Try.f43) [.r, .r, .l, .r, .s, .b, .l]) ∧ (PlanOK Try.prog lim43 .go (codeAt (bodyOf Try.f43) [.r, .r, .l, .r, .s, .b, .r, .l]) ∧ ((PlanOK Try.prog lim43 .go (codeAt (bodyOf Try.f43) [.r, .r, .l, .r, .s, .b, .r, .r, .l, .s, .l]) ∧ ((PlanOK Try.prog lim43 .go (codeAt (bodyOf Try.f43) [.r, .r, .l, .r, .s, .b, .r, .r, .l, .s, .r, .l, .l]) ∧ FragOK Try.prog lim43 (fr43_0 k) (codeAt (bodyOf Try.f43) [.r, .r, .l, .r, .s, .b, .r, .r, .l, .s, .r, .l, .r, .s])) ∧ PlanOK Try.prog lim43 .go (codeAt (bodyOf Try.f43) [.r, .r, .l, .r, .s, .b, .r, .r, .l, .s, .r, .r]))) ∧ PlanOK Try.prog lim43 .go (codeAt (bodyOf Try.f43) [.r, .r, .l, .r, .s, .b, .r, .r, .r])))) := by kernel_rfl
theorem ps43_1 (k m : Nat) (v : (fr43_1 k).sh.V) : F43_1 k (m + 1) v.1.1 v.1.2.1 v.2.1 v.2.2.1 = (body Try.prog (stepper Try.prog (cfg43 k) lim43) (pl43_1 k) (codeAt (bodyOf Try.f43) [.r, .r, .l, .r, .s, .b]) ((fr43_1 k).sh.st v) (loopK (fr43_1 k) fun v => F43_1 k m v.1.1 v.1.2.1 v.2.1 v.2.2.1)).eval := by kernel_rfl
theorem pe43_1 (k m : Nat) (v : (fr43_1 k).sh.V) : (body Try.prog (stepper Try.prog (cfg43 k) lim43) (pl43_1 k) (codeAt (bodyOf Try.f43) [.r, .r, .l, .r, .s, .b]) ((fr43_1 k).sh.st v) (loopK (fr43_1 k) fun v => F43_1 k m v.1.1 v.1.2.1 v.2.1 v.2.2.1)).left = (body Try.prog (stepper Try.prog (cfg43 k) lim43) (pl43_1 k) (codeAt (bodyOf Try.f43) [.r, .r, .l, .r, .s, .b]) ((fr43_1 k).sh.st v) (loopK (fr43_1 k) fun v => F43_1 k m v.1.1 v.1.2.1 v.2.1 v.2.2.1)).right := by kernel_rfl
theorem fr43_1_ok (k : Nat) : FragOK Try.prog lim43 (fr43_1 k) (codeAt (bodyOf Try.f43) [.r, .r, .l, .r, .s]) :=
  frag_cast (by kernel_rfl) (loop_ok (cfg43_ok k) (Eq.mpr (pq43_1 k) ⟨(planOK_go _), ⟨(planOK_go _), ⟨⟨(planOK_go _), ⟨⟨(planOK_go _), (fr43_0_ok k)⟩, (planOK_go _)⟩⟩, (planOK_go _)⟩⟩⟩) (fun m v => F43_1 k m v.1.1 v.1.2.1 v.2.1 v.2.2.1) k (fun _ => rfl) (fun _ => rfl) fun m v => ⟨ps43_1 k m v, pe43_1 k m v⟩)
def pl43 (k : Nat) : Plan := (.seq .go (.seq .go (.seq (.seq .go (.sub (.frag (fr43_1 k)))) .go)))
theorem pq43 (k : Nat) : PlanOK Try.prog lim43 (pl43 k) (codeAt (bodyOf Try.f43) []) = (PlanOK Try.prog lim43 .go (codeAt (bodyOf Try.f43) [.l]) ∧ (PlanOK Try.prog lim43 .go (codeAt (bodyOf Try.f43) [.r, .l]) ∧ ((PlanOK Try.prog lim43 .go (codeAt (bodyOf Try.f43) [.r, .r, .l, .l]) ∧ FragOK Try.prog lim43 (fr43_1 k) (codeAt (bodyOf Try.f43) [.r, .r, .l, .r, .s])) ∧ PlanOK Try.prog lim43 .go (codeAt (bodyOf Try.f43) [.r, .r, .r])))) := by kernel_rfl
theorem ev43 (k : Nat) (x : AT (sp43 k).ps) : (sp43 k).impl x = (fnT Try.prog (cfg43 k) lim43 Try.f43 (bodyOf Try.f43) (pl43 k) (sp43 k) x).eval := by kernel_rfl
theorem eq43 (k : Nat) (x : AT (sp43 k).ps) : (fnT Try.prog (cfg43 k) lim43 Try.f43 (bodyOf Try.f43) (pl43 k) (sp43 k) x).left = (fnT Try.prog (cfg43 k) lim43 Try.f43 (bodyOf Try.f43) (pl43 k) (sp43 k) x).right := by kernel_rfl
theorem v43 (k : Nat) : Callable Try.prog 43 ∧ Valid Try.prog 43 (sp43 k) :=
  fn_ok (cfg43_ok k) (f := 43) (fn := Try.f43) (by kernel_rfl) (c := bodyOf Try.f43) (by kernel_rfl) (by kernel_rfl) rfl rfl (Nat.le_of_ble_eq_true rfl) (Nat.le_of_ble_eq_true rfl) (p := pl43 k) (Eq.mpr (pq43 k) ⟨(planOK_go _), ⟨(planOK_go _), ⟨⟨(planOK_go _), (fr43_1_ok k)⟩, (planOK_go _)⟩⟩⟩) fun x => ⟨ev43 k x, eq43 k x⟩
/-! f44 slices.Clone[[][]hyphen/api.Vec,[]hyphen/api.Vec] -/
def F44 (k : Nat) (a0 : (List (List (List Int)))) : Option (((List (List (List Int))) × Unit) × Unit) :=
  bif (((List.length a0 : Nat) : Int) == 0) then
    some (([], ()), ())
  else
    if (List.length (List.replicate 0 ([] : (List (List Int)))) + List.length a0) * (24 * 2) ≤ 281474976710656 ∧ List.length (List.replicate 0 ([] : (List (List Int)))) + List.length a0 ≤ 9223372036854775807 then
      some ((((List.replicate 0 ([] : (List (List Int)))) ++ a0), ()), ())
    else none
def sp44 (k : Nat) : Spec := ⟨[.own (.sl true 46 (.sl true 45 (.arr 3 (.int .i64)) none) none)], [.own (.sl true 46 (.sl true 45 (.arr 3 (.int .i64)) none) none)], fun x => F44 k x.1⟩
def lim44 : Lim := ⟨8, 1, true, false⟩
def cfg44 (k : Nat) : Nat → Option Spec := cfgL []
theorem cfg44_ok (k : Nat) : CfgOK Try.prog (cfg44 k) := cfgL_nil
def pl44 (k : Nat) : Plan := .go
theorem pq44 (k : Nat) : PlanOK Try.prog lim44 (pl44 k) (codeAt (bodyOf Try.f44) []) = PlanOK Try.prog lim44 .go (codeAt (bodyOf Try.f44) []) := by kernel_rfl
theorem ev44 (k : Nat) (x : AT (sp44 k).ps) : (sp44 k).impl x = (fnT Try.prog (cfg44 k) lim44 Try.f44 (bodyOf Try.f44) (pl44 k) (sp44 k) x).eval := by kernel_rfl
theorem tr44 (k : Nat) (x : AT (sp44 k).ps) : (fnT Try.prog (cfg44 k) lim44 Try.f44 (bodyOf Try.f44) (pl44 k) (sp44 k) x) = (Tr.split (((List.length x.1 : Nat) : Int) == 0) (.both (.split true (.leaf (([], ()), ())) (.need ((List.length (List.replicate 0 ([] : (List (List Int)))) + List.length x.1) * (24 * 2) ≤ 281474976710656 ∧ List.length (List.replicate 0 ([] : (List (List Int)))) + List.length x.1 ≤ 9223372036854775807) (.leaf (([] ++ x.1, ()), ())))) (.split false (.leaf (([], ()), ())) (.need ((List.length (List.replicate 0 ([] : (List (List Int)))) + List.length x.1) * (24 * 2) ≤ 281474976710656 ∧ List.length (List.replicate 0 ([] : (List (List Int)))) + List.length x.1 ≤ 9223372036854775807) (.leaf (([] ++ x.1, ()), ()))))) (.split false (.leaf (([], ()), ())) (.need ((List.length (List.replicate 0 ([] : (List (List Int)))) + List.length x.1) * (24 * 2) ≤ 281474976710656 ∧ List.length (List.replicate 0 ([] : (List (List Int)))) + List.length x.1 ≤ 9223372036854775807) (.leaf (([] ++ x.1, ()), ()))))) := by kernel_rfl
theorem sa44 (k : Nat) (x : AT (sp44 k).ps) (r) (h : (sp44 k).impl x = some r) : (fnT Try.prog (cfg44 k) lim44 Try.f44 (bodyOf Try.f44) (pl44 k) (sp44 k) x).sat (· = r) := sat_of_eq (tr44 k x) (clone_sat (a := x.1) (p := (List.length (List.replicate 0 ([] : (List (List Int)))) + List.length x.1) * (24 * 2) ≤ 281474976710656 ∧ List.length (List.replicate 0 ([] : (List (List Int)))) + List.length x.1 ≤ 9223372036854775807) (fun e => by rw [e]; simp) h)
theorem v44 (k : Nat) : Callable Try.prog 44 ∧ Valid Try.prog 44 (sp44 k) :=
  fn_sat (cfg44_ok k) (f := 44) (fn := Try.f44) (by kernel_rfl) (c := bodyOf Try.f44) (by kernel_rfl) (by kernel_rfl) rfl rfl (Nat.le_of_ble_eq_true rfl) (Nat.le_of_ble_eq_true rfl) (p := pl44 k) (Eq.mpr (pq44 k) (planOK_go _)) fun x r h => sa44 k x r h
/-! f28 hyphen/table.inOrder -/
def F28_0 (k : Nat) : Nat → Int → (List Int) → Int → Int → Option ((Unit × Unit) ⊕ ((Bool × Unit) × Unit))
  | 0, _, _, _, _ => none
  | n + 1, t3, t6, t7, t8 =>
    bif (decide (t8 < t7)) then
      if 0 ≤ t8 ∧ t8 < ((List.length t6 : Nat) : Int) then
        let x4 := (decide ((List.getD t6 (Int.toNat t8) (0 : Int)) < (0 : Int)))
        bif x4 then
          some (.inr ((false, ()), ()))
        else
          let x5 := (decide ((List.getD t6 (Int.toNat t8) (0 : Int)) > t3))
          bif x5 then
            some (.inr ((false, ()), ()))
          else
            let x6 := (IntKind.wrap .i64 ((List.getD t6 (Int.toNat t8) (0 : Int)) + (1 : Int)))
            (F28_0 k n (maxI t3 x6) t6 t7 (IntKind.wrap .i64 (t8 + (1 : Int)))).bind some
      else none
    else
      some (.inl ((), ()))
def fr28_0 (k : Nat) : Frag := ⟨⟨[], [(3, .val (.int .i64)), (6, .val (.sl false 3 (.int .i64) none)), (7, .val (.int .i64)), (8, .val (.int .i64))], []⟩, [(.exit 0, ⟨[], [], []⟩), (.ret, ⟨[], [(2, .val .bool)], []⟩)], fun v => F28_0 k k v.1.1 v.1.2.1 v.1.2.2.1 v.1.2.2.2.1⟩
def F28 (k : Nat) (a0 : (List Int)) : Option ((Bool × Unit) × Unit) :=
  (F28_0 k k (0 : Int) a0 ((List.length a0 : Nat) : Int) (0 : Int)).bind fun r7 =>
  match r7 with
  | .inl r8 =>
    some ((true, ()), ())
  | .inr r8 =>
    let y9 := r8.1.1
    some ((y9, ()), ())
def sp28 (k : Nat) : Spec := ⟨[.val (.sl false 3 (.int .i64) none)], [.val .bool], fun x => F28 k x.1⟩
def lim28 : Lim := ⟨24, 1, false, false⟩
def cfg28 (k : Nat) : Nat → Option Spec := cfgL []
theorem cfg28_ok (k : Nat) : CfgOK Try.prog (cfg28 k) := cfgL_nil
def pl28_0 (k : Nat) : Plan := .go
theorem pq28_0 (k : Nat) : PlanOK Try.prog lim28 (pl28_0 k) (codeAt (bodyOf Try.f28) [.r, .r, .l, .r, .s, .b]) = PlanOK Try.prog lim28 .go (codeAt (bodyOf Try.f28) [.r, .r, .l, .r, .s, .b]) := by kernel_rfl
theorem ps28_0 (k m : Nat) (v : (fr28_0 k).sh.V) : F28_0 k (m + 1) v.1.1 v.1.2.1 v.1.2.2.1 v.1.2.2.2.1 = (body Try.prog (stepper Try.prog (cfg28 k) lim28) (pl28_0 k) (codeAt (bodyOf Try.f28) [.r, .r, .l, .r, .s, .b]) ((fr28_0 k).sh.st v) (loopK (fr28_0 k) fun v => F28_0 k m v.1.1 v.1.2.1 v.1.2.2.1 v.1.2.2.2.1)).eval := by kernel_rfl
theorem pe28_0 (k m : Nat) (v : (fr28_0 k).sh.V) : (body Try.prog (stepper Try.prog (cfg28 k) lim28) (pl28_0 k) (codeAt (bodyOf Try.f28) [.r, .r, .l, .r, .s, .b]) ((fr28_0 k).sh.st v) (loopK (fr28_0 k) fun v => F28_0 k m v.1.1 v.1.2.1 v.1.2.2.1 v.1.2.2.2.1)).left = (body Try.prog (stepper Try.prog (cfg28 k) lim28) (pl28_0 k) (codeAt (bodyOf Try.f28) [.r, .r, .l, .r, .s, .b]) ((fr28_0 k).sh.st v) (loopK (fr28_0 k) fun v => F28_0 k m v.1.1 v.1.2.1 v.1.2.2.1 v.1.2.2.2.1)).right := by kernel_rfl
theorem fr28_0_ok (k : Nat) : FragOK Try.prog lim28 (fr28_0 k) (codeAt (bodyOf Try.f28) [.r, .r, .l, .r, .s]) :=
  frag_cast (by kernel_rfl) (loop_ok (cfg28_ok k) (Eq.mpr (pq28_0 k) (planOK_go _)) (fun m v => F28_0 k m v.1.1 v.1.2.1 v.1.2.2.1 v.1.2.2.2.1) k (fun _ => rfl) (fun _ => rfl) fun m v => ⟨ps28_0 k m v, pe28_0 k m v⟩)
def pl28 (k : Nat) : Plan := (.seq .go (.seq .go (.seq (.seq .go (.sub (.frag (fr28_0 k)))) .go)))
theorem pq28 (k : Nat) : PlanOK Try.prog lim28 (pl28 k) (codeAt (bodyOf Try.f28) []) = (PlanOK Try.prog lim28 .go (codeAt (bodyOf Try.f28) [.l]) ∧ (PlanOK Try.prog lim28 .go (codeAt (bodyOf Try.f28) [.r, .l]) ∧ ((PlanOK Try.prog lim28 .go (codeAt (bodyOf Try.f28) [.r, .r, .l, .l]) ∧ FragOK Try.prog lim28 (fr28_0 k) (codeAt (bodyOf Try.f28) [.r, .r, .l, .r, .s])) ∧ PlanOK Try.prog lim28 .go (codeAt (bodyOf Try.f28) [.r, .r, .r])))) := by kernel_rfl
theorem ev28 (k : Nat) (x : AT (sp28 k).ps) : (sp28 k).impl x = (fnT Try.prog (cfg28 k) lim28 Try.f28 (bodyOf Try.f28) (pl28 k) (sp28 k) x).eval := by kernel_rfl
theorem eq28 (k : Nat) (x : AT (sp28 k).ps) : (fnT Try.prog (cfg28 k) lim28 Try.f28 (bodyOf Try.f28) (pl28 k) (sp28 k) x).left = (fnT Try.prog (cfg28 k) lim28 Try.f28 (bodyOf Try.f28) (pl28 k) (sp28 k) x).right := by kernel_rfl
theorem v28 (k : Nat) : Callable Try.prog 28 ∧ Valid Try.prog 28 (sp28 k) :=
  fn_ok (cfg28_ok k) (f := 28) (fn := Try.f28) (by kernel_rfl) (c := bodyOf Try.f28) (by kernel_rfl) (by kernel_rfl) rfl rfl (Nat.le_of_ble_eq_true rfl) (Nat.le_of_ble_eq_true rfl) (p := pl28 k) (Eq.mpr (pq28 k) ⟨(planOK_go _), ⟨(planOK_go _), ⟨⟨(planOK_go _), (fr28_0_ok k)⟩, (planOK_go _)⟩⟩⟩) fun x => ⟨ev28 k x, eq28 k x⟩
/-! f29 hyphen/part.Count -/
def F29_0 (k : Nat) : Nat → Int → (List Int) → Int → Int → Option (((Int × Unit) × Unit))
  | 0, _, _, _, _ => none
  | n + 1, t3, t6, t7, t8 =>
    bif (decide (t8 < t7)) then
      if 0 ≤ t8 ∧ t8 < ((List.length t6 : Nat) : Int) then
        let x2 := (maxI t3 (List.getD t6 (Int.toNat t8) (0 : Int)))
        (F29_0 k n x2 t6 t7 (IntKind.wrap .i64 (t8 + (1 : Int)))).bind some
      else none
    else
      some ((t3, ()), ())
def fr29_0 (k : Nat) : Frag := ⟨⟨[], [(3, .val (.int .i64)), (6, .val (.sl false 3 (.int .i64) none)), (7, .val (.int .i64)), (8, .val (.int .i64))], []⟩, [(.exit 0, ⟨[], [(3, .val (.int .i64))], []⟩)], fun v => F29_0 k k v.1.1 v.1.2.1 v.1.2.2.1 v.1.2.2.2.1⟩
def F29 (k : Nat) (a0 : (List Int)) : Option ((Int × Unit) × Unit) :=
  (F29_0 k k (-1 : Int) a0 ((List.length a0 : Nat) : Int) (0 : Int)).bind fun r3 =>
  let y4 := r3.1.1
  some (((IntKind.wrap .i64 (y4 + (1 : Int))), ()), ())
def sp29 (k : Nat) : Spec := ⟨[.val (.sl false 3 (.int .i64) none)], [.val (.int .i64)], fun x => F29 k x.1⟩
def lim29 : Lim := ⟨18, 1, false, false⟩
def cfg29 (k : Nat) : Nat → Option Spec := cfgL []
theorem cfg29_ok (k : Nat) : CfgOK Try.prog (cfg29 k) := cfgL_nil
def pl29_0 (k : Nat) : Plan := .go
theorem pq29_0 (k : Nat) : PlanOK Try.prog lim29 (pl29_0 k) (codeAt (bodyOf Try.f29) [.r, .r, .l, .r, .s, .b]) = PlanOK Try.prog lim29 .go (codeAt (bodyOf Try.f29) [.r, .r, .l, .r, .s, .b]) := by kernel_rfl
theorem ps29_0 (k m : Nat) (v : (fr29_0 k).sh.V) : F29_0 k (m + 1) v.1.1 v.1.2.1 v.1.2.2.1 v.1.2.2.2.1 = (body Try.prog (stepper Try.prog (cfg29 k) lim29) (pl29_0 k) (codeAt (bodyOf Try.f29) [.r, .r, .l, .r, .s, .b]) ((fr29_0 k).sh.st v) (loopK (fr29_0 k) fun v => F29_0 k m v.1.1 v.1.2.1 v.1.2.2.1 v.1.2.2.2.1)).eval := by kernel_rfl
theorem pe29_0 (k m : Nat) (v : (fr29_0 k).sh.V) : (body Try.prog (stepper Try.prog (cfg29 k) lim29) (pl29_0 k) (codeAt (bodyOf Try.f29) [.r, .r, .l, .r, .s, .b]) ((fr29_0 k).sh.st v) (loopK (fr29_0 k) fun v => F29_0 k m v.1.1 v.1.2.1 v.1.2.2.1 v.1.2.2.2.1)).left = (body Try.prog (stepper Try.prog (cfg29 k) lim29) (pl29_0 k) (codeAt (bodyOf Try.f29) [.r, .r, .l, .r, .s, .b]) ((fr29_0 k).sh.st v) (loopK (fr29_0 k) fun v => F29_0 k m v.1.1 v.1.2.1 v.1.2.2.1 v.1.2.2.2.1)).right := by kernel_rfl
theorem fr29_0_ok (k : Nat) : FragOK Try.prog lim29 (fr29_0 k) (codeAt (bodyOf Try.f29) [.r, .r, .l, .r, .s]) :=
  frag_cast (by kernel_rfl) (loop_ok (cfg29_ok k) (Eq.mpr (pq29_0 k) (planOK_go _)) (fun m v => F29_0 k m v.1.1 v.1.2.1 v.1.2.2.1 v.1.2.2.2.1) k (fun _ => rfl) (fun _ => rfl) fun m v => ⟨ps29_0 k m v, pe29_0 k m v⟩)
def pl29 (k : Nat) : Plan := (.seq .go (.seq .go (.seq (.seq .go (.sub (.frag (fr29_0 k)))) .go)))
theorem pq29 (k : Nat) : PlanOK Try.prog lim29 (pl29 k) (codeAt (bodyOf Try.f29) []) = (PlanOK Try.prog lim29 .go (codeAt (bodyOf Try.f29) [.l]) ∧ (PlanOK Try.prog lim29 .go (codeAt (bodyOf Try.f29) [.r, .l]) ∧ ((PlanOK Try.prog lim29 .go (codeAt (bodyOf Try.f29) [.r, .r, .l, .l]) ∧ FragOK Try.prog lim29 (fr29_0 k) (codeAt (bodyOf Try.f29) [.r, .r, .l, .r, .s])) ∧ PlanOK Try.prog lim29 .go (codeAt (bodyOf Try.f29) [.r, .r, .r])))) := by kernel_rfl
theorem ev29 (k : Nat) (x : AT (sp29 k).ps) : (sp29 k).impl x = (fnT Try.prog (cfg29 k) lim29 Try.f29 (bodyOf Try.f29) (pl29 k) (sp29 k) x).eval := by kernel_rfl
theorem eq29 (k : Nat) (x : AT (sp29 k).ps) : (fnT Try.prog (cfg29 k) lim29 Try.f29 (bodyOf Try.f29) (pl29 k) (sp29 k) x).left = (fnT Try.prog (cfg29 k) lim29 Try.f29 (bodyOf Try.f29) (pl29 k) (sp29 k) x).right := by kernel_rfl
theorem v29 (k : Nat) : Callable Try.prog 29 ∧ Valid Try.prog 29 (sp29 k) :=
  fn_ok (cfg29_ok k) (f := 29) (fn := Try.f29) (by kernel_rfl) (c := bodyOf Try.f29) (by kernel_rfl) (by kernel_rfl) rfl rfl (Nat.le_of_ble_eq_true rfl) (Nat.le_of_ble_eq_true rfl) (p := pl29 k) (Eq.mpr (pq29 k) ⟨(planOK_go _), ⟨(planOK_go _), ⟨⟨(planOK_go _), (fr29_0_ok k)⟩, (planOK_go _)⟩⟩⟩) fun x => ⟨ev29 k x, eq29 k x⟩
/-! f59 hyphen/table.leads$1 -/
def F59 (k : Nat) (a0 : Int) (a1 : (List (List Int))) : Option ((Bool × Unit) × ((List (List Int)) × Unit)) :=
  bif (decide (a0 < (0 : Int))) then
    some ((true, ()), (a1, ()))
  else
    let x1 := (decide (a0 ≥ ((List.length a1 : Nat) : Int)))
    some ((x1, ()), (a1, ()))
def sp59 (k : Nat) : Spec := ⟨[.val (.int .i64), .ptr 24 (.sl false 22 (.sl false 3 (.int .i64) none) none) []], [.val .bool], fun x => F59 k x.1 x.2.1⟩
def lim59 : Lim := ⟨12, 2, false, false⟩
def cfg59 (k : Nat) : Nat → Option Spec := cfgL []
theorem cfg59_ok (k : Nat) : CfgOK Try.prog (cfg59 k) := cfgL_nil
def pl59 (k : Nat) : Plan := .go
theorem pq59 (k : Nat) : PlanOK Try.prog lim59 (pl59 k) (codeAt (bodyOf Try.f59) []) = PlanOK Try.prog lim59 .go (codeAt (bodyOf Try.f59) []) := by kernel_rfl
theorem ev59 (k : Nat) (x : AT (sp59 k).ps) : (sp59 k).impl x = (fnT Try.prog (cfg59 k) lim59 Try.f59 (bodyOf Try.f59) (pl59 k) (sp59 k) x).eval := by kernel_rfl
theorem eq59 (k : Nat) (x : AT (sp59 k).ps) : (fnT Try.prog (cfg59 k) lim59 Try.f59 (bodyOf Try.f59) (pl59 k) (sp59 k) x).left = (fnT Try.prog (cfg59 k) lim59 Try.f59 (bodyOf Try.f59) (pl59 k) (sp59 k) x).right := by kernel_rfl
theorem v59 (k : Nat) : Callable Try.prog 59 ∧ Valid Try.prog 59 (sp59 k) :=
  fn_ok (cfg59_ok k) (f := 59) (fn := Try.f59) (by kernel_rfl) (c := bodyOf Try.f59) (by kernel_rfl) (by kernel_rfl) rfl rfl (Nat.le_of_ble_eq_true rfl) (Nat.le_of_ble_eq_true rfl) (p := pl59 k) (Eq.mpr (pq59 k) (planOK_go _)) fun x => ⟨ev59 k x, eq59 k x⟩
/-! f65 slices.IndexFunc[[]int,int] -/
def F65_0 (k : Nat) : Nat → (List Int) → Int → Int → (List (List Int)) → Option ((Unit × ((List (List Int)) × Unit)) ⊕ ((Int × Unit) × ((List (List Int)) × Unit)))
  | 0, _, _, _, _ => none
  | n + 1, t0, t7, t8, c2 =>
    bif (decide (t8 < t7)) then
      if 0 ≤ t8 ∧ t8 < ((List.length t0 : Nat) : Int) then
        (F59 k (List.getD t0 (Int.toNat t8) (0 : Int)) c2).bind fun r2 =>
        bif r2.1.1 then
          some (.inr ((t8, ()), (r2.2.1, ())))
        else
          (F65_0 k n t0 t7 (IntKind.wrap .i64 (t8 + (1 : Int))) r2.2.1).bind some
      else none
    else
      some (.inl ((), (c2, ())))
def fr65_0 (k : Nat) : Frag := ⟨⟨[], [(0, .val (.sl false 3 (.int .i64) none)), (1, .clo 59 [2]), (7, .val (.int .i64)), (8, .val (.int .i64))], [(2, some 24, (.sl false 22 (.sl false 3 (.int .i64) none) none))]⟩, [(.exit 0, ⟨[], [], [(2, some 24, (.sl false 22 (.sl false 3 (.int .i64) none) none))]⟩), (.ret, ⟨[], [(4, .val (.int .i64))], [(2, some 24, (.sl false 22 (.sl false 3 (.int .i64) none) none))]⟩)], fun v => F65_0 k k v.1.1 v.1.2.1 v.1.2.2.1 v.2.1⟩
def F65 (k : Nat) (a0 : (List Int)) (a2 : (List (List Int))) : Option ((Int × Unit) × ((List (List Int)) × Unit)) :=
  (F65_0 k k a0 ((List.length a0 : Nat) : Int) (0 : Int) a2).bind fun r3 =>
  match r3 with
  | .inl r4 =>
    let y5 := r4.2.1
    some (((-1 : Int), ()), (y5, ()))
  | .inr r4 =>
    let y6 := r4.1.1
    let y7 := r4.2.1
    some ((y6, ()), (y7, ()))
def sp65 (k : Nat) : Spec := ⟨[.val (.sl false 3 (.int .i64) none), .clo 59 [2], .cap 24 (.sl false 22 (.sl false 3 (.int .i64) none) none)], [.val (.int .i64)], fun x => F65 k x.1 x.2.1⟩
def lim65 : Lim := ⟨19, 3, false, false⟩
def cfg65 (k : Nat) : Nat → Option Spec := cfgL [(59, sp59 k)]
theorem cfg65_ok (k : Nat) : CfgOK Try.prog (cfg65 k) := cfgL_cons (v59 k) (cfgL_nil)
def pl65_0 (k : Nat) : Plan := .go
theorem pq65_0 (k : Nat) : PlanOK Try.prog lim65 (pl65_0 k) (codeAt (bodyOf Try.f65) [.r, .l, .r, .s, .b]) = PlanOK Try.prog lim65 .go (codeAt (bodyOf Try.f65) [.r, .l, .r, .s, .b]) := by kernel_rfl
theorem ps65_0 (k m : Nat) (v : (fr65_0 k).sh.V) : F65_0 k (m + 1) v.1.1 v.1.2.1 v.1.2.2.1 v.2.1 = (body Try.prog (stepper Try.prog (cfg65 k) lim65) (pl65_0 k) (codeAt (bodyOf Try.f65) [.r, .l, .r, .s, .b]) ((fr65_0 k).sh.st v) (loopK (fr65_0 k) fun v => F65_0 k m v.1.1 v.1.2.1 v.1.2.2.1 v.2.1)).eval := by kernel_rfl
theorem pe65_0 (k m : Nat) (v : (fr65_0 k).sh.V) : (body Try.prog (stepper Try.prog (cfg65 k) lim65) (pl65_0 k) (codeAt (bodyOf Try.f65) [.r, .l, .r, .s, .b]) ((fr65_0 k).sh.st v) (loopK (fr65_0 k) fun v => F65_0 k m v.1.1 v.1.2.1 v.1.2.2.1 v.2.1)).left = (body Try.prog (stepper Try.prog (cfg65 k) lim65) (pl65_0 k) (codeAt (bodyOf Try.f65) [.r, .l, .r, .s, .b]) ((fr65_0 k).sh.st v) (loopK (fr65_0 k) fun v => F65_0 k m v.1.1 v.1.2.1 v.1.2.2.1 v.2.1)).right := by kernel_rfl
theorem fr65_0_ok (k : Nat) : FragOK Try.prog lim65 (fr65_0 k) (codeAt (bodyOf Try.f65) [.r, .l, .r, .s]) :=
  frag_cast (by kernel_rfl) (loop_ok (cfg65_ok k) (Eq.mpr (pq65_0 k) (planOK_go _)) (fun m v => F65_0 k m v.1.1 v.1.2.1 v.1.2.2.1 v.2.1) k (fun _ => rfl) (fun _ => rfl) fun m v => ⟨ps65_0 k m v, pe65_0 k m v⟩)
def pl65 (k : Nat) : Plan := (.seq .go (.seq (.seq .go (.sub (.frag (fr65_0 k)))) .go))
theorem pq65 (k : Nat) : PlanOK Try.prog lim65 (pl65 k) (codeAt (bodyOf Try.f65) []) = (PlanOK Try.prog lim65 .go (codeAt (bodyOf Try.f65) [.l]) ∧ ((PlanOK Try.prog lim65 .go (codeAt (bodyOf Try.f65) [.r, .l, .l]) ∧ FragOK Try.prog lim65 (fr65_0 k) (codeAt (bodyOf Try.f65) [.r, .l, .r, .s])) ∧ PlanOK Try.prog lim65 .go (codeAt (bodyOf Try.f65) [.r, .r]))) := by kernel_rfl
theorem ev65 (k : Nat) (x : AT (sp65 k).ps) : (sp65 k).impl x = (fnT Try.prog (cfg65 k) lim65 Try.f65 (bodyOf Try.f65) (pl65 k) (sp65 k) x).eval := by kernel_rfl
theorem eq65 (k : Nat) (x : AT (sp65 k).ps) : (fnT Try.prog (cfg65 k) lim65 Try.f65 (bodyOf Try.f65) (pl65 k) (sp65 k) x).left = (fnT Try.prog (cfg65 k) lim65 Try.f65 (bodyOf Try.f65) (pl65 k) (sp65 k) x).right := by kernel_rfl
theorem v65 (k : Nat) : Callable Try.prog 65 ∧ Valid Try.prog 65 (sp65 k) :=
  fn_ok (cfg65_ok k) (f := 65) (fn := Try.f65) (by kernel_rfl) (c := bodyOf Try.f65) (by kernel_rfl) (by kernel_rfl) rfl rfl (Nat.le_of_ble_eq_true rfl) (Nat.le_of_ble_eq_true rfl) (p := pl65 k) (Eq.mpr (pq65 k) ⟨(planOK_go _), ⟨⟨(planOK_go _), (fr65_0_ok k)⟩, (planOK_go _)⟩⟩) fun x => ⟨ev65 k x, eq65 k x⟩
/-! f58 slices.ContainsFunc[[]int,int] -/
def F58 (k : Nat) (a0 : (List Int)) (a2 : (List (List Int))) : Option ((Bool × Unit) × ((List (List Int)) × Unit)) :=
  (F65 k a0 a2).bind fun r1 =>
  some (((decide (r1.1.1 ≥ (0 : Int))), ()), (r1.2.1, ()))
def sp58 (k : Nat) : Spec := ⟨[.val (.sl false 3 (.int .i64) none), .clo 59 [2], .cap 24 (.sl false 22 (.sl false 3 (.int .i64) none) none)], [.val .bool], fun x => F58 k x.1 x.2.1⟩
def lim58 : Lim := ⟨9, 3, false, false⟩
def cfg58 (k : Nat) : Nat → Option Spec := cfgL [(65, sp65 k)]
theorem cfg58_ok (k : Nat) : CfgOK Try.prog (cfg58 k) := cfgL_cons (v65 k) (cfgL_nil)
def pl58 (k : Nat) : Plan := .go
theorem pq58 (k : Nat) : PlanOK Try.prog lim58 (pl58 k) (codeAt (bodyOf Try.f58) []) = PlanOK Try.prog lim58 .go (codeAt (bodyOf Try.f58) []) := by kernel_rfl
theorem ev58 (k : Nat) (x : AT (sp58 k).ps) : (sp58 k).impl x = (fnT Try.prog (cfg58 k) lim58 Try.f58 (bodyOf Try.f58) (pl58 k) (sp58 k) x).eval := by kernel_rfl
theorem eq58 (k : Nat) (x : AT (sp58 k).ps) : (fnT Try.prog (cfg58 k) lim58 Try.f58 (bodyOf Try.f58) (pl58 k) (sp58 k) x).left = (fnT Try.prog (cfg58 k) lim58 Try.f58 (bodyOf Try.f58) (pl58 k) (sp58 k) x).right := by kernel_rfl
theorem v58 (k : Nat) : Callable Try.prog 58 ∧ Valid Try.prog 58 (sp58 k) :=
  fn_ok (cfg58_ok k) (f := 58) (fn := Try.f58) (by kernel_rfl) (c := bodyOf Try.f58) (by kernel_rfl) (by kernel_rfl) rfl rfl (Nat.le_of_ble_eq_true rfl) (Nat.le_of_ble_eq_true rfl) (p := pl58 k) (Eq.mpr (pq58 k) (planOK_go _)) fun x => ⟨ev58 k x, eq58 k x⟩
/-! f30 hyphen/table.leads -/
def F30_0 (k : Nat) : Nat → Int → (List (List Int)) → Int → Int → (List (List Int)) → Option ((Unit × Unit) ⊕ ((Bool × Unit) × Unit))
  | 0, _, _, _, _, _ => none
  | n + 1, t1, t15, t16, t17, c2 =>
    bif (decide (t17 < t16)) then
      if 0 ≤ t17 ∧ t17 < ((List.length t15 : Nat) : Int) then
        let x5 := (List.getD t15 (Int.toNat t17) ([] : (List Int)))
        bif (((List.length x5 : Nat) : Int) != t1) then
          some (.inr ((false, ()), ()))
        else
          (F58 k x5 c2).bind fun r6 =>
          bif r6.1.1 then
            some (.inr ((false, ()), ()))
          else
            (F30_0 k n t1 t15 t16 (IntKind.wrap .i64 (t17 + (1 : Int))) r6.2.1).bind some
      else none
    else
      some (.inl ((), ()))
def fr30_0 (k : Nat) : Frag := ⟨⟨[], [(1, .val (.int .i64)), (2, .ptr 2 []), (15, .val (.sl false 22 (.sl false 3 (.int .i64) none) none)), (16, .val (.int .i64)), (17, .val (.int .i64))], [(2, some 24, (.sl false 22 (.sl false 3 (.int .i64) none) none))]⟩, [(.exit 0, ⟨[], [], []⟩), (.ret, ⟨[], [(4, .val .bool)], []⟩)], fun v => F30_0 k k v.1.1 v.1.2.1 v.1.2.2.1 v.1.2.2.2.1 v.2.1⟩
def F30 (k : Nat) (a0 : (List (List Int))) (a1 : Int) : Option ((Bool × Unit) × Unit) :=
  let x1 := (decide (((List.length a0 : Nat) : Int) < (1 : Int)))
  bif x1 then
    some ((false, ()), ())
  else
    let x2 := (decide (((List.length a0 : Nat) : Int) > (100000 : Int)))
    bif x2 then
      some ((false, ()), ())
    else
      (F30_0 k k a1 a0 ((List.length a0 : Nat) : Int) (0 : Int) a0).bind fun r7 =>
      match r7 with
      | .inl r8 =>
        some ((true, ()), ())
      | .inr r8 =>
        let y9 := r8.1.1
        some ((y9, ()), ())
def sp30 (k : Nat) : Spec := ⟨[.val (.sl false 22 (.sl false 3 (.int .i64) none) none), .val (.int .i64)], [.val .bool], fun x => F30 k x.1 x.2.1⟩
def lim30 : Lim := ⟨31, 2, false, false⟩
def cfg30 (k : Nat) : Nat → Option Spec := cfgL [(58, sp58 k)]
theorem cfg30_ok (k : Nat) : CfgOK Try.prog (cfg30 k) := cfgL_cons (v58 k) (cfgL_nil)
def pl30_0 (k : Nat) : Plan := .go
theorem pq30_0 (k : Nat) : PlanOK Try.prog lim30 (pl30_0 k) (codeAt (bodyOf Try.f30) [.r, .r, .l, .r, .s, .b]) = PlanOK Try.prog lim30 .go (codeAt (bodyOf Try.f30) [.r, .r, .l, .r, .s, .b]) := by kernel_rfl
theorem ps30_0 (k m : Nat) (v : (fr30_0 k).sh.V) : F30_0 k (m + 1) v.1.1 v.1.2.1 v.1.2.2.1 v.1.2.2.2.1 v.2.1 = (body Try.prog (stepper Try.prog (cfg30 k) lim30) (pl30_0 k) (codeAt (bodyOf Try.f30) [.r, .r, .l, .r, .s, .b]) ((fr30_0 k).sh.st v) (loopK (fr30_0 k) fun v => F30_0 k m v.1.1 v.1.2.1 v.1.2.2.1 v.1.2.2.2.1 v.2.1)).eval := by kernel_rfl
theorem pe30_0 (k m : Nat) (v : (fr30_0 k).sh.V) : (body Try.prog (stepper Try.prog (cfg30 k) lim30) (pl30_0 k) (codeAt (bodyOf Try.f30) [.r, .r, .l, .r, .s, .b]) ((fr30_0 k).sh.st v) (loopK (fr30_0 k) fun v => F30_0 k m v.1.1 v.1.2.1 v.1.2.2.1 v.1.2.2.2.1 v.2.1)).left = (body Try.prog (stepper Try.prog (cfg30 k) lim30) (pl30_0 k) (codeAt (bodyOf Try.f30) [.r, .r, .l, .r, .s, .b]) ((fr30_0 k).sh.st v) (loopK (fr30_0 k) fun v => F30_0 k m v.1.1 v.1.2.1 v.1.2.2.1 v.1.2.2.2.1 v.2.1)).right := by kernel_rfl
theorem fr30_0_ok (k : Nat) : FragOK Try.prog lim30 (fr30_0 k) (codeAt (bodyOf Try.f30) [.r, .r, .l, .r, .s]) :=
  frag_cast (by kernel_rfl) (loop_ok (cfg30_ok k) (Eq.mpr (pq30_0 k) (planOK_go _)) (fun m v => F30_0 k m v.1.1 v.1.2.1 v.1.2.2.1 v.1.2.2.2.1 v.2.1) k (fun _ => rfl) (fun _ => rfl) fun m v => ⟨ps30_0 k m v, pe30_0 k m v⟩)
def pl30 (k : Nat) : Plan := (.seq .go (.seq .go (.seq (.seq .go (.sub (.frag (fr30_0 k)))) .go)))
theorem pq30 (k : Nat) : PlanOK Try.prog lim30 (pl30 k) (codeAt (bodyOf Try.f30) []) = (PlanOK Try.prog lim30 .go (codeAt (bodyOf Try.f30) [.l]) ∧ (PlanOK Try.prog lim30 .go (codeAt (bodyOf Try.f30) [.r, .l]) ∧ ((PlanOK Try.prog lim30 .go (codeAt (bodyOf Try.f30) [.r, .r, .l, .l]) ∧ FragOK Try.prog lim30 (fr30_0 k) (codeAt (bodyOf Try.f30) [.r, .r, .l, .r, .s])) ∧ PlanOK Try.prog lim30 .go (codeAt (bodyOf Try.f30) [.r, .r, .r])))) := by kernel_rfl
theorem ev30 (k : Nat) (x : AT (sp30 k).ps) : (sp30 k).impl x = (fnT Try.prog (cfg30 k) lim30 Try.f30 (bodyOf Try.f30) (pl30 k) (sp30 k) x).eval := by kernel_rfl
theorem eq30 (k : Nat) (x : AT (sp30 k).ps) : (fnT Try.prog (cfg30 k) lim30 Try.f30 (bodyOf Try.f30) (pl30 k) (sp30 k) x).left = (fnT Try.prog (cfg30 k) lim30 Try.f30 (bodyOf Try.f30) (pl30 k) (sp30 k) x).right := by kernel_rfl
theorem v30 (k : Nat) : Callable Try.prog 30 ∧ Valid Try.prog 30 (sp30 k) :=
  fn_ok (cfg30_ok k) (f := 30) (fn := Try.f30) (by kernel_rfl) (c := bodyOf Try.f30) (by kernel_rfl) (by kernel_rfl) rfl rfl (Nat.le_of_ble_eq_true rfl) (Nat.le_of_ble_eq_true rfl) (p := pl30 k) (Eq.mpr (pq30 k) ⟨(planOK_go _), ⟨(planOK_go _), ⟨⟨(planOK_go _), (fr30_0_ok k)⟩, (planOK_go _)⟩⟩⟩) fun x => ⟨ev30 k x, eq30 k x⟩
/-! f31 slices.Max[[]int,int] -/
def F31_0 (k : Nat) : Nat → (List Int) → Int → Int → Option (((Int × Unit) × Unit))
  | 0, _, _, _ => none
  | n + 1, t0, t3, t4 =>
    let x5 := (decide (t4 < ((List.length t0 : Nat) : Int)))
    bif x5 then
      if 0 ≤ t4 ∧ t4 < ((List.length t0 : Nat) : Int) then
        let x6 := (maxI t3 (List.getD t0 (Int.toNat t4) (0 : Int)))
        (F31_0 k n t0 x6 (IntKind.wrap .i64 (t4 + (1 : Int)))).bind some
      else none
    else
      some ((t3, ()), ())
def fr31_0 (k : Nat) : Frag := ⟨⟨[], [(0, .val (.sl false 3 (.int .i64) none)), (3, .val (.int .i64)), (4, .val (.int .i64))], []⟩, [(.exit 0, ⟨[], [(3, .val (.int .i64))], []⟩)], fun v => F31_0 k k v.1.1 v.1.2.1 v.1.2.2.1⟩
def F31 (k : Nat) (a0 : (List Int)) : Option ((Int × Unit) × Unit) :=
  let x1 := (decide (((List.length a0 : Nat) : Int) < (1 : Int)))
  bif x1 then
    none
  else
    if 0 ≤ (0 : Int) ∧ (0 : Int) < ((List.length a0 : Nat) : Int) then
      let x2 := (List.getD a0 (Int.toNat (0 : Int)) (0 : Int))
      (F31_0 k k a0 x2 (1 : Int)).bind fun r7 =>
      let y8 := r7.1.1
      some ((y8, ()), ())
    else none
def sp31 (k : Nat) : Spec := ⟨[.val (.sl false 3 (.int .i64) none)], [.val (.int .i64)], fun x => F31 k x.1⟩
def lim31 : Lim := ⟨25, 1, false, false⟩
def cfg31 (k : Nat) : Nat → Option Spec := cfgL []
theorem cfg31_ok (k : Nat) : CfgOK Try.prog (cfg31 k) := cfgL_nil
def pl31_0 (k : Nat) : Plan := .go
theorem pq31_0 (k : Nat) : PlanOK Try.prog lim31 (pl31_0 k) (codeAt (bodyOf Try.f31) [.r, .r, .r, .l, .r, .s, .b]) = PlanOK Try.prog lim31 .go (codeAt (bodyOf Try.f31) [.r, .r, .r, .l, .r, .s, .b]) := by kernel_rfl
theorem ps31_0 (k m : Nat) (v : (fr31_0 k).sh.V) : F31_0 k (m + 1) v.1.1 v.1.2.1 v.1.2.2.1 = (body Try.prog (stepper Try.prog (cfg31 k) lim31) (pl31_0 k) (codeAt (bodyOf Try.f31) [.r, .r, .r, .l, .r, .s, .b]) ((fr31_0 k).sh.st v) (loopK (fr31_0 k) fun v => F31_0 k m v.1.1 v.1.2.1 v.1.2.2.1)).eval := by kernel_rfl
theorem pe31_0 (k m : Nat) (v : (fr31_0 k).sh.V) : (body Try.prog (stepper Try.prog (cfg31 k) lim31) (pl31_0 k) (codeAt (bodyOf Try.f31) [.r, .r, .r, .l, .r, .s, .b]) ((fr31_0 k).sh.st v) (loopK (fr31_0 k) fun v => F31_0 k m v.1.1 v.1.2.1 v.1.2.2.1)).left = (body Try.prog (stepper Try.prog (cfg31 k) lim31) (pl31_0 k) (codeAt (bodyOf Try.f31) [.r, .r, .r, .l, .r, .s, .b]) ((fr31_0 k).sh.st v) (loopK (fr31_0 k) fun v => F31_0 k m v.1.1 v.1.2.1 v.1.2.2.1)).right := by kernel_rfl
theorem fr31_0_ok (k : Nat) : FragOK Try.prog lim31 (fr31_0 k) (codeAt (bodyOf Try.f31) [.r, .r, .r, .l, .r, .s]) :=
  frag_cast (by kernel_rfl) (loop_ok (cfg31_ok k) (Eq.mpr (pq31_0 k) (planOK_go _)) (fun m v => F31_0 k m v.1.1 v.1.2.1 v.1.2.2.1) k (fun _ => rfl) (fun _ => rfl) fun m v => ⟨ps31_0 k m v, pe31_0 k m v⟩)
def pl31 (k : Nat) : Plan := (.seq .go (.seq .go (.seq .go (.seq (.seq .go (.sub (.frag (fr31_0 k)))) .go))))
theorem pq31 (k : Nat) : PlanOK Try.prog lim31 (pl31 k) (codeAt (bodyOf Try.f31) []) = (PlanOK Try.prog lim31 .go (codeAt (bodyOf Try.f31) [.l]) ∧ (PlanOK Try.prog lim31 .go (codeAt (bodyOf Try.f31) [.r, .l]) ∧ (PlanOK Try.prog lim31 .go (codeAt (bodyOf Try.f31) [.r, .r, .l]) ∧ ((PlanOK Try.prog lim31 .go (codeAt (bodyOf Try.f31) [.r, .r, .r, .l, .l]) ∧ FragOK Try.prog lim31 (fr31_0 k) (codeAt (bodyOf Try.f31) [.r, .r, .r, .l, .r, .s])) ∧ PlanOK Try.prog lim31 .go (codeAt (bodyOf Try.f31) [.r, .r, .r, .r]))))) := by kernel_rfl
theorem ev31 (k : Nat) (x : AT (sp31 k).ps) : (sp31 k).impl x = (fnT Try.prog (cfg31 k) lim31 Try.f31 (bodyOf Try.f31) (pl31 k) (sp31 k) x).eval := by kernel_rfl
theorem eq31 (k : Nat) (x : AT (sp31 k).ps) : (fnT Try.prog (cfg31 k) lim31 Try.f31 (bodyOf Try.f31) (pl31 k) (sp31 k) x).left = (fnT Try.prog (cfg31 k) lim31 Try.f31 (bodyOf Try.f31) (pl31 k) (sp31 k) x).right := by kernel_rfl
theorem v31 (k : Nat) : Callable Try.prog 31 ∧ Valid Try.prog 31 (sp31 k) :=
  fn_ok (cfg31_ok k) (f := 31) (fn := Try.f31) (by kernel_rfl) (c := bodyOf Try.f31) (by kernel_rfl) (by kernel_rfl) rfl rfl (Nat.le_of_ble_eq_true rfl) (Nat.le_of_ble_eq_true rfl) (p := pl31 k) (Eq.mpr (pq31 k) ⟨(planOK_go _), ⟨(planOK_go _), ⟨(planOK_go _), ⟨⟨(planOK_go _), (fr31_0_ok k)⟩, (planOK_go _)⟩⟩⟩⟩) fun x => ⟨ev31 k x, eq31 k x⟩
/-! f32 slices.Min[[]int,int] -/
def F32_0 (k : Nat) : Nat → (List Int) → Int → Int → Option (((Int × Unit) × Unit))
  | 0, _, _, _ => none
  | n + 1, t0, t3, t4 =>
    let x5 := (decide (t4 < ((List.length t0 : Nat) : Int)))
    bif x5 then
      if 0 ≤ t4 ∧ t4 < ((List.length t0 : Nat) : Int) then
        let x6 := (minI t3 (List.getD t0 (Int.toNat t4) (0 : Int)))
        (F32_0 k n t0 x6 (IntKind.wrap .i64 (t4 + (1 : Int)))).bind some
      else none
    else
      some ((t3, ()), ())
def fr32_0 (k : Nat) : Frag := ⟨⟨[], [(0, .val (.sl false 3 (.int .i64) none)), (3, .val (.int .i64)), (4, .val (.int .i64))], []⟩, [(.exit 0, ⟨[], [(3, .val (.int .i64))], []⟩)], fun v => F32_0 k k v.1.1 v.1.2.1 v.1.2.2.1⟩
def F32 (k : Nat) (a0 : (List Int)) : Option ((Int × Unit) × Unit) :=
  let x1 := (decide (((List.length a0 : Nat) : Int) < (1 : Int)))
  bif x1 then
    none
  else
    if 0 ≤ (0 : Int) ∧ (0 : Int) < ((List.length a0 : Nat) : Int) then
      let x2 := (List.getD a0 (Int.toNat (0 : Int)) (0 : Int))
      (F32_0 k k a0 x2 (1 : Int)).bind fun r7 =>
      let y8 := r7.1.1
      some ((y8, ()), ())
    else none
def sp32 (k : Nat) : Spec := ⟨[.val (.sl false 3 (.int .i64) none)], [.val (.int .i64)], fun x => F32 k x.1⟩
def lim32 : Lim := ⟨25, 1, false, false⟩
def cfg32 (k : Nat) : Nat → Option Spec := cfgL []
theorem cfg32_ok (k : Nat) : CfgOK Try.prog (cfg32 k) := cfgL_nil
def pl32_0 (k : Nat) : Plan := .go
theorem pq32_0 (k : Nat) : PlanOK Try.prog lim32 (pl32_0 k) (codeAt (bodyOf Try.f32) [.r, .r, .r, .l, .r, .s, .b]) = PlanOK Try.prog lim32 .go (codeAt (bodyOf Try.f32) [.r, .r, .r, .l, .r, .s, .b]) := by kernel_rfl
theorem ps32_0 (k m : Nat) (v : (fr32_0 k).sh.V) : F32_0 k (m + 1) v.1.1 v.1.2.1 v.1.2.2.1 = (body Try.prog (stepper Try.prog (cfg32 k) lim32) (pl32_0 k) (codeAt (bodyOf Try.f32) [.r, .r, .r, .l, .r, .s, .b]) ((fr32_0 k).sh.st v) (loopK (fr32_0 k) fun v => F32_0 k m v.1.1 v.1.2.1 v.1.2.2.1)).eval := by kernel_rfl
theorem pe32_0 (k m : Nat) (v : (fr32_0 k).sh.V) : (body Try.prog (stepper Try.prog (cfg32 k) lim32) (pl32_0 k) (codeAt (bodyOf Try.f32) [.r, .r, .r, .l, .r, .s, .b]) ((fr32_0 k).sh.st v) (loopK (fr32_0 k) fun v => F32_0 k m v.1.1 v.1.2.1 v.1.2.2.1)).left = (body Try.prog (stepper Try.prog (cfg32 k) lim32) (pl32_0 k) (codeAt (bodyOf Try.f32) [.r, .r, .r, .l, .r, .s, .b]) ((fr32_0 k).sh.st v) (loopK (fr32_0 k) fun v => F32_0 k m v.1.1 v.1.2.1 v.1.2.2.1)).right := by kernel_rfl
theorem fr32_0_ok (k : Nat) : FragOK Try.prog lim32 (fr32_0 k) (codeAt (bodyOf Try.f32) [.r, .r, .r, .l, .r, .s]) :=
  frag_cast (by kernel_rfl) (loop_ok (cfg32_ok k) (Eq.mpr (pq32_0 k) (planOK_go _)) (fun m v => F32_0 k m v.1.1 v.1.2.1 v.1.2.2.1) k (fun _ => rfl) (fun _ => rfl) fun m v => ⟨ps32_0 k m v, pe32_0 k m v⟩)
def pl32 (k : Nat) : Plan := (.seq .go (.seq .go (.seq .go (.seq (.seq .go (.sub (.frag (fr32_0 k)))) .go))))
theorem pq32 (k : Nat) : PlanOK Try.prog lim32 (pl32 k) (codeAt (bodyOf Try.f32) []) = (PlanOK Try.prog lim32 .go (codeAt (bodyOf Try.f32) [.l]) ∧ (PlanOK Try.prog lim32 .go (codeAt (bodyOf Try.f32) [.r, .l]) ∧ (PlanOK Try.prog lim32 .go (codeAt (bodyOf Try.f32) [.r, .r, .l]) ∧ ((PlanOK Try.prog lim32 .go (codeAt (bodyOf Try.f32) [.r, .r, .r, .l, .l]) ∧ FragOK Try.prog lim32 (fr32_0 k) (codeAt (bodyOf Try.f32) [.r, .r, .r, .l, .r, .s])) ∧ PlanOK Try.prog lim32 .go (codeAt (bodyOf Try.f32) [.r, .r, .r, .r]))))) := by kernel_rfl
theorem ev32 (k : Nat) (x : AT (sp32 k).ps) : (sp32 k).impl x = (fnT Try.prog (cfg32 k) lim32 Try.f32 (bodyOf Try.f32) (pl32 k) (sp32 k) x).eval := by kernel_rfl
theorem eq32 (k : Nat) (x : AT (sp32 k).ps) : (fnT Try.prog (cfg32 k) lim32 Try.f32 (bodyOf Try.f32) (pl32 k) (sp32 k) x).left = (fnT Try.prog (cfg32 k) lim32 Try.f32 (bodyOf Try.f32) (pl32 k) (sp32 k) x).right := by kernel_rfl
theorem v32 (k : Nat) : Callable Try.prog 32 ∧ Valid Try.prog 32 (sp32 k) :=
  fn_ok (cfg32_ok k) (f := 32) (fn := Try.f32) (by kernel_rfl) (c := bodyOf Try.f32) (by kernel_rfl) (by kernel_rfl) rfl rfl (Nat.le_of_ble_eq_true rfl) (Nat.le_of_ble_eq_true rfl) (p := pl32 k) (Eq.mpr (pq32 k) ⟨(planOK_go _), ⟨(planOK_go _), ⟨(planOK_go _), ⟨⟨(planOK_go _), (fr32_0_ok k)⟩, (planOK_go _)⟩⟩⟩⟩) fun x => ⟨ev32 k x, eq32 k x⟩
/-! f61 hyphen/table.costs$1 -/
def F61 (k : Nat) (a0 : Int) : Option ((Bool × Unit) × Unit) :=
  bif (decide (a0 < (0 : Int))) then
    some ((true, ()), ())
  else
    some (((decide (a0 > (1152921504606846976 : Int))), ()), ())
def sp61 (k : Nat) : Spec := ⟨[.val (.int .i64)], [.val .bool], fun x => F61 k x.1⟩
def lim61 : Lim := ⟨9, 1, false, false⟩
def cfg61 (k : Nat) : Nat → Option Spec := cfgL []
theorem cfg61_ok (k : Nat) : CfgOK Try.prog (cfg61 k) := cfgL_nil
def pl61 (k : Nat) : Plan := .go
theorem pq61 (k : Nat) : PlanOK Try.prog lim61 (pl61 k) (codeAt (bodyOf Try.f61) []) = PlanOK Try.prog lim61 .go (codeAt (bodyOf Try.f61) []) := by kernel_rfl
theorem ev61 (k : Nat) (x : AT (sp61 k).ps) : (sp61 k).impl x = (fnT Try.prog (cfg61 k) lim61 Try.f61 (bodyOf Try.f61) (pl61 k) (sp61 k) x).eval := by kernel_rfl
theorem eq61 (k : Nat) (x : AT (sp61 k).ps) : (fnT Try.prog (cfg61 k) lim61 Try.f61 (bodyOf Try.f61) (pl61 k) (sp61 k) x).left = (fnT Try.prog (cfg61 k) lim61 Try.f61 (bodyOf Try.f61) (pl61 k) (sp61 k) x).right := by kernel_rfl
theorem v61 (k : Nat) : Callable Try.prog 61 ∧ Valid Try.prog 61 (sp61 k) :=
  fn_ok (cfg61_ok k) (f := 61) (fn := Try.f61) (by kernel_rfl) (c := bodyOf Try.f61) (by kernel_rfl) (by kernel_rfl) rfl rfl (Nat.le_of_ble_eq_true rfl) (Nat.le_of_ble_eq_true rfl) (p := pl61 k) (Eq.mpr (pq61 k) (planOK_go _)) fun x => ⟨ev61 k x, eq61 k x⟩
/-! f1065 slices.IndexFunc[[]int,int] -/
def F1065_0 (k : Nat) : Nat → (List Int) → Int → Int → Option ((Unit × Unit) ⊕ ((Int × Unit) × Unit))
  | 0, _, _, _ => none
  | n + 1, t0, t7, t8 =>
    bif (decide (t8 < t7)) then
      if 0 ≤ t8 ∧ t8 < ((List.length t0 : Nat) : Int) then
        (F61 k (List.getD t0 (Int.toNat t8) (0 : Int))).bind fun r2 =>
        bif r2.1.1 then
          some (.inr ((t8, ()), ()))
        else
          (F1065_0 k n t0 t7 (IntKind.wrap .i64 (t8 + (1 : Int)))).bind some
      else none
    else
      some (.inl ((), ()))
def fr1065_0 (k : Nat) : Frag := ⟨⟨[], [(0, .val (.sl false 3 (.int .i64) none)), (1, .clo 61 []), (7, .val (.int .i64)), (8, .val (.int .i64))], []⟩, [(.exit 0, ⟨[], [], []⟩), (.ret, ⟨[], [(4, .val (.int .i64))], []⟩)], fun v => F1065_0 k k v.1.1 v.1.2.1 v.1.2.2.1⟩
def F1065 (k : Nat) (a0 : (List Int)) : Option ((Int × Unit) × Unit) :=
  (F1065_0 k k a0 ((List.length a0 : Nat) : Int) (0 : Int)).bind fun r3 =>
  match r3 with
  | .inl r4 =>
    some (((-1 : Int), ()), ())
  | .inr r4 =>
    let y5 := r4.1.1
    some ((y5, ()), ())
def sp1065 (k : Nat) : Spec := ⟨[.val (.sl false 3 (.int .i64) none), .clo 61 []], [.val (.int .i64)], fun x => F1065 k x.1⟩
def lim1065 : Lim := ⟨19, 2, false, false⟩
def cfg1065 (k : Nat) : Nat → Option Spec := cfgL [(61, sp61 k)]
theorem cfg1065_ok (k : Nat) : CfgOK Try.prog (cfg1065 k) := cfgL_cons (v61 k) (cfgL_nil)
def pl1065_0 (k : Nat) : Plan := .go
theorem pq1065_0 (k : Nat) : PlanOK Try.prog lim1065 (pl1065_0 k) (codeAt (bodyOf Try.f65) [.r, .l, .r, .s, .b]) = PlanOK Try.prog lim1065 .go (codeAt (bodyOf Try.f65) [.r, .l, .r, .s, .b]) := by kernel_rfl
theorem ps1065_0 (k m : Nat) (v : (fr1065_0 k).sh.V) : F1065_0 k (m + 1) v.1.1 v.1.2.1 v.1.2.2.1 = (body Try.prog (stepper Try.prog (cfg1065 k) lim1065) (pl1065_0 k) (codeAt (bodyOf Try.f65) [.r, .l, .r, .s, .b]) ((fr1065_0 k).sh.st v) (loopK (fr1065_0 k) fun v => F1065_0 k m v.1.1 v.1.2.1 v.1.2.2.1)).eval := by kernel_rfl
theorem pe1065_0 (k m : Nat) (v : (fr1065_0 k).sh.V) : (body Try.prog (stepper Try.prog (cfg1065 k) lim1065) (pl1065_0 k) (codeAt (bodyOf Try.f65) [.r, .l, .r, .s, .b]) ((fr1065_0 k).sh.st v) (loopK (fr1065_0 k) fun v => F1065_0 k m v.1.1 v.1.2.1 v.1.2.2.1)).left = (body Try.prog (stepper Try.prog (cfg1065 k) lim1065) (pl1065_0 k) (codeAt (bodyOf Try.f65) [.r, .l, .r, .s, .b]) ((fr1065_0 k).sh.st v) (loopK (fr1065_0 k) fun v => F1065_0 k m v.1.1 v.1.2.1 v.1.2.2.1)).right := by kernel_rfl
theorem fr1065_0_ok (k : Nat) : FragOK Try.prog lim1065 (fr1065_0 k) (codeAt (bodyOf Try.f65) [.r, .l, .r, .s]) :=
  frag_cast (by kernel_rfl) (loop_ok (cfg1065_ok k) (Eq.mpr (pq1065_0 k) (planOK_go _)) (fun m v => F1065_0 k m v.1.1 v.1.2.1 v.1.2.2.1) k (fun _ => rfl) (fun _ => rfl) fun m v => ⟨ps1065_0 k m v, pe1065_0 k m v⟩)
def pl1065 (k : Nat) : Plan := (.seq .go (.seq (.seq .go (.sub (.frag (fr1065_0 k)))) .go))
theorem pq1065 (k : Nat) : PlanOK Try.prog lim1065 (pl1065 k) (codeAt (bodyOf Try.f65) []) = (PlanOK Try.prog lim1065 .go (codeAt (bodyOf Try.f65) [.l]) ∧ ((PlanOK Try.prog lim1065 .go (codeAt (bodyOf Try.f65) [.r, .l, .l]) ∧ FragOK Try.prog lim1065 (fr1065_0 k) (codeAt (bodyOf Try.f65) [.r, .l, .r, .s])) ∧ PlanOK Try.prog lim1065 .go (codeAt (bodyOf Try.f65) [.r, .r]))) := by kernel_rfl
theorem ev1065 (k : Nat) (x : AT (sp1065 k).ps) : (sp1065 k).impl x = (fnT Try.prog (cfg1065 k) lim1065 Try.f65 (bodyOf Try.f65) (pl1065 k) (sp1065 k) x).eval := by kernel_rfl
theorem eq1065 (k : Nat) (x : AT (sp1065 k).ps) : (fnT Try.prog (cfg1065 k) lim1065 Try.f65 (bodyOf Try.f65) (pl1065 k) (sp1065 k) x).left = (fnT Try.prog (cfg1065 k) lim1065 Try.f65 (bodyOf Try.f65) (pl1065 k) (sp1065 k) x).right := by kernel_rfl
theorem v1065 (k : Nat) : Callable Try.prog 65 ∧ Valid Try.prog 65 (sp1065 k) :=
  fn_ok (cfg1065_ok k) (f := 65) (fn := Try.f65) (by kernel_rfl) (c := bodyOf Try.f65) (by kernel_rfl) (by kernel_rfl) rfl rfl (Nat.le_of_ble_eq_true rfl) (Nat.le_of_ble_eq_true rfl) (p := pl1065 k) (Eq.mpr (pq1065 k) ⟨(planOK_go _), ⟨⟨(planOK_go _), (fr1065_0_ok k)⟩, (planOK_go _)⟩⟩) fun x => ⟨ev1065 k x, eq1065 k x⟩
/-! f1058 slices.ContainsFunc[[]int,int] -/
def F1058 (k : Nat) (a0 : (List Int)) : Option ((Bool × Unit) × Unit) :=
  (F1065 k a0).bind fun r1 =>
  some (((decide (r1.1.1 ≥ (0 : Int))), ()), ())
def sp1058 (k : Nat) : Spec := ⟨[.val (.sl false 3 (.int .i64) none), .clo 61 []], [.val .bool], fun x => F1058 k x.1⟩
def lim1058 : Lim := ⟨9, 2, false, false⟩
def cfg1058 (k : Nat) : Nat → Option Spec := cfgL [(65, sp1065 k)]
theorem cfg1058_ok (k : Nat) : CfgOK Try.prog (cfg1058 k) := cfgL_cons (v1065 k) (cfgL_nil)
def pl1058 (k : Nat) : Plan := .go
theorem pq1058 (k : Nat) : PlanOK Try.prog lim1058 (pl1058 k) (codeAt (bodyOf Try.f58) []) = PlanOK Try.prog lim1058 .go (codeAt (bodyOf Try.f58) []) := by kernel_rfl
theorem ev1058 (k : Nat) (x : AT (sp1058 k).ps) : (sp1058 k).impl x = (fnT Try.prog (cfg1058 k) lim1058 Try.f58 (bodyOf Try.f58) (pl1058 k) (sp1058 k) x).eval := by kernel_rfl
theorem eq1058 (k : Nat) (x : AT (sp1058 k).ps) : (fnT Try.prog (cfg1058 k) lim1058 Try.f58 (bodyOf Try.f58) (pl1058 k) (sp1058 k) x).left = (fnT Try.prog (cfg1058 k) lim1058 Try.f58 (bodyOf Try.f58) (pl1058 k) (sp1058 k) x).right := by kernel_rfl
theorem v1058 (k : Nat) : Callable Try.prog 58 ∧ Valid Try.prog 58 (sp1058 k) :=
  fn_ok (cfg1058_ok k) (f := 58) (fn := Try.f58) (by kernel_rfl) (c := bodyOf Try.f58) (by kernel_rfl) (by kernel_rfl) rfl rfl (Nat.le_of_ble_eq_true rfl) (Nat.le_of_ble_eq_true rfl) (p := pl1058 k) (Eq.mpr (pq1058 k) (planOK_go _)) fun x => ⟨ev1058 k x, eq1058 k x⟩
/-! f35 hyphen/table.costs -/
def F35 (k : Nat) (a0 : (List Int)) : Option ((Bool × Unit) × Unit) :=
  (F1058 k a0).bind fun r1 =>
  some (((!r1.1.1), ()), ())
def sp35 (k : Nat) : Spec := ⟨[.val (.arr 3 (.int .i64))], [.val .bool], fun x => F35 k x.1⟩
def lim35 : Lim := ⟨6, 1, false, false⟩
def cfg35 (k : Nat) : Nat → Option Spec := cfgL [(58, sp1058 k)]
theorem cfg35_ok (k : Nat) : CfgOK Try.prog (cfg35 k) := cfgL_cons (v1058 k) (cfgL_nil)
def pl35 (k : Nat) : Plan := .go
theorem pq35 (k : Nat) : PlanOK Try.prog lim35 (pl35 k) (codeAt (bodyOf Try.f35) []) = PlanOK Try.prog lim35 .go (codeAt (bodyOf Try.f35) []) := by kernel_rfl
theorem ev35 (k : Nat) (x : AT (sp35 k).ps) : (sp35 k).impl x = (fnT Try.prog (cfg35 k) lim35 Try.f35 (bodyOf Try.f35) (pl35 k) (sp35 k) x).eval := by kernel_rfl
theorem eq35 (k : Nat) (x : AT (sp35 k).ps) : (fnT Try.prog (cfg35 k) lim35 Try.f35 (bodyOf Try.f35) (pl35 k) (sp35 k) x).left = (fnT Try.prog (cfg35 k) lim35 Try.f35 (bodyOf Try.f35) (pl35 k) (sp35 k) x).right := by kernel_rfl
theorem v35 (k : Nat) : Callable Try.prog 35 ∧ Valid Try.prog 35 (sp35 k) :=
  fn_ok (cfg35_ok k) (f := 35) (fn := Try.f35) (by kernel_rfl) (c := bodyOf Try.f35) (by kernel_rfl) (by kernel_rfl) rfl rfl (Nat.le_of_ble_eq_true rfl) (Nat.le_of_ble_eq_true rfl) (p := pl35 k) (Eq.mpr (pq35 k) (planOK_go _)) fun x => ⟨ev35 k x, eq35 k x⟩
/-! f34 hyphen/table.Right$1 -/
def F34 (k : Nat) (a0 : (List Int)) : Option ((Bool × Unit) × Unit) :=
  (F35 k a0).bind fun r1 =>
  some (((!r1.1.1), ()), ())
def sp34 (k : Nat) : Spec := ⟨[.val (.arr 3 (.int .i64))], [.val .bool], fun x => F34 k x.1⟩
def lim34 : Lim := ⟨6, 1, false, false⟩
def cfg34 (k : Nat) : Nat → Option Spec := cfgL [(35, sp35 k)]
theorem cfg34_ok (k : Nat) : CfgOK Try.prog (cfg34 k) := cfgL_cons (v35 k) (cfgL_nil)
def pl34 (k : Nat) : Plan := .go
theorem pq34 (k : Nat) : PlanOK Try.prog lim34 (pl34 k) (codeAt (bodyOf Try.f34) []) = PlanOK Try.prog lim34 .go (codeAt (bodyOf Try.f34) []) := by kernel_rfl
theorem ev34 (k : Nat) (x : AT (sp34 k).ps) : (sp34 k).impl x = (fnT Try.prog (cfg34 k) lim34 Try.f34 (bodyOf Try.f34) (pl34 k) (sp34 k) x).eval := by kernel_rfl
theorem eq34 (k : Nat) (x : AT (sp34 k).ps) : (fnT Try.prog (cfg34 k) lim34 Try.f34 (bodyOf Try.f34) (pl34 k) (sp34 k) x).left = (fnT Try.prog (cfg34 k) lim34 Try.f34 (bodyOf Try.f34) (pl34 k) (sp34 k) x).right := by kernel_rfl
theorem v34 (k : Nat) : Callable Try.prog 34 ∧ Valid Try.prog 34 (sp34 k) :=
  fn_ok (cfg34_ok k) (f := 34) (fn := Try.f34) (by kernel_rfl) (c := bodyOf Try.f34) (by kernel_rfl) (by kernel_rfl) rfl rfl (Nat.le_of_ble_eq_true rfl) (Nat.le_of_ble_eq_true rfl) (p := pl34 k) (Eq.mpr (pq34 k) (planOK_go _)) fun x => ⟨ev34 k x, eq34 k x⟩
/-! f60 slices.IndexFunc[[]hyphen/api.Vec,hyphen/api.Vec] -/
def F60_0 (k : Nat) : Nat → (List (List Int)) → Int → Int → Option ((Unit × Unit) ⊕ ((Int × Unit) × Unit))
  | 0, _, _, _ => none
  | n + 1, t0, t7, t8 =>
    bif (decide (t8 < t7)) then
      if 0 ≤ t8 ∧ t8 < ((List.length t0 : Nat) : Int) then
        let x3 := (List.getD t0 (Int.toNat t8) ([] : (List Int)))
        (F34 k x3).bind fun r4 =>
        bif r4.1.1 then
          some (.inr ((t8, ()), ()))
        else
          (F60_0 k n t0 t7 (IntKind.wrap .i64 (t8 + (1 : Int)))).bind some
      else none
    else
      some (.inl ((), ()))
def fr60_0 (k : Nat) : Frag := ⟨⟨[], [(0, .val (.sl false 45 (.arr 3 (.int .i64)) none)), (1, .clo 34 []), (7, .val (.int .i64)), (8, .val (.int .i64))], []⟩, [(.exit 0, ⟨[], [], []⟩), (.ret, ⟨[], [(4, .val (.int .i64))], []⟩)], fun v => F60_0 k k v.1.1 v.1.2.1 v.1.2.2.1⟩
def F60 (k : Nat) (a0 : (List (List Int))) : Option ((Int × Unit) × Unit) :=
  (F60_0 k k a0 ((List.length a0 : Nat) : Int) (0 : Int)).bind fun r5 =>
  match r5 with
  | .inl r6 =>
    some (((-1 : Int), ()), ())
  | .inr r6 =>
    let y7 := r6.1.1
    some ((y7, ()), ())
def sp60 (k : Nat) : Spec := ⟨[.val (.sl false 45 (.arr 3 (.int .i64)) none), .clo 34 []], [.val (.int .i64)], fun x => F60 k x.1⟩
def lim60 : Lim := ⟨19, 2, false, false⟩
def cfg60 (k : Nat) : Nat → Option Spec := cfgL [(34, sp34 k)]
theorem cfg60_ok (k : Nat) : CfgOK Try.prog (cfg60 k) := cfgL_cons (v34 k) (cfgL_nil)
def pl60_0 (k : Nat) : Plan := .go
theorem pq60_0 (k : Nat) : PlanOK Try.prog lim60 (pl60_0 k) (codeAt (bodyOf Try.f60) [.r, .l, .r, .s, .b]) = PlanOK Try.prog lim60 .go (codeAt (bodyOf Try.f60) [.r, .l, .r, .s, .b]) := by kernel_rfl
theorem ps60_0 (k m : Nat) (v : (fr60_0 k).sh.V) : F60_0 k (m + 1) v.1.1 v.1.2.1 v.1.2.2.1 = (body Try.prog (stepper Try.prog (cfg60 k) lim60) (pl60_0 k) (codeAt (bodyOf Try.f60) [.r, .l, .r, .s, .b]) ((fr60_0 k).sh.st v) (loopK (fr60_0 k) fun v => F60_0 k m v.1.1 v.1.2.1 v.1.2.2.1)).eval := by kernel_rfl
theorem pe60_0 (k m : Nat) (v : (fr60_0 k).sh.V) : (body Try.prog (stepper Try.prog (cfg60 k) lim60) (pl60_0 k) (codeAt (bodyOf Try.f60) [.r, .l, .r, .s, .b]) ((fr60_0 k).sh.st v) (loopK (fr60_0 k) fun v => F60_0 k m v.1.1 v.1.2.1 v.1.2.2.1)).left = (body Try.prog (stepper Try.prog (cfg60 k) lim60) (pl60_0 k) (codeAt (bodyOf Try.f60) [.r, .l, .r, .s, .b]) ((fr60_0 k).sh.st v) (loopK (fr60_0 k) fun v => F60_0 k m v.1.1 v.1.2.1 v.1.2.2.1)).right := by kernel_rfl
theorem fr60_0_ok (k : Nat) : FragOK Try.prog lim60 (fr60_0 k) (codeAt (bodyOf Try.f60) [.r, .l, .r, .s]) :=
  frag_cast (by kernel_rfl) (loop_ok (cfg60_ok k) (Eq.mpr (pq60_0 k) (planOK_go _)) (fun m v => F60_0 k m v.1.1 v.1.2.1 v.1.2.2.1) k (fun _ => rfl) (fun _ => rfl) fun m v => ⟨ps60_0 k m v, pe60_0 k m v⟩)
def pl60 (k : Nat) : Plan := (.seq .go (.seq (.seq .go (.sub (.frag (fr60_0 k)))) .go))
theorem pq60 (k : Nat) : PlanOK Try.prog lim60 (pl60 k) (codeAt (bodyOf Try.f60) []) = (PlanOK Try.prog lim60 .go (codeAt (bodyOf Try.f60) [.l]) ∧ ((PlanOK Try.prog lim60 .go (codeAt (bodyOf Try.f60) [.r, .l, .l]) ∧ FragOK Try.prog lim60 (fr60_0 k) (codeAt (bodyOf Try.f60) [.r, .l, .r, .s])) ∧ PlanOK Try.prog lim60 .go (codeAt (bodyOf Try.f60) [.r, .r]))) := by kernel_rfl
theorem ev60 (k : Nat) (x : AT (sp60 k).ps) : (sp60 k).impl x = (fnT Try.prog (cfg60 k) lim60 Try.f60 (bodyOf Try.f60) (pl60 k) (sp60 k) x).eval := by kernel_rfl
theorem eq60 (k : Nat) (x : AT (sp60 k).ps) : (fnT Try.prog (cfg60 k) lim60 Try.f60 (bodyOf Try.f60) (pl60 k) (sp60 k) x).left = (fnT Try.prog (cfg60 k) lim60 Try.f60 (bodyOf Try.f60) (pl60 k) (sp60 k) x).right := by kernel_rfl
theorem v60 (k : Nat) : Callable Try.prog 60 ∧ Valid Try.prog 60 (sp60 k) :=
  fn_ok (cfg60_ok k) (f := 60) (fn := Try.f60) (by kernel_rfl) (c := bodyOf Try.f60) (by kernel_rfl) (by kernel_rfl) rfl rfl (Nat.le_of_ble_eq_true rfl) (Nat.le_of_ble_eq_true rfl) (p := pl60 k) (Eq.mpr (pq60 k) ⟨(planOK_go _), ⟨⟨(planOK_go _), (fr60_0_ok k)⟩, (planOK_go _)⟩⟩) fun x => ⟨ev60 k x, eq60 k x⟩
/-! f33 slices.ContainsFunc[[]hyphen/api.Vec,hyphen/api.Vec] -/
def F33 (k : Nat) (a0 : (List (List Int))) : Option ((Bool × Unit) × Unit) :=
  (F60 k a0).bind fun r1 =>
  some (((decide (r1.1.1 ≥ (0 : Int))), ()), ())
def sp33 (k : Nat) : Spec := ⟨[.val (.sl false 45 (.arr 3 (.int .i64)) none), .clo 34 []], [.val .bool], fun x => F33 k x.1⟩
def lim33 : Lim := ⟨9, 2, false, false⟩
def cfg33 (k : Nat) : Nat → Option Spec := cfgL [(60, sp60 k)]
theorem cfg33_ok (k : Nat) : CfgOK Try.prog (cfg33 k) := cfgL_cons (v60 k) (cfgL_nil)
def pl33 (k : Nat) : Plan := .go
theorem pq33 (k : Nat) : PlanOK Try.prog lim33 (pl33 k) (codeAt (bodyOf Try.f33) []) = PlanOK Try.prog lim33 .go (codeAt (bodyOf Try.f33) []) := by kernel_rfl
theorem ev33 (k : Nat) (x : AT (sp33 k).ps) : (sp33 k).impl x = (fnT Try.prog (cfg33 k) lim33 Try.f33 (bodyOf Try.f33) (pl33 k) (sp33 k) x).eval := by kernel_rfl
theorem eq33 (k : Nat) (x : AT (sp33 k).ps) : (fnT Try.prog (cfg33 k) lim33 Try.f33 (bodyOf Try.f33) (pl33 k) (sp33 k) x).left = (fnT Try.prog (cfg33 k) lim33 Try.f33 (bodyOf Try.f33) (pl33 k) (sp33 k) x).right := by kernel_rfl
theorem v33 (k : Nat) : Callable Try.prog 33 ∧ Valid Try.prog 33 (sp33 k) :=
  fn_ok (cfg33_ok k) (f := 33) (fn := Try.f33) (by kernel_rfl) (c := bodyOf Try.f33) (by kernel_rfl) (by kernel_rfl) rfl rfl (Nat.le_of_ble_eq_true rfl) (Nat.le_of_ble_eq_true rfl) (p := pl33 k) (Eq.mpr (pq33 k) (planOK_go _)) fun x => ⟨ev33 k x, eq33 k x⟩
/-! f14 hyphen/table.Right -/
def F14_0 (k : Nat) : Nat → (List Int) → Int → Int → ((List Int) × ((List Int) × (((List (List Int)) × ((List Int) × Unit)) × (((List (List Int)) × ((List (List (List Int))) × Unit)) × Unit)))) → Option ((Unit × (((List Int) × ((List Int) × (((List (List Int)) × ((List Int) × Unit)) × (((List (List Int)) × ((List (List (List Int))) × Unit)) × Unit)))) × Unit)) ⊕ ((Bool × Unit) × Unit))
  | 0, _, _, _, _ => none
  | n + 1, t42, t43, t44, c1 =>
    bif (decide (t44 < t43)) then
      if 0 ≤ t44 ∧ t44 < ((List.length t42 : Nat) : Int) then
        let x9 := (decide ((List.getD t42 (Int.toNat t44) (0 : Int)) > (1114111 : Int)))
        bif x9 then
          some (.inr ((false, ()), ()))
        else
          bif (decide (t44 > (0 : Int))) then
            if 0 ≤ (IntKind.wrap .i64 (t44 - (1 : Int))) ∧ (IntKind.wrap .i64 (t44 - (1 : Int))) < ((List.length c1.1 : Nat) : Int) then
              let x10 := (List.getD c1.1 (Int.toNat (IntKind.wrap .i64 (t44 - (1 : Int)))) (0 : Int))
              let x11 := (decide ((List.getD t42 (Int.toNat t44) (0 : Int)) ≤ x10))
              bif x11 then
                some (.inr ((false, ()), ()))
              else
                (F14_0 k n t42 t43 (IntKind.wrap .i64 (t44 + (1 : Int))) c1).bind some
            else none
          else
            (F14_0 k n t42 t43 (IntKind.wrap .i64 (t44 + (1 : Int))) c1).bind some
      else none
    else
      some (.inl ((), (c1, ())))
def fr14_0 (k : Nat) : Frag := ⟨⟨[], [(1, .ptr 1 []), (42, .val (.sl false 3 (.int .i64) none)), (43, .val (.int .i64)), (44, .val (.int .i64))], [(1, some 31, (.pair (.sl false 3 (.int .i64) none) (.pair (.sl false 3 (.int .i64) none) (.pair (.pair (.sl false 22 (.sl false 3 (.int .i64) none) none) (.pair (.sl false 3 (.int .i64) none) .unit)) (.pair (.pair (.sl false 22 (.sl false 3 (.int .i64) none) none) (.pair (.sl false 46 (.sl false 45 (.arr 3 (.int .i64)) none) none) .unit)) .unit)))))]⟩, [(.exit 0, ⟨[], [(1, .ptr 1 [])], [(1, some 31, (.pair (.sl false 3 (.int .i64) none) (.pair (.sl false 3 (.int .i64) none) (.pair (.pair (.sl false 22 (.sl false 3 (.int .i64) none) none) (.pair (.sl false 3 (.int .i64) none) .unit)) (.pair (.pair (.sl false 22 (.sl false 3 (.int .i64) none) none) (.pair (.sl false 46 (.sl false 45 (.arr 3 (.int .i64)) none) none) .unit)) .unit)))))]⟩), (.ret, ⟨[], [(2, .val .bool)], []⟩)], fun v => F14_0 k k v.1.1 v.1.2.1 v.1.2.2.1 v.2.1⟩
def F14_1 (k : Nat) : Nat → Int → (List (List (List Int))) → Int → Int → Option ((Unit × Unit) ⊕ ((Bool × Unit) × Unit))
  | 0, _, _, _, _ => none
  | n + 1, t6, t120, t121, t122 =>
    bif (decide (t122 < t121)) then
      if 0 ≤ t122 ∧ t122 < ((List.length t120 : Nat) : Int) then
        let x25 := (List.getD t120 (Int.toNat t122) ([] : (List (List Int))))
        let x26 := (((List.length x25 : Nat) : Int) != (IntKind.wrap .i64 (t6 + (1 : Int))))
        bif x26 then
          some (.inr ((false, ()), ()))
        else
          (F33 k x25).bind fun r27 =>
          bif r27.1.1 then
            some (.inr ((false, ()), ()))
          else
            (F14_1 k n t6 t120 t121 (IntKind.wrap .i64 (t122 + (1 : Int)))).bind some
      else none
    else
      some (.inl ((), ()))
def fr14_1 (k : Nat) : Frag := ⟨⟨[], [(6, .val (.int .i64)), (120, .val (.sl false 46 (.sl false 45 (.arr 3 (.int .i64)) none) none)), (121, .val (.int .i64)), (122, .val (.int .i64))], []⟩, [(.exit 2, ⟨[], [], []⟩), (.ret, ⟨[], [(2, .val .bool)], []⟩)], fun v => F14_1 k k v.1.1 v.1.2.1 v.1.2.2.1 v.1.2.2.2.1⟩
def F14 (k : Nat) (a0 : ((List Int) × ((List Int) × (((List (List Int)) × ((List Int) × Unit)) × (((List (List Int)) × ((List (List (List Int))) × Unit)) × Unit))))) : Option ((Bool × Unit) × Unit) :=
  let x1 := (decide (((List.length a0.1 : Nat) : Int) < (1 : Int)))
  bif x1 then
    some ((false, ()), ())
  else
    let x2 := (decide (((List.length a0.1 : Nat) : Int) > (100000 : Int)))
    bif x2 then
      some ((false, ()), ())
    else
      if 0 ≤ (0 : Int) ∧ (0 : Int) < ((List.length a0.1 : Nat) : Int) then
        let x3 := (List.getD a0.1 (Int.toNat (0 : Int)) (0 : Int))
        bif (x3 != (0 : Int)) then
          some ((false, ()), ())
        else
          let x4 := (((List.length a0.2.1 : Nat) : Int) != ((List.length a0.1 : Nat) : Int))
          bif x4 then
            some ((false, ()), ())
          else
            (F28 k a0.2.1).bind fun r5 =>
            bif (!r5.1.1) then
              some ((false, ()), ())
            else
              (F14_0 k k a0.1 ((List.length a0.1 : Nat) : Int) (0 : Int) a0).bind fun r12 =>
              match r12 with
              | .inl r13 =>
                let y14 := r13.2.1
                (F29 k y14.2.1).bind fun r15 =>
                (F30 k y14.2.2.1.1 r15.1.1).bind fun r16 =>
                bif (!r16.1.1) then
                  some ((false, ()), ())
                else
                  let x17 := (((List.length y14.2.2.1.2.1 : Nat) : Int) != ((List.length y14.2.2.1.1 : Nat) : Int))
                  bif x17 then
                    some ((false, ()), ())
                  else
                    (F30 k y14.2.2.2.1.1 r15.1.1).bind fun r18 =>
                    bif (!r18.1.1) then
                      some ((false, ()), ())
                    else
                      let x19 := (((List.length y14.2.2.2.1.2.1 : Nat) : Int) != ((List.length y14.2.2.2.1.1 : Nat) : Int))
                      bif x19 then
                        some ((false, ()), ())
                      else
                        (F31 k y14.2.2.1.2.1).bind fun r20 =>
                        (F32 k y14.2.2.1.2.1).bind fun r21 =>
                        bif (decide (r21.1.1 < (0 : Int))) then
                          some ((false, ()), ())
                        else
                          bif (decide (r20.1.1 ≥ (100000 : Int))) then
                            some ((false, ()), ())
                          else
                            (F14_1 k k r20.1.1 y14.2.2.2.1.2.1 ((List.length y14.2.2.2.1.2.1 : Nat) : Int) (0 : Int)).bind fun r28 =>
                            match r28 with
                            | .inl r29 =>
                              some ((true, ()), ())
                            | .inr r29 =>
                              let y30 := r29.1.1
                              some ((y30, ()), ())
              | .inr r13 =>
                let y31 := r13.1.1
                some ((y31, ()), ())
      else none
def sp14 (k : Nat) : Spec := ⟨[.val (.pair (.sl false 3 (.int .i64) none) (.pair (.sl false 3 (.int .i64) none) (.pair (.pair (.sl false 22 (.sl false 3 (.int .i64) none) none) (.pair (.sl false 3 (.int .i64) none) .unit)) (.pair (.pair (.sl false 22 (.sl false 3 (.int .i64) none) none) (.pair (.sl false 46 (.sl false 45 (.arr 3 (.int .i64)) none) none) .unit)) .unit))))], [.val .bool], fun x => F14 k x.1⟩
def lim14 : Lim := ⟨136, 1, false, false⟩
def cfg14 (k : Nat) : Nat → Option Spec := cfgL [(28, sp28 k), (29, sp29 k), (30, sp30 k), (31, sp31 k), (32, sp32 k), (33, sp33 k)]
theorem cfg14_ok (k : Nat) : CfgOK Try.prog (cfg14 k) := cfgL_cons (v28 k) (cfgL_cons (v29 k) (cfgL_cons (v30 k) (cfgL_cons (v31 k) (cfgL_cons (v32 k) (cfgL_cons (v33 k) (cfgL_nil))))))
def pl14_0 (k : Nat) : Plan := .go
theorem pq14_0 (k : Nat) : PlanOK Try.prog lim14 (pl14_0 k) (codeAt (bodyOf Try.f14) [.r, .r, .l, .r, .s, .b]) = PlanOK Try.prog lim14 .go (codeAt (bodyOf Try.f14) [.r, .r, .l, .r, .s, .b]) := by kernel_rfl
theorem ps14_0 (k m : Nat) (v : (fr14_0 k).sh.V) : F14_0 k (m + 1) v.1.1 v.1.2.1 v.1.2.2.1 v.2.1 = (body Try.prog (stepper Try.prog (cfg14 k) lim14) (pl14_0 k) (codeAt (bodyOf Try.f14) [.r, .r, .l, .r, .s, .b]) ((fr14_0 k).sh.st v) (loopK (fr14_0 k) fun v => F14_0 k m v.1.1 v.1.2.1 v.1.2.2.1 v.2.1)).eval := by kernel_rfl
theorem pe14_0 (k m : Nat) (v : (fr14_0 k).sh.V) : (body Try.prog (stepper Try.prog (cfg14 k) lim14) (pl14_0 k) (codeAt (bodyOf Try.f14) [.r, .r, .l, .r, .s, .b]) ((fr14_0 k).sh.st v) (loopK (fr14_0 k) fun v => F14_0 k m v.1.1 v.1.2.1 v.1.2.2.1 v.2.1)).left = (body Try.prog (stepper Try.prog (cfg14 k) lim14) (pl14_0 k) (codeAt (bodyOf Try.f14) [.r, .r, .l, .r, .s, .b]) ((fr14_0 k).sh.st v) (loopK (fr14_0 k) fun v => F14_0 k m v.1.1 v.1.2.1 v.1.2.2.1 v.2.1)).right := by kernel_rfl
theorem fr14_0_ok (k : Nat) : FragOK Try.prog lim14 (fr14_0 k) (codeAt (bodyOf Try.f14) [.r, .r, .l, .r, .s]) :=
  frag_cast (by kernel_rfl) (loop_ok (cfg14_ok k) (Eq.mpr (pq14_0 k) (planOK_go _)) (fun m v => F14_0 k m v.1.1 v.1.2.1 v.1.2.2.1 v.2.1) k (fun _ => rfl) (fun _ => rfl) fun m v => ⟨ps14_0 k m v, pe14_0 k m v⟩)
def pl14_1 (k : Nat) : Plan := .go
theorem pq14_1 (k : Nat) : PlanOK Try.prog lim14 (pl14_1 k) (codeAt (bodyOf Try.f14) [.r, .r, .r, .r, .r, .r, .r, .l, .r, .s, .b]) = PlanOK Try.prog lim14 .go (codeAt (bodyOf Try.f14) [.r, .r, .r, .r, .r, .r, .r, .l, .r, .s, .b]) := by kernel_rfl
theorem ps14_1 (k m : Nat) (v : (fr14_1 k).sh.V) : F14_1 k (m + 1) v.1.1 v.1.2.1 v.1.2.2.1 v.1.2.2.2.1 = (body Try.prog (stepper Try.prog (cfg14 k) lim14) (pl14_1 k) (codeAt (bodyOf Try.f14) [.r, .r, .r, .r, .r, .r, .r, .l, .r, .s, .b]) ((fr14_1 k).sh.st v) (loopK (fr14_1 k) fun v => F14_1 k m v.1.1 v.1.2.1 v.1.2.2.1 v.1.2.2.2.1)).eval := by kernel_rfl
theorem pe14_1 (k m : Nat) (v : (fr14_1 k).sh.V) : (body Try.prog (stepper Try.prog (cfg14 k) lim14) (pl14_1 k) (codeAt (bodyOf Try.f14) [.r, .r, .r, .r, .r, .r, .r, .l, .r, .s, .b]) ((fr14_1 k).sh.st v) (loopK (fr14_1 k) fun v => F14_1 k m v.1.1 v.1.2.1 v.1.2.2.1 v.1.2.2.2.1)).left = (body Try.prog (stepper Try.prog (cfg14 k) lim14) (pl14_1 k) (codeAt (bodyOf Try.f14) [.r, .r, .r, .r, .r, .r, .r, .l, .r, .s, .b]) ((fr14_1 k).sh.st v) (loopK (fr14_1 k) fun v => F14_1 k m v.1.1 v.1.2.1 v.1.2.2.1 v.1.2.2.2.1)).right := by kernel_rfl
theorem fr14_1_ok (k : Nat) : FragOK Try.prog lim14 (fr14_1 k) (codeAt (bodyOf Try.f14) [.r, .r, .r, .r, .r, .r, .r, .l, .r, .s]) :=
  frag_cast (by kernel_rfl) (loop_ok (cfg14_ok k) (Eq.mpr (pq14_1 k) (planOK_go _)) (fun m v => F14_1 k m v.1.1 v.1.2.1 v.1.2.2.1 v.1.2.2.2.1) k (fun _ => rfl) (fun _ => rfl) fun m v => ⟨ps14_1 k m v, pe14_1 k m v⟩)
def pl14 (k : Nat) : Plan := (.seq .go (.seq .go (.seq (.seq .go (.sub (.frag (fr14_0 k)))) (.seq .go (.seq .go (.seq .go (.seq .go (.seq (.seq .go (.sub (.frag (fr14_1 k)))) .go))))))))
theorem pq14 (k : Nat) : PlanOK Try.prog lim14 (pl14 k) (codeAt (bodyOf Try.f14) []) = (PlanOK Try.prog lim14 .go (codeAt (bodyOf Try.f14) [.l]) ∧ (PlanOK Try.prog lim14 .go (codeAt (bodyOf Try.f14) [.r, .l]) ∧ ((PlanOK Try.prog lim14 .go (codeAt (bodyOf Try.f14) [.r, .r, .l, .l]) ∧ FragOK Try.prog lim14 (fr14_0 k) (codeAt (bodyOf Try.f14) [.r, .r, .l, .r, .s])) ∧ (PlanOK Try.prog lim14 .go (codeAt (bodyOf Try.f14) [.r, .r, .r, .l]) ∧ (PlanOK Try.prog lim14 .go (codeAt (bodyOf Try.f14) [.r, .r, .r, .r, .l]) ∧ (PlanOK Try.prog lim14 .go (codeAt (bodyOf Try.f14) [.r, .r, .r, .r, .r, .l]) ∧ (PlanOK Try.prog lim14 .go (codeAt (bodyOf Try.f14) [.r, .r, .r, .r, .r, .r, .l]) ∧ ((PlanOK Try.prog lim14 .go (codeAt (bodyOf Try.f14) [.r, .r, .r, .r, .r, .r, .r, .l, .l]) ∧ FragOK Try.prog lim14 (fr14_1 k) (codeAt (bodyOf Try.f14) [.r, .r, .r, .r, .r, .r, .r, .l, .r, .s])) ∧ PlanOK Try.prog lim14 .go (codeAt (bodyOf Try.f14) [.r, .r, .r, .r, .r, .r, .r, .r]))))))))) := by kernel_rfl
theorem ev14 (k : Nat) (x : AT (sp14 k).ps) : (sp14 k).impl x = (fnT Try.prog (cfg14 k) lim14 Try.f14 (bodyOf Try.f14) (pl14 k) (sp14 k) x).eval := by kernel_rfl
theorem eq14 (k : Nat) (x : AT (sp14 k).ps) : (fnT Try.prog (cfg14 k) lim14 Try.f14 (bodyOf Try.f14) (pl14 k) (sp14 k) x).left = (fnT Try.prog (cfg14 k) lim14 Try.f14 (bodyOf Try.f14) (pl14 k) (sp14 k) x).right := by kernel_rfl
theorem v14 (k : Nat) : Callable Try.prog 14 ∧ Valid Try.prog 14 (sp14 k) :=
  fn_ok (cfg14_ok k) (f := 14) (fn := Try.f14) (by kernel_rfl) (c := bodyOf Try.f14) (by kernel_rfl) (by kernel_rfl) rfl rfl (Nat.le_of_ble_eq_true rfl) (Nat.le_of_ble_eq_true rfl) (p := pl14 k) (Eq.mpr (pq14 k) ⟨(planOK_go _), ⟨(planOK_go _), ⟨⟨(planOK_go _), (fr14_0_ok k)⟩, ⟨(planOK_go _), ⟨(planOK_go _), ⟨(planOK_go _), ⟨(planOK_go _), ⟨⟨(planOK_go _), (fr14_1_ok k)⟩, (planOK_go _)⟩⟩⟩⟩⟩⟩⟩⟩) fun x => ⟨ev14 k x, eq14 k x⟩
/-! f16 hyphen/table.Load -/
def F16_0 (k : Nat) : Nat → (List Int) → Int → Int → ((List Int) × ((List Int) × (((List (List Int)) × ((List Int) × Unit)) × (((List (List Int)) × ((List (List (List Int))) × Unit)) × Unit)))) → ((List Int) × ((List Int) × (((List (List Int)) × ((List Int) × Unit)) × (((List (List Int)) × ((List (List (List Int))) × Unit)) × Unit)))) → (((List Int) × (Bool × Unit)) × Unit) → Option ((((List Int) × Unit) × (((List Int) × ((List Int) × (((List (List Int)) × ((List Int) × Unit)) × (((List (List Int)) × ((List (List (List Int))) × Unit)) × Unit)))) × ((List Int) × ((List Int) × (((List (List Int)) × ((List Int) × Unit)) × (((List (List Int)) × ((List (List (List Int))) × Unit)) × Unit)))) × (((List Int) × (Bool × Unit)) × Unit) × Unit)))
  | 0, _, _, _, _, _, _ => none
  | n + 1, t0, t27, t28, c2, c5, c10 =>
    bif (decide (t28 < t27)) then
      (F43 k c10).bind fun r9 =>
      let x10 := (List.set (List.replicate 1 ([] : (List (List Int)))) 0 r9.1.1)
      if (List.length c5.2.2.2.1.2.1 + List.length x10) * (24 * 2) ≤ 281474976710656 ∧ List.length c5.2.2.2.1.2.1 + List.length x10 ≤ 9223372036854775807 then
        (F16_0 k n t0 t27 (IntKind.wrap .i64 (t28 + (1 : Int))) c2 (c5.1, (c5.2.1, (c5.2.2.1, ((c5.2.2.2.1.1, ((c5.2.2.2.1.2.1 ++ x10), c5.2.2.2.1.2.2)), c5.2.2.2.2)))) r9.2.1).bind some
      else none
    else
      some ((t0, ()), (c2, c5, c10, ()))
def fr16_0 (k : Nat) : Frag := ⟨⟨[], [(0, .val (.sl false 5 (.int .u8) none)), (2, .ptr 2 []), (4, .ptr 10 []), (5, .ptr 5 []), (27, .val (.int .i64)), (28, .val (.int .i64))], [(2, some 31, (.pair (.sl true 3 (.int .i64) none) (.pair (.sl true 3 (.int .i64) none) (.pair (.pair (.sl true 22 (.sl true 3 (.int .i64) none) none) (.pair (.sl true 3 (.int .i64) none) .unit)) (.pair (.pair (.sl true 22 (.sl true 3 (.int .i64) none) none) (.pair (.sl true 46 (.sl true 45 (.arr 3 (.int .i64)) none) none) .unit)) .unit))))), (5, some 31, (.pair (.sl true 3 (.int .i64) none) (.pair (.sl true 3 (.int .i64) none) (.pair (.pair (.sl true 22 (.sl true 3 (.int .i64) none) none) (.pair (.sl true 3 (.int .i64) none) .unit)) (.pair (.pair (.sl true 22 (.sl true 3 (.int .i64) none) none) (.pair (.sl true 46 (.sl true 45 (.arr 3 (.int .i64)) none) none) .unit)) .unit))))), (10, some 73, (.pair (.pair (.sl false 5 (.int .u8) none) (.pair .bool .unit)) .unit))]⟩, [(.exit 0, ⟨[], [(0, .val (.sl false 5 (.int .u8) none)), (2, .ptr 2 []), (4, .ptr 10 []), (5, .ptr 5 [])], [(2, some 31, (.pair (.sl true 3 (.int .i64) none) (.pair (.sl true 3 (.int .i64) none) (.pair (.pair (.sl true 22 (.sl true 3 (.int .i64) none) none) (.pair (.sl true 3 (.int .i64) none) .unit)) (.pair (.pair (.sl true 22 (.sl true 3 (.int .i64) none) none) (.pair (.sl true 46 (.sl true 45 (.arr 3 (.int .i64)) none) none) .unit)) .unit))))), (5, some 31, (.pair (.sl true 3 (.int .i64) none) (.pair (.sl true 3 (.int .i64) none) (.pair (.pair (.sl true 22 (.sl true 3 (.int .i64) none) none) (.pair (.sl true 3 (.int .i64) none) .unit)) (.pair (.pair (.sl true 22 (.sl true 3 (.int .i64) none) none) (.pair (.sl true 46 (.sl true 45 (.arr 3 (.int .i64)) none) none) .unit)) .unit))))), (10, some 73, (.pair (.pair (.sl false 5 (.int .u8) none) (.pair .bool .unit)) .unit))]⟩)], fun v => F16_0 k k v.1.1 v.1.2.1 v.1.2.2.1 v.2.1 v.2.2.1 v.2.2.2.1⟩
def F16 (k : Nat) (a0 : (List Int)) : Option ((((List Int) × ((List Int) × (((List (List Int)) × ((List Int) × Unit)) × (((List (List Int)) × ((List (List (List Int))) × Unit)) × Unit)))) × Bool × Unit) × Unit) :=
  (F40 k ((a0, (false, ())), ())).bind fun r1 =>
  (F40 k r1.2.1).bind fun r2 =>
  (F41 k r2.2.1).bind fun r3 =>
  (F40 k r3.2.1).bind fun r4 =>
  (F41 k r4.2.1).bind fun r5 =>
  (F42 k r5.2.1 (8 : Int)).bind fun r6 =>
  (F16_0 k k a0 r6.1.1 (0 : Int) (([] : (List Int)), (([] : (List Int)), ((([] : (List (List Int))), (([] : (List Int)), ())), ((([] : (List (List Int))), (([] : (List (List (List Int)))), ())), ())))) (r1.1.1, (r2.1.1, ((r3.1.1, (r4.1.1, ())), ((r5.1.1, (([] : (List (List (List Int)))), ())), ())))) r6.2.1).bind fun r11 =>
  let y12 := r11.1.1
  let y14 := r11.2.2.1
  let y15 := r11.2.2.2.1
  (F44 k y14.2.2.2.1.2.1).bind fun r16 =>
  (F45 k y15).bind fun r17 =>
  bif r17.2.1.1.2.1 then
    some (((([] : (List Int)), (([] : (List Int)), ((([] : (List (List Int))), (([] : (List Int)), ())), ((([] : (List (List Int))), (([] : (List (List (List Int)))), ())), ())))), false, ()), ())
  else
    let x18 := (decide (((List.length r17.2.1.1.1 : Nat) : Int) > (0 : Int)))
    bif x18 then
      some (((([] : (List Int)), (([] : (List Int)), ((([] : (List (List Int))), (([] : (List Int)), ())), ((([] : (List (List Int))), (([] : (List (List (List Int)))), ())), ())))), false, ()), ())
    else
      let x19 := (IntKind.wrap .i64 (((List.length y12 : Nat) : Int) - (8 : Int)))
      if 0 ≤ (0 : Int) ∧ (0 : Int) ≤ x19 ∧ x19 ≤ ((List.length y12 : Nat) : Int) then
        let x20 := (List.take (Int.toNat x19 - Int.toNat (0 : Int)) (List.drop (Int.toNat (0 : Int)) y12))
        (F23 k x20).bind fun r21 =>
        bif (r17.1.1 != r21.1.1) then
          some (((([] : (List Int)), (([] : (List Int)), ((([] : (List (List Int))), (([] : (List Int)), ())), ((([] : (List (List Int))), (([] : (List (List (List Int)))), ())), ())))), false, ()), ())
        else
          (F14 k (y14.1, (y14.2.1, (y14.2.2.1, ((y14.2.2.2.1.1, (r16.1.1, y14.2.2.2.1.2.2)), y14.2.2.2.2))))).bind fun r22 =>
          bif (!r22.1.1) then
            some (((([] : (List Int)), (([] : (List Int)), ((([] : (List (List Int))), (([] : (List Int)), ())), ((([] : (List (List Int))), (([] : (List (List (List Int)))), ())), ())))), false, ()), ())
          else
            some (((y14.1, (y14.2.1, (y14.2.2.1, ((y14.2.2.2.1.1, (r16.1.1, y14.2.2.2.1.2.2)), y14.2.2.2.2)))), true, ()), ())
      else none
def sp16 (k : Nat) : Spec := ⟨[.val (.sl false 5 (.int .u8) none)], [.own (.pair (.sl true 3 (.int .i64) none) (.pair (.sl true 3 (.int .i64) none) (.pair (.pair (.sl true 22 (.sl true 3 (.int .i64) none) none) (.pair (.sl true 3 (.int .i64) none) .unit)) (.pair (.pair (.sl true 22 (.sl true 3 (.int .i64) none) none) (.pair (.sl true 46 (.sl true 45 (.arr 3 (.int .i64)) none) none) .unit)) .unit)))), .val .bool], fun x => F16 k x.1⟩
def lim16 : Lim := ⟨81, 1, false, false⟩
def cfg16 (k : Nat) : Nat → Option Spec := cfgL [(14, sp14 k), (23, sp23 k), (40, sp40 k), (41, sp41 k), (42, sp42 k), (43, sp43 k), (44, sp44 k), (45, sp45 k)]
theorem cfg16_ok (k : Nat) : CfgOK Try.prog (cfg16 k) := cfgL_cons (v14 k) (cfgL_cons (v23 k) (cfgL_cons (v40 k) (cfgL_cons (v41 k) (cfgL_cons (v42 k) (cfgL_cons (v43 k) (cfgL_cons (v44 k) (cfgL_cons (v45 k) (cfgL_nil))))))))
def pl16_0 (k : Nat) : Plan := .go
theorem pq16_0 (k : Nat) : PlanOK Try.prog lim16 (pl16_0 k) (codeAt (bodyOf Try.f16) [.r, .r, .r, .r, .r, .l, .r, .s, .b]) = PlanOK Try.prog lim16 .go (codeAt (bodyOf Try.f16) [.r, .r, .r, .r, .r, .l, .r, .s, .b]) := by kernel_rfl
theorem ps16_0 (k m : Nat) (v : (fr16_0 k).sh.V) : F16_0 k (m + 1) v.1.1 v.1.2.1 v.1.2.2.1 v.2.1 v.2.2.1 v.2.2.2.1 = (body Try.prog (stepper Try.prog (cfg16 k) lim16) (pl16_0 k) (codeAt (bodyOf Try.f16) [.r, .r, .r, .r, .r, .l, .r, .s, .b]) ((fr16_0 k).sh.st v) (loopK (fr16_0 k) fun v => F16_0 k m v.1.1 v.1.2.1 v.1.2.2.1 v.2.1 v.2.2.1 v.2.2.2.1)).eval := by kernel_rfl
theorem pe16_0 (k m : Nat) (v : (fr16_0 k).sh.V) : (body Try.prog (stepper Try.prog (cfg16 k) lim16) (pl16_0 k) (codeAt (bodyOf Try.f16) [.r, .r, .r, .r, .r, .l, .r, .s, .b]) ((fr16_0 k).sh.st v) (loopK (fr16_0 k) fun v => F16_0 k m v.1.1 v.1.2.1 v.1.2.2.1 v.2.1 v.2.2.1 v.2.2.2.1)).left = (body Try.prog (stepper Try.prog (cfg16 k) lim16) (pl16_0 k) (codeAt (bodyOf Try.f16) [.r, .r, .r, .r, .r, .l, .r, .s, .b]) ((fr16_0 k).sh.st v) (loopK (fr16_0 k) fun v => F16_0 k m v.1.1 v.1.2.1 v.1.2.2.1 v.2.1 v.2.2.1 v.2.2.2.1)).right := by kernel_rfl
theorem fr16_0_ok (k : Nat) : FragOK Try.prog lim16 (fr16_0 k) (codeAt (bodyOf Try.f16) [.r, .r, .r, .r, .r, .l, .r, .s]) :=
  frag_cast (by kernel_rfl) (loop_ok (cfg16_ok k) (Eq.mpr (pq16_0 k) (planOK_go _)) (fun m v => F16_0 k m v.1.1 v.1.2.1 v.1.2.2.1 v.2.1 v.2.2.1 v.2.2.2.1) k (fun _ => rfl) (fun _ => rfl) fun m v => ⟨ps16_0 k m v, pe16_0 k m v⟩)
def pl16 (k : Nat) : Plan := (.seq .go (.seq .go (.seq .go (.seq .go (.seq .go (.seq (.seq .go (.sub (.frag (fr16_0 k)))) .go))))))
theorem pq16 (k : Nat) : PlanOK Try.prog lim16 (pl16 k) (codeAt (bodyOf Try.f16) []) = (PlanOK Try.prog lim16 .go (codeAt (bodyOf Try.f16) [.l]) ∧ (PlanOK Try.prog lim16 .go (codeAt (bodyOf Try.f16) [.r, .l]) ∧ (PlanOK Try.prog lim16 .go (codeAt (bodyOf Try.f16) [.r, .r, .l]) ∧ (PlanOK Try.prog lim16 .go (codeAt (bodyOf Try.f16) [.r, .r, .r, .l]) ∧ (PlanOK Try.prog lim16 .go (codeAt (bodyOf Try.f16) [.r, .r, .r, .r, .l]) ∧ ((PlanOK Try.prog lim16 .go (codeAt (bodyOf Try.f16) [.r, .r, .r, .r, .r, .l, .l]) ∧ FragOK Try.prog lim16 (fr16_0 k) (codeAt (bodyOf Try.f16) [.r, .r, .r, .r, .r, .l, .r, .s])) ∧ PlanOK Try.prog lim16 .go (codeAt (bodyOf Try.f16) [.r, .r, .r, .r, .r, .r]))))))) := by kernel_rfl
theorem ev16 (k : Nat) (x : AT (sp16 k).ps) : (sp16 k).impl x = (fnT Try.prog (cfg16 k) lim16 Try.f16 (bodyOf Try.f16) (pl16 k) (sp16 k) x).eval := by kernel_rfl
theorem eq16 (k : Nat) (x : AT (sp16 k).ps) : (fnT Try.prog (cfg16 k) lim16 Try.f16 (bodyOf Try.f16) (pl16 k) (sp16 k) x).left = (fnT Try.prog (cfg16 k) lim16 Try.f16 (bodyOf Try.f16) (pl16 k) (sp16 k) x).right := by kernel_rfl
theorem v16 (k : Nat) : Callable Try.prog 16 ∧ Valid Try.prog 16 (sp16 k) :=
  fn_ok (cfg16_ok k) (f := 16) (fn := Try.f16) (by kernel_rfl) (c := bodyOf Try.f16) (by kernel_rfl) (by kernel_rfl) rfl rfl (Nat.le_of_ble_eq_true rfl) (Nat.le_of_ble_eq_true rfl) (p := pl16 k) (Eq.mpr (pq16 k) ⟨(planOK_go _), ⟨(planOK_go _), ⟨(planOK_go _), ⟨(planOK_go _), ⟨(planOK_go _), ⟨⟨(planOK_go _), (fr16_0_ok k)⟩, (planOK_go _)⟩⟩⟩⟩⟩⟩) fun x => ⟨ev16 k x, eq16 k x⟩
/-! f48 hyphen/hyphenref12.num -/
def F48_0 (k : Nat) : Nat → Int → Int → (List Int) → Option ((Unit × ((List Int) × Unit)))
  | 0, _, _, _ => none
  | n + 1, t1, t5, c2000000 =>
    bif (decide (t5 < (8 : Int))) then
      let x1 := (IntKind.wrap .i64 ((56 : Int) - (IntKind.wrap .i64 ((8 : Int) * t5))))
      if 0 ≤ (IntKind.wrap .u64 x1) then
        let x2 := (Int.fdiv t1 (2 ^ (min (Int.toNat (IntKind.wrap .u64 x1)) (IntKind.bits .i64))))
        let x3 := (List.set (List.replicate 1 (0 : Int)) 0 (IntKind.wrap .u8 x2))
        if (List.length c2000000 + List.length x3) * (1 * 2) ≤ 281474976710656 ∧ List.length c2000000 + List.length x3 ≤ 9223372036854775807 then
          (F48_0 k n t1 (IntKind.wrap .i64 (t5 + (1 : Int))) (c2000000 ++ x3)).bind some
        else none
      else none
    else
      some ((), (c2000000, ()))
def fr48_0 (k : Nat) : Frag := ⟨⟨[(0, (.sl true 5 (.int .u8) none))], [(0, .at 2000000 []), (1, .val (.int .i64)), (5, .val (.int .i64))], [(2000000, none, (.sl true 5 (.int .u8) none))]⟩, [(.exit 0, ⟨[(0, (.sl true 5 (.int .u8) none))], [(0, .at 2000000 [])], [(2000000, none, (.sl true 5 (.int .u8) none))]⟩)], fun v => F48_0 k k v.1.1 v.1.2.1 v.2.1⟩
def F48 (k : Nat) (a0 : (List Int)) (a1 : Int) : Option (((List Int) × Unit) × Unit) :=
  (F48_0 k k a1 (0 : Int) a0).bind fun r4 =>
  let y5 := r4.2.1
  some ((y5, ()), ())
def sp48 (k : Nat) : Spec := ⟨[.own (.sl true 5 (.int .u8) none), .val (.int .i64)], [.own (.sl true 5 (.int .u8) none)], fun x => F48 k x.1 x.2.1⟩
def lim48 : Lim := ⟨21, 2, false, false⟩
def cfg48 (k : Nat) : Nat → Option Spec := cfgL []
theorem cfg48_ok (k : Nat) : CfgOK Try.prog (cfg48 k) := cfgL_nil
def pl48_0 (k : Nat) : Plan := .go
theorem pq48_0 (k : Nat) : PlanOK Try.prog lim48 (pl48_0 k) (codeAt (bodyOf Try.f48) [.r, .l, .r, .s, .b]) = PlanOK Try.prog lim48 .go (codeAt (bodyOf Try.f48) [.r, .l, .r, .s, .b]) := by kernel_rfl
theorem ps48_0 (k m : Nat) (v : (fr48_0 k).sh.V) : F48_0 k (m + 1) v.1.1 v.1.2.1 v.2.1 = (body Try.prog (stepper Try.prog (cfg48 k) lim48) (pl48_0 k) (codeAt (bodyOf Try.f48) [.r, .l, .r, .s, .b]) ((fr48_0 k).sh.st v) (loopK (fr48_0 k) fun v => F48_0 k m v.1.1 v.1.2.1 v.2.1)).eval := by kernel_rfl
theorem pe48_0 (k m : Nat) (v : (fr48_0 k).sh.V) : (body Try.prog (stepper Try.prog (cfg48 k) lim48) (pl48_0 k) (codeAt (bodyOf Try.f48) [.r, .l, .r, .s, .b]) ((fr48_0 k).sh.st v) (loopK (fr48_0 k) fun v => F48_0 k m v.1.1 v.1.2.1 v.2.1)).left = (body Try.prog (stepper Try.prog (cfg48 k) lim48) (pl48_0 k) (codeAt (bodyOf Try.f48) [.r, .l, .r, .s, .b]) ((fr48_0 k).sh.st v) (loopK (fr48_0 k) fun v => F48_0 k m v.1.1 v.1.2.1 v.2.1)).right := by kernel_rfl
theorem fr48_0_ok (k : Nat) : FragOK Try.prog lim48 (fr48_0 k) (codeAt (bodyOf Try.f48) [.r, .l, .r, .s]) :=
  frag_cast (by kernel_rfl) (loop_ok (cfg48_ok k) (Eq.mpr (pq48_0 k) (planOK_go _)) (fun m v => F48_0 k m v.1.1 v.1.2.1 v.2.1) k (fun _ => rfl) (fun _ => rfl) fun m v => ⟨ps48_0 k m v, pe48_0 k m v⟩)
def pl48 (k : Nat) : Plan := (.seq .go (.seq (.seq .go (.sub (.frag (fr48_0 k)))) .go))
theorem pq48 (k : Nat) : PlanOK Try.prog lim48 (pl48 k) (codeAt (bodyOf Try.f48) []) = (PlanOK Try.prog lim48 .go (codeAt (bodyOf Try.f48) [.l]) ∧ ((PlanOK Try.prog lim48 .go (codeAt (bodyOf Try.f48) [.r, .l, .l]) ∧ FragOK Try.prog lim48 (fr48_0 k) (codeAt (bodyOf Try.f48) [.r, .l, .r, .s])) ∧ PlanOK Try.prog lim48 .go (codeAt (bodyOf Try.f48) [.r, .r]))) := by kernel_rfl
theorem ev48 (k : Nat) (x : AT (sp48 k).ps) : (sp48 k).impl x = (fnT Try.prog (cfg48 k) lim48 Try.f48 (bodyOf Try.f48) (pl48 k) (sp48 k) x).eval := by kernel_rfl
theorem eq48 (k : Nat) (x : AT (sp48 k).ps) : (fnT Try.prog (cfg48 k) lim48 Try.f48 (bodyOf Try.f48) (pl48 k) (sp48 k) x).left = (fnT Try.prog (cfg48 k) lim48 Try.f48 (bodyOf Try.f48) (pl48 k) (sp48 k) x).right := by kernel_rfl
theorem v48 (k : Nat) : Callable Try.prog 48 ∧ Valid Try.prog 48 (sp48 k) :=
  fn_ok (cfg48_ok k) (f := 48) (fn := Try.f48) (by kernel_rfl) (c := bodyOf Try.f48) (by kernel_rfl) (by kernel_rfl) rfl rfl (Nat.le_of_ble_eq_true rfl) (Nat.le_of_ble_eq_true rfl) (p := pl48 k) (Eq.mpr (pq48 k) ⟨(planOK_go _), ⟨⟨(planOK_go _), (fr48_0_ok k)⟩, (planOK_go _)⟩⟩) fun x => ⟨ev48 k x, eq48 k x⟩
/-! f46 hyphen/hyphenref12.nums -/
def F46_0 (k : Nat) : Nat → (List Int) → Int → (List Int) → Option ((Unit × ((List Int) × Unit)))
  | 0, _, _, _ => none
  | n + 1, t1, t5, c2000000 =>
    let x2 := (decide (t5 < ((List.length t1 : Nat) : Int)))
    bif x2 then
      if 0 ≤ t5 ∧ t5 < ((List.length t1 : Nat) : Int) then
        (F48 k c2000000 (List.getD t1 (Int.toNat t5) (0 : Int))).bind fun r3 =>
        (F46_0 k n t1 (IntKind.wrap .i64 (t5 + (1 : Int))) r3.1.1).bind some
      else none
    else
      some ((), (c2000000, ()))
def fr46_0 (k : Nat) : Frag := ⟨⟨[(0, (.sl true 5 (.int .u8) none))], [(0, .at 2000000 []), (1, .val (.sl false 3 (.int .i64) none)), (5, .val (.int .i64))], [(2000000, none, (.sl true 5 (.int .u8) none))]⟩, [(.exit 0, ⟨[(0, (.sl true 5 (.int .u8) none))], [(0, .at 2000000 [])], [(2000000, none, (.sl true 5 (.int .u8) none))]⟩)], fun v => F46_0 k k v.1.1 v.1.2.1 v.2.1⟩
def F46 (k : Nat) (a0 : (List Int)) (a1 : (List Int)) : Option (((List Int) × Unit) × Unit) :=
  (F48 k a0 ((List.length a1 : Nat) : Int)).bind fun r1 =>
  (F46_0 k k a1 (0 : Int) r1.1.1).bind fun r4 =>
  let y5 := r4.2.1
  some ((y5, ()), ())
def sp46 (k : Nat) : Spec := ⟨[.own (.sl true 5 (.int .u8) none), .val (.sl false 3 (.int .i64) none)], [.own (.sl true 5 (.int .u8) none)], fun x => F46 k x.1 x.2.1⟩
def lim46 : Lim := ⟨23, 2, false, false⟩
def cfg46 (k : Nat) : Nat → Option Spec := cfgL [(48, sp48 k)]
theorem cfg46_ok (k : Nat) : CfgOK Try.prog (cfg46 k) := cfgL_cons (v48 k) (cfgL_nil)
def pl46_0 (k : Nat) : Plan := .go
theorem pq46_0 (k : Nat) : PlanOK Try.prog lim46 (pl46_0 k) (codeAt (bodyOf Try.f46) [.r, .r, .l, .r, .s, .b]) = PlanOK Try.prog lim46 .go (codeAt (bodyOf Try.f46) [.r, .r, .l, .r, .s, .b]) := by kernel_rfl
theorem ps46_0 (k m : Nat) (v : (fr46_0 k).sh.V) : F46_0 k (m + 1) v.1.1 v.1.2.1 v.2.1 = (body Try.prog (stepper Try.prog (cfg46 k) lim46) (pl46_0 k) (codeAt (bodyOf Try.f46) [.r, .r, .l, .r, .s, .b]) ((fr46_0 k).sh.st v) (loopK (fr46_0 k) fun v => F46_0 k m v.1.1 v.1.2.1 v.2.1)).eval := by kernel_rfl
theorem pe46_0 (k m : Nat) (v : (fr46_0 k).sh.V) : (body Try.prog (stepper Try.prog (cfg46 k) lim46) (pl46_0 k) (codeAt (bodyOf Try.f46) [.r, .r, .l, .r, .s, .b]) ((fr46_0 k).sh.st v) (loopK (fr46_0 k) fun v => F46_0 k m v.1.1 v.1.2.1 v.2.1)).left = (body Try.prog (stepper Try.prog (cfg46 k) lim46) (pl46_0 k) (codeAt (bodyOf Try.f46) [.r, .r, .l, .r, .s, .b]) ((fr46_0 k).sh.st v) (loopK (fr46_0 k) fun v => F46_0 k m v.1.1 v.1.2.1 v.2.1)).right := by kernel_rfl
theorem fr46_0_ok (k : Nat) : FragOK Try.prog lim46 (fr46_0 k) (codeAt (bodyOf Try.f46) [.r, .r, .l, .r, .s]) :=
  frag_cast (by kernel_rfl) (loop_ok (cfg46_ok k) (Eq.mpr (pq46_0 k) (planOK_go _)) (fun m v => F46_0 k m v.1.1 v.1.2.1 v.2.1) k (fun _ => rfl) (fun _ => rfl) fun m v => ⟨ps46_0 k m v, pe46_0 k m v⟩)
def pl46 (k : Nat) : Plan := (.seq .go (.seq .go (.seq (.seq .go (.sub (.frag (fr46_0 k)))) .go)))
theorem pq46 (k : Nat) : PlanOK Try.prog lim46 (pl46 k) (codeAt (bodyOf Try.f46) []) = (PlanOK Try.prog lim46 .go (codeAt (bodyOf Try.f46) [.l]) ∧ (PlanOK Try.prog lim46 .go (codeAt (bodyOf Try.f46) [.r, .l]) ∧ ((PlanOK Try.prog lim46 .go (codeAt (bodyOf Try.f46) [.r, .r, .l, .l]) ∧ FragOK Try.prog lim46 (fr46_0 k) (codeAt (bodyOf Try.f46) [.r, .r, .l, .r, .s])) ∧ PlanOK Try.prog lim46 .go (codeAt (bodyOf Try.f46) [.r, .r, .r])))) := by kernel_rfl
theorem ev46 (k : Nat) (x : AT (sp46 k).ps) : (sp46 k).impl x = (fnT Try.prog (cfg46 k) lim46 Try.f46 (bodyOf Try.f46) (pl46 k) (sp46 k) x).eval := by kernel_rfl
theorem eq46 (k : Nat) (x : AT (sp46 k).ps) : (fnT Try.prog (cfg46 k) lim46 Try.f46 (bodyOf Try.f46) (pl46 k) (sp46 k) x).left = (fnT Try.prog (cfg46 k) lim46 Try.f46 (bodyOf Try.f46) (pl46 k) (sp46 k) x).right := by kernel_rfl
theorem v46 (k : Nat) : Callable Try.prog 46 ∧ Valid Try.prog 46 (sp46 k) :=
  fn_ok (cfg46_ok k) (f := 46) (fn := Try.f46) (by kernel_rfl) (c := bodyOf Try.f46) (by kernel_rfl) (by kernel_rfl) rfl rfl (Nat.le_of_ble_eq_true rfl) (Nat.le_of_ble_eq_true rfl) (p := pl46 k) (Eq.mpr (pq46 k) ⟨(planOK_go _), ⟨(planOK_go _), ⟨⟨(planOK_go _), (fr46_0_ok k)⟩, (planOK_go _)⟩⟩⟩) fun x => ⟨ev46 k x, eq46 k x⟩
/-! f47 hyphen/hyphenref12.rows -/
def F47_0 (k : Nat) : Nat → (List (List Int)) → Int → (List Int) → Option ((Unit × ((List Int) × Unit)))
  | 0, _, _, _ => none
  | n + 1, t1, t5, c2000000 =>
    let x2 := (decide (t5 < ((List.length t1 : Nat) : Int)))
    bif x2 then
      if 0 ≤ t5 ∧ t5 < ((List.length t1 : Nat) : Int) then
        let x3 := (List.getD t1 (Int.toNat t5) ([] : (List Int)))
        (F46 k c2000000 x3).bind fun r4 =>
        (F47_0 k n t1 (IntKind.wrap .i64 (t5 + (1 : Int))) r4.1.1).bind some
      else none
    else
      some ((), (c2000000, ()))
def fr47_0 (k : Nat) : Frag := ⟨⟨[(0, (.sl true 5 (.int .u8) none))], [(0, .at 2000000 []), (1, .val (.sl false 22 (.sl false 3 (.int .i64) none) none)), (5, .val (.int .i64))], [(2000000, none, (.sl true 5 (.int .u8) none))]⟩, [(.exit 0, ⟨[(0, (.sl true 5 (.int .u8) none))], [(0, .at 2000000 [])], [(2000000, none, (.sl true 5 (.int .u8) none))]⟩)], fun v => F47_0 k k v.1.1 v.1.2.1 v.2.1⟩
def F47 (k : Nat) (a0 : (List Int)) (a1 : (List (List Int))) : Option (((List Int) × Unit) × Unit) :=
  (F48 k a0 ((List.length a1 : Nat) : Int)).bind fun r1 =>
  (F47_0 k k a1 (0 : Int) r1.1.1).bind fun r5 =>
  let y6 := r5.2.1
  some ((y6, ()), ())
def sp47 (k : Nat) : Spec := ⟨[.own (.sl true 5 (.int .u8) none), .val (.sl false 22 (.sl false 3 (.int .i64) none) none)], [.own (.sl true 5 (.int .u8) none)], fun x => F47 k x.1 x.2.1⟩
def lim47 : Lim := ⟨23, 2, false, false⟩
def cfg47 (k : Nat) : Nat → Option Spec := cfgL [(46, sp46 k), (48, sp48 k)]
theorem cfg47_ok (k : Nat) : CfgOK Try.prog (cfg47 k) := cfgL_cons (v46 k) (cfgL_cons (v48 k) (cfgL_nil))
def pl47_0 (k : Nat) : Plan := .go
theorem pq47_0 (k : Nat) : PlanOK Try.prog lim47 (pl47_0 k) (codeAt (bodyOf Try.f47) [.r, .r, .l, .r, .s, .b]) = PlanOK Try.prog lim47 .go (codeAt (bodyOf Try.f47) [.r, .r, .l, .r, .s, .b]) := by kernel_rfl
theorem ps47_0 (k m : Nat) (v : (fr47_0 k).sh.V) : F47_0 k (m + 1) v.1.1 v.1.2.1 v.2.1 = (body Try.prog (stepper Try.prog (cfg47 k) lim47) (pl47_0 k) (codeAt (bodyOf Try.f47) [.r, .r, .l, .r, .s, .b]) ((fr47_0 k).sh.st v) (loopK (fr47_0 k) fun v => F47_0 k m v.1.1 v.1.2.1 v.2.1)).eval := by kernel_rfl
theorem pe47_0 (k m : Nat) (v : (fr47_0 k).sh.V) : (body Try.prog (stepper Try.prog (cfg47 k) lim47) (pl47_0 k) (codeAt (bodyOf Try.f47) [.r, .r, .l, .r, .s, .b]) ((fr47_0 k).sh.st v) (loopK (fr47_0 k) fun v => F47_0 k m v.1.1 v.1.2.1 v.2.1)).left = (body Try.prog (stepper Try.prog (cfg47 k) lim47) (pl47_0 k) (codeAt (bodyOf Try.f47) [.r, .r, .l, .r, .s, .b]) ((fr47_0 k).sh.st v) (loopK (fr47_0 k) fun v => F47_0 k m v.1.1 v.1.2.1 v.2.1)).right := by kernel_rfl
theorem fr47_0_ok (k : Nat) : FragOK Try.prog lim47 (fr47_0 k) (codeAt (bodyOf Try.f47) [.r, .r, .l, .r, .s]) :=
  frag_cast (by kernel_rfl) (loop_ok (cfg47_ok k) (Eq.mpr (pq47_0 k) (planOK_go _)) (fun m v => F47_0 k m v.1.1 v.1.2.1 v.2.1) k (fun _ => rfl) (fun _ => rfl) fun m v => ⟨ps47_0 k m v, pe47_0 k m v⟩)
def pl47 (k : Nat) : Plan := (.seq .go (.seq .go (.seq (.seq .go (.sub (.frag (fr47_0 k)))) .go)))
theorem pq47 (k : Nat) : PlanOK Try.prog lim47 (pl47 k) (codeAt (bodyOf Try.f47) []) = (PlanOK Try.prog lim47 .go (codeAt (bodyOf Try.f47) [.l]) ∧ (PlanOK Try.prog lim47 .go (codeAt (bodyOf Try.f47) [.r, .l]) ∧ ((PlanOK Try.prog lim47 .go (codeAt (bodyOf Try.f47) [.r, .r, .l, .l]) ∧ FragOK Try.prog lim47 (fr47_0 k) (codeAt (bodyOf Try.f47) [.r, .r, .l, .r, .s])) ∧ PlanOK Try.prog lim47 .go (codeAt (bodyOf Try.f47) [.r, .r, .r])))) := by kernel_rfl
theorem ev47 (k : Nat) (x : AT (sp47 k).ps) : (sp47 k).impl x = (fnT Try.prog (cfg47 k) lim47 Try.f47 (bodyOf Try.f47) (pl47 k) (sp47 k) x).eval := by kernel_rfl
theorem eq47 (k : Nat) (x : AT (sp47 k).ps) : (fnT Try.prog (cfg47 k) lim47 Try.f47 (bodyOf Try.f47) (pl47 k) (sp47 k) x).left = (fnT Try.prog (cfg47 k) lim47 Try.f47 (bodyOf Try.f47) (pl47 k) (sp47 k) x).right := by kernel_rfl
theorem v47 (k : Nat) : Callable Try.prog 47 ∧ Valid Try.prog 47 (sp47 k) :=
  fn_ok (cfg47_ok k) (f := 47) (fn := Try.f47) (by kernel_rfl) (c := bodyOf Try.f47) (by kernel_rfl) (by kernel_rfl) rfl rfl (Nat.le_of_ble_eq_true rfl) (Nat.le_of_ble_eq_true rfl) (p := pl47 k) (Eq.mpr (pq47 k) ⟨(planOK_go _), ⟨(planOK_go _), ⟨⟨(planOK_go _), (fr47_0_ok k)⟩, (planOK_go _)⟩⟩⟩) fun x => ⟨ev47 k x, eq47 k x⟩
/-! f24 hyphen/hyphenref12.Sum -/
def F24_0 (k : Nat) : Nat → (List Int) → Int → Int → Option (((Int × Unit) × Unit))
  | 0, _, _, _ => none
  | n + 1, t0, t3, t4 =>
    let x4 := (decide (t4 < ((List.length t0 : Nat) : Int)))
    bif x4 then
      if 0 ≤ t4 ∧ t4 < ((List.length t0 : Nat) : Int) then
        let x5 := (IntKind.wrap .i64 (List.getD t0 (Int.toNat t4) (0 : Int)))
        let x6 := (IntKind.wrap .i64 ((IntKind.wrap .i64 (t3 * (31 : Int))) + x5))
        (F24_0 k n t0 (Int.tmod x6 (1000003 : Int)) (IntKind.wrap .i64 (t4 + (1 : Int)))).bind some
      else none
    else
      some ((t3, ()), ())
def fr24_0 (k : Nat) : Frag := ⟨⟨[], [(0, .val (.sl false 5 (.int .u8) none)), (3, .val (.int .i64)), (4, .val (.int .i64))], []⟩, [(.exit 0, ⟨[], [(3, .val (.int .i64))], []⟩)], fun v => F24_0 k k v.1.1 v.1.2.1 v.1.2.2.1⟩
def F24 (k : Nat) (a0 : (List Int)) : Option ((Int × Unit) × Unit) :=
  (F24_0 k k a0 (1 : Int) (0 : Int)).bind fun r7 =>
  let y8 := r7.1.1
  some ((y8, ()), ())
def sp24 (k : Nat) : Spec := ⟨[.val (.sl false 5 (.int .u8) none)], [.val (.int .i64)], fun x => F24 k x.1⟩
def lim24 : Lim := ⟨21, 1, false, false⟩
def cfg24 (k : Nat) : Nat → Option Spec := cfgL []
theorem cfg24_ok (k : Nat) : CfgOK Try.prog (cfg24 k) := cfgL_nil
def pl24_0 (k : Nat) : Plan := .go
theorem pq24_0 (k : Nat) : PlanOK Try.prog lim24 (pl24_0 k) (codeAt (bodyOf Try.f24) [.r, .r, .l, .r, .s, .b]) = PlanOK Try.prog lim24 .go (codeAt (bodyOf Try.f24) [.r, .r, .l, .r, .s, .b]) := by kernel_rfl
theorem ps24_0 (k m : Nat) (v : (fr24_0 k).sh.V) : F24_0 k (m + 1) v.1.1 v.1.2.1 v.1.2.2.1 = (body Try.prog (stepper Try.prog (cfg24 k) lim24) (pl24_0 k) (codeAt (bodyOf Try.f24) [.r, .r, .l, .r, .s, .b]) ((fr24_0 k).sh.st v) (loopK (fr24_0 k) fun v => F24_0 k m v.1.1 v.1.2.1 v.1.2.2.1)).eval := by kernel_rfl
theorem pe24_0 (k m : Nat) (v : (fr24_0 k).sh.V) : (body Try.prog (stepper Try.prog (cfg24 k) lim24) (pl24_0 k) (codeAt (bodyOf Try.f24) [.r, .r, .l, .r, .s, .b]) ((fr24_0 k).sh.st v) (loopK (fr24_0 k) fun v => F24_0 k m v.1.1 v.1.2.1 v.1.2.2.1)).left = (body Try.prog (stepper Try.prog (cfg24 k) lim24) (pl24_0 k) (codeAt (bodyOf Try.f24) [.r, .r, .l, .r, .s, .b]) ((fr24_0 k).sh.st v) (loopK (fr24_0 k) fun v => F24_0 k m v.1.1 v.1.2.1 v.1.2.2.1)).right := by kernel_rfl
theorem fr24_0_ok (k : Nat) : FragOK Try.prog lim24 (fr24_0 k) (codeAt (bodyOf Try.f24) [.r, .r, .l, .r, .s]) :=
  frag_cast (by kernel_rfl) (loop_ok (cfg24_ok k) (Eq.mpr (pq24_0 k) (planOK_go _)) (fun m v => F24_0 k m v.1.1 v.1.2.1 v.1.2.2.1) k (fun _ => rfl) (fun _ => rfl) fun m v => ⟨ps24_0 k m v, pe24_0 k m v⟩)
def pl24 (k : Nat) : Plan := (.seq .go (.seq .go (.seq (.seq .go (.sub (.frag (fr24_0 k)))) .go)))
theorem pq24 (k : Nat) : PlanOK Try.prog lim24 (pl24 k) (codeAt (bodyOf Try.f24) []) = (PlanOK Try.prog lim24 .go (codeAt (bodyOf Try.f24) [.l]) ∧ (PlanOK Try.prog lim24 .go (codeAt (bodyOf Try.f24) [.r, .l]) ∧ ((PlanOK Try.prog lim24 .go (codeAt (bodyOf Try.f24) [.r, .r, .l, .l]) ∧ FragOK Try.prog lim24 (fr24_0 k) (codeAt (bodyOf Try.f24) [.r, .r, .l, .r, .s])) ∧ PlanOK Try.prog lim24 .go (codeAt (bodyOf Try.f24) [.r, .r, .r])))) := by kernel_rfl
theorem ev24 (k : Nat) (x : AT (sp24 k).ps) : (sp24 k).impl x = (fnT Try.prog (cfg24 k) lim24 Try.f24 (bodyOf Try.f24) (pl24 k) (sp24 k) x).eval := by kernel_rfl
theorem eq24 (k : Nat) (x : AT (sp24 k).ps) : (fnT Try.prog (cfg24 k) lim24 Try.f24 (bodyOf Try.f24) (pl24 k) (sp24 k) x).left = (fnT Try.prog (cfg24 k) lim24 Try.f24 (bodyOf Try.f24) (pl24 k) (sp24 k) x).right := by kernel_rfl
theorem v24 (k : Nat) : Callable Try.prog 24 ∧ Valid Try.prog 24 (sp24 k) :=
  fn_ok (cfg24_ok k) (f := 24) (fn := Try.f24) (by kernel_rfl) (c := bodyOf Try.f24) (by kernel_rfl) (by kernel_rfl) rfl rfl (Nat.le_of_ble_eq_true rfl) (Nat.le_of_ble_eq_true rfl) (p := pl24 k) (Eq.mpr (pq24 k) ⟨(planOK_go _), ⟨(planOK_go _), ⟨⟨(planOK_go _), (fr24_0_ok k)⟩, (planOK_go _)⟩⟩⟩) fun x => ⟨ev24 k x, eq24 k x⟩
/-! f17 hyphen/hyphenref12.Save -/
def F17_0 (k : Nat) : Nat → Int → Int → Int → ((List Int) × ((List Int) × (((List (List Int)) × ((List Int) × Unit)) × (((List (List Int)) × ((List (List (List Int))) × Unit)) × Unit)))) → (List Int) → Option (((Int × Int × Unit) × (((List Int) × ((List Int) × (((List (List Int)) × ((List Int) × Unit)) × (((List (List Int)) × ((List (List (List Int))) × Unit)) × Unit)))) × (List Int) × Unit)))
  | 0, _, _, _, _, _ => none
  | n + 1, t4, t5, t6, c1, c2000003 =>
    bif (decide (t6 < (3 : Int))) then
      if 0 ≤ t4 ∧ t4 < ((List.length c1.2.2.2.1.2.1 : Nat) : Int) then
        let x12 := (List.getD c1.2.2.2.1.2.1 (Int.toNat t4) ([] : (List (List Int))))
        if 0 ≤ t5 ∧ t5 < ((List.length x12 : Nat) : Int) then
          let x13 := (List.getD x12 (Int.toNat t5) ([] : (List Int)))
          if 0 ≤ t6 ∧ t6 < ((3 : Nat) : Int) then
            (F48 k c2000003 (List.getD x13 (Int.toNat t6) (0 : Int))).bind fun r14 =>
            (F17_0 k n t4 t5 (IntKind.wrap .i64 (t6 + (1 : Int))) c1 r14.1.1).bind some
          else none
        else none
      else none
    else
      some ((t4, t5, ()), (c1, c2000003, ()))
def fr17_0 (k : Nat) : Frag := ⟨⟨[(3, (.sl true 5 (.int .u8) none))], [(1, .ptr 1 []), (3, .at 2000003 []), (4, .val (.int .i64)), (5, .val (.int .i64)), (6, .val (.int .i64))], [(1, some 31, (.pair (.sl false 3 (.int .i64) none) (.pair (.sl false 3 (.int .i64) none) (.pair (.pair (.sl false 22 (.sl false 3 (.int .i64) none) none) (.pair (.sl false 3 (.int .i64) none) .unit)) (.pair (.pair (.sl false 22 (.sl false 3 (.int .i64) none) none) (.pair (.sl false 46 (.sl false 45 (.arr 3 (.int .i64)) none) none) .unit)) .unit))))), (2000003, none, (.sl true 5 (.int .u8) none))]⟩, [(.exit 4, ⟨[(3, (.sl true 5 (.int .u8) none))], [(1, .ptr 1 []), (3, .at 2000003 []), (4, .val (.int .i64)), (5, .val (.int .i64))], [(1, some 31, (.pair (.sl false 3 (.int .i64) none) (.pair (.sl false 3 (.int .i64) none) (.pair (.pair (.sl false 22 (.sl false 3 (.int .i64) none) none) (.pair (.sl false 3 (.int .i64) none) .unit)) (.pair (.pair (.sl false 22 (.sl false 3 (.int .i64) none) none) (.pair (.sl false 46 (.sl false 45 (.arr 3 (.int .i64)) none) none) .unit)) .unit))))), (2000003, none, (.sl true 5 (.int .u8) none))]⟩)], fun v => F17_0 k k v.1.1 v.1.2.1 v.1.2.2.1 v.2.1 v.2.2.1⟩
def F17_1 (k : Nat) : Nat → Int → Int → ((List Int) × ((List Int) × (((List (List Int)) × ((List Int) × Unit)) × (((List (List Int)) × ((List (List (List Int))) × Unit)) × Unit)))) → (List Int) → Option (((Int × Unit) × (((List Int) × ((List Int) × (((List (List Int)) × ((List Int) × Unit)) × (((List (List Int)) × ((List (List (List Int))) × Unit)) × Unit)))) × (List Int) × Unit)))
  | 0, _, _, _, _ => none
  | n + 1, t4, t5, c1, c2000003 =>
    if 0 ≤ t4 ∧ t4 < ((List.length c1.2.2.2.1.2.1 : Nat) : Int) then
      let x10 := (List.getD c1.2.2.2.1.2.1 (Int.toNat t4) ([] : (List (List Int))))
      let x11 := (decide (t5 < ((List.length x10 : Nat) : Int)))
      bif x11 then
        (F17_0 k k t4 t5 (0 : Int) c1 c2000003).bind fun r15 =>
        let y16 := r15.1.1
        let y17 := r15.1.2.1
        let y18 := r15.2.1
        let y19 := r15.2.2.1
        (F17_1 k n y16 (IntKind.wrap .i64 (y17 + (1 : Int))) y18 y19).bind some
      else
        some ((t4, ()), (c1, c2000003, ()))
    else none
def fr17_1 (k : Nat) : Frag := ⟨⟨[(3, (.sl true 5 (.int .u8) none))], [(1, .ptr 1 []), (3, .at 2000003 []), (4, .val (.int .i64)), (5, .val (.int .i64))], [(1, some 31, (.pair (.sl false 3 (.int .i64) none) (.pair (.sl false 3 (.int .i64) none) (.pair (.pair (.sl false 22 (.sl false 3 (.int .i64) none) none) (.pair (.sl false 3 (.int .i64) none) .unit)) (.pair (.pair (.sl false 22 (.sl false 3 (.int .i64) none) none) (.pair (.sl false 46 (.sl false 45 (.arr 3 (.int .i64)) none) none) .unit)) .unit))))), (2000003, none, (.sl true 5 (.int .u8) none))]⟩, [(.exit 2, ⟨[(3, (.sl true 5 (.int .u8) none))], [(1, .ptr 1 []), (3, .at 2000003 []), (4, .val (.int .i64))], [(1, some 31, (.pair (.sl false 3 (.int .i64) none) (.pair (.sl false 3 (.int .i64) none) (.pair (.pair (.sl false 22 (.sl false 3 (.int .i64) none) none) (.pair (.sl false 3 (.int .i64) none) .unit)) (.pair (.pair (.sl false 22 (.sl false 3 (.int .i64) none) none) (.pair (.sl false 46 (.sl false 45 (.arr 3 (.int .i64)) none) none) .unit)) .unit))))), (2000003, none, (.sl true 5 (.int .u8) none))]⟩)], fun v => F17_1 k k v.1.1 v.1.2.1 v.2.1 v.2.2.1⟩
def F17_2 (k : Nat) : Nat → Int → ((List Int) × ((List Int) × (((List (List Int)) × ((List Int) × Unit)) × (((List (List Int)) × ((List (List (List Int))) × Unit)) × Unit)))) → (List Int) → Option ((Unit × ((List Int) × Unit)))
  | 0, _, _, _ => none
  | n + 1, t4, c1, c2000003 =>
    let x7 := (decide (t4 < ((List.length c1.2.2.2.1.2.1 : Nat) : Int)))
    bif x7 then
      if 0 ≤ t4 ∧ t4 < ((List.length c1.2.2.2.1.2.1 : Nat) : Int) then
        let x8 := (List.getD c1.2.2.2.1.2.1 (Int.toNat t4) ([] : (List (List Int))))
        (F48 k c2000003 ((List.length x8 : Nat) : Int)).bind fun r9 =>
        (F17_1 k k t4 (0 : Int) c1 r9.1.1).bind fun r20 =>
        let y21 := r20.1.1
        let y22 := r20.2.1
        let y23 := r20.2.2.1
        (F17_2 k n (IntKind.wrap .i64 (y21 + (1 : Int))) y22 y23).bind some
      else none
    else
      some ((), (c2000003, ()))
def fr17_2 (k : Nat) : Frag := ⟨⟨[(3, (.sl true 5 (.int .u8) none))], [(1, .ptr 1 []), (3, .at 2000003 []), (4, .val (.int .i64))], [(1, some 31, (.pair (.sl false 3 (.int .i64) none) (.pair (.sl false 3 (.int .i64) none) (.pair (.pair (.sl false 22 (.sl false 3 (.int .i64) none) none) (.pair (.sl false 3 (.int .i64) none) .unit)) (.pair (.pair (.sl false 22 (.sl false 3 (.int .i64) none) none) (.pair (.sl false 46 (.sl false 45 (.arr 3 (.int .i64)) none) none) .unit)) .unit))))), (2000003, none, (.sl true 5 (.int .u8) none))]⟩, [(.exit 0, ⟨[(3, (.sl true 5 (.int .u8) none))], [(3, .at 2000003 [])], [(2000003, none, (.sl true 5 (.int .u8) none))]⟩)], fun v => F17_2 k k v.1.1 v.2.1 v.2.2.1⟩
def F17 (k : Nat) (a0 : ((List Int) × ((List Int) × (((List (List Int)) × ((List Int) × Unit)) × (((List (List Int)) × ((List (List (List Int))) × Unit)) × Unit))))) : Option (((List Int) × Unit) × Unit) :=
  (F46 k [] a0.1).bind fun r1 =>
  (F46 k r1.1.1 a0.2.1).bind fun r2 =>
  (F47 k r2.1.1 a0.2.2.1.1).bind fun r3 =>
  (F46 k r3.1.1 a0.2.2.1.2.1).bind fun r4 =>
  (F47 k r4.1.1 a0.2.2.2.1.1).bind fun r5 =>
  (F48 k r5.1.1 ((List.length a0.2.2.2.1.2.1 : Nat) : Int)).bind fun r6 =>
  (F17_2 k k (0 : Int) a0 r6.1.1).bind fun r24 =>
  let y25 := r24.2.1
  (F24 k y25).bind fun r26 =>
  (F48 k y25 r26.1.1).bind fun r27 =>
  some ((r27.1.1, ()), ())
def sp17 (k : Nat) : Spec := ⟨[.val (.pair (.sl false 3 (.int .i64) none) (.pair (.sl false 3 (.int .i64) none) (.pair (.pair (.sl false 22 (.sl false 3 (.int .i64) none) none) (.pair (.sl false 3 (.int .i64) none) .unit)) (.pair (.pair (.sl false 22 (.sl false 3 (.int .i64) none) none) (.pair (.sl false 46 (.sl false 45 (.arr 3 (.int .i64)) none) none) .unit)) .unit))))], [.own (.sl true 5 (.int .u8) none)], fun x => F17 k x.1⟩
def lim17 : Lim := ⟨80, 1, false, false⟩
def cfg17 (k : Nat) : Nat → Option Spec := cfgL [(24, sp24 k), (46, sp46 k), (47, sp47 k), (48, sp48 k)]
theorem cfg17_ok (k : Nat) : CfgOK Try.prog (cfg17 k) := cfgL_cons (v24 k) (cfgL_cons (v46 k) (cfgL_cons (v47 k) (cfgL_cons (v48 k) (cfgL_nil))))
def pl17_0 (k : Nat) : Plan := .go
theorem pq17_0 (k : Nat) : PlanOK Try.prog lim17 (pl17_0 k) (codeAt (bodyOf Try.f17) [.r, .r, .r, .l, .r, .s, .b, .r, .l, .s, .r, .r, .s, .b, .r, .l, .s, .r, .s, .b]) = PlanOK Try.prog lim17 .go (codeAt (bodyOf Try.f17) [.r, .r, .r, .l, .r, .s, .b, .r, .l, .s, .r, .r, .s, .b, .r, .l, .s, .r, .s, .b]) := by kernel_rfl
theorem ps17_0 (k m : Nat) (v : (fr17_0 k).sh.V) : F17_0 k (m + 1) v.1.1 v.1.2.1 v.1.2.2.1 v.2.1 v.2.2.1 = (body Try.prog (stepper Try.prog (cfg17 k) lim17) (pl17_0 k) (codeAt (bodyOf Try.f17) [.r, .r, .r, .l, .r, .s, .b, .r, .l, .s, .r, .r, .s, .b, .r, .l, .s, .r, .s, .b]) ((fr17_0 k).sh.st v) (loopK (fr17_0 k) fun v => F17_0 k m v.1.1 v.1.2.1 v.1.2.2.1 v.2.1 v.2.2.1)).eval := by kernel_rfl
theorem pe17_0 (k m : Nat) (v : (fr17_0 k).sh.V) : (body Try.prog (stepper Try.prog (cfg17 k) lim17) (pl17_0 k) (codeAt (bodyOf Try.f17) [.r, .r, .r, .l, .r, .s, .b, .r, .l, .s, .r, .r, .s, .b, .r, .l, .s, .r, .s, .b]) ((fr17_0 k).sh.st v) (loopK (fr17_0 k) fun v => F17_0 k m v.1.1 v.1.2.1 v.1.2.2.1 v.2.1 v.2.2.1)).left = (body Try.prog (stepper Try.prog (cfg17 k) lim17) (pl17_0 k) (codeAt (bodyOf Try.f17) [.r, .r, .r, .l, .r, .s, .b, .r, .l, .s, .r, .r, .s, .b, .r, .l, .s, .r, .s, .b]) ((fr17_0 k).sh.st v) (loopK (fr17_0 k) fun v => F17_0 k m v.1.1 v.1.2.1 v.1.2.2.1 v.2.1 v.2.2.1)).right := by kernel_rfl
theorem fr17_0_ok (k : Nat) : FragOK Try.prog lim17 (fr17_0 k) (codeAt (bodyOf Try.f17) [.r, .r, .r, .l, .r, .s, .b, .r, .l, .s, .r, .r, .s, .b, .r, .l, .s, .r, .s]) :=
  frag_cast (by kernel_rfl) (loop_ok (cfg17_ok k) (Eq.mpr (pq17_0 k) (planOK_go _)) (fun m v => F17_0 k m v.1.1 v.1.2.1 v.1.2.2.1 v.2.1 v.2.2.1) k (fun _ => rfl) (fun _ => rfl) fun m v => ⟨ps17_0 k m v, pe17_0 k m v⟩)
def pl17_1 (k : Nat) : Plan := (.seq .go (.seq (.sub (.seq .go (.sub (.frag (fr17_0 k))))) .go))
theorem pq17_1 (k : Nat) : PlanOK Try.prog lim17 (pl17_1 k) (codeAt (bodyOf Try.f17) [.r, .r, .r, .l, .r, .s, .b, .r, .l, .s, .r, .r, .s, .b]) = (PlanOK Try.prog lim17 .go (codeAt (bodyOf Try.f17) [.r, .r, .r, .l, .r, .s, .b, .r, .l, .s, .r, .r, .s, .b, .l]) ∧ ((PlanOK Try.prog lim17 .go (codeAt (bodyOf Try.f17) [.r, .r, .r, .l, .r, .s, .b, .r, .l, .s, .r, .r, .s, .b, .r, .l, .s, .l]) ∧ FragOK Try.prog lim17 (fr17_0 k) (codeAt (bodyOf Try.f17) [.r, .r, .r, .l, .r, .s, .b, .r, .l, .s, .r, .r, .s, .b, .r, .l, .s, .r, .s])) ∧ PlanOK Try.prog lim17 .go (codeAt (bodyOf Try.f17) [.r, .r, .r, .l, .r, .s, .b, .r, .l, .s, .r, .r, .s, .b, .r, .r]))) := by kernel_rfl
theorem ps17_1 (k m : Nat) (v : (fr17_1 k).sh.V) : F17_1 k (m + 1) v.1.1 v.1.2.1 v.2.1 v.2.2.1 = (body Try.prog (stepper Try.prog (cfg17 k) lim17) (pl17_1 k) (codeAt (bodyOf Try.f17) [.r, .r, .r, .l, .r, .s, .b, .r, .l, .s, .r, .r, .s, .b]) ((fr17_1 k).sh.st v) (loopK (fr17_1 k) fun v => F17_1 k m v.1.1 v.1.2.1 v.2.1 v.2.2.1)).eval := by kernel_rfl
theorem pe17_1 (k m : Nat) (v : (fr17_1 k).sh.V) : (body Try.prog (stepper Try.prog (cfg17 k) lim17) (pl17_1 k) (codeAt (bodyOf Try.f17) [.r, .r, .r, .l, .r, .s, .b, .r, .l, .s, .r, .r, .s, .b]) ((fr17_1 k).sh.st v) (loopK (fr17_1 k) fun v => F17_1 k m v.1.1 v.1.2.1 v.2.1 v.2.2.1)).left = (body Try.prog (stepper Try.prog (cfg17 k) lim17) (pl17_1 k) (codeAt (bodyOf Try.f17) [.r, .r, .r, .l, .r, .s, .b, .r, .l, .s, .r, .r, .s, .b]) ((fr17_1 k).sh.st v) (loopK (fr17_1 k) fun v => F17_1 k m v.1.1 v.1.2.1 v.2.1 v.2.2.1)).right := by kernel_rfl
theorem fr17_1_ok (k : Nat) : FragOK Try.prog lim17 (fr17_1 k) (codeAt (bodyOf Try.f17) [.r, .r, .r, .l, .r, .s, .b, .r, .l, .s, .r, .r, .s]) :=
  frag_cast (by kernel_rfl) (loop_ok (cfg17_ok k) (Eq.mpr (pq17_1 k) ⟨(planOK_go _), ⟨⟨(planOK_go _), (fr17_0_ok k)⟩, (planOK_go _)⟩⟩) (fun m v => F17_1 k m v.1.1 v.1.2.1 v.2.1 v.2.2.1) k (fun _ => rfl) (fun _ => rfl) fun m v => ⟨ps17_1 k m v, pe17_1 k m v⟩)
def pl17_2 (k : Nat) : Plan := (.seq .go (.seq (.sub (.seq .go (.seq .go (.sub (.frag (fr17_1 k)))))) .go))
theorem pq17_2 (k : Nat) : PlanOK Try.prog lim17 (pl17_2 k) (codeAt (bodyOf Try.f17) [.r, .r, .r, .l, .r, .s, .b]) = (PlanOK Try.prog lim17 .go (codeAt (bodyOf Try.f17) [.r, .r, .r, .l, .r, .s, .b, .l]) ∧ ((PlanOK Try.prog lim17 .go (codeAt (bodyOf Try.f17) [.r, .r, .r, .l, .r, .s, .b, .r, .l, .s, .l]) ∧ (PlanOK Try.prog lim17 .go (codeAt (bodyOf Try.f17) [.r, .r, .r, .l, .r, .s, .b, .r, .l, .s, .r, .l]) ∧ FragOK Try.prog lim17 (fr17_1 k) (codeAt (bodyOf Try.f17) [.r, .r, .r, .l, .r, .s, .b, .r, .l, .s, .r, .r, .s]))) ∧ PlanOK Try.prog lim17 .go (codeAt (bodyOf Try.f17) [.r, .r, .r, .l, .r, .s, .b, .r, .r]))) := by kernel_rfl
theorem ps17_2 (k m : Nat) (v : (fr17_2 k).sh.V) : F17_2 k (m + 1) v.1.1 v.2.1 v.2.2.1 = (body Try.prog (stepper Try.prog (cfg17 k) lim17) (pl17_2 k) (codeAt (bodyOf Try.f17) [.r, .r, .r, .l, .r, .s, .b]) ((fr17_2 k).sh.st v) (loopK (fr17_2 k) fun v => F17_2 k m v.1.1 v.2.1 v.2.2.1)).eval := by kernel_rfl
theorem pe17_2 (k m : Nat) (v : (fr17_2 k).sh.V) : (body Try.prog (stepper Try.prog (cfg17 k) lim17) (pl17_2 k) (codeAt (bodyOf Try.f17) [.r, .r, .r, .l, .r, .s, .b]) ((fr17_2 k).sh.st v) (loopK (fr17_2 k) fun v => F17_2 k m v.1.1 v.2.1 v.2.2.1)).left = (body Try.prog (stepper Try.prog (cfg17 k) lim17) (pl17_2 k) (codeAt (bodyOf Try.f17) [.r, .r, .r, .l, .r, .s, .b]) ((fr17_2 k).sh.st v) (loopK (fr17_2 k) fun v => F17_2 k m v.1.1 v.2.1 v.2.2.1)).right := by kernel_rfl
theorem fr17_2_ok (k : Nat) : FragOK Try.prog lim17 (fr17_2 k) (codeAt (bodyOf Try.f17) [.r, .r, .r, .l, .r, .s]) :=
  frag_cast (by kernel_rfl) (loop_ok (cfg17_ok k) (Eq.mpr (pq17_2 k) ⟨(planOK_go _), ⟨⟨(planOK_go _), ⟨(planOK_go _), (fr17_1_ok k)⟩⟩, (planOK_go _)⟩⟩) (fun m v => F17_2 k m v.1.1 v.2.1 v.2.2.1) k (fun _ => rfl) (fun _ => rfl) fun m v => ⟨ps17_2 k m v, pe17_2 k m v⟩)
def pl17 (k : Nat) : Plan := (.seq .go (.seq .go (.seq .go (.seq (.seq .go (.sub (.frag (fr17_2 k)))) .go))))
theorem pq17 (k : Nat) : PlanOK Try.prog lim17 (pl17 k) (codeAt (bodyOf Try.f17) []) = (PlanOK Try.prog lim17 .go (codeAt (bodyOf Try.f17) [.l]) ∧ (PlanOK Try.prog lim17 .go (codeAt (bodyOf Try.f17) [.r, .l]) ∧ (PlanOK Try.prog lim17 .go (codeAt (bodyOf Try.f17) [.r, .r, .l]) ∧ ((PlanOK Try.prog lim17 .go (codeAt (bodyOf Try.f17) [.r, .r, .r, .l, .l]) ∧ FragOK Try.prog lim17 (fr17_2 k) (codeAt (bodyOf Try.f17) [.r, .r, .r, .l, .r, .s])) ∧ PlanOK Try.prog lim17 .go (codeAt (bodyOf Try.f17) [.r, .r, .r, .r]))))) := by kernel_rfl
theorem ev17 (k : Nat) (x : AT (sp17 k).ps) : (sp17 k).impl x = (fnT Try.prog (cfg17 k) lim17 Try.f17 (bodyOf Try.f17) (pl17 k) (sp17 k) x).eval := by kernel_rfl
theorem eq17 (k : Nat) (x : AT (sp17 k).ps) : (fnT Try.prog (cfg17 k) lim17 Try.f17 (bodyOf Try.f17) (pl17 k) (sp17 k) x).left = (fnT Try.prog (cfg17 k) lim17 Try.f17 (bodyOf Try.f17) (pl17 k) (sp17 k) x).right := by kernel_rfl
theorem v17 (k : Nat) : Callable Try.prog 17 ∧ Valid Try.prog 17 (sp17 k) :=
  fn_ok (cfg17_ok k) (f := 17) (fn := Try.f17) (by kernel_rfl) (c := bodyOf Try.f17) (by kernel_rfl) (by kernel_rfl) rfl rfl (Nat.le_of_ble_eq_true rfl) (Nat.le_of_ble_eq_true rfl) (p := pl17 k) (Eq.mpr (pq17 k) ⟨(planOK_go _), ⟨(planOK_go _), ⟨(planOK_go _), ⟨⟨(planOK_go _), (fr17_2_ok k)⟩, (planOK_go _)⟩⟩⟩⟩) fun x => ⟨ev17 k x, eq17 k x⟩
/-! f18 hyphen/hyphenref12.Same -/
def F18 (k : Nat) (a0 : ((List Int) × ((List Int) × (((List (List Int)) × ((List Int) × Unit)) × (((List (List Int)) × ((List (List (List Int))) × Unit)) × Unit))))) (a1 : ((List Int) × ((List Int) × (((List (List Int)) × ((List Int) × Unit)) × (((List (List Int)) × ((List (List (List Int))) × Unit)) × Unit))))) : Option ((Bool × Unit) × Unit) :=
  (F17 k a0).bind fun r1 =>
  if List.length r1.1.1 ≤ 9223372036854775807 then
    (F17 k a1).bind fun r2 =>
    if List.length r2.1.1 ≤ 9223372036854775807 then
      let x3 := (ByteArray.toList (bstr r1.1.1) == ByteArray.toList (bstr r2.1.1))
      some ((x3, ()), ())
    else none
  else none
def sp18 (k : Nat) : Spec := ⟨[.val (.pair (.sl false 3 (.int .i64) none) (.pair (.sl false 3 (.int .i64) none) (.pair (.pair (.sl false 22 (.sl false 3 (.int .i64) none) none) (.pair (.sl false 3 (.int .i64) none) .unit)) (.pair (.pair (.sl false 22 (.sl false 3 (.int .i64) none) none) (.pair (.sl false 46 (.sl false 45 (.arr 3 (.int .i64)) none) none) .unit)) .unit)))), .val (.pair (.sl false 3 (.int .i64) none) (.pair (.sl false 3 (.int .i64) none) (.pair (.pair (.sl false 22 (.sl false 3 (.int .i64) none) none) (.pair (.sl false 3 (.int .i64) none) .unit)) (.pair (.pair (.sl false 22 (.sl false 3 (.int .i64) none) none) (.pair (.sl false 46 (.sl false 45 (.arr 3 (.int .i64)) none) none) .unit)) .unit))))], [.val .bool], fun x => F18 k x.1 x.2.1⟩
def lim18 : Lim := ⟨12, 2, false, false⟩
def cfg18 (k : Nat) : Nat → Option Spec := cfgL [(17, sp17 k)]
theorem cfg18_ok (k : Nat) : CfgOK Try.prog (cfg18 k) := cfgL_cons (v17 k) (cfgL_nil)
def pl18 (k : Nat) : Plan := .go
theorem pq18 (k : Nat) : PlanOK Try.prog lim18 (pl18 k) (codeAt (bodyOf Try.f18) []) = PlanOK Try.prog lim18 .go (codeAt (bodyOf Try.f18) []) := by kernel_rfl
theorem ev18 (k : Nat) (x : AT (sp18 k).ps) : (sp18 k).impl x = (fnT Try.prog (cfg18 k) lim18 Try.f18 (bodyOf Try.f18) (pl18 k) (sp18 k) x).eval := by kernel_rfl
theorem eq18 (k : Nat) (x : AT (sp18 k).ps) : (fnT Try.prog (cfg18 k) lim18 Try.f18 (bodyOf Try.f18) (pl18 k) (sp18 k) x).left = (fnT Try.prog (cfg18 k) lim18 Try.f18 (bodyOf Try.f18) (pl18 k) (sp18 k) x).right := by kernel_rfl
theorem v18 (k : Nat) : Callable Try.prog 18 ∧ Valid Try.prog 18 (sp18 k) :=
  fn_ok (cfg18_ok k) (f := 18) (fn := Try.f18) (by kernel_rfl) (c := bodyOf Try.f18) (by kernel_rfl) (by kernel_rfl) rfl rfl (Nat.le_of_ble_eq_true rfl) (Nat.le_of_ble_eq_true rfl) (p := pl18 k) (Eq.mpr (pq18 k) (planOK_go _)) fun x => ⟨ev18 k x, eq18 k x⟩
/-! f12 hyphen/hyphenlaw12.known -/
def F12 (k : Nat) : Option ((Bool × Unit) × Unit) :=
  let x1 := (List.set (List.replicate 1 (0 : Int)) 0 (0 : Int))
  let x2 := (List.set (List.replicate 1 (0 : Int)) 0 (0 : Int))
  let x3 := (List.set (List.replicate 1 (0 : Int)) 0 (0 : Int))
  let x4 := (List.set (List.replicate 1 ([] : (List Int))) 0 x3)
  let x5 := (List.set (List.replicate 1 (0 : Int)) 0 (0 : Int))
  let x6 := (List.set (List.replicate 1 (0 : Int)) 0 (0 : Int))
  let x7 := (List.set (List.replicate 1 ([] : (List Int))) 0 x6)
  let x8 := (List.set (List.set (List.set (List.replicate 3 (0 : Int)) 0 (1 : Int)) 1 (2 : Int)) 2 (3 : Int))
  let x9 := (List.set (List.replicate 1 (List.replicate 3 (0 : Int))) 0 x8)
  let x10 := (List.set (List.replicate 1 ([] : (List (List Int)))) 0 x9)
  (F15 k (x1, (x2, ((x4, (x5, ())), ((x7, (x10, ())), ()))))).bind fun r11 =>
  (F16 k r11.1.1).bind fun r12 =>
  (F16 k []).bind fun r13 =>
  (F23 k []).bind fun r14 =>
  bif (r14.1.1 == (1 : Int)) then
    (F14 k (x1, (x2, ((x4, (x5, ())), ((x7, (x10, ())), ()))))).bind fun r15 =>
    bif r15.1.1 then
      bif r12.1.2.1 then
        (F18 k (x1, (x2, ((x4, (x5, ())), ((x7, (x10, ())), ())))) r12.1.1).bind fun r16 =>
        bif r16.1.1 then
          bif (!r13.1.2.1) then
            (F14 k (([] : (List Int)), (([] : (List Int)), ((([] : (List (List Int))), (([] : (List Int)), ())), ((([] : (List (List Int))), (([] : (List (List (List Int)))), ())), ()))))).bind fun r17 =>
            some (((!r17.1.1), ()), ())
          else
            some ((false, ()), ())
        else
          some ((false, ()), ())
      else
        some ((false, ()), ())
    else
      some ((false, ()), ())
  else
    some ((false, ()), ())
def sp12 (k : Nat) : Spec := ⟨[], [.val .bool], fun x => F12 k⟩
def lim12 : Lim := ⟨52, 0, false, false⟩
def cfg12 (k : Nat) : Nat → Option Spec := cfgL [(14, sp14 k), (15, sp15 k), (16, sp16 k), (18, sp18 k), (23, sp23 k)]
theorem cfg12_ok (k : Nat) : CfgOK Try.prog (cfg12 k) := cfgL_cons (v14 k) (cfgL_cons (v15 k) (cfgL_cons (v16 k) (cfgL_cons (v18 k) (cfgL_cons (v23 k) (cfgL_nil)))))
def pl12 (k : Nat) : Plan := .go
theorem pq12 (k : Nat) : PlanOK Try.prog lim12 (pl12 k) (codeAt (bodyOf Try.f12) []) = PlanOK Try.prog lim12 .go (codeAt (bodyOf Try.f12) []) := by kernel_rfl
theorem ev12 (k : Nat) (x : AT (sp12 k).ps) : (sp12 k).impl x = (fnT Try.prog (cfg12 k) lim12 Try.f12 (bodyOf Try.f12) (pl12 k) (sp12 k) x).eval := by kernel_rfl
theorem eq12 (k : Nat) (x : AT (sp12 k).ps) : (fnT Try.prog (cfg12 k) lim12 Try.f12 (bodyOf Try.f12) (pl12 k) (sp12 k) x).left = (fnT Try.prog (cfg12 k) lim12 Try.f12 (bodyOf Try.f12) (pl12 k) (sp12 k) x).right := by kernel_rfl
theorem v12 (k : Nat) : Callable Try.prog 12 ∧ Valid Try.prog 12 (sp12 k) :=
  fn_ok (cfg12_ok k) (f := 12) (fn := Try.f12) (by kernel_rfl) (c := bodyOf Try.f12) (by kernel_rfl) (by kernel_rfl) rfl rfl (Nat.le_of_ble_eq_true rfl) (Nat.le_of_ble_eq_true rfl) (p := pl12 k) (Eq.mpr (pq12 k) (planOK_go _)) fun x => ⟨ev12 k x, eq12 k x⟩
/-! f57 hyphen/hyphenlaw11.within -/
def F57 (k : Nat) (a0 : Int) (a1 : Int) : Option ((Int × Unit) × Unit) :=
  if a1 ≠ 0 then
    bif (decide ((Int.tmod a0 a1) < (0 : Int))) then
      some (((IntKind.wrap .i64 ((Int.tmod a0 a1) + a1)), ()), ())
    else
      some (((Int.tmod a0 a1), ()), ())
  else none
def sp57 (k : Nat) : Spec := ⟨[.val (.int .i64), .val (.int .i64)], [.val (.int .i64)], fun x => F57 k x.1 x.2.1⟩
def lim57 : Lim := ⟨15, 2, false, false⟩
def cfg57 (k : Nat) : Nat → Option Spec := cfgL []
theorem cfg57_ok (k : Nat) : CfgOK Try.prog (cfg57 k) := cfgL_nil
def pl57 (k : Nat) : Plan := .go
theorem pq57 (k : Nat) : PlanOK Try.prog lim57 (pl57 k) (codeAt (bodyOf Try.f57) []) = PlanOK Try.prog lim57 .go (codeAt (bodyOf Try.f57) []) := by kernel_rfl
theorem ev57 (k : Nat) (x : AT (sp57 k).ps) : (sp57 k).impl x = (fnT Try.prog (cfg57 k) lim57 Try.f57 (bodyOf Try.f57) (pl57 k) (sp57 k) x).eval := by kernel_rfl
theorem eq57 (k : Nat) (x : AT (sp57 k).ps) : (fnT Try.prog (cfg57 k) lim57 Try.f57 (bodyOf Try.f57) (pl57 k) (sp57 k) x).left = (fnT Try.prog (cfg57 k) lim57 Try.f57 (bodyOf Try.f57) (pl57 k) (sp57 k) x).right := by kernel_rfl
theorem v57 (k : Nat) : Callable Try.prog 57 ∧ Valid Try.prog 57 (sp57 k) :=
  fn_ok (cfg57_ok k) (f := 57) (fn := Try.f57) (by kernel_rfl) (c := bodyOf Try.f57) (by kernel_rfl) (by kernel_rfl) rfl rfl (Nat.le_of_ble_eq_true rfl) (Nat.le_of_ble_eq_true rfl) (p := pl57 k) (Eq.mpr (pq57 k) (planOK_go _)) fun x => ⟨ev57 k x, eq57 k x⟩
/-! f26 hyphen/hyphenlaw11.Back -/
def F26_0 (k : Nat) : Nat → (List Int) → Int → Int → Int → Int → Int → ((List (List Int)) × ((List Int) × Unit)) → ((List (List Int)) × ((List Int) × Unit)) → (List Int) → Option ((((List Int) × Int × Int × Int × Int × Unit) × (((List (List Int)) × ((List Int) × Unit)) × ((List (List Int)) × ((List Int) × Unit)) × (List Int) × Unit)))
  | 0, _, _, _, _, _, _, _, _, _ => none
  | n + 1, t2, t8, t9, t10, t11, t13, c6, c7, c2000012 =>
    bif (decide (t13 < t9)) then
      if t8 ≠ 0 then
        let x5 := (List.set (List.replicate 1 (0 : Int)) 0 (Int.tmod t11 t8))
        if (List.length c2000012 + List.length x5) * (8 * 2) ≤ 281474976710656 ∧ List.length c2000012 + List.length x5 ≤ 9223372036854775807 then
          if t8 ≠ 0 then
            (F26_0 k n t2 t8 t9 t10 (IntKind.wrap .i64 (Int.tdiv t11 t8)) (IntKind.wrap .i64 (t13 + (1 : Int))) c6 c7 (c2000012 ++ x5)).bind some
          else none
        else none
      else none
    else
      some ((t2, t8, t9, t10, t11, ()), (c6, c7, c2000012, ()))
def fr26_0 (k : Nat) : Frag := ⟨⟨[(12, (.sl true 3 (.int .i64) none))], [(2, .val (.sl false 3 (.int .i64) none)), (6, .ptr 6 []), (7, .ptr 7 []), (8, .val (.int .i64)), (9, .val (.int .i64)), (10, .val (.int .i64)), (11, .val (.int .i64)), (12, .at 2000012 []), (13, .val (.int .i64))], [(6, some 26, (.pair (.sl true 22 (.sl true 3 (.int .i64) none) none) (.pair (.sl true 3 (.int .i64) none) .unit))), (7, some 26, (.pair (.sl true 22 (.sl true 3 (.int .i64) none) none) (.pair (.sl true 3 (.int .i64) none) .unit))), (2000012, none, (.sl true 3 (.int .i64) none))]⟩, [(.exit 2, ⟨[(12, (.sl true 3 (.int .i64) none))], [(2, .val (.sl false 3 (.int .i64) none)), (6, .ptr 6 []), (7, .ptr 7 []), (8, .val (.int .i64)), (9, .val (.int .i64)), (10, .val (.int .i64)), (11, .val (.int .i64)), (12, .at 2000012 [])], [(6, some 26, (.pair (.sl true 22 (.sl true 3 (.int .i64) none) none) (.pair (.sl true 3 (.int .i64) none) .unit))), (7, some 26, (.pair (.sl true 22 (.sl true 3 (.int .i64) none) none) (.pair (.sl true 3 (.int .i64) none) .unit))), (2000012, none, (.sl true 3 (.int .i64) none))]⟩)], fun v => F26_0 k k v.1.1 v.1.2.1 v.1.2.2.1 v.1.2.2.2.1 v.1.2.2.2.2.1 v.1.2.2.2.2.2.1 v.2.1 v.2.2.1 v.2.2.2.1⟩
def F26_1 (k : Nat) : Nat → (List Int) → Int → Int → Int → ((List (List Int)) × ((List Int) × Unit)) → ((List (List Int)) × ((List Int) × Unit)) → Option ((Unit × (((List (List Int)) × ((List Int) × Unit)) × ((List (List Int)) × ((List Int) × Unit)) × Unit)))
  | 0, _, _, _, _, _, _ => none
  | n + 1, t2, t8, t9, t10, c6, c7 =>
    bif (decide (t10 < t8)) then
      let x3 := (decide (t10 < ((List.length t2 : Nat) : Int)))
      bif x3 then
        if 0 ≤ t10 ∧ t10 < ((List.length t2 : Nat) : Int) then
          (F57 k (List.getD t2 (Int.toNat t10) (0 : Int)) (1099511627776 : Int)).bind fun r4 =>
          (F26_0 k k t2 t8 t9 t10 r4.1.1 (0 : Int) c6 c7 []).bind fun r6 =>
          let y7 := r6.1.1
          let y8 := r6.1.2.1
          let y9 := r6.1.2.2.1
          let y10 := r6.1.2.2.2.1
          let y11 := r6.1.2.2.2.2.1
          let y12 := r6.2.1
          let y13 := r6.2.2.1
          let y14 := r6.2.2.2.1
          let x15 := (List.set (List.replicate 1 ([] : (List Int))) 0 y14)
          if (List.length y13.1 + List.length x15) * (24 * 2) ≤ 281474976710656 ∧ List.length y13.1 + List.length x15 ≤ 9223372036854775807 then
            let x16 := (List.set (List.replicate 1 (0 : Int)) 0 (Int.tmod y11 (3 : Int)))
            if (List.length y13.2.1 + List.length x16) * (8 * 2) ≤ 281474976710656 ∧ List.length y13.2.1 + List.length x16 ≤ 9223372036854775807 then
              (F26_1 k n y7 y8 y9 (IntKind.wrap .i64 (y10 + (1 : Int))) y12 ((y13.1 ++ x15), ((y13.2.1 ++ x16), y13.2.2))).bind some
            else none
          else none
        else none
      else
        (F26_0 k k t2 t8 t9 t10 (IntKind.wrap .i64 (t10 * (7 : Int))) (0 : Int) c6 c7 []).bind fun r17 =>
        let y18 := r17.1.1
        let y19 := r17.1.2.1
        let y20 := r17.1.2.2.1
        let y21 := r17.1.2.2.2.1
        let y22 := r17.1.2.2.2.2.1
        let y23 := r17.2.1
        let y24 := r17.2.2.1
        let y25 := r17.2.2.2.1
        let x26 := (List.set (List.replicate 1 ([] : (List Int))) 0 y25)
        if (List.length y24.1 + List.length x26) * (24 * 2) ≤ 281474976710656 ∧ List.length y24.1 + List.length x26 ≤ 9223372036854775807 then
          let x27 := (List.set (List.replicate 1 (0 : Int)) 0 (Int.tmod y22 (3 : Int)))
          if (List.length y24.2.1 + List.length x27) * (8 * 2) ≤ 281474976710656 ∧ List.length y24.2.1 + List.length x27 ≤ 9223372036854775807 then
            (F26_1 k n y18 y19 y20 (IntKind.wrap .i64 (y21 + (1 : Int))) y23 ((y24.1 ++ x26), ((y24.2.1 ++ x27), y24.2.2))).bind some
          else none
        else none
    else
      some ((), (c6, c7, ()))
def fr26_1 (k : Nat) : Frag := ⟨⟨[], [(2, .val (.sl false 3 (.int .i64) none)), (6, .ptr 6 []), (7, .ptr 7 []), (8, .val (.int .i64)), (9, .val (.int .i64)), (10, .val (.int .i64))], [(6, some 26, (.pair (.sl true 22 (.sl true 3 (.int .i64) none) none) (.pair (.sl true 3 (.int .i64) none) .unit))), (7, some 26, (.pair (.sl true 22 (.sl true 3 (.int .i64) none) none) (.pair (.sl true 3 (.int .i64) none) .unit)))]⟩, [(.exit 0, ⟨[], [(6, .ptr 6 []), (7, .ptr 7 [])], [(6, some 26, (.pair (.sl true 22 (.sl true 3 (.int .i64) none) none) (.pair (.sl true 3 (.int .i64) none) .unit))), (7, some 26, (.pair (.sl true 22 (.sl true 3 (.int .i64) none) none) (.pair (.sl true 3 (.int .i64) none) .unit)))]⟩)], fun v => F26_1 k k v.1.1 v.1.2.1 v.1.2.2.1 v.1.2.2.2.1 v.2.1 v.2.2.1⟩
def F26 (k : Nat) (a0 : Int) (a1 : Int) (a2 : (List Int)) : Option ((((List (List Int)) × ((List Int) × Unit)) × Unit) × Unit) :=
  (F57 k a0 (9 : Int)).bind fun r1 =>
  (F57 k a1 (3 : Int)).bind fun r2 =>
  (F26_1 k k a2 (IntKind.wrap .i64 ((1 : Int) + r1.1.1)) (IntKind.wrap .i64 ((1 : Int) + r2.1.1)) (0 : Int) (([] : (List (List Int))), (([] : (List Int)), ())) (([] : (List (List Int))), (([] : (List Int)), ()))).bind fun r28 =>
  let y30 := r28.2.2.1
  some ((y30, ()), ())
def sp26 (k : Nat) : Spec := ⟨[.val (.int .i64), .val (.int .i64), .val (.sl false 3 (.int .i64) none)], [.own (.pair (.sl true 22 (.sl true 3 (.int .i64) none) none) (.pair (.sl true 3 (.int .i64) none) .unit))], fun x => F26 k x.1 x.2.1 x.2.2.1⟩
def lim26 : Lim := ⟨64, 3, false, false⟩
def cfg26 (k : Nat) : Nat → Option Spec := cfgL [(57, sp57 k)]
theorem cfg26_ok (k : Nat) : CfgOK Try.prog (cfg26 k) := cfgL_cons (v57 k) (cfgL_nil)
def pl26_0 (k : Nat) : Plan := .go
theorem pq26_0 (k : Nat) : PlanOK Try.prog lim26 (pl26_0 k) (codeAt (bodyOf Try.f26) [.r, .r, .r, .l, .r, .s, .b, .r, .l, .s, .r, .r, .r, .l, .r, .s, .b]) = PlanOK Try.prog lim26 .go (codeAt (bodyOf Try.f26) [.r, .r, .r, .l, .r, .s, .b, .r, .l, .s, .r, .r, .r, .l, .r, .s, .b]) := by kernel_rfl
theorem ps26_0 (k m : Nat) (v : (fr26_0 k).sh.V) : F26_0 k (m + 1) v.1.1 v.1.2.1 v.1.2.2.1 v.1.2.2.2.1 v.1.2.2.2.2.1 v.1.2.2.2.2.2.1 v.2.1 v.2.2.1 v.2.2.2.1 = (body Try.prog (stepper Try.prog (cfg26 k) lim26) (pl26_0 k) (codeAt (bodyOf Try.f26) [.r, .r, .r, .l, .r, .s, .b, .r, .l, .s, .r, .r, .r, .l, .r, .s, .b]) ((fr26_0 k).sh.st v) (loopK (fr26_0 k) fun v => F26_0 k m v.1.1 v.1.2.1 v.1.2.2.1 v.1.2.2.2.1 v.1.2.2.2.2.1 v.1.2.2.2.2.2.1 v.2.1 v.2.2.1 v.2.2.2.1)).eval := by kernel_rfl
theorem pe26_0 (k m : Nat) (v : (fr26_0 k).sh.V) : (body Try.prog (stepper Try.prog (cfg26 k) lim26) (pl26_0 k) (codeAt (bodyOf Try.f26) [.r, .r, .r, .l, .r, .s, .b, .r, .l, .s, .r, .r, .r, .l, .r, .s, .b]) ((fr26_0 k).sh.st v) (loopK (fr26_0 k) fun v => F26_0 k m v.1.1 v.1.2.1 v.1.2.2.1 v.1.2.2.2.1 v.1.2.2.2.2.1 v.1.2.2.2.2.2.1 v.2.1 v.2.2.1 v.2.2.2.1)).left = (body Try.prog (stepper Try.prog (cfg26 k) lim26) (pl26_0 k) (codeAt (bodyOf Try.f26) [.r, .r, .r, .l, .r, .s, .b, .r, .l, .s, .r, .r, .r, .l, .r, .s, .b]) ((fr26_0 k).sh.st v) (loopK (fr26_0 k) fun v => F26_0 k m v.1.1 v.1.2.1 v.1.2.2.1 v.1.2.2.2.1 v.1.2.2.2.2.1 v.1.2.2.2.2.2.1 v.2.1 v.2.2.1 v.2.2.2.1)).right := by kernel_rfl
theorem fr26_0_ok (k : Nat) : FragOK Try.prog lim26 (fr26_0 k) (codeAt (bodyOf Try.f26) [.r, .r, .r, .l, .r, .s, .b, .r, .l, .s, .r, .r, .r, .l, .r, .s]) :=
  frag_cast (by kernel_rfl) (loop_ok (cfg26_ok k) (Eq.mpr (pq26_0 k) (planOK_go _)) (fun m v => F26_0 k m v.1.1 v.1.2.1 v.1.2.2.1 v.1.2.2.2.1 v.1.2.2.2.2.1 v.1.2.2.2.2.2.1 v.2.1 v.2.2.1 v.2.2.2.1) k (fun _ => rfl) (fun _ => rfl) fun m v => ⟨ps26_0 k m v, pe26_0 k m v⟩)
def pl26_1 (k : Nat) : Plan := (.seq .go (.seq (.sub (.seq .go (.seq .go (.seq .go (.seq (.seq .go (.sub (.frag (fr26_0 k)))) .go))))) .go))
theorem pq26_1 (k : Nat) : PlanOK Try.prog lim26 (pl26_1 k) (codeAt (bodyOf Try.f26) [.r, .r, .r, .l, .r, .s, .b]) = (PlanOK Try.prog lim26 .go (codeAt (bodyOf Try.f26) [.r, .r, .r, .l, .r, .s, .b, .l]) ∧ ((PlanOK Try.prog lim26 .go (codeAt (bodyOf Try.f26) [.r, .r, .r, .l, .r, .s, .b, .r, .l, .s, .l]) ∧ (PlanOK Try.prog lim26 .go (codeAt (bodyOf Try.f26) [.r, .r, .r, .l, .r, .s, .b, .r, .l, .s, .r, .l]) ∧ (PlanOK Try.prog lim26 .go (codeAt (bodyOf Try.f26) [.r, .r, .r, .l, .r, .s, .b, .r, .l, .s, .r, .r, .l]) ∧ ((PlanOK Try.prog lim26 .go (codeAt (bodyOf Try.f26) [.r, .r, .r, .l, .r, .s, .b, .r, .l, .s, .r, .r, .r, .l, .l]) ∧ FragOK Try.prog lim26 (fr26_0 k) (codeAt (bodyOf Try.f26) [.r, .r, .r, .l, .r, .s, .b, .r, .l, .s, .r, .r, .r, .l, .r, .s])) ∧ PlanOK Try.prog lim26 .go (codeAt (bodyOf Try.f26) [.r, .r, .r, .l, .r, .s, .b, .r, .l, .s, .r, .r, .r, .r]))))) ∧ PlanOK Try.prog lim26 .go (codeAt (bodyOf Try.f26) [.r, .r, .r, .l, .r, .s, .b, .r, .r]))) := by kernel_rfl
theorem ps26_1 (k m : Nat) (v : (fr26_1 k).sh.V) : F26_1 k (m + 1) v.1.1 v.1.2.1 v.1.2.2.1 v.1.2.2.2.1 v.2.1 v.2.2.1 = (body Try.prog (stepper Try.prog (cfg26 k) lim26) (pl26_1 k) (codeAt (bodyOf Try.f26) [.r, .r, .r, .l, .r, .s, .b]) ((fr26_1 k).sh.st v) (loopK (fr26_1 k) fun v => F26_1 k m v.1.1 v.1.2.1 v.1.2.2.1 v.1.2.2.2.1 v.2.1 v.2.2.1)).eval := by kernel_rfl
theorem pe26_1 (k m : Nat) (v : (fr26_1 k).sh.V) : (body Try.prog (stepper Try.prog (cfg26 k) lim26) (pl26_1 k) (codeAt (bodyOf Try.f26) [.r, .r, .r, .l, .r, .s, .b]) ((fr26_1 k).sh.st v) (loopK (fr26_1 k) fun v => F26_1 k m v.1.1 v.1.2.1 v.1.2.2.1 v.1.2.2.2.1 v.2.1 v.2.2.1)).left = (body Try.prog (stepper Try.prog (cfg26 k) lim26) (pl26_1 k) (codeAt (bodyOf Try.f26) [.r, .r, .r, .l, .r, .s, .b]) ((fr26_1 k).sh.st v) (loopK (fr26_1 k) fun v => F26_1 k m v.1.1 v.1.2.1 v.1.2.2.1 v.1.2.2.2.1 v.2.1 v.2.2.1)).right := by kernel_rfl
theorem fr26_1_ok (k : Nat) : FragOK Try.prog lim26 (fr26_1 k) (codeAt (bodyOf Try.f26) [.r, .r, .r, .l, .r, .s]) :=
  frag_cast (by kernel_rfl) (loop_ok (cfg26_ok k) (Eq.mpr (pq26_1 k) ⟨(planOK_go _), ⟨⟨(planOK_go _), ⟨(planOK_go _), ⟨(planOK_go _), ⟨⟨(planOK_go _), (fr26_0_ok k)⟩, (planOK_go _)⟩⟩⟩⟩, (planOK_go _)⟩⟩) (fun m v => F26_1 k m v.1.1 v.1.2.1 v.1.2.2.1 v.1.2.2.2.1 v.2.1 v.2.2.1) k (fun _ => rfl) (fun _ => rfl) fun m v => ⟨ps26_1 k m v, pe26_1 k m v⟩)
def pl26 (k : Nat) : Plan := (.seq .go (.seq .go (.seq .go (.seq (.seq .go (.sub (.frag (fr26_1 k)))) .go))))
theorem pq26 (k : Nat) : PlanOK Try.prog lim26 (pl26 k) (codeAt (bodyOf Try.f26) []) = (PlanOK Try.prog lim26 .go (codeAt (bodyOf Try.f26) [.l]) ∧ (PlanOK Try.prog lim26 .go (codeAt (bodyOf Try.f26) [.r, .l]) ∧ (PlanOK Try.prog lim26 .go (codeAt (bodyOf Try.f26) [.r, .r, .l]) ∧ ((PlanOK Try.prog lim26 .go (codeAt (bodyOf Try.f26) [.r, .r, .r, .l, .l]) ∧ FragOK Try.prog lim26 (fr26_1 k) (codeAt (bodyOf Try.f26) [.r, .r, .r, .l, .r, .s])) ∧ PlanOK Try.prog lim26 .go (codeAt (bodyOf Try.f26) [.r, .r, .r, .r]))))) := by kernel_rfl
theorem ev26 (k : Nat) (x : AT (sp26 k).ps) : (sp26 k).impl x = (fnT Try.prog (cfg26 k) lim26 Try.f26 (bodyOf Try.f26) (pl26 k) (sp26 k) x).eval := by kernel_rfl
theorem eq26 (k : Nat) (x : AT (sp26 k).ps) : (fnT Try.prog (cfg26 k) lim26 Try.f26 (bodyOf Try.f26) (pl26 k) (sp26 k) x).left = (fnT Try.prog (cfg26 k) lim26 Try.f26 (bodyOf Try.f26) (pl26 k) (sp26 k) x).right := by kernel_rfl
theorem v26 (k : Nat) : Callable Try.prog 26 ∧ Valid Try.prog 26 (sp26 k) :=
  fn_ok (cfg26_ok k) (f := 26) (fn := Try.f26) (by kernel_rfl) (c := bodyOf Try.f26) (by kernel_rfl) (by kernel_rfl) rfl rfl (Nat.le_of_ble_eq_true rfl) (Nat.le_of_ble_eq_true rfl) (p := pl26 k) (Eq.mpr (pq26 k) ⟨(planOK_go _), ⟨(planOK_go _), ⟨(planOK_go _), ⟨⟨(planOK_go _), (fr26_1_ok k)⟩, (planOK_go _)⟩⟩⟩⟩) fun x => ⟨ev26 k x, eq26 k x⟩
/-! f27 hyphen/hyphenlaw11.Fwd -/
def F27_0 (k : Nat) : Nat → Int → ((List (List Int)) × ((List (List (List Int))) × Unit)) → (Unit × ((List Int) × Unit)) → ((List (List Int)) × ((List (List (List Int))) × Unit)) → Option ((Unit × (((List (List Int)) × ((List (List (List Int))) × Unit)) × ((List (List Int)) × ((List (List (List Int))) × Unit)) × Unit)))
  | 0, _, _, _, _ => none
  | n + 1, t9, c6, c7, c8 =>
    let x9 := (decide (t9 < ((List.length c7.2.1 : Nat) : Int)))
    bif x9 then
      if 0 ≤ t9 ∧ t9 < ((List.length c7.2.1 : Nat) : Int) then
        let x10 := (Int.tmod (List.getD c7.2.1 (Int.toNat t9) (0 : Int)) (2 : Int))
        if 0 ≤ t9 ∧ t9 < ((List.length c7.2.1 : Nat) : Int) then
          let x11 := (IntKind.wrap .i64 (Int.tdiv (List.getD c7.2.1 (Int.toNat t9) (0 : Int)) (2 : Int)))
          if 0 ≤ t9 ∧ t9 < ((List.length c7.2.1 : Nat) : Int) then
            let x12 := (List.set (List.set (List.set (List.replicate 3 (0 : Int)) 0 x10) 1 (5 : Int)) 2 (1152921504606846976 : Int))
            let x13 := (List.set (List.set (List.set (List.replicate 3 (0 : Int)) 0 x11) 1 (0 : Int)) 2 (List.getD c7.2.1 (Int.toNat t9) (0 : Int)))
            let x14 := (List.set (List.set (List.replicate 2 (List.replicate 3 (0 : Int))) 0 x12) 1 x13)
            let x15 := (List.set (List.replicate 1 ([] : (List (List Int)))) 0 x14)
            if (List.length c8.2.1 + List.length x15) * (24 * 2) ≤ 281474976710656 ∧ List.length c8.2.1 + List.length x15 ≤ 9223372036854775807 then
              (F27_0 k n (IntKind.wrap .i64 (t9 + (1 : Int))) c6 c7 (c8.1, ((c8.2.1 ++ x15), c8.2.2))).bind some
            else none
          else none
        else none
      else none
    else
      some ((), (c6, c8, ()))
def fr27_0 (k : Nat) : Frag := ⟨⟨[], [(6, .ptr 6 []), (7, .ptr 7 []), (8, .ptr 8 []), (9, .val (.int .i64))], [(6, some 29, (.pair (.sl true 22 (.sl true 3 (.int .i64) none) none) (.pair (.sl true 46 (.sl true 45 (.arr 3 (.int .i64)) none) none) .unit))), (7, some 26, (.pair .un (.pair (.sl true 3 (.int .i64) none) .unit))), (8, some 29, (.pair (.sl true 22 (.sl true 3 (.int .i64) none) none) (.pair (.sl true 46 (.sl true 45 (.arr 3 (.int .i64)) none) none) .unit)))]⟩, [(.exit 0, ⟨[], [(6, .ptr 6 []), (8, .ptr 8 [])], [(6, some 29, (.pair (.sl true 22 (.sl true 3 (.int .i64) none) none) (.pair (.sl true 46 (.sl true 45 (.arr 3 (.int .i64)) none) none) .unit))), (8, some 29, (.pair (.sl true 22 (.sl true 3 (.int .i64) none) none) (.pair (.sl true 46 (.sl true 45 (.arr 3 (.int .i64)) none) none) .unit)))]⟩)], fun v => F27_0 k k v.1.1 v.2.1 v.2.2.1 v.2.2.2.1⟩
def F27 (k : Nat) (a0 : Int) (a1 : Int) (a2 : (List Int)) : Option ((((List (List Int)) × ((List (List (List Int))) × Unit)) × Unit) × Unit) :=
  (F26 k a0 a1 a2).bind fun r1 =>
  (F27_0 k k (0 : Int) (([] : (List (List Int))), (([] : (List (List (List Int)))), ())) ((), r1.1.1.2) (r1.1.1.1, (([] : (List (List (List Int)))), ()))).bind fun r16 =>
  let y18 := r16.2.2.1
  some ((y18, ()), ())
def sp27 (k : Nat) : Spec := ⟨[.val (.int .i64), .val (.int .i64), .val (.sl false 3 (.int .i64) none)], [.own (.pair (.sl true 22 (.sl true 3 (.int .i64) none) none) (.pair (.sl true 46 (.sl true 45 (.arr 3 (.int .i64)) none) none) .unit))], fun x => F27 k x.1 x.2.1 x.2.2.1⟩
def lim27 : Lim := ⟨50, 3, false, false⟩
def cfg27 (k : Nat) : Nat → Option Spec := cfgL [(26, sp26 k)]
theorem cfg27_ok (k : Nat) : CfgOK Try.prog (cfg27 k) := cfgL_cons (v26 k) (cfgL_nil)
def pl27_0 (k : Nat) : Plan := .go
theorem pq27_0 (k : Nat) : PlanOK Try.prog lim27 (pl27_0 k) (codeAt (bodyOf Try.f27) [.r, .r, .r, .l, .r, .s, .b]) = PlanOK Try.prog lim27 .go (codeAt (bodyOf Try.f27) [.r, .r, .r, .l, .r, .s, .b]) := by kernel_rfl
theorem ps27_0 (k m : Nat) (v : (fr27_0 k).sh.V) : F27_0 k (m + 1) v.1.1 v.2.1 v.2.2.1 v.2.2.2.1 = (body Try.prog (stepper Try.prog (cfg27 k) lim27) (pl27_0 k) (codeAt (bodyOf Try.f27) [.r, .r, .r, .l, .r, .s, .b]) ((fr27_0 k).sh.st v) (loopK (fr27_0 k) fun v => F27_0 k m v.1.1 v.2.1 v.2.2.1 v.2.2.2.1)).eval := by kernel_rfl
theorem pe27_0 (k m : Nat) (v : (fr27_0 k).sh.V) : (body Try.prog (stepper Try.prog (cfg27 k) lim27) (pl27_0 k) (codeAt (bodyOf Try.f27) [.r, .r, .r, .l, .r, .s, .b]) ((fr27_0 k).sh.st v) (loopK (fr27_0 k) fun v => F27_0 k m v.1.1 v.2.1 v.2.2.1 v.2.2.2.1)).left = (body Try.prog (stepper Try.prog (cfg27 k) lim27) (pl27_0 k) (codeAt (bodyOf Try.f27) [.r, .r, .r, .l, .r, .s, .b]) ((fr27_0 k).sh.st v) (loopK (fr27_0 k) fun v => F27_0 k m v.1.1 v.2.1 v.2.2.1 v.2.2.2.1)).right := by kernel_rfl
theorem fr27_0_ok (k : Nat) : FragOK Try.prog lim27 (fr27_0 k) (codeAt (bodyOf Try.f27) [.r, .r, .r, .l, .r, .s]) :=
  frag_cast (by kernel_rfl) (loop_ok (cfg27_ok k) (Eq.mpr (pq27_0 k) (planOK_go _)) (fun m v => F27_0 k m v.1.1 v.2.1 v.2.2.1 v.2.2.2.1) k (fun _ => rfl) (fun _ => rfl) fun m v => ⟨ps27_0 k m v, pe27_0 k m v⟩)
def pl27 (k : Nat) : Plan := (.seq .go (.seq .go (.seq .go (.seq (.seq .go (.sub (.frag (fr27_0 k)))) .go))))
theorem pq27 (k : Nat) : PlanOK Try.prog lim27 (pl27 k) (codeAt (bodyOf Try.f27) []) = (PlanOK Try.prog lim27 .go (codeAt (bodyOf Try.f27) [.l]) ∧ (PlanOK Try.prog lim27 .go (codeAt (bodyOf Try.f27) [.r, .l]) ∧ (PlanOK Try.prog lim27 .go (codeAt (bodyOf Try.f27) [.r, .r, .l]) ∧ ((PlanOK Try.prog lim27 .go (codeAt (bodyOf Try.f27) [.r, .r, .r, .l, .l]) ∧ FragOK Try.prog lim27 (fr27_0 k) (codeAt (bodyOf Try.f27) [.r, .r, .r, .l, .r, .s])) ∧ PlanOK Try.prog lim27 .go (codeAt (bodyOf Try.f27) [.r, .r, .r, .r]))))) := by kernel_rfl
theorem ev27 (k : Nat) (x : AT (sp27 k).ps) : (sp27 k).impl x = (fnT Try.prog (cfg27 k) lim27 Try.f27 (bodyOf Try.f27) (pl27 k) (sp27 k) x).eval := by kernel_rfl
theorem eq27 (k : Nat) (x : AT (sp27 k).ps) : (fnT Try.prog (cfg27 k) lim27 Try.f27 (bodyOf Try.f27) (pl27 k) (sp27 k) x).left = (fnT Try.prog (cfg27 k) lim27 Try.f27 (bodyOf Try.f27) (pl27 k) (sp27 k) x).right := by kernel_rfl
theorem v27 (k : Nat) : Callable Try.prog 27 ∧ Valid Try.prog 27 (sp27 k) :=
  fn_ok (cfg27_ok k) (f := 27) (fn := Try.f27) (by kernel_rfl) (c := bodyOf Try.f27) (by kernel_rfl) (by kernel_rfl) rfl rfl (Nat.le_of_ble_eq_true rfl) (Nat.le_of_ble_eq_true rfl) (p := pl27 k) (Eq.mpr (pq27 k) ⟨(planOK_go _), ⟨(planOK_go _), ⟨(planOK_go _), ⟨⟨(planOK_go _), (fr27_0_ok k)⟩, (planOK_go _)⟩⟩⟩⟩) fun x => ⟨ev27 k x, eq27 k x⟩
/-! f19 hyphen/hyphenlaw12.within -/
def F19 (k : Nat) (a0 : Int) (a1 : Int) : Option ((Int × Unit) × Unit) :=
  if a1 ≠ 0 then
    bif (decide ((Int.tmod a0 a1) < (0 : Int))) then
      some (((IntKind.wrap .i64 ((Int.tmod a0 a1) + a1)), ()), ())
    else
      some (((Int.tmod a0 a1), ()), ())
  else none
def sp19 (k : Nat) : Spec := ⟨[.val (.int .i64), .val (.int .i64)], [.val (.int .i64)], fun x => F19 k x.1 x.2.1⟩
def lim19 : Lim := ⟨15, 2, false, false⟩
def cfg19 (k : Nat) : Nat → Option Spec := cfgL []
theorem cfg19_ok (k : Nat) : CfgOK Try.prog (cfg19 k) := cfgL_nil
def pl19 (k : Nat) : Plan := .go
theorem pq19 (k : Nat) : PlanOK Try.prog lim19 (pl19 k) (codeAt (bodyOf Try.f19) []) = PlanOK Try.prog lim19 .go (codeAt (bodyOf Try.f19) []) := by kernel_rfl
theorem ev19 (k : Nat) (x : AT (sp19 k).ps) : (sp19 k).impl x = (fnT Try.prog (cfg19 k) lim19 Try.f19 (bodyOf Try.f19) (pl19 k) (sp19 k) x).eval := by kernel_rfl
theorem eq19 (k : Nat) (x : AT (sp19 k).ps) : (fnT Try.prog (cfg19 k) lim19 Try.f19 (bodyOf Try.f19) (pl19 k) (sp19 k) x).left = (fnT Try.prog (cfg19 k) lim19 Try.f19 (bodyOf Try.f19) (pl19 k) (sp19 k) x).right := by kernel_rfl
theorem v19 (k : Nat) : Callable Try.prog 19 ∧ Valid Try.prog 19 (sp19 k) :=
  fn_ok (cfg19_ok k) (f := 19) (fn := Try.f19) (by kernel_rfl) (c := bodyOf Try.f19) (by kernel_rfl) (by kernel_rfl) rfl rfl (Nat.le_of_ble_eq_true rfl) (Nat.le_of_ble_eq_true rfl) (p := pl19 k) (Eq.mpr (pq19 k) (planOK_go _)) fun x => ⟨ev19 k x, eq19 k x⟩
/-! f13 hyphen/hyphenlaw12.Make -/
def F13_0 (k : Nat) : Nat → (List Int) → Int → Int → Int → ((List Int) × ((List Int) × (((List (List Int)) × ((List Int) × Unit)) × (((List (List Int)) × ((List (List (List Int))) × Unit)) × Unit)))) → ((List Int) × ((List Int) × (((List (List Int)) × ((List Int) × Unit)) × (((List (List Int)) × ((List (List (List Int))) × Unit)) × Unit)))) → Option (((Int × Int × Unit) × (((List Int) × ((List Int) × (((List (List Int)) × ((List Int) × Unit)) × (((List (List Int)) × ((List (List (List Int))) × Unit)) × Unit)))) × ((List Int) × ((List Int) × (((List (List Int)) × ((List Int) × Unit)) × (((List (List Int)) × ((List (List (List Int))) × Unit)) × Unit)))) × Unit)))
  | 0, _, _, _, _, _, _ => none
  | n + 1, t4, t12, t13, t14, c10, c11 =>
    let x28 := (decide (t14 < ((List.length t4 : Nat) : Int)))
    bif x28 then
      bif (decide (t14 < (6 : Int))) then
        if 0 ≤ t14 ∧ t14 < ((List.length t4 : Nat) : Int) then
          (F19 k (List.getD t4 (Int.toNat t14) (0 : Int)) (1073741824 : Int)).bind fun r29 =>
          if t12 ≠ 0 then
            bif (decide ((Int.tmod r29.1.1 t12) > t13)) then
              bif (t13 == t13) then
                if 0 ≤ t14 ∧ t14 < ((List.length c11.1 : Nat) : Int) then
                  let x30 := (IntKind.wrap .i64 ((List.getD c11.1 (Int.toNat t14) (0 : Int)) + (1 : Int)))
                  let x31 := (IntKind.wrap .i64 (Int.tdiv r29.1.1 (8 : Int)))
                  let x32 := (IntKind.wrap .i64 (x30 + (Int.tmod x31 (1000 : Int))))
                  let x33 := (List.set (List.replicate 1 (0 : Int)) 0 x32)
                  if (List.length c11.1 + List.length x33) * (8 * 2) ≤ 281474976710656 ∧ List.length c11.1 + List.length x33 ≤ 9223372036854775807 then
                    let x34 := (List.set (List.replicate 1 (0 : Int)) 0 t13)
                    if (List.length c11.2.1 + List.length x34) * (8 * 2) ≤ 281474976710656 ∧ List.length c11.2.1 + List.length x34 ≤ 9223372036854775807 then
                      (F13_0 k n t4 t12 (IntKind.wrap .i64 (t13 + (1 : Int))) (IntKind.wrap .i64 (t14 + (1 : Int))) c10 ((c11.1 ++ x33), ((c11.2.1 ++ x34), c11.2.2))).bind some
                    else none
                  else none
                else none
              else
                if 0 ≤ t14 ∧ t14 < ((List.length c11.1 : Nat) : Int) then
                  let x35 := (IntKind.wrap .i64 ((List.getD c11.1 (Int.toNat t14) (0 : Int)) + (1 : Int)))
                  let x36 := (IntKind.wrap .i64 (Int.tdiv r29.1.1 (8 : Int)))
                  let x37 := (IntKind.wrap .i64 (x35 + (Int.tmod x36 (1000 : Int))))
                  let x38 := (List.set (List.replicate 1 (0 : Int)) 0 x37)
                  if (List.length c11.1 + List.length x38) * (8 * 2) ≤ 281474976710656 ∧ List.length c11.1 + List.length x38 ≤ 9223372036854775807 then
                    let x39 := (List.set (List.replicate 1 (0 : Int)) 0 t13)
                    if (List.length c11.2.1 + List.length x39) * (8 * 2) ≤ 281474976710656 ∧ List.length c11.2.1 + List.length x39 ≤ 9223372036854775807 then
                      (F13_0 k n t4 t12 t13 (IntKind.wrap .i64 (t14 + (1 : Int))) c10 ((c11.1 ++ x38), ((c11.2.1 ++ x39), c11.2.2))).bind some
                    else none
                  else none
                else none
            else
              bif ((Int.tmod r29.1.1 t12) == t13) then
                if 0 ≤ t14 ∧ t14 < ((List.length c11.1 : Nat) : Int) then
                  let x40 := (IntKind.wrap .i64 ((List.getD c11.1 (Int.toNat t14) (0 : Int)) + (1 : Int)))
                  let x41 := (IntKind.wrap .i64 (Int.tdiv r29.1.1 (8 : Int)))
                  let x42 := (IntKind.wrap .i64 (x40 + (Int.tmod x41 (1000 : Int))))
                  let x43 := (List.set (List.replicate 1 (0 : Int)) 0 x42)
                  if (List.length c11.1 + List.length x43) * (8 * 2) ≤ 281474976710656 ∧ List.length c11.1 + List.length x43 ≤ 9223372036854775807 then
                    let x44 := (List.set (List.replicate 1 (0 : Int)) 0 (Int.tmod r29.1.1 t12))
                    if (List.length c11.2.1 + List.length x44) * (8 * 2) ≤ 281474976710656 ∧ List.length c11.2.1 + List.length x44 ≤ 9223372036854775807 then
                      (F13_0 k n t4 t12 (IntKind.wrap .i64 (t13 + (1 : Int))) (IntKind.wrap .i64 (t14 + (1 : Int))) c10 ((c11.1 ++ x43), ((c11.2.1 ++ x44), c11.2.2))).bind some
                    else none
                  else none
                else none
              else
                if 0 ≤ t14 ∧ t14 < ((List.length c11.1 : Nat) : Int) then
                  let x45 := (IntKind.wrap .i64 ((List.getD c11.1 (Int.toNat t14) (0 : Int)) + (1 : Int)))
                  let x46 := (IntKind.wrap .i64 (Int.tdiv r29.1.1 (8 : Int)))
                  let x47 := (IntKind.wrap .i64 (x45 + (Int.tmod x46 (1000 : Int))))
                  let x48 := (List.set (List.replicate 1 (0 : Int)) 0 x47)
                  if (List.length c11.1 + List.length x48) * (8 * 2) ≤ 281474976710656 ∧ List.length c11.1 + List.length x48 ≤ 9223372036854775807 then
                    let x49 := (List.set (List.replicate 1 (0 : Int)) 0 (Int.tmod r29.1.1 t12))
                    if (List.length c11.2.1 + List.length x49) * (8 * 2) ≤ 281474976710656 ∧ List.length c11.2.1 + List.length x49 ≤ 9223372036854775807 then
                      (F13_0 k n t4 t12 t13 (IntKind.wrap .i64 (t14 + (1 : Int))) c10 ((c11.1 ++ x48), ((c11.2.1 ++ x49), c11.2.2))).bind some
                    else none
                  else none
                else none
          else none
        else none
      else
        some ((t12, t13, ()), (c10, c11, ()))
    else
      some ((t12, t13, ()), (c10, c11, ()))
def fr13_0 (k : Nat) : Frag := ⟨⟨[], [(4, .val (.sl false 3 (.int .i64) none)), (10, .ptr 10 []), (11, .ptr 11 []), (12, .val (.int .i64)), (13, .val (.int .i64)), (14, .val (.int .i64))], [(10, some 31, (.pair (.sl true 3 (.int .i64) none) (.pair (.sl true 3 (.int .i64) none) (.pair (.pair (.sl true 22 (.sl true 3 (.int .i64) none) none) (.pair (.sl true 3 (.int .i64) none) .unit)) (.pair (.pair (.sl true 22 (.sl true 3 (.int .i64) none) none) (.pair (.sl true 46 (.sl true 45 (.arr 3 (.int .i64)) none) none) .unit)) .unit))))), (11, some 31, (.pair (.sl true 3 (.int .i64) none) (.pair (.sl true 3 (.int .i64) none) (.pair (.pair (.sl true 22 (.sl true 3 (.int .i64) none) none) (.pair (.sl true 3 (.int .i64) none) .unit)) (.pair (.pair (.sl true 22 (.sl true 3 (.int .i64) none) none) (.pair (.sl true 46 (.sl true 45 (.arr 3 (.int .i64)) none) none) .unit)) .unit)))))]⟩, [(.exit 0, ⟨[], [(10, .ptr 10 []), (11, .ptr 11 []), (12, .val (.int .i64)), (13, .val (.int .i64))], [(10, some 31, (.pair (.sl true 3 (.int .i64) none) (.pair (.sl true 3 (.int .i64) none) (.pair (.pair (.sl true 22 (.sl true 3 (.int .i64) none) none) (.pair (.sl true 3 (.int .i64) none) .unit)) (.pair (.pair (.sl true 22 (.sl true 3 (.int .i64) none) none) (.pair (.sl true 46 (.sl true 45 (.arr 3 (.int .i64)) none) none) .unit)) .unit))))), (11, some 31, (.pair (.sl true 3 (.int .i64) none) (.pair (.sl true 3 (.int .i64) none) (.pair (.pair (.sl true 22 (.sl true 3 (.int .i64) none) none) (.pair (.sl true 3 (.int .i64) none) .unit)) (.pair (.pair (.sl true 22 (.sl true 3 (.int .i64) none) none) (.pair (.sl true 46 (.sl true 45 (.arr 3 (.int .i64)) none) none) .unit)) .unit)))))]⟩)], fun v => F13_0 k k v.1.1 v.1.2.1 v.1.2.2.1 v.1.2.2.2.1 v.2.1 v.2.2.1⟩
def F13_1 (k : Nat) : Nat → Int → Int → ((List Int) × ((List Int) × (((List (List Int)) × ((List Int) × Unit)) × (((List (List Int)) × ((List (List (List Int))) × Unit)) × Unit)))) → ((List Int) × ((List Int) × (((List (List Int)) × ((List Int) × Unit)) × (((List (List Int)) × ((List (List (List Int))) × Unit)) × Unit)))) → Option ((Unit × (((List Int) × ((List Int) × (((List (List Int)) × ((List Int) × Unit)) × (((List (List Int)) × ((List (List (List Int))) × Unit)) × Unit)))) × ((List Int) × ((List Int) × (((List (List Int)) × ((List Int) × Unit)) × (((List (List Int)) × ((List (List (List Int))) × Unit)) × Unit)))) × Unit)))
  | 0, _, _, _, _ => none
  | n + 1, t12, t13, c10, c11 =>
    bif (decide (t13 < t12)) then
      let x59 := (IntKind.wrap .i64 (((List.length c11.1 : Nat) : Int) - (1 : Int)))
      if 0 ≤ x59 ∧ x59 < ((List.length c11.1 : Nat) : Int) then
        let x60 := (IntKind.wrap .i64 ((List.getD c11.1 (Int.toNat x59) (0 : Int)) + (3 : Int)))
        let x61 := (List.set (List.replicate 1 (0 : Int)) 0 x60)
        if (List.length c11.1 + List.length x61) * (8 * 2) ≤ 281474976710656 ∧ List.length c11.1 + List.length x61 ≤ 9223372036854775807 then
          let x62 := (List.set (List.replicate 1 (0 : Int)) 0 t13)
          if (List.length c11.2.1 + List.length x62) * (8 * 2) ≤ 281474976710656 ∧ List.length c11.2.1 + List.length x62 ≤ 9223372036854775807 then
            (F13_1 k n t12 (IntKind.wrap .i64 (t13 + (1 : Int))) c10 ((c11.1 ++ x61), ((c11.2.1 ++ x62), c11.2.2))).bind some
          else none
        else none
      else none
    else
      some ((), (c10, c11, ()))
def fr13_1 (k : Nat) : Frag := ⟨⟨[], [(10, .ptr 10 []), (11, .ptr 11 []), (12, .val (.int .i64)), (13, .val (.int .i64))], [(10, some 31, (.pair (.sl true 3 (.int .i64) none) (.pair (.sl true 3 (.int .i64) none) (.pair (.pair (.sl true 22 (.sl true 3 (.int .i64) none) none) (.pair (.sl true 3 (.int .i64) none) .unit)) (.pair (.pair (.sl true 22 (.sl true 3 (.int .i64) none) none) (.pair (.sl true 46 (.sl true 45 (.arr 3 (.int .i64)) none) none) .unit)) .unit))))), (11, some 31, (.pair (.sl true 3 (.int .i64) none) (.pair (.sl true 3 (.int .i64) none) (.pair (.pair (.sl true 22 (.sl true 3 (.int .i64) none) none) (.pair (.sl true 3 (.int .i64) none) .unit)) (.pair (.pair (.sl true 22 (.sl true 3 (.int .i64) none) none) (.pair (.sl true 46 (.sl true 45 (.arr 3 (.int .i64)) none) none) .unit)) .unit)))))]⟩, [(.exit 2, ⟨[], [(10, .ptr 10 []), (11, .ptr 11 [])], [(10, some 31, (.pair (.sl true 3 (.int .i64) none) (.pair (.sl true 3 (.int .i64) none) (.pair (.pair (.sl true 22 (.sl true 3 (.int .i64) none) none) (.pair (.sl true 3 (.int .i64) none) .unit)) (.pair (.pair (.sl true 22 (.sl true 3 (.int .i64) none) none) (.pair (.sl true 46 (.sl true 45 (.arr 3 (.int .i64)) none) none) .unit)) .unit))))), (11, some 31, (.pair (.sl true 3 (.int .i64) none) (.pair (.sl true 3 (.int .i64) none) (.pair (.pair (.sl true 22 (.sl true 3 (.int .i64) none) none) (.pair (.sl true 3 (.int .i64) none) .unit)) (.pair (.pair (.sl true 22 (.sl true 3 (.int .i64) none) none) (.pair (.sl true 46 (.sl true 45 (.arr 3 (.int .i64)) none) none) .unit)) .unit)))))]⟩)], fun v => F13_1 k k v.1.1 v.1.2.1 v.2.1 v.2.2.1⟩
def F13_2 (k : Nat) : Nat → Int → ((List Int) × ((List Int) × (((List (List Int)) × ((List Int) × Unit)) × (((List (List Int)) × ((List (List (List Int))) × Unit)) × Unit)))) → ((List Int) × ((List Int) × (((List (List Int)) × ((List Int) × Unit)) × (((List (List Int)) × ((List (List (List Int))) × Unit)) × Unit)))) → Option ((Unit × (((List Int) × ((List Int) × (((List (List Int)) × ((List Int) × Unit)) × (((List (List Int)) × ((List (List (List Int))) × Unit)) × Unit)))) × ((List Int) × ((List Int) × (((List (List Int)) × ((List Int) × Unit)) × (((List (List Int)) × ((List (List (List Int))) × Unit)) × Unit)))) × Unit)))
  | 0, _, _, _ => none
  | n + 1, t17, c10, c11 =>
    let x69 := (decide (t17 < ((List.length c11.2.2.1.2.1 : Nat) : Int)))
    bif x69 then
      if 0 ≤ t17 ∧ t17 < ((List.length c11.2.2.1.2.1 : Nat) : Int) then
        let x70 := (List.getD c11.2.2.1.2.1 (Int.toNat t17) (0 : Int))
        if 0 ≤ t17 ∧ t17 < ((List.length c11.2.2.1.2.1 : Nat) : Int) then
          let x71 := (List.set c11.2.2.1.2.1 (Int.toNat t17) (Int.tmod x70 (2 : Int)))
          (F13_2 k n (IntKind.wrap .i64 (t17 + (1 : Int))) c10 (c11.1, (c11.2.1, ((c11.2.2.1.1, (x71, c11.2.2.1.2.2)), c11.2.2.2)))).bind some
        else none
      else none
    else
      some ((), (c10, c11, ()))
def fr13_2 (k : Nat) : Frag := ⟨⟨[], [(10, .ptr 10 []), (11, .ptr 11 []), (17, .val (.int .i64))], [(10, some 31, (.pair (.sl true 3 (.int .i64) none) (.pair (.sl true 3 (.int .i64) none) (.pair (.pair (.sl true 22 (.sl true 3 (.int .i64) none) none) (.pair (.sl true 3 (.int .i64) none) .unit)) (.pair (.pair (.sl true 22 (.sl true 3 (.int .i64) none) none) (.pair (.sl true 46 (.sl true 45 (.arr 3 (.int .i64)) none) none) .unit)) .unit))))), (11, some 31, (.pair (.sl true 3 (.int .i64) none) (.pair (.sl true 3 (.int .i64) none) (.pair (.pair (.sl true 22 (.sl true 3 (.int .i64) none) none) (.pair (.sl true 3 (.int .i64) none) .unit)) (.pair (.pair (.sl true 22 (.sl true 3 (.int .i64) none) none) (.pair (.sl true 46 (.sl true 45 (.arr 3 (.int .i64)) none) none) .unit)) .unit)))))]⟩, [(.exit 4, ⟨[], [(10, .ptr 10 []), (11, .ptr 11 [])], [(10, some 31, (.pair (.sl true 3 (.int .i64) none) (.pair (.sl true 3 (.int .i64) none) (.pair (.pair (.sl true 22 (.sl true 3 (.int .i64) none) none) (.pair (.sl true 3 (.int .i64) none) .unit)) (.pair (.pair (.sl true 22 (.sl true 3 (.int .i64) none) none) (.pair (.sl true 46 (.sl true 45 (.arr 3 (.int .i64)) none) none) .unit)) .unit))))), (11, some 31, (.pair (.sl true 3 (.int .i64) none) (.pair (.sl true 3 (.int .i64) none) (.pair (.pair (.sl true 22 (.sl true 3 (.int .i64) none) none) (.pair (.sl true 3 (.int .i64) none) .unit)) (.pair (.pair (.sl true 22 (.sl true 3 (.int .i64) none) none) (.pair (.sl true 46 (.sl true 45 (.arr 3 (.int .i64)) none) none) .unit)) .unit)))))]⟩)], fun v => F13_2 k k v.1.1 v.2.1 v.2.2.1⟩
def F13 (k : Nat) (a0 : Int) (a1 : Int) (a2 : (List Int)) (a3 : (List Int)) (a4 : (List Int)) : Option ((((List Int) × ((List Int) × (((List (List Int)) × ((List Int) × Unit)) × (((List (List Int)) × ((List (List (List Int))) × Unit)) × Unit)))) × Unit) × Unit) :=
  (F26 k a0 a1 a2).bind fun r1 =>
  (F27 k a0 a1 a3).bind fun r2 =>
  if 0 ≤ (0 : Int) ∧ (0 : Int) < ((List.length r1.1.1.1 : Nat) : Int) then
    let x3 := ((List.length (List.getD r1.1.1.1 (Int.toNat (0 : Int)) ([] : (List Int))) : Nat) : Int)
    let x4 := (List.set (List.replicate 1 (0 : Int)) 0 (0 : Int))
    let x5 := (List.set (List.replicate 1 (0 : Int)) 0 (0 : Int))
    (F13_0 k k a4 x3 (1 : Int) (0 : Int) (([] : (List Int)), (([] : (List Int)), ((([] : (List (List Int))), (([] : (List Int)), ())), ((([] : (List (List Int))), (([] : (List (List (List Int)))), ())), ())))) (x4, (x5, (r1.1.1, (r2.1.1, ()))))).bind fun r50 =>
    let y51 := r50.1.1
    let y52 := r50.1.2.1
    let y53 := r50.2.1
    let y54 := r50.2.2.1
    (F13_1 k k y51 y52 y53 y54).bind fun r63 =>
    let y64 := r63.2.1
    let y65 := r63.2.2.1
    (F13_2 k k (0 : Int) y64 y65).bind fun r72 =>
    let y74 := r72.2.2.1
    if 0 ≤ (0 : Int) ∧ (0 : Int) < ((List.length y74.2.2.1.2.1 : Nat) : Int) then
      let x75 := (List.set y74.2.2.1.2.1 (Int.toNat (0 : Int)) (1 : Int))
      some (((y74.1, (y74.2.1, ((y74.2.2.1.1, (x75, y74.2.2.1.2.2)), y74.2.2.2))), ()), ())
    else none
  else none
def sp13 (k : Nat) : Spec := ⟨[.val (.int .i64), .val (.int .i64), .val (.sl false 3 (.int .i64) none), .val (.sl false 3 (.int .i64) none), .val (.sl false 3 (.int .i64) none)], [.own (.pair (.sl true 3 (.int .i64) none) (.pair (.sl true 3 (.int .i64) none) (.pair (.pair (.sl true 22 (.sl true 3 (.int .i64) none) none) (.pair (.sl true 3 (.int .i64) none) .unit)) (.pair (.pair (.sl true 22 (.sl true 3 (.int .i64) none) none) (.pair (.sl true 46 (.sl true 45 (.arr 3 (.int .i64)) none) none) .unit)) .unit))))], fun x => F13 k x.1 x.2.1 x.2.2.1 x.2.2.2.1 x.2.2.2.2.1⟩
def lim13 : Lim := ⟨135, 5, false, false⟩
def cfg13 (k : Nat) : Nat → Option Spec := cfgL [(19, sp19 k), (26, sp26 k), (27, sp27 k)]
theorem cfg13_ok (k : Nat) : CfgOK Try.prog (cfg13 k) := cfgL_cons (v19 k) (cfgL_cons (v26 k) (cfgL_cons (v27 k) (cfgL_nil)))
def pl13_0 (k : Nat) : Plan := .go
theorem pq13_0 (k : Nat) : PlanOK Try.prog lim13 (pl13_0 k) (codeAt (bodyOf Try.f13) [.r, .r, .r, .r, .r, .l, .r, .s, .b]) = PlanOK Try.prog lim13 .go (codeAt (bodyOf Try.f13) [.r, .r, .r, .r, .r, .l, .r, .s, .b]) := by kernel_rfl
theorem ps13_0 (k m : Nat) (v : (fr13_0 k).sh.V) : F13_0 k (m + 1) v.1.1 v.1.2.1 v.1.2.2.1 v.1.2.2.2.1 v.2.1 v.2.2.1 = (body Try.prog (stepper Try.prog (cfg13 k) lim13) (pl13_0 k) (codeAt (bodyOf Try.f13) [.r, .r, .r, .r, .r, .l, .r, .s, .b]) ((fr13_0 k).sh.st v) (loopK (fr13_0 k) fun v => F13_0 k m v.1.1 v.1.2.1 v.1.2.2.1 v.1.2.2.2.1 v.2.1 v.2.2.1)).eval := by kernel_rfl
theorem pe13_0 (k m : Nat) (v : (fr13_0 k).sh.V) : (body Try.prog (stepper Try.prog (cfg13 k) lim13) (pl13_0 k) (codeAt (bodyOf Try.f13) [.r, .r, .r, .r, .r, .l, .r, .s, .b]) ((fr13_0 k).sh.st v) (loopK (fr13_0 k) fun v => F13_0 k m v.1.1 v.1.2.1 v.1.2.2.1 v.1.2.2.2.1 v.2.1 v.2.2.1)).left = (body Try.prog (stepper Try.prog (cfg13 k) lim13) (pl13_0 k) (codeAt (bodyOf Try.f13) [.r, .r, .r, .r, .r, .l, .r, .s, .b]) ((fr13_0 k).sh.st v) (loopK (fr13_0 k) fun v => F13_0 k m v.1.1 v.1.2.1 v.1.2.2.1 v.1.2.2.2.1 v.2.1 v.2.2.1)).right := by kernel_rfl
theorem fr13_0_ok (k : Nat) : FragOK Try.prog lim13 (fr13_0 k) (codeAt (bodyOf Try.f13) [.r, .r, .r, .r, .r, .l, .r, .s]) :=
  frag_cast (by kernel_rfl) (loop_ok (cfg13_ok k) (Eq.mpr (pq13_0 k) (planOK_go _)) (fun m v => F13_0 k m v.1.1 v.1.2.1 v.1.2.2.1 v.1.2.2.2.1 v.2.1 v.2.2.1) k (fun _ => rfl) (fun _ => rfl) fun m v => ⟨ps13_0 k m v, pe13_0 k m v⟩)
def pl13_1 (k : Nat) : Plan := .go
theorem pq13_1 (k : Nat) : PlanOK Try.prog lim13 (pl13_1 k) (codeAt (bodyOf Try.f13) [.r, .r, .r, .r, .r, .r, .l, .s, .b]) = PlanOK Try.prog lim13 .go (codeAt (bodyOf Try.f13) [.r, .r, .r, .r, .r, .r, .l, .s, .b]) := by kernel_rfl
theorem ps13_1 (k m : Nat) (v : (fr13_1 k).sh.V) : F13_1 k (m + 1) v.1.1 v.1.2.1 v.2.1 v.2.2.1 = (body Try.prog (stepper Try.prog (cfg13 k) lim13) (pl13_1 k) (codeAt (bodyOf Try.f13) [.r, .r, .r, .r, .r, .r, .l, .s, .b]) ((fr13_1 k).sh.st v) (loopK (fr13_1 k) fun v => F13_1 k m v.1.1 v.1.2.1 v.2.1 v.2.2.1)).eval := by kernel_rfl
theorem pe13_1 (k m : Nat) (v : (fr13_1 k).sh.V) : (body Try.prog (stepper Try.prog (cfg13 k) lim13) (pl13_1 k) (codeAt (bodyOf Try.f13) [.r, .r, .r, .r, .r, .r, .l, .s, .b]) ((fr13_1 k).sh.st v) (loopK (fr13_1 k) fun v => F13_1 k m v.1.1 v.1.2.1 v.2.1 v.2.2.1)).left = (body Try.prog (stepper Try.prog (cfg13 k) lim13) (pl13_1 k) (codeAt (bodyOf Try.f13) [.r, .r, .r, .r, .r, .r, .l, .s, .b]) ((fr13_1 k).sh.st v) (loopK (fr13_1 k) fun v => F13_1 k m v.1.1 v.1.2.1 v.2.1 v.2.2.1)).right := by kernel_rfl
theorem fr13_1_ok (k : Nat) : FragOK Try.prog lim13 (fr13_1 k) (codeAt (bodyOf Try.f13) [.r, .r, .r, .r, .r, .r, .l, .s]) :=
  frag_cast (by kernel_rfl) (loop_ok (cfg13_ok k) (Eq.mpr (pq13_1 k) (planOK_go _)) (fun m v => F13_1 k m v.1.1 v.1.2.1 v.2.1 v.2.2.1) k (fun _ => rfl) (fun _ => rfl) fun m v => ⟨ps13_1 k m v, pe13_1 k m v⟩)
def pl13_2 (k : Nat) : Plan := .go
theorem pq13_2 (k : Nat) : PlanOK Try.prog lim13 (pl13_2 k) (codeAt (bodyOf Try.f13) [.r, .r, .r, .r, .r, .r, .r, .l, .r, .s, .b]) = PlanOK Try.prog lim13 .go (codeAt (bodyOf Try.f13) [.r, .r, .r, .r, .r, .r, .r, .l, .r, .s, .b]) := by kernel_rfl
theorem ps13_2 (k m : Nat) (v : (fr13_2 k).sh.V) : F13_2 k (m + 1) v.1.1 v.2.1 v.2.2.1 = (body Try.prog (stepper Try.prog (cfg13 k) lim13) (pl13_2 k) (codeAt (bodyOf Try.f13) [.r, .r, .r, .r, .r, .r, .r, .l, .r, .s, .b]) ((fr13_2 k).sh.st v) (loopK (fr13_2 k) fun v => F13_2 k m v.1.1 v.2.1 v.2.2.1)).eval := by kernel_rfl
theorem pe13_2 (k m : Nat) (v : (fr13_2 k).sh.V) : (body Try.prog (stepper Try.prog (cfg13 k) lim13) (pl13_2 k) (codeAt (bodyOf Try.f13) [.r, .r, .r, .r, .r, .r, .r, .l, .r, .s, .b]) ((fr13_2 k).sh.st v) (loopK (fr13_2 k) fun v => F13_2 k m v.1.1 v.2.1 v.2.2.1)).left = (body Try.prog (stepper Try.prog (cfg13 k) lim13) (pl13_2 k) (codeAt (bodyOf Try.f13) [.r, .r, .r, .r, .r, .r, .r, .l, .r, .s, .b]) ((fr13_2 k).sh.st v) (loopK (fr13_2 k) fun v => F13_2 k m v.1.1 v.2.1 v.2.2.1)).right := by kernel_rfl
theorem fr13_2_ok (k : Nat) : FragOK Try.prog lim13 (fr13_2 k) (codeAt (bodyOf Try.f13) [.r, .r, .r, .r, .r, .r, .r, .l, .r, .s]) :=
  frag_cast (by kernel_rfl) (loop_ok (cfg13_ok k) (Eq.mpr (pq13_2 k) (planOK_go _)) (fun m v => F13_2 k m v.1.1 v.2.1 v.2.2.1) k (fun _ => rfl) (fun _ => rfl) fun m v => ⟨ps13_2 k m v, pe13_2 k m v⟩)
def pl13 (k : Nat) : Plan := (.seq .go (.seq .go (.seq .go (.seq .go (.seq .go (.seq (.seq .go (.sub (.frag (fr13_0 k)))) (.seq (.sub (.frag (fr13_1 k))) (.seq (.seq .go (.sub (.frag (fr13_2 k)))) .go))))))))
theorem pq13 (k : Nat) : PlanOK Try.prog lim13 (pl13 k) (codeAt (bodyOf Try.f13) []) = (PlanOK Try.prog lim13 .go (codeAt (bodyOf Try.f13) [.l]) ∧ (PlanOK Try.prog lim13 .go (codeAt (bodyOf Try.f13) [.r, .l]) ∧ (PlanOK Try.prog lim13 .go (codeAt (bodyOf Try.f13) [.r, .r, .l]) ∧ (PlanOK Try.prog lim13 .go (codeAt (bodyOf Try.f13) [.r, .r, .r, .l]) ∧ (PlanOK Try.prog lim13 .go (codeAt (bodyOf Try.f13) [.r, .r, .r, .r, .l]) ∧ ((PlanOK Try.prog lim13 .go (codeAt (bodyOf Try.f13) [.r, .r, .r, .r, .r, .l, .l]) ∧ FragOK Try.prog lim13 (fr13_0 k) (codeAt (bodyOf Try.f13) [.r, .r, .r, .r, .r, .l, .r, .s])) ∧ (FragOK Try.prog lim13 (fr13_1 k) (codeAt (bodyOf Try.f13) [.r, .r, .r, .r, .r, .r, .l, .s]) ∧ ((PlanOK Try.prog lim13 .go (codeAt (bodyOf Try.f13) [.r, .r, .r, .r, .r, .r, .r, .l, .l]) ∧ FragOK Try.prog lim13 (fr13_2 k) (codeAt (bodyOf Try.f13) [.r, .r, .r, .r, .r, .r, .r, .l, .r, .s])) ∧ PlanOK Try.prog lim13 .go (codeAt (bodyOf Try.f13) [.r, .r, .r, .r, .r, .r, .r, .r]))))))))) := by kernel_rfl
theorem ev13 (k : Nat) (x : AT (sp13 k).ps) : (sp13 k).impl x = (fnT Try.prog (cfg13 k) lim13 Try.f13 (bodyOf Try.f13) (pl13 k) (sp13 k) x).eval := by kernel_rfl
theorem eq13 (k : Nat) (x : AT (sp13 k).ps) : (fnT Try.prog (cfg13 k) lim13 Try.f13 (bodyOf Try.f13) (pl13 k) (sp13 k) x).left = (fnT Try.prog (cfg13 k) lim13 Try.f13 (bodyOf Try.f13) (pl13 k) (sp13 k) x).right := by kernel_rfl
theorem v13 (k : Nat) : Callable Try.prog 13 ∧ Valid Try.prog 13 (sp13 k) :=
  fn_ok (cfg13_ok k) (f := 13) (fn := Try.f13) (by kernel_rfl) (c := bodyOf Try.f13) (by kernel_rfl) (by kernel_rfl) rfl rfl (Nat.le_of_ble_eq_true rfl) (Nat.le_of_ble_eq_true rfl) (p := pl13 k) (Eq.mpr (pq13 k) ⟨(planOK_go _), ⟨(planOK_go _), ⟨(planOK_go _), ⟨(planOK_go _), ⟨(planOK_go _), ⟨⟨(planOK_go _), (fr13_0_ok k)⟩, ⟨(fr13_1_ok k), ⟨⟨(planOK_go _), (fr13_2_ok k)⟩, (planOK_go _)⟩⟩⟩⟩⟩⟩⟩⟩) fun x => ⟨ev13 k x, eq13 k x⟩
/-! f3 hyphen/hyphenlaw12.TableBack -/
def F3 (k : Nat) (a0 : Int) (a1 : Int) (a2 : (List Int)) (a3 : (List Int)) (a4 : (List Int)) : Option ((Bool × Unit) × Unit) :=
  (F12 k).bind fun r1 =>
  bif (!r1.1.1) then
    some ((false, ()), ())
  else
    (F13 k a0 a1 a2 a3 a4).bind fun r2 =>
    (F14 k r2.1.1).bind fun r3 =>
    bif (!r3.1.1) then
      some ((false, ()), ())
    else
      (F15 k r2.1.1).bind fun r4 =>
      (F16 k r4.1.1).bind fun r5 =>
      if List.length r4.1.1 ≤ 9223372036854775807 then
        (F17 k r2.1.1).bind fun r6 =>
        if List.length r6.1.1 ≤ 9223372036854775807 then
          let x7 := (ByteArray.toList (bstr r4.1.1) == ByteArray.toList (bstr r6.1.1))
          bif x7 then
            bif r5.1.2.1 then
              (F18 k r2.1.1 r5.1.1).bind fun r8 =>
              some ((r8.1.1, ()), ())
            else
              some ((false, ()), ())
          else
            some ((false, ()), ())
        else none
      else none
def sp3 (k : Nat) : Spec := ⟨[.val (.int .i64), .val (.int .i64), .val (.sl false 3 (.int .i64) none), .val (.sl false 3 (.int .i64) none), .val (.sl false 3 (.int .i64) none)], [.val .bool], fun x => F3 k x.1 x.2.1 x.2.2.1 x.2.2.2.1 x.2.2.2.2.1⟩
def lim3 : Lim := ⟨47, 5, false, false⟩
def cfg3 (k : Nat) : Nat → Option Spec := cfgL [(12, sp12 k), (13, sp13 k), (14, sp14 k), (15, sp15 k), (16, sp16 k), (17, sp17 k), (18, sp18 k)]
theorem cfg3_ok (k : Nat) : CfgOK Try.prog (cfg3 k) := cfgL_cons (v12 k) (cfgL_cons (v13 k) (cfgL_cons (v14 k) (cfgL_cons (v15 k) (cfgL_cons (v16 k) (cfgL_cons (v17 k) (cfgL_cons (v18 k) (cfgL_nil)))))))
def pl3 (k : Nat) : Plan := .go
theorem pq3 (k : Nat) : PlanOK Try.prog lim3 (pl3 k) (codeAt (bodyOf Try.f3) []) = PlanOK Try.prog lim3 .go (codeAt (bodyOf Try.f3) []) := by kernel_rfl
theorem ev3 (k : Nat) (x : AT (sp3 k).ps) : (sp3 k).impl x = (fnT Try.prog (cfg3 k) lim3 Try.f3 (bodyOf Try.f3) (pl3 k) (sp3 k) x).eval := by kernel_rfl
theorem eq3 (k : Nat) (x : AT (sp3 k).ps) : (fnT Try.prog (cfg3 k) lim3 Try.f3 (bodyOf Try.f3) (pl3 k) (sp3 k) x).left = (fnT Try.prog (cfg3 k) lim3 Try.f3 (bodyOf Try.f3) (pl3 k) (sp3 k) x).right := by kernel_rfl
theorem v3 (k : Nat) : Callable Try.prog 3 ∧ Valid Try.prog 3 (sp3 k) :=
  fn_ok (cfg3_ok k) (f := 3) (fn := Try.f3) (by kernel_rfl) (c := bodyOf Try.f3) (by kernel_rfl) (by kernel_rfl) rfl rfl (Nat.le_of_ble_eq_true rfl) (Nat.le_of_ble_eq_true rfl) (p := pl3 k) (Eq.mpr (pq3 k) (planOK_go _)) fun x => ⟨ev3 k x, eq3 k x⟩
/-! f20 hyphen/hyphenlaw12.summed -/
def F20_0 (k : Nat) : Nat → Int → Int → (List Int) → Option ((Unit × ((List Int) × Unit)))
  | 0, _, _, _ => none
  | n + 1, t3, t5, c2000004 =>
    bif (decide (t5 < (8 : Int))) then
      let x2 := (IntKind.wrap .i64 ((56 : Int) - (IntKind.wrap .i64 ((8 : Int) * t5))))
      if 0 ≤ (IntKind.wrap .u64 x2) then
        let x3 := (Int.fdiv t3 (2 ^ (min (Int.toNat (IntKind.wrap .u64 x2)) (IntKind.bits .i64))))
        let x4 := (List.set (List.replicate 1 (0 : Int)) 0 (IntKind.wrap .u8 x3))
        if (List.length c2000004 + List.length x4) * (1 * 2) ≤ 281474976710656 ∧ List.length c2000004 + List.length x4 ≤ 9223372036854775807 then
          (F20_0 k n t3 (IntKind.wrap .i64 (t5 + (1 : Int))) (c2000004 ++ x4)).bind some
        else none
      else none
    else
      some ((), (c2000004, ()))
def fr20_0 (k : Nat) : Frag := ⟨⟨[(4, (.sl true 5 (.int .u8) none))], [(3, .val (.int .i64)), (4, .at 2000004 []), (5, .val (.int .i64))], [(2000004, none, (.sl true 5 (.int .u8) none))]⟩, [(.exit 0, ⟨[(4, (.sl true 5 (.int .u8) none))], [(4, .at 2000004 [])], [(2000004, none, (.sl true 5 (.int .u8) none))]⟩)], fun v => F20_0 k k v.1.1 v.1.2.1 v.2.1⟩
def F20 (k : Nat) (a0 : (List Int)) : Option (((List Int) × Unit) × Unit) :=
  (F24 k a0).bind fun r1 =>
  if (List.length (List.replicate 0 (0 : Int)) + List.length a0) * (1 * 2) ≤ 281474976710656 ∧ List.length (List.replicate 0 (0 : Int)) + List.length a0 ≤ 9223372036854775807 then
    (F20_0 k k r1.1.1 (0 : Int) ((List.replicate 0 (0 : Int)) ++ a0)).bind fun r5 =>
    let y6 := r5.2.1
    some ((y6, ()), ())
  else none
def sp20 (k : Nat) : Spec := ⟨[.val (.sl false 5 (.int .u8) none)], [.own (.sl true 5 (.int .u8) none)], fun x => F20 k x.1⟩
def lim20 : Lim := ⟨26, 1, false, false⟩
def cfg20 (k : Nat) : Nat → Option Spec := cfgL [(24, sp24 k)]
theorem cfg20_ok (k : Nat) : CfgOK Try.prog (cfg20 k) := cfgL_cons (v24 k) (cfgL_nil)
def pl20_0 (k : Nat) : Plan := .go
theorem pq20_0 (k : Nat) : PlanOK Try.prog lim20 (pl20_0 k) (codeAt (bodyOf Try.f20) [.r, .r, .r, .l, .r, .s, .b]) = PlanOK Try.prog lim20 .go (codeAt (bodyOf Try.f20) [.r, .r, .r, .l, .r, .s, .b]) := by kernel_rfl
theorem ps20_0 (k m : Nat) (v : (fr20_0 k).sh.V) : F20_0 k (m + 1) v.1.1 v.1.2.1 v.2.1 = (body Try.prog (stepper Try.prog (cfg20 k) lim20) (pl20_0 k) (codeAt (bodyOf Try.f20) [.r, .r, .r, .l, .r, .s, .b]) ((fr20_0 k).sh.st v) (loopK (fr20_0 k) fun v => F20_0 k m v.1.1 v.1.2.1 v.2.1)).eval := by kernel_rfl
theorem pe20_0 (k m : Nat) (v : (fr20_0 k).sh.V) : (body Try.prog (stepper Try.prog (cfg20 k) lim20) (pl20_0 k) (codeAt (bodyOf Try.f20) [.r, .r, .r, .l, .r, .s, .b]) ((fr20_0 k).sh.st v) (loopK (fr20_0 k) fun v => F20_0 k m v.1.1 v.1.2.1 v.2.1)).left = (body Try.prog (stepper Try.prog (cfg20 k) lim20) (pl20_0 k) (codeAt (bodyOf Try.f20) [.r, .r, .r, .l, .r, .s, .b]) ((fr20_0 k).sh.st v) (loopK (fr20_0 k) fun v => F20_0 k m v.1.1 v.1.2.1 v.2.1)).right := by kernel_rfl
theorem fr20_0_ok (k : Nat) : FragOK Try.prog lim20 (fr20_0 k) (codeAt (bodyOf Try.f20) [.r, .r, .r, .l, .r, .s]) :=
  frag_cast (by kernel_rfl) (loop_ok (cfg20_ok k) (Eq.mpr (pq20_0 k) (planOK_go _)) (fun m v => F20_0 k m v.1.1 v.1.2.1 v.2.1) k (fun _ => rfl) (fun _ => rfl) fun m v => ⟨ps20_0 k m v, pe20_0 k m v⟩)
def pl20 (k : Nat) : Plan := (.seq .go (.seq .go (.seq .go (.seq (.seq .go (.sub (.frag (fr20_0 k)))) .go))))
theorem pq20 (k : Nat) : PlanOK Try.prog lim20 (pl20 k) (codeAt (bodyOf Try.f20) []) = (PlanOK Try.prog lim20 .go (codeAt (bodyOf Try.f20) [.l]) ∧ (PlanOK Try.prog lim20 .go (codeAt (bodyOf Try.f20) [.r, .l]) ∧ (PlanOK Try.prog lim20 .go (codeAt (bodyOf Try.f20) [.r, .r, .l]) ∧ ((PlanOK Try.prog lim20 .go (codeAt (bodyOf Try.f20) [.r, .r, .r, .l, .l]) ∧ FragOK Try.prog lim20 (fr20_0 k) (codeAt (bodyOf Try.f20) [.r, .r, .r, .l, .r, .s])) ∧ PlanOK Try.prog lim20 .go (codeAt (bodyOf Try.f20) [.r, .r, .r, .r]))))) := by kernel_rfl
theorem ev20 (k : Nat) (x : AT (sp20 k).ps) : (sp20 k).impl x = (fnT Try.prog (cfg20 k) lim20 Try.f20 (bodyOf Try.f20) (pl20 k) (sp20 k) x).eval := by kernel_rfl
theorem eq20 (k : Nat) (x : AT (sp20 k).ps) : (fnT Try.prog (cfg20 k) lim20 Try.f20 (bodyOf Try.f20) (pl20 k) (sp20 k) x).left = (fnT Try.prog (cfg20 k) lim20 Try.f20 (bodyOf Try.f20) (pl20 k) (sp20 k) x).right := by kernel_rfl
theorem v20 (k : Nat) : Callable Try.prog 20 ∧ Valid Try.prog 20 (sp20 k) :=
  fn_ok (cfg20_ok k) (f := 20) (fn := Try.f20) (by kernel_rfl) (c := bodyOf Try.f20) (by kernel_rfl) (by kernel_rfl) rfl rfl (Nat.le_of_ble_eq_true rfl) (Nat.le_of_ble_eq_true rfl) (p := pl20 k) (Eq.mpr (pq20 k) ⟨(planOK_go _), ⟨(planOK_go _), ⟨(planOK_go _), ⟨⟨(planOK_go _), (fr20_0_ok k)⟩, (planOK_go _)⟩⟩⟩⟩) fun x => ⟨ev20 k x, eq20 k x⟩
/-! f49 (*hyphen/hyphenref12.reader).num -/
def F49_0 (k : Nat) : Nat → Int → Int → ((List Int) × (Bool × Unit)) → Option (((Int × Unit) × (((List Int) × (Bool × Unit)) × Unit)))
  | 0, _, _, _ => none
  | n + 1, t3, t4, c0 =>
    bif (decide (t4 < (8 : Int))) then
      let x5 := (IntKind.wrap .i64 (t3 * 2 ^ (min (Int.toNat (8 : Int)) (IntKind.bits .i64))))
      if 0 ≤ t4 ∧ t4 < ((List.length c0.1 : Nat) : Int) then
        let x6 := (IntKind.wrap .i64 (List.getD c0.1 (Int.toNat t4) (0 : Int)))
        let x7 := (IntKind.wrap .i64 (((BitVec.ofInt (IntKind.bits .i64) x5 ||| BitVec.ofInt (IntKind.bits .i64) x6).toNat : Nat) : Int))
        (F49_0 k n x7 (IntKind.wrap .i64 (t4 + (1 : Int))) c0).bind some
      else none
    else
      some ((t3, ()), (c0, ()))
def fr49_0 (k : Nat) : Frag := ⟨⟨[], [(0, .ptr 0 []), (3, .val (.int .i64)), (4, .val (.int .i64))], [(0, some 85, (.pair (.sl false 5 (.int .u8) none) (.pair .bool .unit)))]⟩, [(.exit 0, ⟨[], [(0, .ptr 0 []), (3, .val (.int .i64))], [(0, some 85, (.pair (.sl false 5 (.int .u8) none) (.pair .bool .unit)))]⟩)], fun v => F49_0 k k v.1.1 v.1.2.1 v.2.1⟩
def F49 (k : Nat) (a0 : ((List Int) × (Bool × Unit))) : Option ((Int × Unit) × (((List Int) × (Bool × Unit)) × Unit)) :=
  let x1 := (decide (((List.length a0.1 : Nat) : Int) < (8 : Int)))
  bif x1 then
    some (((0 : Int), ()), (([], (true, a0.2.2)), ()))
  else
    (F49_0 k k (0 : Int) (0 : Int) a0).bind fun r8 =>
    let y9 := r8.1.1
    let y10 := r8.2.1
    if 0 ≤ (8 : Int) ∧ (8 : Int) ≤ ((List.length y10.1 : Nat) : Int) ∧ ((List.length y10.1 : Nat) : Int) ≤ ((List.length y10.1 : Nat) : Int) then
      let x11 := (List.take (Int.toNat ((List.length y10.1 : Nat) : Int) - Int.toNat (8 : Int)) (List.drop (Int.toNat (8 : Int)) y10.1))
      some ((y9, ()), ((x11, y10.2), ()))
    else none
def sp49 (k : Nat) : Spec := ⟨[.ptr 85 (.pair (.sl false 5 (.int .u8) none) (.pair .bool .unit)) []], [.val (.int .i64)], fun x => F49 k x.1⟩
def lim49 : Lim := ⟨41, 1, false, false⟩
def cfg49 (k : Nat) : Nat → Option Spec := cfgL []
theorem cfg49_ok (k : Nat) : CfgOK Try.prog (cfg49 k) := cfgL_nil
def pl49_0 (k : Nat) : Plan := .go
theorem pq49_0 (k : Nat) : PlanOK Try.prog lim49 (pl49_0 k) (codeAt (bodyOf Try.f49) [.r, .r, .r, .l, .r, .s, .b]) = PlanOK Try.prog lim49 .go (codeAt (bodyOf Try.f49) [.r, .r, .r, .l, .r, .s, .b]) := by kernel_rfl
theorem ps49_0 (k m : Nat) (v : (fr49_0 k).sh.V) : F49_0 k (m + 1) v.1.1 v.1.2.1 v.2.1 = (body Try.prog (stepper Try.prog (cfg49 k) lim49) (pl49_0 k) (codeAt (bodyOf Try.f49) [.r, .r, .r, .l, .r, .s, .b]) ((fr49_0 k).sh.st v) (loopK (fr49_0 k) fun v => F49_0 k m v.1.1 v.1.2.1 v.2.1)).eval := by kernel_rfl
theorem pe49_0 (k m : Nat) (v : (fr49_0 k).sh.V) : (body Try.prog (stepper Try.prog (cfg49 k) lim49) (pl49_0 k) (codeAt (bodyOf Try.f49) [.r, .r, .r, .l, .r, .s, .b]) ((fr49_0 k).sh.st v) (loopK (fr49_0 k) fun v => F49_0 k m v.1.1 v.1.2.1 v.2.1)).left = (body Try.prog (stepper Try.prog (cfg49 k) lim49) (pl49_0 k) (codeAt (bodyOf Try.f49) [.r, .r, .r, .l, .r, .s, .b]) ((fr49_0 k).sh.st v) (loopK (fr49_0 k) fun v => F49_0 k m v.1.1 v.1.2.1 v.2.1)).right := by kernel_rfl
theorem fr49_0_ok (k : Nat) : FragOK Try.prog lim49 (fr49_0 k) (codeAt (bodyOf Try.f49) [.r, .r, .r, .l, .r, .s]) :=
  frag_cast (by kernel_rfl) (loop_ok (cfg49_ok k) (Eq.mpr (pq49_0 k) (planOK_go _)) (fun m v => F49_0 k m v.1.1 v.1.2.1 v.2.1) k (fun _ => rfl) (fun _ => rfl) fun m v => ⟨ps49_0 k m v, pe49_0 k m v⟩)
def pl49 (k : Nat) : Plan := (.seq .go (.seq .go (.seq .go (.seq (.seq .go (.sub (.frag (fr49_0 k)))) .go))))
theorem pq49 (k : Nat) : PlanOK Try.prog lim49 (pl49 k) (codeAt (bodyOf Try.f49) []) = (PlanOK Try.prog lim49 .go (codeAt (bodyOf Try.f49) [.l]) ∧ (PlanOK Try.prog lim49 .go (codeAt (bodyOf Try.f49) [.r, .l]) ∧ (PlanOK Try.prog lim49 .go (codeAt (bodyOf Try.f49) [.r, .r, .l]) ∧ ((PlanOK Try.prog lim49 .go (codeAt (bodyOf Try.f49) [.r, .r, .r, .l, .l]) ∧ FragOK Try.prog lim49 (fr49_0 k) (codeAt (bodyOf Try.f49) [.r, .r, .r, .l, .r, .s])) ∧ PlanOK Try.prog lim49 .go (codeAt (bodyOf Try.f49) [.r, .r, .r, .r]))))) := by kernel_rfl
theorem ev49 (k : Nat) (x : AT (sp49 k).ps) : (sp49 k).impl x = (fnT Try.prog (cfg49 k) lim49 Try.f49 (bodyOf Try.f49) (pl49 k) (sp49 k) x).eval := by kernel_rfl
theorem eq49 (k : Nat) (x : AT (sp49 k).ps) : (fnT Try.prog (cfg49 k) lim49 Try.f49 (bodyOf Try.f49) (pl49 k) (sp49 k) x).left = (fnT Try.prog (cfg49 k) lim49 Try.f49 (bodyOf Try.f49) (pl49 k) (sp49 k) x).right := by kernel_rfl
theorem v49 (k : Nat) : Callable Try.prog 49 ∧ Valid Try.prog 49 (sp49 k) :=
  fn_ok (cfg49_ok k) (f := 49) (fn := Try.f49) (by kernel_rfl) (c := bodyOf Try.f49) (by kernel_rfl) (by kernel_rfl) rfl rfl (Nat.le_of_ble_eq_true rfl) (Nat.le_of_ble_eq_true rfl) (p := pl49 k) (Eq.mpr (pq49 k) ⟨(planOK_go _), ⟨(planOK_go _), ⟨(planOK_go _), ⟨⟨(planOK_go _), (fr49_0_ok k)⟩, (planOK_go _)⟩⟩⟩⟩) fun x => ⟨ev49 k x, eq49 k x⟩
/-! f52 (*hyphen/hyphenref12.reader).count -/
def F52 (k : Nat) (a0 : ((List Int) × (Bool × Unit))) : Option ((Int × Unit) × (((List Int) × (Bool × Unit)) × Unit)) :=
  (F49 k a0).bind fun r1 =>
  bif (decide (r1.1.1 < (0 : Int))) then
    some (((0 : Int), ()), ((r1.2.1.1, (true, r1.2.1.2.2)), ()))
  else
    bif (decide (r1.1.1 > (100000 : Int))) then
      some (((0 : Int), ()), ((r1.2.1.1, (true, r1.2.1.2.2)), ()))
    else
      let x2 := (IntKind.wrap .i64 (Int.tdiv ((List.length r1.2.1.1 : Nat) : Int) (8 : Int)))
      bif (decide (r1.1.1 > x2)) then
        some (((0 : Int), ()), ((r1.2.1.1, (true, r1.2.1.2.2)), ()))
      else
        some ((r1.1.1, ()), (r1.2.1, ()))
def sp52 (k : Nat) : Spec := ⟨[.ptr 85 (.pair (.sl false 5 (.int .u8) none) (.pair .bool .unit)) []], [.val (.int .i64)], fun x => F52 k x.1⟩
def lim52 : Lim := ⟨26, 1, false, false⟩
def cfg52 (k : Nat) : Nat → Option Spec := cfgL [(49, sp49 k)]
theorem cfg52_ok (k : Nat) : CfgOK Try.prog (cfg52 k) := cfgL_cons (v49 k) (cfgL_nil)
def pl52 (k : Nat) : Plan := .go
theorem pq52 (k : Nat) : PlanOK Try.prog lim52 (pl52 k) (codeAt (bodyOf Try.f52) []) = PlanOK Try.prog lim52 .go (codeAt (bodyOf Try.f52) []) := by kernel_rfl
theorem ev52 (k : Nat) (x : AT (sp52 k).ps) : (sp52 k).impl x = (fnT Try.prog (cfg52 k) lim52 Try.f52 (bodyOf Try.f52) (pl52 k) (sp52 k) x).eval := by kernel_rfl
theorem eq52 (k : Nat) (x : AT (sp52 k).ps) : (fnT Try.prog (cfg52 k) lim52 Try.f52 (bodyOf Try.f52) (pl52 k) (sp52 k) x).left = (fnT Try.prog (cfg52 k) lim52 Try.f52 (bodyOf Try.f52) (pl52 k) (sp52 k) x).right := by kernel_rfl
theorem v52 (k : Nat) : Callable Try.prog 52 ∧ Valid Try.prog 52 (sp52 k) :=
  fn_ok (cfg52_ok k) (f := 52) (fn := Try.f52) (by kernel_rfl) (c := bodyOf Try.f52) (by kernel_rfl) (by kernel_rfl) rfl rfl (Nat.le_of_ble_eq_true rfl) (Nat.le_of_ble_eq_true rfl) (p := pl52 k) (Eq.mpr (pq52 k) (planOK_go _)) fun x => ⟨ev52 k x, eq52 k x⟩
/-! f50 (*hyphen/hyphenref12.reader).nums -/
def F50_0 (k : Nat) : Nat → Int → Int → ((List Int) × (Bool × Unit)) → (List Int) → Option ((Unit × (((List Int) × (Bool × Unit)) × (List Int) × Unit)))
  | 0, _, _, _, _ => none
  | n + 1, t4, t5, c0, c2000003 =>
    bif (decide (t5 < t4)) then
      bif (!c0.2.1) then
        (F49 k c0).bind fun r2 =>
        let x3 := (List.set (List.replicate 1 (0 : Int)) 0 r2.1.1)
        if (List.length c2000003 + List.length x3) * (8 * 2) ≤ 281474976710656 ∧ List.length c2000003 + List.length x3 ≤ 9223372036854775807 then
          (F50_0 k n t4 (IntKind.wrap .i64 (t5 + (1 : Int))) r2.2.1 (c2000003 ++ x3)).bind some
        else none
      else
        some ((), (c0, c2000003, ()))
    else
      some ((), (c0, c2000003, ()))
def fr50_0 (k : Nat) : Frag := ⟨⟨[(3, (.sl true 3 (.int .i64) none))], [(0, .ptr 0 []), (3, .at 2000003 []), (4, .val (.int .i64)), (5, .val (.int .i64))], [(0, some 85, (.pair (.sl false 5 (.int .u8) none) (.pair .bool .unit))), (2000003, none, (.sl true 3 (.int .i64) none))]⟩, [(.exit 0, ⟨[(3, (.sl true 3 (.int .i64) none))], [(3, .at 2000003 [])], [(0, some 85, (.pair (.sl false 5 (.int .u8) none) (.pair .bool .unit))), (2000003, none, (.sl true 3 (.int .i64) none))]⟩)], fun v => F50_0 k k v.1.1 v.1.2.1 v.2.1 v.2.2.1⟩
def F50 (k : Nat) (a0 : ((List Int) × (Bool × Unit))) : Option (((List Int) × Unit) × (((List Int) × (Bool × Unit)) × Unit)) :=
  (F52 k a0).bind fun r1 =>
  (F50_0 k k r1.1.1 (0 : Int) r1.2.1 []).bind fun r4 =>
  let y5 := r4.2.1
  let y6 := r4.2.2.1
  some ((y6, ()), (y5, ()))
def sp50 (k : Nat) : Spec := ⟨[.ptr 85 (.pair (.sl false 5 (.int .u8) none) (.pair .bool .unit)) []], [.own (.sl true 3 (.int .i64) none)], fun x => F50 k x.1⟩
def lim50 : Lim := ⟨26, 1, false, false⟩
def cfg50 (k : Nat) : Nat → Option Spec := cfgL [(49, sp49 k), (52, sp52 k)]
theorem cfg50_ok (k : Nat) : CfgOK Try.prog (cfg50 k) := cfgL_cons (v49 k) (cfgL_cons (v52 k) (cfgL_nil))
def pl50_0 (k : Nat) : Plan := .go
theorem pq50_0 (k : Nat) : PlanOK Try.prog lim50 (pl50_0 k) (codeAt (bodyOf Try.f50) [.r, .r, .r, .l, .r, .s, .b]) = PlanOK Try.prog lim50 .go (codeAt (bodyOf Try.f50) [.r, .r, .r, .l, .r, .s, .b]) := by kernel_rfl
theorem ps50_0 (k m : Nat) (v : (fr50_0 k).sh.V) : F50_0 k (m + 1) v.1.1 v.1.2.1 v.2.1 v.2.2.1 = (body Try.prog (stepper Try.prog (cfg50 k) lim50) (pl50_0 k) (codeAt (bodyOf Try.f50) [.r, .r, .r, .l, .r, .s, .b]) ((fr50_0 k).sh.st v) (loopK (fr50_0 k) fun v => F50_0 k m v.1.1 v.1.2.1 v.2.1 v.2.2.1)).eval := by kernel_rfl
theorem pe50_0 (k m : Nat) (v : (fr50_0 k).sh.V) : (body Try.prog (stepper Try.prog (cfg50 k) lim50) (pl50_0 k) (codeAt (bodyOf Try.f50) [.r, .r, .r, .l, .r, .s, .b]) ((fr50_0 k).sh.st v) (loopK (fr50_0 k) fun v => F50_0 k m v.1.1 v.1.2.1 v.2.1 v.2.2.1)).left = (body Try.prog (stepper Try.prog (cfg50 k) lim50) (pl50_0 k) (codeAt (bodyOf Try.f50) [.r, .r, .r, .l, .r, .s, .b]) ((fr50_0 k).sh.st v) (loopK (fr50_0 k) fun v => F50_0 k m v.1.1 v.1.2.1 v.2.1 v.2.2.1)).right := by kernel_rfl
theorem fr50_0_ok (k : Nat) : FragOK Try.prog lim50 (fr50_0 k) (codeAt (bodyOf Try.f50) [.r, .r, .r, .l, .r, .s]) :=
  frag_cast (by kernel_rfl) (loop_ok (cfg50_ok k) (Eq.mpr (pq50_0 k) (planOK_go _)) (fun m v => F50_0 k m v.1.1 v.1.2.1 v.2.1 v.2.2.1) k (fun _ => rfl) (fun _ => rfl) fun m v => ⟨ps50_0 k m v, pe50_0 k m v⟩)
def pl50 (k : Nat) : Plan := (.seq .go (.seq .go (.seq .go (.seq (.seq .go (.sub (.frag (fr50_0 k)))) .go))))
theorem pq50 (k : Nat) : PlanOK Try.prog lim50 (pl50 k) (codeAt (bodyOf Try.f50) []) = (PlanOK Try.prog lim50 .go (codeAt (bodyOf Try.f50) [.l]) ∧ (PlanOK Try.prog lim50 .go (codeAt (bodyOf Try.f50) [.r, .l]) ∧ (PlanOK Try.prog lim50 .go (codeAt (bodyOf Try.f50) [.r, .r, .l]) ∧ ((PlanOK Try.prog lim50 .go (codeAt (bodyOf Try.f50) [.r, .r, .r, .l, .l]) ∧ FragOK Try.prog lim50 (fr50_0 k) (codeAt (bodyOf Try.f50) [.r, .r, .r, .l, .r, .s])) ∧ PlanOK Try.prog lim50 .go (codeAt (bodyOf Try.f50) [.r, .r, .r, .r]))))) := by kernel_rfl
theorem ev50 (k : Nat) (x : AT (sp50 k).ps) : (sp50 k).impl x = (fnT Try.prog (cfg50 k) lim50 Try.f50 (bodyOf Try.f50) (pl50 k) (sp50 k) x).eval := by kernel_rfl
theorem eq50 (k : Nat) (x : AT (sp50 k).ps) : (fnT Try.prog (cfg50 k) lim50 Try.f50 (bodyOf Try.f50) (pl50 k) (sp50 k) x).left = (fnT Try.prog (cfg50 k) lim50 Try.f50 (bodyOf Try.f50) (pl50 k) (sp50 k) x).right := by kernel_rfl
theorem v50 (k : Nat) : Callable Try.prog 50 ∧ Valid Try.prog 50 (sp50 k) :=
  fn_ok (cfg50_ok k) (f := 50) (fn := Try.f50) (by kernel_rfl) (c := bodyOf Try.f50) (by kernel_rfl) (by kernel_rfl) rfl rfl (Nat.le_of_ble_eq_true rfl) (Nat.le_of_ble_eq_true rfl) (p := pl50 k) (Eq.mpr (pq50 k) ⟨(planOK_go _), ⟨(planOK_go _), ⟨(planOK_go _), ⟨⟨(planOK_go _), (fr50_0_ok k)⟩, (planOK_go _)⟩⟩⟩⟩) fun x => ⟨ev50 k x, eq50 k x⟩
/-! f51 (*hyphen/hyphenref12.reader).rows -/
def F51_0 (k : Nat) : Nat → Int → Int → ((List Int) × (Bool × Unit)) → (List (List Int)) → Option ((Unit × (((List Int) × (Bool × Unit)) × (List (List Int)) × Unit)))
  | 0, _, _, _, _ => none
  | n + 1, t4, t5, c0, c2000003 =>
    bif (decide (t5 < t4)) then
      bif (!c0.2.1) then
        (F50 k c0).bind fun r2 =>
        let x3 := (List.set (List.replicate 1 ([] : (List Int))) 0 r2.1.1)
        if (List.length c2000003 + List.length x3) * (24 * 2) ≤ 281474976710656 ∧ List.length c2000003 + List.length x3 ≤ 9223372036854775807 then
          (F51_0 k n t4 (IntKind.wrap .i64 (t5 + (1 : Int))) r2.2.1 (c2000003 ++ x3)).bind some
        else none
      else
        some ((), (c0, c2000003, ()))
    else
      some ((), (c0, c2000003, ()))
def fr51_0 (k : Nat) : Frag := ⟨⟨[(3, (.sl true 22 (.sl true 3 (.int .i64) none) none))], [(0, .ptr 0 []), (3, .at 2000003 []), (4, .val (.int .i64)), (5, .val (.int .i64))], [(0, some 85, (.pair (.sl false 5 (.int .u8) none) (.pair .bool .unit))), (2000003, none, (.sl true 22 (.sl true 3 (.int .i64) none) none))]⟩, [(.exit 0, ⟨[(3, (.sl true 22 (.sl true 3 (.int .i64) none) none))], [(3, .at 2000003 [])], [(0, some 85, (.pair (.sl false 5 (.int .u8) none) (.pair .bool .unit))), (2000003, none, (.sl true 22 (.sl true 3 (.int .i64) none) none))]⟩)], fun v => F51_0 k k v.1.1 v.1.2.1 v.2.1 v.2.2.1⟩
def F51 (k : Nat) (a0 : ((List Int) × (Bool × Unit))) : Option (((List (List Int)) × Unit) × (((List Int) × (Bool × Unit)) × Unit)) :=
  (F52 k a0).bind fun r1 =>
  (F51_0 k k r1.1.1 (0 : Int) r1.2.1 []).bind fun r4 =>
  let y5 := r4.2.1
  let y6 := r4.2.2.1
  some ((y6, ()), (y5, ()))
def sp51 (k : Nat) : Spec := ⟨[.ptr 85 (.pair (.sl false 5 (.int .u8) none) (.pair .bool .unit)) []], [.own (.sl true 22 (.sl true 3 (.int .i64) none) none)], fun x => F51 k x.1⟩
def lim51 : Lim := ⟨26, 1, false, false⟩
def cfg51 (k : Nat) : Nat → Option Spec := cfgL [(50, sp50 k), (52, sp52 k)]
theorem cfg51_ok (k : Nat) : CfgOK Try.prog (cfg51 k) := cfgL_cons (v50 k) (cfgL_cons (v52 k) (cfgL_nil))
def pl51_0 (k : Nat) : Plan := .go
theorem pq51_0 (k : Nat) : PlanOK Try.prog lim51 (pl51_0 k) (codeAt (bodyOf Try.f51) [.r, .r, .r, .l, .r, .s, .b]) = PlanOK Try.prog lim51 .go (codeAt (bodyOf Try.f51) [.r, .r, .r, .l, .r, .s, .b]) := by kernel_rfl
theorem ps51_0 (k m : Nat) (v : (fr51_0 k).sh.V) : F51_0 k (m + 1) v.1.1 v.1.2.1 v.2.1 v.2.2.1 = (body Try.prog (stepper Try.prog (cfg51 k) lim51) (pl51_0 k) (codeAt (bodyOf Try.f51) [.r, .r, .r, .l, .r, .s, .b]) ((fr51_0 k).sh.st v) (loopK (fr51_0 k) fun v => F51_0 k m v.1.1 v.1.2.1 v.2.1 v.2.2.1)).eval := by kernel_rfl
theorem pe51_0 (k m : Nat) (v : (fr51_0 k).sh.V) : (body Try.prog (stepper Try.prog (cfg51 k) lim51) (pl51_0 k) (codeAt (bodyOf Try.f51) [.r, .r, .r, .l, .r, .s, .b]) ((fr51_0 k).sh.st v) (loopK (fr51_0 k) fun v => F51_0 k m v.1.1 v.1.2.1 v.2.1 v.2.2.1)).left = (body Try.prog (stepper Try.prog (cfg51 k) lim51) (pl51_0 k) (codeAt (bodyOf Try.f51) [.r, .r, .r, .l, .r, .s, .b]) ((fr51_0 k).sh.st v) (loopK (fr51_0 k) fun v => F51_0 k m v.1.1 v.1.2.1 v.2.1 v.2.2.1)).right := by kernel_rfl
theorem fr51_0_ok (k : Nat) : FragOK Try.prog lim51 (fr51_0 k) (codeAt (bodyOf Try.f51) [.r, .r, .r, .l, .r, .s]) :=
  frag_cast (by kernel_rfl) (loop_ok (cfg51_ok k) (Eq.mpr (pq51_0 k) (planOK_go _)) (fun m v => F51_0 k m v.1.1 v.1.2.1 v.2.1 v.2.2.1) k (fun _ => rfl) (fun _ => rfl) fun m v => ⟨ps51_0 k m v, pe51_0 k m v⟩)
def pl51 (k : Nat) : Plan := (.seq .go (.seq .go (.seq .go (.seq (.seq .go (.sub (.frag (fr51_0 k)))) .go))))
theorem pq51 (k : Nat) : PlanOK Try.prog lim51 (pl51 k) (codeAt (bodyOf Try.f51) []) = (PlanOK Try.prog lim51 .go (codeAt (bodyOf Try.f51) [.l]) ∧ (PlanOK Try.prog lim51 .go (codeAt (bodyOf Try.f51) [.r, .l]) ∧ (PlanOK Try.prog lim51 .go (codeAt (bodyOf Try.f51) [.r, .r, .l]) ∧ ((PlanOK Try.prog lim51 .go (codeAt (bodyOf Try.f51) [.r, .r, .r, .l, .l]) ∧ FragOK Try.prog lim51 (fr51_0 k) (codeAt (bodyOf Try.f51) [.r, .r, .r, .l, .r, .s])) ∧ PlanOK Try.prog lim51 .go (codeAt (bodyOf Try.f51) [.r, .r, .r, .r]))))) := by kernel_rfl
theorem ev51 (k : Nat) (x : AT (sp51 k).ps) : (sp51 k).impl x = (fnT Try.prog (cfg51 k) lim51 Try.f51 (bodyOf Try.f51) (pl51 k) (sp51 k) x).eval := by kernel_rfl
theorem eq51 (k : Nat) (x : AT (sp51 k).ps) : (fnT Try.prog (cfg51 k) lim51 Try.f51 (bodyOf Try.f51) (pl51 k) (sp51 k) x).left = (fnT Try.prog (cfg51 k) lim51 Try.f51 (bodyOf Try.f51) (pl51 k) (sp51 k) x).right := by kernel_rfl
theorem v51 (k : Nat) : Callable Try.prog 51 ∧ Valid Try.prog 51 (sp51 k) :=
  fn_ok (cfg51_ok k) (f := 51) (fn := Try.f51) (by kernel_rfl) (c := bodyOf Try.f51) (by kernel_rfl) (by kernel_rfl) rfl rfl (Nat.le_of_ble_eq_true rfl) (Nat.le_of_ble_eq_true rfl) (p := pl51 k) (Eq.mpr (pq51 k) ⟨(planOK_go _), ⟨(planOK_go _), ⟨(planOK_go _), ⟨⟨(planOK_go _), (fr51_0_ok k)⟩, (planOK_go _)⟩⟩⟩⟩) fun x => ⟨ev51 k x, eq51 k x⟩
end Go.Proofs.YtmjlilmajdknkaaE
