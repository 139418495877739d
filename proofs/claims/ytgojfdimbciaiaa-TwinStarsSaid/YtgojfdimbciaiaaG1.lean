/- Functions of the program, as Lean functions, with their contracts; printed by gen.py. Conditions: none. -/
import Derived.Test.YtgojfdimbciaiaaG0
set_option linter.unusedVariables false
namespace Go.Proofs.YtgojfdimbciaiaaE
open Kd
set_option maxRecDepth 20000
/-! f44: f44 -/
def rs44 (f44 : ((Tree (Int × (Int × (Int × (Int × (ByteArray × Unit)))))) → ((List (ByteArray × ((Tree (Int × (Int × (Int × (ByteArray × Unit))))) × Unit))) × ((List (Int × (Int × ((Tree (Int × (Int × (Int × (Int × (ByteArray × Unit)))))) × ((Tree (Int × (Int × (Int × (Int × (ByteArray × Unit)))))) × Unit))))) × Unit)) → Option ((((List Int) × ((List Int) × ((List Int) × ((List (Int × (Int × (Int × Unit)))) × (Int × Unit))))) × Unit) × Unit))) : Spec := ⟨[.val (.tree 49 (.pair (.int .i64) (.pair (.int .i64) (.pair (.int .i64) (.pair (.int .i64) (.pair .str .unit)))))), .val (.pair (.sl false 89 (.pair .str (.pair (.tree 86 (.pair (.int .i64) (.pair (.int .i64) (.pair (.int .i64) (.pair .str .unit))))) .unit)) none) (.pair (.sl false 133 (.pair (.int .i64) (.pair (.int .i64) (.pair (.tree 49 (.pair (.int .i64) (.pair (.int .i64) (.pair (.int .i64) (.pair (.int .i64) (.pair .str .unit)))))) (.pair (.tree 49 (.pair (.int .i64) (.pair (.int .i64) (.pair (.int .i64) (.pair (.int .i64) (.pair .str .unit)))))) .unit)))) none) .unit))], [.own (.pair (.sl true 3 (.int .i64) none) (.pair (.sl true 3 (.int .i64) none) (.pair (.sl true 3 (.int .i64) none) (.pair (.sl true 43 (.pair (.int .i64) (.pair (.int .i64) (.pair (.int .i64) .unit))) none) (.pair (.int .i64) .unit)))))], fun x => f44 x.1 x.2.1⟩
/-! f44 hyphen/hyphenref7.side -/
def F44_0 (k : Nat) (f44 : ((Tree (Int × (Int × (Int × (Int × (ByteArray × Unit)))))) → ((List (ByteArray × ((Tree (Int × (Int × (Int × (ByteArray × Unit))))) × Unit))) × ((List (Int × (Int × ((Tree (Int × (Int × (Int × (Int × (ByteArray × Unit)))))) × ((Tree (Int × (Int × (Int × (Int × (ByteArray × Unit)))))) × Unit))))) × Unit)) → Option ((((List Int) × ((List Int) × ((List Int) × ((List (Int × (Int × (Int × Unit)))) × (Int × Unit))))) × Unit) × Unit))) : Nat → Int → (Int × (Int × (Int × (Int × (ByteArray × ((List (Tree (Int × (Int × (Int × (Int × (ByteArray × Unit))))))) × Unit)))))) → ((List Int) × ((List Int) × ((List Int) × ((List (Int × (Int × (Int × Unit)))) × (Int × Unit))))) → ((List Int) × ((List Int) × ((List Int) × ((List (Int × (Int × (Int × Unit)))) × (Int × Unit))))) → Option ((Unit × (((List Int) × ((List Int) × ((List Int) × ((List (Int × (Int × (Int × Unit)))) × (Int × Unit))))) × ((List Int) × ((List Int) × ((List Int) × ((List (Int × (Int × (Int × Unit)))) × (Int × Unit))))) × Unit)))
  | 0, _, _, _, _ => none
  | n + 1, t7, c2, c4, c6 =>
    let x30 := (decide (t7 < ((List.length c6.2.1 : Nat) : Int)))
    bif x30 then
      if 0 ≤ t7 ∧ t7 < ((List.length c6.2.1 : Nat) : Int) then
        (F37 k (List.getD c6.2.1 (Int.toNat t7) (0 : Int)) c2.2.2.2.1).bind fun r31 =>
        if 0 ≤ t7 ∧ t7 < ((List.length c6.2.1 : Nat) : Int) then
          (F44_0 k f44 n (IntKind.wrap .i64 (t7 + (1 : Int))) c2 c4 (c6.1, ((List.set c6.2.1 (Int.toNat t7) r31.1.1), c6.2.2))).bind some
        else none
      else none
    else
      some ((), (c4, c6, ()))
def fr44_0 (k : Nat) (f44 : ((Tree (Int × (Int × (Int × (Int × (ByteArray × Unit)))))) → ((List (ByteArray × ((Tree (Int × (Int × (Int × (ByteArray × Unit))))) × Unit))) × ((List (Int × (Int × ((Tree (Int × (Int × (Int × (Int × (ByteArray × Unit)))))) × ((Tree (Int × (Int × (Int × (Int × (ByteArray × Unit)))))) × Unit))))) × Unit)) → Option ((((List Int) × ((List Int) × ((List Int) × ((List (Int × (Int × (Int × Unit)))) × (Int × Unit))))) × Unit) × Unit))) : Frag := ⟨⟨[], [(2, .ptr 2 []), (4, .ptr 4 []), (6, .ptr 6 []), (7, .val (.int .i64))], [(2, some 49, (.pair (.int .i64) (.pair (.int .i64) (.pair (.int .i64) (.pair (.int .i64) (.pair .str (.pair (.tl 49 (.pair (.int .i64) (.pair (.int .i64) (.pair (.int .i64) (.pair (.int .i64) (.pair .str .unit)))))) .unit))))))), (4, some 28, (.pair (.sl true 3 (.int .i64) none) (.pair (.sl true 3 (.int .i64) none) (.pair (.sl true 3 (.int .i64) none) (.pair (.sl true 43 (.pair (.int .i64) (.pair (.int .i64) (.pair (.int .i64) .unit))) none) (.pair (.int .i64) .unit)))))), (6, some 28, (.pair (.sl true 3 (.int .i64) none) (.pair (.sl true 3 (.int .i64) none) (.pair (.sl true 3 (.int .i64) none) (.pair (.sl true 43 (.pair (.int .i64) (.pair (.int .i64) (.pair (.int .i64) .unit))) none) (.pair (.int .i64) .unit))))))]⟩, [(.exit 1, ⟨[], [(4, .ptr 4 []), (6, .ptr 6 [])], [(4, some 28, (.pair (.sl true 3 (.int .i64) none) (.pair (.sl true 3 (.int .i64) none) (.pair (.sl true 3 (.int .i64) none) (.pair (.sl true 43 (.pair (.int .i64) (.pair (.int .i64) (.pair (.int .i64) .unit))) none) (.pair (.int .i64) .unit)))))), (6, some 28, (.pair (.sl true 3 (.int .i64) none) (.pair (.sl true 3 (.int .i64) none) (.pair (.sl true 3 (.int .i64) none) (.pair (.sl true 43 (.pair (.int .i64) (.pair (.int .i64) (.pair (.int .i64) .unit))) none) (.pair (.int .i64) .unit))))))]⟩)], fun v => F44_0 k f44 k v.1.1 v.2.1 v.2.2.1 v.2.2.2.1⟩
def F44_1 (k : Nat) (f44 : ((Tree (Int × (Int × (Int × (Int × (ByteArray × Unit)))))) → ((List (ByteArray × ((Tree (Int × (Int × (Int × (ByteArray × Unit))))) × Unit))) × ((List (Int × (Int × ((Tree (Int × (Int × (Int × (Int × (ByteArray × Unit)))))) × ((Tree (Int × (Int × (Int × (Int × (ByteArray × Unit)))))) × Unit))))) × Unit)) → Option ((((List Int) × ((List Int) × ((List Int) × ((List (Int × (Int × (Int × Unit)))) × (Int × Unit))))) × Unit) × Unit))) : Nat → Int → (Int × (Int × (Int × (Int × (ByteArray × ((List (Tree (Int × (Int × (Int × (Int × (ByteArray × Unit))))))) × Unit)))))) → ((List Int) × ((List Int) × ((List Int) × ((List (Int × (Int × (Int × Unit)))) × (Int × Unit))))) → ((List Int) × ((List Int) × ((List Int) × ((List (Int × (Int × (Int × Unit)))) × (Int × Unit))))) → ((List Int) × ((List Int) × ((List Int) × ((List (Int × (Int × (Int × Unit)))) × (Int × Unit))))) → Option ((Unit × (((List Int) × ((List Int) × ((List Int) × ((List (Int × (Int × (Int × Unit)))) × (Int × Unit))))) × ((List Int) × ((List Int) × ((List Int) × ((List (Int × (Int × (Int × Unit)))) × (Int × Unit))))) × Unit)))
  | 0, _, _, _, _, _ => none
  | n + 1, t10, c2, c4, c8, c9 =>
    bif (decide (t10 ≥ (1 : Int))) then
      (F56 k c9 c8).bind fun r39 =>
      bif (decide (t10 > c2.2.1)) then
        (F44_1 k f44 n (IntKind.wrap .i64 (t10 - (1 : Int))) c2 c4 (r39.1.1.1, (r39.1.1.2.1, (r39.1.1.2.2.1, (r39.1.1.2.2.2.1, ((0 : Int), r39.1.1.2.2.2.2.2))))) c9).bind some
      else
        (F44_1 k f44 n (IntKind.wrap .i64 (t10 - (1 : Int))) c2 c4 r39.1.1 c9).bind some
    else
      some ((), (c4, c8, ()))
def fr44_1 (k : Nat) (f44 : ((Tree (Int × (Int × (Int × (Int × (ByteArray × Unit)))))) → ((List (ByteArray × ((Tree (Int × (Int × (Int × (ByteArray × Unit))))) × Unit))) × ((List (Int × (Int × ((Tree (Int × (Int × (Int × (Int × (ByteArray × Unit)))))) × ((Tree (Int × (Int × (Int × (Int × (ByteArray × Unit)))))) × Unit))))) × Unit)) → Option ((((List Int) × ((List Int) × ((List Int) × ((List (Int × (Int × (Int × Unit)))) × (Int × Unit))))) × Unit) × Unit))) : Frag := ⟨⟨[], [(2, .ptr 2 []), (4, .ptr 4 []), (8, .ptr 8 []), (9, .ptr 9 []), (10, .val (.int .i64))], [(2, some 49, (.pair (.int .i64) (.pair (.int .i64) (.pair (.int .i64) (.pair (.int .i64) (.pair .str (.pair (.tl 49 (.pair (.int .i64) (.pair (.int .i64) (.pair (.int .i64) (.pair (.int .i64) (.pair .str .unit)))))) .unit))))))), (4, some 28, (.pair (.sl true 3 (.int .i64) none) (.pair (.sl true 3 (.int .i64) none) (.pair (.sl true 3 (.int .i64) none) (.pair (.sl true 43 (.pair (.int .i64) (.pair (.int .i64) (.pair (.int .i64) .unit))) none) (.pair (.int .i64) .unit)))))), (8, some 28, (.pair (.sl true 3 (.int .i64) none) (.pair (.sl true 3 (.int .i64) none) (.pair (.sl true 3 (.int .i64) none) (.pair (.sl true 43 (.pair (.int .i64) (.pair (.int .i64) (.pair (.int .i64) .unit))) none) (.pair (.int .i64) .unit)))))), (9, some 28, (.pair (.sl true 3 (.int .i64) none) (.pair (.sl true 3 (.int .i64) none) (.pair (.sl true 3 (.int .i64) none) (.pair (.sl true 43 (.pair (.int .i64) (.pair (.int .i64) (.pair (.int .i64) .unit))) none) (.pair (.int .i64) .unit))))))]⟩, [(.exit 3, ⟨[], [(4, .ptr 4 []), (8, .ptr 8 [])], [(4, some 28, (.pair (.sl true 3 (.int .i64) none) (.pair (.sl true 3 (.int .i64) none) (.pair (.sl true 3 (.int .i64) none) (.pair (.sl true 43 (.pair (.int .i64) (.pair (.int .i64) (.pair (.int .i64) .unit))) none) (.pair (.int .i64) .unit)))))), (8, some 28, (.pair (.sl true 3 (.int .i64) none) (.pair (.sl true 3 (.int .i64) none) (.pair (.sl true 3 (.int .i64) none) (.pair (.sl true 43 (.pair (.int .i64) (.pair (.int .i64) (.pair (.int .i64) .unit))) none) (.pair (.int .i64) .unit))))))]⟩)], fun v => F44_1 k f44 k v.1.1 v.2.1 v.2.2.1 v.2.2.2.1 v.2.2.2.2.1⟩
def B44 (k : Nat) (f44 : ((Tree (Int × (Int × (Int × (Int × (ByteArray × Unit)))))) → ((List (ByteArray × ((Tree (Int × (Int × (Int × (ByteArray × Unit))))) × Unit))) × ((List (Int × (Int × ((Tree (Int × (Int × (Int × (Int × (ByteArray × Unit)))))) × ((Tree (Int × (Int × (Int × (Int × (ByteArray × Unit)))))) × Unit))))) × Unit)) → Option ((((List Int) × ((List Int) × ((List Int) × ((List (Int × (Int × (Int × Unit)))) × (Int × Unit))))) × Unit) × Unit))) (a0 : (Tree (Int × (Int × (Int × (Int × (ByteArray × Unit))))))) (a1 : ((List (ByteArray × ((Tree (Int × (Int × (Int × (ByteArray × Unit))))) × Unit))) × ((List (Int × (Int × ((Tree (Int × (Int × (Int × (Int × (ByteArray × Unit)))))) × ((Tree (Int × (Int × (Int × (Int × (ByteArray × Unit)))))) × Unit))))) × Unit))) : Option ((((List Int) × ((List Int) × ((List Int) × ((List (Int × (Int × (Int × Unit)))) × (Int × Unit))))) × Unit) × Unit) :=
  bif ((Tree.a a0).1 == (1 : Int)) then
    (F53 k).bind fun r1 =>
    some ((r1.1.1, ()), ())
  else
    bif ((Tree.a a0).1 == (2 : Int)) then
      (F54 k (1 : Int)).bind fun r2 =>
      if 0 ≤ (0 : Int) ∧ (0 : Int) < ((List.length r2.1.1.1 : Nat) : Int) then
        let x3 := (List.set r2.1.1.1 (Int.toNat (0 : Int)) (-1 : Int))
        if 0 ≤ (0 : Int) ∧ (0 : Int) < ((List.length r2.1.1.2.1 : Nat) : Int) then
          let x4 := (List.set r2.1.1.2.1 (Int.toNat (0 : Int)) (0 : Int))
          if 0 ≤ (0 : Int) ∧ (0 : Int) < ((List.length r2.1.1.2.2.1 : Nat) : Int) then
            let x5 := (List.set r2.1.1.2.2.1 (Int.toNat (0 : Int)) (0 : Int))
            bif ((Tree.a a0).1 == (2 : Int)) then
              (F55 k a1 (Tree.a a0).2.2.2.2.1).bind fun r6 =>
              if 0 ≤ (0 : Int) ∧ (0 : Int) < ((List.length x3 : Nat) : Int) then
                some ((((List.set x3 (Int.toNat (0 : Int)) r6.1.1), (x4, (x5, r2.1.1.2.2.2))), ()), ())
              else none
            else
              some (((x3, (x4, (x5, r2.1.1.2.2.2))), ()), ())
          else none
        else none
      else none
    else
      bif ((Tree.a a0).1 == (3 : Int)) then
        (F54 k (1 : Int)).bind fun r7 =>
        if 0 ≤ (0 : Int) ∧ (0 : Int) < ((List.length r7.1.1.1 : Nat) : Int) then
          let x8 := (List.set r7.1.1.1 (Int.toNat (0 : Int)) (-1 : Int))
          if 0 ≤ (0 : Int) ∧ (0 : Int) < ((List.length r7.1.1.2.1 : Nat) : Int) then
            let x9 := (List.set r7.1.1.2.1 (Int.toNat (0 : Int)) (0 : Int))
            if 0 ≤ (0 : Int) ∧ (0 : Int) < ((List.length r7.1.1.2.2.1 : Nat) : Int) then
              let x10 := (List.set r7.1.1.2.2.1 (Int.toNat (0 : Int)) (0 : Int))
              bif ((Tree.a a0).1 == (2 : Int)) then
                (F55 k a1 (Tree.a a0).2.2.2.2.1).bind fun r11 =>
                if 0 ≤ (0 : Int) ∧ (0 : Int) < ((List.length x8 : Nat) : Int) then
                  some ((((List.set x8 (Int.toNat (0 : Int)) r11.1.1), (x9, (x10, r7.1.1.2.2.2))), ()), ())
                else none
              else
                some (((x8, (x9, (x10, r7.1.1.2.2.2))), ()), ())
            else none
          else none
        else none
      else
        bif ((Tree.a a0).1 == (4 : Int)) then
          if 0 ≤ (0 : Int) ∧ (0 : Int) < ((List.length (Tree.l a0) : Nat) : Int) then
            let x12 := (List.getD (Tree.l a0) (Int.toNat (0 : Int)) (Tree.mk ((0 : Int), ((0 : Int), ((0 : Int), ((0 : Int), (ByteArray.empty, ()))))) []))
            if 0 ≤ (1 : Int) ∧ (1 : Int) < ((List.length (Tree.l a0) : Nat) : Int) then
              let x13 := (List.getD (Tree.l a0) (Int.toNat (1 : Int)) (Tree.mk ((0 : Int), ((0 : Int), ((0 : Int), ((0 : Int), (ByteArray.empty, ()))))) []))
              (f44 x12 a1).bind fun r14 =>
              (f44 x13 a1).bind fun r15 =>
              (F56 k r14.1.1 r15.1.1).bind fun r16 =>
              some ((r16.1.1, ()), ())
            else none
          else none
        else
          bif ((Tree.a a0).1 == (5 : Int)) then
            if 0 ≤ (0 : Int) ∧ (0 : Int) < ((List.length (Tree.l a0) : Nat) : Int) then
              let x17 := (List.getD (Tree.l a0) (Int.toNat (0 : Int)) (Tree.mk ((0 : Int), ((0 : Int), ((0 : Int), ((0 : Int), (ByteArray.empty, ()))))) []))
              if 0 ≤ (1 : Int) ∧ (1 : Int) < ((List.length (Tree.l a0) : Nat) : Int) then
                let x18 := (List.getD (Tree.l a0) (Int.toNat (1 : Int)) (Tree.mk ((0 : Int), ((0 : Int), ((0 : Int), ((0 : Int), (ByteArray.empty, ()))))) []))
                (f44 x17 a1).bind fun r19 =>
                (f44 x18 a1).bind fun r20 =>
                (F57 k r19.1.1 r20.1.1).bind fun r21 =>
                some ((r21.1.1, ()), ())
              else none
            else none
          else
            bif ((Tree.a a0).1 == (6 : Int)) then
              if 0 ≤ (0 : Int) ∧ (0 : Int) < ((List.length (Tree.l a0) : Nat) : Int) then
                let x22 := (List.getD (Tree.l a0) (Int.toNat (0 : Int)) (Tree.mk ((0 : Int), ((0 : Int), ((0 : Int), ((0 : Int), (ByteArray.empty, ()))))) []))
                (f44 x22 a1).bind fun r23 =>
                (F58 k r23.1.1).bind fun r24 =>
                some ((r24.1.1, ()), ())
              else none
            else
              bif ((Tree.a a0).1 == (8 : Int)) then
                if 0 ≤ (0 : Int) ∧ (0 : Int) < ((List.length (Tree.l a0) : Nat) : Int) then
                  let x25 := (List.getD (Tree.l a0) (Int.toNat (0 : Int)) (Tree.mk ((0 : Int), ((0 : Int), ((0 : Int), ((0 : Int), (ByteArray.empty, ()))))) []))
                  (f44 x25 a1).bind fun r26 =>
                  (F37 k r26.1.1.2.2.2.2.1 (Tree.a a0).2.2.2.1).bind fun r27 =>
                  (F44_0 k f44 k (0 : Int) ((Tree.a a0).1, ((Tree.a a0).2.1, ((Tree.a a0).2.2.1, ((Tree.a a0).2.2.2.1, ((Tree.a a0).2.2.2.2.1, ((Tree.l a0), ())))))) (([] : (List Int)), (([] : (List Int)), (([] : (List Int)), (([] : (List (Int × (Int × (Int × Unit))))), ((0 : Int), ()))))) (r26.1.1.1, (r26.1.1.2.1, (r26.1.1.2.2.1, (r26.1.1.2.2.2.1, (r27.1.1, r26.1.1.2.2.2.2.2)))))).bind fun r32 =>
                  let y34 := r32.2.2.1
                  some ((y34, ()), ())
                else none
              else
                if 0 ≤ (0 : Int) ∧ (0 : Int) < ((List.length (Tree.l a0) : Nat) : Int) then
                  let x35 := (List.getD (Tree.l a0) (Int.toNat (0 : Int)) (Tree.mk ((0 : Int), ((0 : Int), ((0 : Int), ((0 : Int), (ByteArray.empty, ()))))) []))
                  (F53 k).bind fun r36 =>
                  (f44 x35 a1).bind fun r37 =>
                  (F44_1 k f44 k (Tree.a a0).2.2.1 ((Tree.a a0).1, ((Tree.a a0).2.1, ((Tree.a a0).2.2.1, ((Tree.a a0).2.2.2.1, ((Tree.a a0).2.2.2.2.1, ((Tree.l a0), ())))))) (([] : (List Int)), (([] : (List Int)), (([] : (List Int)), (([] : (List (Int × (Int × (Int × Unit))))), ((0 : Int), ()))))) r36.1.1 r37.1.1).bind fun r40 =>
                  let y42 := r40.2.2.1
                  some ((y42, ()), ())
                else none
def sb44 (k : Nat) (f44 : ((Tree (Int × (Int × (Int × (Int × (ByteArray × Unit)))))) → ((List (ByteArray × ((Tree (Int × (Int × (Int × (ByteArray × Unit))))) × Unit))) × ((List (Int × (Int × ((Tree (Int × (Int × (Int × (Int × (ByteArray × Unit)))))) × ((Tree (Int × (Int × (Int × (Int × (ByteArray × Unit)))))) × Unit))))) × Unit)) → Option ((((List Int) × ((List Int) × ((List Int) × ((List (Int × (Int × (Int × Unit)))) × (Int × Unit))))) × Unit) × Unit))) : Spec := rs44 (B44 k f44)
def lim44 : Lim := ⟨135, 2, false, false, []⟩
def cfg44 (k : Nat) (f44 : ((Tree (Int × (Int × (Int × (Int × (ByteArray × Unit)))))) → ((List (ByteArray × ((Tree (Int × (Int × (Int × (ByteArray × Unit))))) × Unit))) × ((List (Int × (Int × ((Tree (Int × (Int × (Int × (Int × (ByteArray × Unit)))))) × ((Tree (Int × (Int × (Int × (Int × (ByteArray × Unit)))))) × Unit))))) × Unit)) → Option ((((List Int) × ((List Int) × ((List Int) × ((List (Int × (Int × (Int × Unit)))) × (Int × Unit))))) × Unit) × Unit))) : Nat → Option Spec := cfgL [(37, sp37 k), (44, rs44 f44), (53, sp53 k), (54, sp54 k), (55, sp55 k), (56, sp56 k), (57, sp57 k), (58, sp58 k)]
theorem cfg44_ok (k : Nat) (f44 : ((Tree (Int × (Int × (Int × (Int × (ByteArray × Unit)))))) → ((List (ByteArray × ((Tree (Int × (Int × (Int × (ByteArray × Unit))))) × Unit))) × ((List (Int × (Int × ((Tree (Int × (Int × (Int × (Int × (ByteArray × Unit)))))) × ((Tree (Int × (Int × (Int × (Int × (ByteArray × Unit)))))) × Unit))))) × Unit)) → Option ((((List Int) × ((List Int) × ((List Int) × ((List (Int × (Int × (Int × Unit)))) × (Int × Unit))))) × Unit) × Unit))) (h44 : Callable Try.prog 44 ∧ Valid Try.prog 44 (rs44 f44)) : CfgOK Try.prog (cfg44 k f44) := cfgL_cons (v37 k) (cfgL_cons h44 (cfgL_cons (v53 k) (cfgL_cons (v54 k) (cfgL_cons (v55 k) (cfgL_cons (v56 k) (cfgL_cons (v57 k) (cfgL_cons (v58 k) (cfgL_nil))))))))
def pl44_0 (k : Nat) (f44 : ((Tree (Int × (Int × (Int × (Int × (ByteArray × Unit)))))) → ((List (ByteArray × ((Tree (Int × (Int × (Int × (ByteArray × Unit))))) × Unit))) × ((List (Int × (Int × ((Tree (Int × (Int × (Int × (Int × (ByteArray × Unit)))))) × ((Tree (Int × (Int × (Int × (Int × (ByteArray × Unit)))))) × Unit))))) × Unit)) → Option ((((List Int) × ((List Int) × ((List Int) × ((List (Int × (Int × (Int × Unit)))) × (Int × Unit))))) × Unit) × Unit))) : Plan := .go
theorem pq44_0 (k : Nat) (f44 : ((Tree (Int × (Int × (Int × (Int × (ByteArray × Unit)))))) → ((List (ByteArray × ((Tree (Int × (Int × (Int × (ByteArray × Unit))))) × Unit))) × ((List (Int × (Int × ((Tree (Int × (Int × (Int × (Int × (ByteArray × Unit)))))) × ((Tree (Int × (Int × (Int × (Int × (ByteArray × Unit)))))) × Unit))))) × Unit)) → Option ((((List Int) × ((List Int) × ((List Int) × ((List (Int × (Int × (Int × Unit)))) × (Int × Unit))))) × Unit) × Unit))) : PlanOK Try.prog lim44 (pl44_0 k f44) (codeAt (bodyOf Try.f44) [.r, .l, .r, .s, .r, .r, .r, .r, .r, .r, .r, .r, .r, .r, .r, .l, .r, .r, .l, .r, .s, .b]) = PlanOK Try.prog lim44 .go (codeAt (bodyOf Try.f44) [.r, .l, .r, .s, .r, .r, .r, .r, .r, .r, .r, .r, .r, .r, .r, .l, .r, .r, .l, .r, .s, .b]) := by kernel_rfl
theorem ps44_0 (k : Nat) (f44 : ((Tree (Int × (Int × (Int × (Int × (ByteArray × Unit)))))) → ((List (ByteArray × ((Tree (Int × (Int × (Int × (ByteArray × Unit))))) × Unit))) × ((List (Int × (Int × ((Tree (Int × (Int × (Int × (Int × (ByteArray × Unit)))))) × ((Tree (Int × (Int × (Int × (Int × (ByteArray × Unit)))))) × Unit))))) × Unit)) → Option ((((List Int) × ((List Int) × ((List Int) × ((List (Int × (Int × (Int × Unit)))) × (Int × Unit))))) × Unit) × Unit))) (m : Nat) (v : (fr44_0 k f44).sh.V) : F44_0 k f44 (m + 1) v.1.1 v.2.1 v.2.2.1 v.2.2.2.1 = (body Try.prog (stepper Try.prog (cfg44 k f44) lim44) (pl44_0 k f44) (codeAt (bodyOf Try.f44) [.r, .l, .r, .s, .r, .r, .r, .r, .r, .r, .r, .r, .r, .r, .r, .l, .r, .r, .l, .r, .s, .b]) ((fr44_0 k f44).sh.st v) (loopK (fr44_0 k f44) fun v => F44_0 k f44 m v.1.1 v.2.1 v.2.2.1 v.2.2.2.1)).eval := by kernel_rfl
theorem pe44_0 (k : Nat) (f44 : ((Tree (Int × (Int × (Int × (Int × (ByteArray × Unit)))))) → ((List (ByteArray × ((Tree (Int × (Int × (Int × (ByteArray × Unit))))) × Unit))) × ((List (Int × (Int × ((Tree (Int × (Int × (Int × (Int × (ByteArray × Unit)))))) × ((Tree (Int × (Int × (Int × (Int × (ByteArray × Unit)))))) × Unit))))) × Unit)) → Option ((((List Int) × ((List Int) × ((List Int) × ((List (Int × (Int × (Int × Unit)))) × (Int × Unit))))) × Unit) × Unit))) (m : Nat) (v : (fr44_0 k f44).sh.V) : (body Try.prog (stepper Try.prog (cfg44 k f44) lim44) (pl44_0 k f44) (codeAt (bodyOf Try.f44) [.r, .l, .r, .s, .r, .r, .r, .r, .r, .r, .r, .r, .r, .r, .r, .l, .r, .r, .l, .r, .s, .b]) ((fr44_0 k f44).sh.st v) (loopK (fr44_0 k f44) fun v => F44_0 k f44 m v.1.1 v.2.1 v.2.2.1 v.2.2.2.1)).left = (body Try.prog (stepper Try.prog (cfg44 k f44) lim44) (pl44_0 k f44) (codeAt (bodyOf Try.f44) [.r, .l, .r, .s, .r, .r, .r, .r, .r, .r, .r, .r, .r, .r, .r, .l, .r, .r, .l, .r, .s, .b]) ((fr44_0 k f44).sh.st v) (loopK (fr44_0 k f44) fun v => F44_0 k f44 m v.1.1 v.2.1 v.2.2.1 v.2.2.2.1)).right := by kernel_rfl
theorem fr44_0_ok (k : Nat) (f44 : ((Tree (Int × (Int × (Int × (Int × (ByteArray × Unit)))))) → ((List (ByteArray × ((Tree (Int × (Int × (Int × (ByteArray × Unit))))) × Unit))) × ((List (Int × (Int × ((Tree (Int × (Int × (Int × (Int × (ByteArray × Unit)))))) × ((Tree (Int × (Int × (Int × (Int × (ByteArray × Unit)))))) × Unit))))) × Unit)) → Option ((((List Int) × ((List Int) × ((List Int) × ((List (Int × (Int × (Int × Unit)))) × (Int × Unit))))) × Unit) × Unit))) (h44 : Callable Try.prog 44 ∧ Valid Try.prog 44 (rs44 f44)) : FragOK Try.prog lim44 (fr44_0 k f44) (codeAt (bodyOf Try.f44) [.r, .l, .r, .s, .r, .r, .r, .r, .r, .r, .r, .r, .r, .r, .r, .l, .r, .r, .l, .r, .s]) :=
  frag_cast (by kernel_rfl) (loop_ok (cfg44_ok k f44 h44) (Eq.mpr (pq44_0 k f44) (planOK_go _)) (fun m v => F44_0 k f44 m v.1.1 v.2.1 v.2.2.1 v.2.2.2.1) k (fun _ => rfl) (fun _ => rfl) fun m v => ⟨ps44_0 k f44 m v, pe44_0 k f44 m v⟩)
def pl44_1 (k : Nat) (f44 : ((Tree (Int × (Int × (Int × (Int × (ByteArray × Unit)))))) → ((List (ByteArray × ((Tree (Int × (Int × (Int × (ByteArray × Unit))))) × Unit))) × ((List (Int × (Int × ((Tree (Int × (Int × (Int × (Int × (ByteArray × Unit)))))) × ((Tree (Int × (Int × (Int × (Int × (ByteArray × Unit)))))) × Unit))))) × Unit)) → Option ((((List Int) × ((List Int) × ((List Int) × ((List (Int × (Int × (Int × Unit)))) × (Int × Unit))))) × Unit) × Unit))) : Plan := .go
theorem pq44_1 (k : Nat) (f44 : ((Tree (Int × (Int × (Int × (Int × (ByteArray × Unit)))))) → ((List (ByteArray × ((Tree (Int × (Int × (Int × (ByteArray × Unit))))) × Unit))) × ((List (Int × (Int × ((Tree (Int × (Int × (Int × (Int × (ByteArray × Unit)))))) × ((Tree (Int × (Int × (Int × (Int × (ByteArray × Unit)))))) × Unit))))) × Unit)) → Option ((((List Int) × ((List Int) × ((List Int) × ((List (Int × (Int × (Int × Unit)))) × (Int × Unit))))) × Unit) × Unit))) : PlanOK Try.prog lim44 (pl44_1 k f44) (codeAt (bodyOf Try.f44) [.r, .r, .r, .l, .r, .s, .b]) = PlanOK Try.prog lim44 .go (codeAt (bodyOf Try.f44) [.r, .r, .r, .l, .r, .s, .b]) := by kernel_rfl
theorem ps44_1 (k : Nat) (f44 : ((Tree (Int × (Int × (Int × (Int × (ByteArray × Unit)))))) → ((List (ByteArray × ((Tree (Int × (Int × (Int × (ByteArray × Unit))))) × Unit))) × ((List (Int × (Int × ((Tree (Int × (Int × (Int × (Int × (ByteArray × Unit)))))) × ((Tree (Int × (Int × (Int × (Int × (ByteArray × Unit)))))) × Unit))))) × Unit)) → Option ((((List Int) × ((List Int) × ((List Int) × ((List (Int × (Int × (Int × Unit)))) × (Int × Unit))))) × Unit) × Unit))) (m : Nat) (v : (fr44_1 k f44).sh.V) : F44_1 k f44 (m + 1) v.1.1 v.2.1 v.2.2.1 v.2.2.2.1 v.2.2.2.2.1 = (body Try.prog (stepper Try.prog (cfg44 k f44) lim44) (pl44_1 k f44) (codeAt (bodyOf Try.f44) [.r, .r, .r, .l, .r, .s, .b]) ((fr44_1 k f44).sh.st v) (loopK (fr44_1 k f44) fun v => F44_1 k f44 m v.1.1 v.2.1 v.2.2.1 v.2.2.2.1 v.2.2.2.2.1)).eval := by kernel_rfl
theorem pe44_1 (k : Nat) (f44 : ((Tree (Int × (Int × (Int × (Int × (ByteArray × Unit)))))) → ((List (ByteArray × ((Tree (Int × (Int × (Int × (ByteArray × Unit))))) × Unit))) × ((List (Int × (Int × ((Tree (Int × (Int × (Int × (Int × (ByteArray × Unit)))))) × ((Tree (Int × (Int × (Int × (Int × (ByteArray × Unit)))))) × Unit))))) × Unit)) → Option ((((List Int) × ((List Int) × ((List Int) × ((List (Int × (Int × (Int × Unit)))) × (Int × Unit))))) × Unit) × Unit))) (m : Nat) (v : (fr44_1 k f44).sh.V) : (body Try.prog (stepper Try.prog (cfg44 k f44) lim44) (pl44_1 k f44) (codeAt (bodyOf Try.f44) [.r, .r, .r, .l, .r, .s, .b]) ((fr44_1 k f44).sh.st v) (loopK (fr44_1 k f44) fun v => F44_1 k f44 m v.1.1 v.2.1 v.2.2.1 v.2.2.2.1 v.2.2.2.2.1)).left = (body Try.prog (stepper Try.prog (cfg44 k f44) lim44) (pl44_1 k f44) (codeAt (bodyOf Try.f44) [.r, .r, .r, .l, .r, .s, .b]) ((fr44_1 k f44).sh.st v) (loopK (fr44_1 k f44) fun v => F44_1 k f44 m v.1.1 v.2.1 v.2.2.1 v.2.2.2.1 v.2.2.2.2.1)).right := by kernel_rfl
theorem fr44_1_ok (k : Nat) (f44 : ((Tree (Int × (Int × (Int × (Int × (ByteArray × Unit)))))) → ((List (ByteArray × ((Tree (Int × (Int × (Int × (ByteArray × Unit))))) × Unit))) × ((List (Int × (Int × ((Tree (Int × (Int × (Int × (Int × (ByteArray × Unit)))))) × ((Tree (Int × (Int × (Int × (Int × (ByteArray × Unit)))))) × Unit))))) × Unit)) → Option ((((List Int) × ((List Int) × ((List Int) × ((List (Int × (Int × (Int × Unit)))) × (Int × Unit))))) × Unit) × Unit))) (h44 : Callable Try.prog 44 ∧ Valid Try.prog 44 (rs44 f44)) : FragOK Try.prog lim44 (fr44_1 k f44) (codeAt (bodyOf Try.f44) [.r, .r, .r, .l, .r, .s]) :=
  frag_cast (by kernel_rfl) (loop_ok (cfg44_ok k f44 h44) (Eq.mpr (pq44_1 k f44) (planOK_go _)) (fun m v => F44_1 k f44 m v.1.1 v.2.1 v.2.2.1 v.2.2.2.1 v.2.2.2.2.1) k (fun _ => rfl) (fun _ => rfl) fun m v => ⟨ps44_1 k f44 m v, pe44_1 k f44 m v⟩)
def pl44 (k : Nat) (f44 : ((Tree (Int × (Int × (Int × (Int × (ByteArray × Unit)))))) → ((List (ByteArray × ((Tree (Int × (Int × (Int × (ByteArray × Unit))))) × Unit))) × ((List (Int × (Int × ((Tree (Int × (Int × (Int × (Int × (ByteArray × Unit)))))) × ((Tree (Int × (Int × (Int × (Int × (ByteArray × Unit)))))) × Unit))))) × Unit)) → Option ((((List Int) × ((List Int) × ((List Int) × ((List (Int × (Int × (Int × Unit)))) × (Int × Unit))))) × Unit) × Unit))) : Plan := (.seq .go (.seq (.seq .go (.sub (.seq .go (.seq .go (.seq .go (.seq .go (.seq .go (.seq .go (.seq .go (.seq .go (.seq .go (.seq .go (.seq .go (.seq (.seq .go (.seq .go (.seq (.seq .go (.sub (.frag (fr44_0 k f44)))) .go))) .go)))))))))))))) (.seq .go (.seq (.seq .go (.sub (.frag (fr44_1 k f44)))) .go))))
theorem pq44 (k : Nat) (f44 : ((Tree (Int × (Int × (Int × (Int × (ByteArray × Unit)))))) → ((List (ByteArray × ((Tree (Int × (Int × (Int × (ByteArray × Unit))))) × Unit))) × ((List (Int × (Int × ((Tree (Int × (Int × (Int × (Int × (ByteArray × Unit)))))) × ((Tree (Int × (Int × (Int × (Int × (ByteArray × Unit)))))) × Unit))))) × Unit)) → Option ((((List Int) × ((List Int) × ((List Int) × ((List (Int × (Int × (Int × Unit)))) × (Int × Unit))))) × Unit) × Unit))) : PlanOK Try.prog lim44 (pl44 k f44) (codeAt (bodyOf Try.f44) []) = (PlanOK Try.prog lim44 .go (codeAt (bodyOf Try.f44) [.l]) ∧ ((PlanOK Try.prog lim44 .go (codeAt (bodyOf Try.f44) [.r, .l, .l]) ∧ (PlanOK Try.prog lim44 .go (codeAt (bodyOf Try.f44) [.r, .l, .r, .s, .l]) ∧ (PlanOK Try.prog lim44 .go (codeAt (bodyOf Try.f44) [.r, .l, .r, .s, .r, .l]) ∧ (PlanOK Try.prog lim44 .go (codeAt (bodyOf Try.f44) [.r, .l, .r, .s, .r, .r, .l]) ∧ (PlanOK Try.prog lim44 .go (codeAt (bodyOf Try.f44) [.r, .l, .r, .s, .r, .r, .r, .l]) ∧ (PlanOK Try.prog lim44 .go (codeAt (bodyOf Try.f44) [.r, .l, .r, .s, .r, .r, .r, .r, .l]) ∧ (PlanOK Try.prog lim44 .go (codeAt (bodyOf Try.f44) [.r, .l, .r, .s, .r, .r, .r, .r, .r, .l]) ∧ (PlanOK Try.prog lim44 .go (codeAt (bodyOf Try.f44) [.r, .l, .r, .s, .r, .r, .r, .r, .r, .r, .l]) ∧ (PlanOK Try.prog lim44 .go (codeAt (bodyOf Try.f44) [.r, .l, .r, .s, .r, .r, .r, .r, .r, .r, .r, .l]) ∧ (PlanOK Try.prog lim44 .go (codeAt (bodyOf Try.f44) [.r, .l, .r, .s, .r, .r, .r, .r, .r, .r, .r, .r, .l]) ∧ (PlanOK Try.prog lim44 .go (codeAt (bodyOf Try.f44) [.r, .l, .r, .s, .r, .r, .r, .r, .r, .r, .r, .r, .r, .l]) ∧ (PlanOK Try.prog lim44 .go (codeAt (bodyOf Try.f44) [.r, .l, .r, .s, .r, .r, .r, .r, .r, .r, .r, .r, .r, .r, .l]) ∧ ((PlanOK Try.prog lim44 .go (codeAt (bodyOf Try.f44) [.r, .l, .r, .s, .r, .r, .r, .r, .r, .r, .r, .r, .r, .r, .r, .l, .l]) ∧ (PlanOK Try.prog lim44 .go (codeAt (bodyOf Try.f44) [.r, .l, .r, .s, .r, .r, .r, .r, .r, .r, .r, .r, .r, .r, .r, .l, .r, .l]) ∧ ((PlanOK Try.prog lim44 .go (codeAt (bodyOf Try.f44) [.r, .l, .r, .s, .r, .r, .r, .r, .r, .r, .r, .r, .r, .r, .r, .l, .r, .r, .l, .l]) ∧ FragOK Try.prog lim44 (fr44_0 k f44) (codeAt (bodyOf Try.f44) [.r, .l, .r, .s, .r, .r, .r, .r, .r, .r, .r, .r, .r, .r, .r, .l, .r, .r, .l, .r, .s])) ∧ PlanOK Try.prog lim44 .go (codeAt (bodyOf Try.f44) [.r, .l, .r, .s, .r, .r, .r, .r, .r, .r, .r, .r, .r, .r, .r, .l, .r, .r, .r])))) ∧ PlanOK Try.prog lim44 .go (codeAt (bodyOf Try.f44) [.r, .l, .r, .s, .r, .r, .r, .r, .r, .r, .r, .r, .r, .r, .r, .r])))))))))))))) ∧ (PlanOK Try.prog lim44 .go (codeAt (bodyOf Try.f44) [.r, .r, .l]) ∧ ((PlanOK Try.prog lim44 .go (codeAt (bodyOf Try.f44) [.r, .r, .r, .l, .l]) ∧ FragOK Try.prog lim44 (fr44_1 k f44) (codeAt (bodyOf Try.f44) [.r, .r, .r, .l, .r, .s])) ∧ PlanOK Try.prog lim44 .go (codeAt (bodyOf Try.f44) [.r, .r, .r, .r]))))) := by kernel_rfl
theorem ev44 (k : Nat) (f44 : ((Tree (Int × (Int × (Int × (Int × (ByteArray × Unit)))))) → ((List (ByteArray × ((Tree (Int × (Int × (Int × (ByteArray × Unit))))) × Unit))) × ((List (Int × (Int × ((Tree (Int × (Int × (Int × (Int × (ByteArray × Unit)))))) × ((Tree (Int × (Int × (Int × (Int × (ByteArray × Unit)))))) × Unit))))) × Unit)) → Option ((((List Int) × ((List Int) × ((List Int) × ((List (Int × (Int × (Int × Unit)))) × (Int × Unit))))) × Unit) × Unit))) (x : AT (sb44 k f44).ps) : (sb44 k f44).impl x = (fnT Try.prog (cfg44 k f44) lim44 Try.f44 (bodyOf Try.f44) (pl44 k f44) (sb44 k f44) x).eval := by kernel_rfl
theorem eq44 (k : Nat) (f44 : ((Tree (Int × (Int × (Int × (Int × (ByteArray × Unit)))))) → ((List (ByteArray × ((Tree (Int × (Int × (Int × (ByteArray × Unit))))) × Unit))) × ((List (Int × (Int × ((Tree (Int × (Int × (Int × (Int × (ByteArray × Unit)))))) × ((Tree (Int × (Int × (Int × (Int × (ByteArray × Unit)))))) × Unit))))) × Unit)) → Option ((((List Int) × ((List Int) × ((List Int) × ((List (Int × (Int × (Int × Unit)))) × (Int × Unit))))) × Unit) × Unit))) (x : AT (sb44 k f44).ps) : (fnT Try.prog (cfg44 k f44) lim44 Try.f44 (bodyOf Try.f44) (pl44 k f44) (sb44 k f44) x).left = (fnT Try.prog (cfg44 k f44) lim44 Try.f44 (bodyOf Try.f44) (pl44 k f44) (sb44 k f44) x).right := by kernel_rfl
theorem b44 (k : Nat) (f44 : ((Tree (Int × (Int × (Int × (Int × (ByteArray × Unit)))))) → ((List (ByteArray × ((Tree (Int × (Int × (Int × (ByteArray × Unit))))) × Unit))) × ((List (Int × (Int × ((Tree (Int × (Int × (Int × (Int × (ByteArray × Unit)))))) × ((Tree (Int × (Int × (Int × (Int × (ByteArray × Unit)))))) × Unit))))) × Unit)) → Option ((((List Int) × ((List Int) × ((List Int) × ((List (Int × (Int × (Int × Unit)))) × (Int × Unit))))) × Unit) × Unit))) (h44 : Callable Try.prog 44 ∧ Valid Try.prog 44 (rs44 f44)) : Callable Try.prog 44 ∧ Valid Try.prog 44 (sb44 k f44) :=
  fn_ok (cfg44_ok k f44 h44) (f := 44) (fn := Try.f44) (by kernel_rfl) (c := bodyOf Try.f44) (by kernel_rfl) (by kernel_rfl) rfl rfl (Nat.le_of_ble_eq_true rfl) (Nat.le_of_ble_eq_true rfl) (p := pl44 k f44) (Eq.mpr (pq44 k f44) ⟨(planOK_go _), ⟨⟨(planOK_go _), ⟨(planOK_go _), ⟨(planOK_go _), ⟨(planOK_go _), ⟨(planOK_go _), ⟨(planOK_go _), ⟨(planOK_go _), ⟨(planOK_go _), ⟨(planOK_go _), ⟨(planOK_go _), ⟨(planOK_go _), ⟨(planOK_go _), ⟨⟨(planOK_go _), ⟨(planOK_go _), ⟨⟨(planOK_go _), (fr44_0_ok k f44 h44)⟩, (planOK_go _)⟩⟩⟩, (planOK_go _)⟩⟩⟩⟩⟩⟩⟩⟩⟩⟩⟩⟩⟩, ⟨(planOK_go _), ⟨⟨(planOK_go _), (fr44_1_ok k f44 h44)⟩, (planOK_go _)⟩⟩⟩⟩) fun x => ⟨ev44 k f44 x, eq44 k f44 x⟩
def R44 : Nat → ((Tree (Int × (Int × (Int × (Int × (ByteArray × Unit)))))) → ((List (ByteArray × ((Tree (Int × (Int × (Int × (ByteArray × Unit))))) × Unit))) × ((List (Int × (Int × ((Tree (Int × (Int × (Int × (Int × (ByteArray × Unit)))))) × ((Tree (Int × (Int × (Int × (Int × (ByteArray × Unit)))))) × Unit))))) × Unit)) → Option ((((List Int) × ((List Int) × ((List Int) × ((List (Int × (Int × (Int × Unit)))) × (Int × Unit))))) × Unit) × Unit))
  | 0 => fun _ _ => none
  | k + 1 => B44 k (R44 k)
def F44 (k : Nat) (a0_ : (Tree (Int × (Int × (Int × (Int × (ByteArray × Unit))))))) (a1_ : ((List (ByteArray × ((Tree (Int × (Int × (Int × (ByteArray × Unit))))) × Unit))) × ((List (Int × (Int × ((Tree (Int × (Int × (Int × (Int × (ByteArray × Unit)))))) × ((Tree (Int × (Int × (Int × (Int × (ByteArray × Unit)))))) × Unit))))) × Unit))) : Option ((((List Int) × ((List Int) × ((List Int) × ((List (Int × (Int × (Int × Unit)))) × (Int × Unit))))) × Unit) × Unit) := (R44 k) a0_ a1_
def sp44 (k : Nat) : Spec := ⟨[.val (.tree 49 (.pair (.int .i64) (.pair (.int .i64) (.pair (.int .i64) (.pair (.int .i64) (.pair .str .unit)))))), .val (.pair (.sl false 89 (.pair .str (.pair (.tree 86 (.pair (.int .i64) (.pair (.int .i64) (.pair (.int .i64) (.pair .str .unit))))) .unit)) none) (.pair (.sl false 133 (.pair (.int .i64) (.pair (.int .i64) (.pair (.tree 49 (.pair (.int .i64) (.pair (.int .i64) (.pair (.int .i64) (.pair (.int .i64) (.pair .str .unit)))))) (.pair (.tree 49 (.pair (.int .i64) (.pair (.int .i64) (.pair (.int .i64) (.pair (.int .i64) (.pair .str .unit)))))) .unit)))) none) .unit))], [.own (.pair (.sl true 3 (.int .i64) none) (.pair (.sl true 3 (.int .i64) none) (.pair (.sl true 3 (.int .i64) none) (.pair (.sl true 43 (.pair (.int .i64) (.pair (.int .i64) (.pair (.int .i64) .unit))) none) (.pair (.int .i64) .unit)))))], fun x => F44 k x.1 x.2.1⟩
theorem r44 (k : Nat) : (Callable Try.prog 44 ∧ Valid Try.prog 44 (rs44 (R44 k))) := by
  induction k with
  | zero => exact ⟨⟨Try.f44, by kernel_rfl, by kernel_rfl, by kernel_rfl⟩, fun x r h => by cases (show (none : Option _) = some r from h)⟩
  | succ k ih => exact b44 k (R44 k) ih
theorem v44 (k : Nat) : Callable Try.prog 44 ∧ Valid Try.prog 44 (sp44 k) := (r44 k)
/-! f22 hyphen/hyphenref7.Make -/
def F22 (k : Nat) (a0 : (Tree (Int × (Int × (Int × (Int × (ByteArray × Unit))))))) (a1 : ((List (ByteArray × ((Tree (Int × (Int × (Int × (ByteArray × Unit))))) × Unit))) × ((List (Int × (Int × ((Tree (Int × (Int × (Int × (Int × (ByteArray × Unit)))))) × ((Tree (Int × (Int × (Int × (Int × (ByteArray × Unit)))))) × Unit))))) × Unit))) : Option ((((List Int) × ((List Int) × ((List Int) × ((List (Int × (Int × (Int × Unit)))) × (Int × Unit))))) × Bool × Unit) × Unit) :=
  let x1 := (Tree.mk ((Tree.a a0).1, ((Tree.a a0).2.1, ((Tree.a a0).2.2.1, ((Tree.a a0).2.2.2.1, ((Tree.a a0).2.2.2.2.1, ()))))) (Tree.l a0))
  (F43 k x1).bind fun r2 =>
  bif (decide (r2.1.1 > (120 : Int))) then
    some (((([] : (List Int)), (([] : (List Int)), (([] : (List Int)), (([] : (List (Int × (Int × (Int × Unit))))), ((0 : Int), ()))))), false, ()), ())
  else
    let x3 := (Tree.mk ((Tree.a a0).1, ((Tree.a a0).2.1, ((Tree.a a0).2.2.1, ((Tree.a a0).2.2.2.1, ((Tree.a a0).2.2.2.2.1, ()))))) (Tree.l a0))
    (F44 k x3 a1).bind fun r4 =>
    some ((r4.1.1, true, ()), ())
def sp22 (k : Nat) : Spec := ⟨[.val (.tree 49 (.pair (.int .i64) (.pair (.int .i64) (.pair (.int .i64) (.pair (.int .i64) (.pair .str .unit)))))), .val (.pair (.sl false 89 (.pair .str (.pair (.tree 86 (.pair (.int .i64) (.pair (.int .i64) (.pair (.int .i64) (.pair .str .unit))))) .unit)) none) (.pair (.sl false 133 (.pair (.int .i64) (.pair (.int .i64) (.pair (.tree 49 (.pair (.int .i64) (.pair (.int .i64) (.pair (.int .i64) (.pair (.int .i64) (.pair .str .unit)))))) (.pair (.tree 49 (.pair (.int .i64) (.pair (.int .i64) (.pair (.int .i64) (.pair (.int .i64) (.pair .str .unit)))))) .unit)))) none) .unit))], [.own (.pair (.sl true 3 (.int .i64) none) (.pair (.sl true 3 (.int .i64) none) (.pair (.sl true 3 (.int .i64) none) (.pair (.sl true 43 (.pair (.int .i64) (.pair (.int .i64) (.pair (.int .i64) .unit))) none) (.pair (.int .i64) .unit))))), .val .bool], fun x => F22 k x.1 x.2.1⟩
def lim22 : Lim := ⟨13, 2, false, false, []⟩
def cfg22 (k : Nat) : Nat → Option Spec := cfgL [(43, sp43 k), (44, sp44 k)]
theorem cfg22_ok (k : Nat) : CfgOK Try.prog (cfg22 k) := cfgL_cons (v43 k) (cfgL_cons (v44 k) (cfgL_nil))
def pl22 (k : Nat) : Plan := .go
theorem pq22 (k : Nat) : PlanOK Try.prog lim22 (pl22 k) (codeAt (bodyOf Try.f22) []) = PlanOK Try.prog lim22 .go (codeAt (bodyOf Try.f22) []) := by kernel_rfl
theorem ev22 (k : Nat) (x : AT (sp22 k).ps) : (sp22 k).impl x = (fnT Try.prog (cfg22 k) lim22 Try.f22 (bodyOf Try.f22) (pl22 k) (sp22 k) x).eval := by kernel_rfl
theorem eq22 (k : Nat) (x : AT (sp22 k).ps) : (fnT Try.prog (cfg22 k) lim22 Try.f22 (bodyOf Try.f22) (pl22 k) (sp22 k) x).left = (fnT Try.prog (cfg22 k) lim22 Try.f22 (bodyOf Try.f22) (pl22 k) (sp22 k) x).right := by kernel_rfl
theorem v22 (k : Nat) : Callable Try.prog 22 ∧ Valid Try.prog 22 (sp22 k) :=
  fn_ok (cfg22_ok k) (f := 22) (fn := Try.f22) (by kernel_rfl) (c := bodyOf Try.f22) (by kernel_rfl) (by kernel_rfl) rfl rfl (Nat.le_of_ble_eq_true rfl) (Nat.le_of_ble_eq_true rfl) (p := pl22 k) (Eq.mpr (pq22 k) (planOK_go _)) fun x => ⟨ev22 k x, eq22 k x⟩
/-! f66 hyphen/hyphenref3.sorted -/
def F66_0 (k : Nat) : Nat → (List (Int × (Int × Unit))) → Int → Int → (Int × (Int × Unit)) → Option ((((List (Int × (Int × Unit))) × Int × Int × Unit) × ((Int × (Int × Unit)) × Unit)))
  | 0, _, _, _, _ => none
  | n + 1, t0, t4, t6, c5 =>
    bif (decide (t6 > (0 : Int))) then
      none
    else
      some ((t0, t4, t6, ()), (c5, ()))
def fr66_0 (k : Nat) : Frag := ⟨⟨[], [(0, .val (.sl false 113 (.pair (.int .i64) (.pair (.int .i64) .unit)) none)), (3, .nilS), (4, .val (.int .i64)), (5, .ptr 5 []), (6, .val (.int .i64))], [(5, some 113, (.pair (.int .i64) (.pair (.int .i64) .unit)))]⟩, [(.exit 2, ⟨[], [(0, .val (.sl false 113 (.pair (.int .i64) (.pair (.int .i64) .unit)) none)), (3, .nilS), (4, .val (.int .i64)), (5, .ptr 5 []), (6, .val (.int .i64))], [(5, some 113, (.pair (.int .i64) (.pair (.int .i64) .unit)))]⟩)], fun v => F66_0 k k v.1.1 v.1.2.1 v.1.2.2.1 v.2.1⟩
def F66_1 (k : Nat) : Nat → (List (Int × (Int × Unit))) → Int → Option ((Unit × Unit))
  | 0, _, _ => none
  | n + 1, t0, t4 =>
    let x11 := (decide (t4 < ((List.length t0 : Nat) : Int)))
    bif x11 then
      if 0 ≤ t4 ∧ t4 < ((List.length t0 : Nat) : Int) then
        let x12 := (List.getD t0 (Int.toNat t4) ((0 : Int), ((0 : Int), ())))
        if 0 ≤ t4 ∧ t4 < ((List.length t0 : Nat) : Int) then
          let x13 := (List.getD t0 (Int.toNat t4) ((0 : Int), ((0 : Int), ())))
          let x14 := (decide ((maxI x12.1 (0 : Int)) > (minI x13.2.1 (1114111 : Int))))
          bif x14 then
            (F66_1 k n t0 (IntKind.wrap .i64 (t4 + (1 : Int)))).bind some
          else
            (F66_0 k k t0 t4 (0 : Int) ((maxI x12.1 (0 : Int)), ((minI x13.2.1 (1114111 : Int)), ()))).bind fun r15 =>
            let y18 := r15.1.2.2.1
            if 0 ≤ (0 : Int) ∧ (0 : Int) ≤ y18 ∧ y18 ≤ 0 then
              if 0 ≤ y18 ∧ y18 ≤ (0 : Int) ∧ (0 : Int) ≤ 0 then
                none
              else none
            else none
        else none
      else none
    else
      some ((), ())
def fr66_1 (k : Nat) : Frag := ⟨⟨[], [(0, .val (.sl false 113 (.pair (.int .i64) (.pair (.int .i64) .unit)) none)), (3, .nilS), (4, .val (.int .i64))], []⟩, [(.exit 0, ⟨[], [(3, .nilS)], []⟩)], fun v => F66_1 k k v.1.1 v.1.2.1⟩
def F66 (k : Nat) (a0 : (List (Int × (Int × Unit)))) : Option (((List (Int × (Int × Unit))) × Unit) × Unit) :=
  (F66_1 k k a0 (0 : Int)).bind fun r21 =>
  some (([], ()), ())
def sp66 (k : Nat) : Spec := ⟨[.val (.sl false 113 (.pair (.int .i64) (.pair (.int .i64) .unit)) none)], [.own (.sl true 113 (.pair (.int .i64) (.pair (.int .i64) .unit)) none)], fun x => F66 k x.1⟩
def lim66 : Lim := ⟨61, 1, false, false, []⟩
def cfg66 (k : Nat) : Nat → Option Spec := cfgL []
theorem cfg66_ok (k : Nat) : CfgOK Try.prog (cfg66 k) := cfgL_nil
def pl66_0 (k : Nat) : Plan := .go
theorem pq66_0 (k : Nat) : PlanOK Try.prog lim66 (pl66_0 k) (codeAt (bodyOf Try.f66) [.r, .r, .l, .r, .s, .b, .r, .l, .s, .r, .r, .r, .l, .s, .b]) = PlanOK Try.prog lim66 .go (codeAt (bodyOf Try.f66) [.r, .r, .l, .r, .s, .b, .r, .l, .s, .r, .r, .r, .l, .s, .b]) := by kernel_rfl
theorem ps66_0 (k m : Nat) (v : (fr66_0 k).sh.V) : F66_0 k (m + 1) v.1.1 v.1.2.1 v.1.2.2.1 v.2.1 = (body Try.prog (stepper Try.prog (cfg66 k) lim66) (pl66_0 k) (codeAt (bodyOf Try.f66) [.r, .r, .l, .r, .s, .b, .r, .l, .s, .r, .r, .r, .l, .s, .b]) ((fr66_0 k).sh.st v) (loopK (fr66_0 k) fun v => F66_0 k m v.1.1 v.1.2.1 v.1.2.2.1 v.2.1)).eval := by kernel_rfl
theorem pe66_0 (k m : Nat) (v : (fr66_0 k).sh.V) : (body Try.prog (stepper Try.prog (cfg66 k) lim66) (pl66_0 k) (codeAt (bodyOf Try.f66) [.r, .r, .l, .r, .s, .b, .r, .l, .s, .r, .r, .r, .l, .s, .b]) ((fr66_0 k).sh.st v) (loopK (fr66_0 k) fun v => F66_0 k m v.1.1 v.1.2.1 v.1.2.2.1 v.2.1)).left = (body Try.prog (stepper Try.prog (cfg66 k) lim66) (pl66_0 k) (codeAt (bodyOf Try.f66) [.r, .r, .l, .r, .s, .b, .r, .l, .s, .r, .r, .r, .l, .s, .b]) ((fr66_0 k).sh.st v) (loopK (fr66_0 k) fun v => F66_0 k m v.1.1 v.1.2.1 v.1.2.2.1 v.2.1)).right := by kernel_rfl
theorem fr66_0_ok (k : Nat) : FragOK Try.prog lim66 (fr66_0 k) (codeAt (bodyOf Try.f66) [.r, .r, .l, .r, .s, .b, .r, .l, .s, .r, .r, .r, .l, .s]) :=
  frag_cast (by kernel_rfl) (loop_ok (cfg66_ok k) (Eq.mpr (pq66_0 k) (planOK_go _)) (fun m v => F66_0 k m v.1.1 v.1.2.1 v.1.2.2.1 v.2.1) k (fun _ => rfl) (fun _ => rfl) fun m v => ⟨ps66_0 k m v, pe66_0 k m v⟩)
def pl66_1 (k : Nat) : Plan := (.seq .go (.seq (.sub (.seq .go (.seq .go (.seq .go (.seq (.sub (.frag (fr66_0 k))) .go))))) .go))
theorem pq66_1 (k : Nat) : PlanOK Try.prog lim66 (pl66_1 k) (codeAt (bodyOf Try.f66) [.r, .r, .l, .r, .s, .b]) = (PlanOK Try.prog lim66 .go (codeAt (bodyOf Try.f66) [.r, .r, .l, .r, .s, .b, .l]) ∧ ((PlanOK Try.prog lim66 .go (codeAt (bodyOf Try.f66) [.r, .r, .l, .r, .s, .b, .r, .l, .s, .l]) ∧ (PlanOK Try.prog lim66 .go (codeAt (bodyOf Try.f66) [.r, .r, .l, .r, .s, .b, .r, .l, .s, .r, .l]) ∧ (PlanOK Try.prog lim66 .go (codeAt (bodyOf Try.f66) [.r, .r, .l, .r, .s, .b, .r, .l, .s, .r, .r, .l]) ∧ (FragOK Try.prog lim66 (fr66_0 k) (codeAt (bodyOf Try.f66) [.r, .r, .l, .r, .s, .b, .r, .l, .s, .r, .r, .r, .l, .s]) ∧ PlanOK Try.prog lim66 .go (codeAt (bodyOf Try.f66) [.r, .r, .l, .r, .s, .b, .r, .l, .s, .r, .r, .r, .r]))))) ∧ PlanOK Try.prog lim66 .go (codeAt (bodyOf Try.f66) [.r, .r, .l, .r, .s, .b, .r, .r]))) := by kernel_rfl
theorem ps66_1 (k m : Nat) (v : (fr66_1 k).sh.V) : F66_1 k (m + 1) v.1.1 v.1.2.1 = (body Try.prog (stepper Try.prog (cfg66 k) lim66) (pl66_1 k) (codeAt (bodyOf Try.f66) [.r, .r, .l, .r, .s, .b]) ((fr66_1 k).sh.st v) (loopK (fr66_1 k) fun v => F66_1 k m v.1.1 v.1.2.1)).eval := by kernel_rfl
theorem pe66_1 (k m : Nat) (v : (fr66_1 k).sh.V) : (body Try.prog (stepper Try.prog (cfg66 k) lim66) (pl66_1 k) (codeAt (bodyOf Try.f66) [.r, .r, .l, .r, .s, .b]) ((fr66_1 k).sh.st v) (loopK (fr66_1 k) fun v => F66_1 k m v.1.1 v.1.2.1)).left = (body Try.prog (stepper Try.prog (cfg66 k) lim66) (pl66_1 k) (codeAt (bodyOf Try.f66) [.r, .r, .l, .r, .s, .b]) ((fr66_1 k).sh.st v) (loopK (fr66_1 k) fun v => F66_1 k m v.1.1 v.1.2.1)).right := by kernel_rfl
theorem fr66_1_ok (k : Nat) : FragOK Try.prog lim66 (fr66_1 k) (codeAt (bodyOf Try.f66) [.r, .r, .l, .r, .s]) :=
  frag_cast (by kernel_rfl) (loop_ok (cfg66_ok k) (Eq.mpr (pq66_1 k) ⟨(planOK_go _), ⟨⟨(planOK_go _), ⟨(planOK_go _), ⟨(planOK_go _), ⟨(fr66_0_ok k), (planOK_go _)⟩⟩⟩⟩, (planOK_go _)⟩⟩) (fun m v => F66_1 k m v.1.1 v.1.2.1) k (fun _ => rfl) (fun _ => rfl) fun m v => ⟨ps66_1 k m v, pe66_1 k m v⟩)
def pl66 (k : Nat) : Plan := (.seq .go (.seq .go (.seq (.seq .go (.sub (.frag (fr66_1 k)))) .go)))
theorem pq66 (k : Nat) : PlanOK Try.prog lim66 (pl66 k) (codeAt (bodyOf Try.f66) []) = (PlanOK Try.prog lim66 .go (codeAt (bodyOf Try.f66) [.l]) ∧ (PlanOK Try.prog lim66 .go (codeAt (bodyOf Try.f66) [.r, .l]) ∧ ((PlanOK Try.prog lim66 .go (codeAt (bodyOf Try.f66) [.r, .r, .l, .l]) ∧ FragOK Try.prog lim66 (fr66_1 k) (codeAt (bodyOf Try.f66) [.r, .r, .l, .r, .s])) ∧ PlanOK Try.prog lim66 .go (codeAt (bodyOf Try.f66) [.r, .r, .r])))) := by kernel_rfl
theorem ev66 (k : Nat) (x : AT (sp66 k).ps) : (sp66 k).impl x = (fnT Try.prog (cfg66 k) lim66 Try.f66 (bodyOf Try.f66) (pl66 k) (sp66 k) x).eval := by kernel_rfl
theorem eq66 (k : Nat) (x : AT (sp66 k).ps) : (fnT Try.prog (cfg66 k) lim66 Try.f66 (bodyOf Try.f66) (pl66 k) (sp66 k) x).left = (fnT Try.prog (cfg66 k) lim66 Try.f66 (bodyOf Try.f66) (pl66 k) (sp66 k) x).right := by kernel_rfl
theorem v66 (k : Nat) : Callable Try.prog 66 ∧ Valid Try.prog 66 (sp66 k) :=
  fn_ok (cfg66_ok k) (f := 66) (fn := Try.f66) (by kernel_rfl) (c := bodyOf Try.f66) (by kernel_rfl) (by kernel_rfl) rfl rfl (Nat.le_of_ble_eq_true rfl) (Nat.le_of_ble_eq_true rfl) (p := pl66 k) (Eq.mpr (pq66 k) ⟨(planOK_go _), ⟨(planOK_go _), ⟨⟨(planOK_go _), (fr66_1_ok k)⟩, (planOK_go _)⟩⟩⟩) fun x => ⟨ev66 k x, eq66 k x⟩
/-! f59 hyphen/hyphenref3.Norm -/
def F59_0 (k : Nat) : Nat → Int → (List (Int × (Int × Unit))) → (List (Int × (Int × Unit))) → Option ((Unit × ((List (Int × (Int × Unit))) × Unit)))
  | 0, _, _, _ => none
  | n + 1, t5, c1000128, c2000003 =>
    let x2 := (decide (t5 < ((List.length c1000128 : Nat) : Int)))
    bif x2 then
      let x3 := (IntKind.wrap .i64 (((List.length c2000003 : Nat) : Int) - (1 : Int)))
      bif (decide (x3 ≥ (0 : Int))) then
        if 0 ≤ t5 ∧ t5 < ((List.length c1000128 : Nat) : Int) then
          let x4 := (List.getD c1000128 (Int.toNat t5) ((0 : Int), ((0 : Int), ()))).1
          if 0 ≤ x3 ∧ x3 < ((List.length c2000003 : Nat) : Int) then
            let x5 := (List.getD c2000003 (Int.toNat x3) ((0 : Int), ((0 : Int), ()))).2.1
            let x6 := (decide (x4 ≤ (IntKind.wrap .i64 (x5 + (1 : Int)))))
            bif x6 then
              if 0 ≤ x3 ∧ x3 < ((List.length c2000003 : Nat) : Int) then
                let x7 := (List.getD c2000003 (Int.toNat x3) ((0 : Int), ((0 : Int), ()))).2.1
                if 0 ≤ t5 ∧ t5 < ((List.length c1000128 : Nat) : Int) then
                  let x8 := (List.getD c1000128 (Int.toNat t5) ((0 : Int), ((0 : Int), ()))).2.1
                  if 0 ≤ x3 ∧ x3 < ((List.length c2000003 : Nat) : Int) then
                    let x9 := (List.set c2000003 (Int.toNat x3) ((List.getD c2000003 (Int.toNat x3) ((0 : Int), ((0 : Int), ()))).1, ((maxI x7 x8), (List.getD c2000003 (Int.toNat x3) ((0 : Int), ((0 : Int), ()))).2.2)))
                    (F59_0 k n (IntKind.wrap .i64 (t5 + (1 : Int))) c1000128 x9).bind some
                  else none
                else none
              else none
            else
              if 0 ≤ t5 ∧ t5 < ((List.length c1000128 : Nat) : Int) then
                let x10 := (List.getD c1000128 (Int.toNat t5) ((0 : Int), ((0 : Int), ())))
                let x11 := (List.set (List.replicate 1 ((0 : Int), ((0 : Int), ()))) 0 x10)
                if (List.length c2000003 + List.length x11) * (16 * 2) ≤ 281474976710656 ∧ List.length c2000003 + List.length x11 ≤ 9223372036854775807 then
                  (F59_0 k n (IntKind.wrap .i64 (t5 + (1 : Int))) c1000128 (c2000003 ++ x11)).bind some
                else none
              else none
          else none
        else none
      else
        if 0 ≤ t5 ∧ t5 < ((List.length c1000128 : Nat) : Int) then
          let x12 := (List.getD c1000128 (Int.toNat t5) ((0 : Int), ((0 : Int), ())))
          let x13 := (List.set (List.replicate 1 ((0 : Int), ((0 : Int), ()))) 0 x12)
          if (List.length c2000003 + List.length x13) * (16 * 2) ≤ 281474976710656 ∧ List.length c2000003 + List.length x13 ≤ 9223372036854775807 then
            (F59_0 k n (IntKind.wrap .i64 (t5 + (1 : Int))) c1000128 (c2000003 ++ x13)).bind some
          else none
        else none
    else
      some ((), (c2000003, ()))
def fr59_0 (k : Nat) : Frag := ⟨⟨[(3, (.sl true 113 (.pair (.int .i64) (.pair (.int .i64) .unit)) none))], [(3, .at 2000003 []), (4, .at 1000128 []), (5, .val (.int .i64))], [(1000128, none, (.sl true 113 (.pair (.int .i64) (.pair (.int .i64) .unit)) none)), (2000003, none, (.sl true 113 (.pair (.int .i64) (.pair (.int .i64) .unit)) none))]⟩, [(.exit 0, ⟨[(3, (.sl true 113 (.pair (.int .i64) (.pair (.int .i64) .unit)) none))], [(3, .at 2000003 [])], [(2000003, none, (.sl true 113 (.pair (.int .i64) (.pair (.int .i64) .unit)) none))]⟩)], fun v => F59_0 k k v.1.1 v.2.1 v.2.2.1⟩
def F59 (k : Nat) (a0 : (List (Int × (Int × Unit)))) : Option (((List (Int × (Int × Unit))) × Unit) × Unit) :=
  (F66 k a0).bind fun r1 =>
  (F59_0 k k (0 : Int) r1.1.1 []).bind fun r14 =>
  let y15 := r14.2.1
  some ((y15, ()), ())
def sp59 (k : Nat) : Spec := ⟨[.val (.sl false 113 (.pair (.int .i64) (.pair (.int .i64) .unit)) none)], [.own (.sl true 113 (.pair (.int .i64) (.pair (.int .i64) .unit)) none)], fun x => F59 k x.1⟩
def lim59 : Lim := ⟨57, 1, false, false, []⟩
def cfg59 (k : Nat) : Nat → Option Spec := cfgL [(66, sp66 k)]
theorem cfg59_ok (k : Nat) : CfgOK Try.prog (cfg59 k) := cfgL_cons (v66 k) (cfgL_nil)
def pl59_0 (k : Nat) : Plan := .go
theorem pq59_0 (k : Nat) : PlanOK Try.prog lim59 (pl59_0 k) (codeAt (bodyOf Try.f59) [.r, .r, .r, .l, .r, .s, .b]) = PlanOK Try.prog lim59 .go (codeAt (bodyOf Try.f59) [.r, .r, .r, .l, .r, .s, .b]) := by kernel_rfl
theorem ps59_0 (k m : Nat) (v : (fr59_0 k).sh.V) : F59_0 k (m + 1) v.1.1 v.2.1 v.2.2.1 = (body Try.prog (stepper Try.prog (cfg59 k) lim59) (pl59_0 k) (codeAt (bodyOf Try.f59) [.r, .r, .r, .l, .r, .s, .b]) ((fr59_0 k).sh.st v) (loopK (fr59_0 k) fun v => F59_0 k m v.1.1 v.2.1 v.2.2.1)).eval := by kernel_rfl
theorem pe59_0 (k m : Nat) (v : (fr59_0 k).sh.V) : (body Try.prog (stepper Try.prog (cfg59 k) lim59) (pl59_0 k) (codeAt (bodyOf Try.f59) [.r, .r, .r, .l, .r, .s, .b]) ((fr59_0 k).sh.st v) (loopK (fr59_0 k) fun v => F59_0 k m v.1.1 v.2.1 v.2.2.1)).left = (body Try.prog (stepper Try.prog (cfg59 k) lim59) (pl59_0 k) (codeAt (bodyOf Try.f59) [.r, .r, .r, .l, .r, .s, .b]) ((fr59_0 k).sh.st v) (loopK (fr59_0 k) fun v => F59_0 k m v.1.1 v.2.1 v.2.2.1)).right := by kernel_rfl
theorem fr59_0_ok (k : Nat) : FragOK Try.prog lim59 (fr59_0 k) (codeAt (bodyOf Try.f59) [.r, .r, .r, .l, .r, .s]) :=
  frag_cast (by kernel_rfl) (loop_ok (cfg59_ok k) (Eq.mpr (pq59_0 k) (planOK_go _)) (fun m v => F59_0 k m v.1.1 v.2.1 v.2.2.1) k (fun _ => rfl) (fun _ => rfl) fun m v => ⟨ps59_0 k m v, pe59_0 k m v⟩)
def pl59 (k : Nat) : Plan := (.seq .go (.seq .go (.seq .go (.seq (.seq .go (.sub (.frag (fr59_0 k)))) .go))))
theorem pq59 (k : Nat) : PlanOK Try.prog lim59 (pl59 k) (codeAt (bodyOf Try.f59) []) = (PlanOK Try.prog lim59 .go (codeAt (bodyOf Try.f59) [.l]) ∧ (PlanOK Try.prog lim59 .go (codeAt (bodyOf Try.f59) [.r, .l]) ∧ (PlanOK Try.prog lim59 .go (codeAt (bodyOf Try.f59) [.r, .r, .l]) ∧ ((PlanOK Try.prog lim59 .go (codeAt (bodyOf Try.f59) [.r, .r, .r, .l, .l]) ∧ FragOK Try.prog lim59 (fr59_0 k) (codeAt (bodyOf Try.f59) [.r, .r, .r, .l, .r, .s])) ∧ PlanOK Try.prog lim59 .go (codeAt (bodyOf Try.f59) [.r, .r, .r, .r]))))) := by kernel_rfl
theorem ev59 (k : Nat) (x : AT (sp59 k).ps) : (sp59 k).impl x = (fnT Try.prog (cfg59 k) lim59 Try.f59 (bodyOf Try.f59) (pl59 k) (sp59 k) x).eval := by kernel_rfl
theorem eq59 (k : Nat) (x : AT (sp59 k).ps) : (fnT Try.prog (cfg59 k) lim59 Try.f59 (bodyOf Try.f59) (pl59 k) (sp59 k) x).left = (fnT Try.prog (cfg59 k) lim59 Try.f59 (bodyOf Try.f59) (pl59 k) (sp59 k) x).right := by kernel_rfl
theorem v59 (k : Nat) : Callable Try.prog 59 ∧ Valid Try.prog 59 (sp59 k) :=
  fn_ok (cfg59_ok k) (f := 59) (fn := Try.f59) (by kernel_rfl) (c := bodyOf Try.f59) (by kernel_rfl) (by kernel_rfl) rfl rfl (Nat.le_of_ble_eq_true rfl) (Nat.le_of_ble_eq_true rfl) (p := pl59 k) (Eq.mpr (pq59 k) ⟨(planOK_go _), ⟨(planOK_go _), ⟨(planOK_go _), ⟨⟨(planOK_go _), (fr59_0_ok k)⟩, (planOK_go _)⟩⟩⟩⟩) fun x => ⟨ev59 k x, eq59 k x⟩
/-! f60 hyphen/hyphenref3.Not -/
def F60_0 (k : Nat) : Nat → (List (Int × (Int × Unit))) → Int → Int → (List (Int × (Int × Unit))) → Option (((Int × Unit) × ((List (Int × (Int × Unit))) × Unit)))
  | 0, _, _, _, _ => none
  | n + 1, t0, t4, t5, c2000003 =>
    let x1 := (decide (t5 < ((List.length t0 : Nat) : Int)))
    bif x1 then
      if 0 ≤ t5 ∧ t5 < ((List.length t0 : Nat) : Int) then
        let x2 := (List.getD t0 (Int.toNat t5) ((0 : Int), ((0 : Int), ())))
        let x3 := (List.set (List.replicate 1 ((0 : Int), ((0 : Int), ()))) 0 (t4, ((IntKind.wrap .i64 (x2.1 - (1 : Int))), ())))
        if (List.length c2000003 + List.length x3) * (16 * 2) ≤ 281474976710656 ∧ List.length c2000003 + List.length x3 ≤ 9223372036854775807 then
          if 0 ≤ t5 ∧ t5 < ((List.length t0 : Nat) : Int) then
            let x4 := (List.getD t0 (Int.toNat t5) ((0 : Int), ((0 : Int), ())))
            (F60_0 k n t0 (IntKind.wrap .i64 (x4.2.1 + (1 : Int))) (IntKind.wrap .i64 (t5 + (1 : Int))) (c2000003 ++ x3)).bind some
          else none
        else none
      else none
    else
      some ((t4, ()), (c2000003, ()))
def fr60_0 (k : Nat) : Frag := ⟨⟨[(3, (.sl true 113 (.pair (.int .i64) (.pair (.int .i64) .unit)) none))], [(0, .val (.sl false 113 (.pair (.int .i64) (.pair (.int .i64) .unit)) none)), (3, .at 2000003 []), (4, .val (.int .i64)), (5, .val (.int .i64))], [(2000003, none, (.sl true 113 (.pair (.int .i64) (.pair (.int .i64) .unit)) none))]⟩, [(.exit 0, ⟨[(3, (.sl true 113 (.pair (.int .i64) (.pair (.int .i64) .unit)) none))], [(3, .at 2000003 []), (4, .val (.int .i64))], [(2000003, none, (.sl true 113 (.pair (.int .i64) (.pair (.int .i64) .unit)) none))]⟩)], fun v => F60_0 k k v.1.1 v.1.2.1 v.1.2.2.1 v.2.1⟩
def F60 (k : Nat) (a0 : (List (Int × (Int × Unit)))) : Option (((List (Int × (Int × Unit))) × Unit) × Unit) :=
  (F60_0 k k a0 (0 : Int) (0 : Int) []).bind fun r5 =>
  let y6 := r5.1.1
  let y7 := r5.2.1
  let x8 := (List.set (List.replicate 1 ((0 : Int), ((0 : Int), ()))) 0 (y6, ((1114111 : Int), ())))
  if (List.length y7 + List.length x8) * (16 * 2) ≤ 281474976710656 ∧ List.length y7 + List.length x8 ≤ 9223372036854775807 then
    (F59 k (y7 ++ x8)).bind fun r9 =>
    some ((r9.1.1, ()), ())
  else none
def sp60 (k : Nat) : Spec := ⟨[.val (.sl false 113 (.pair (.int .i64) (.pair (.int .i64) .unit)) none)], [.own (.sl true 113 (.pair (.int .i64) (.pair (.int .i64) .unit)) none)], fun x => F60 k x.1⟩
def lim60 : Lim := ⟨35, 1, false, false, []⟩
def cfg60 (k : Nat) : Nat → Option Spec := cfgL [(59, sp59 k)]
theorem cfg60_ok (k : Nat) : CfgOK Try.prog (cfg60 k) := cfgL_cons (v59 k) (cfgL_nil)
def pl60_0 (k : Nat) : Plan := .go
theorem pq60_0 (k : Nat) : PlanOK Try.prog lim60 (pl60_0 k) (codeAt (bodyOf Try.f60) [.r, .r, .r, .l, .r, .s, .b]) = PlanOK Try.prog lim60 .go (codeAt (bodyOf Try.f60) [.r, .r, .r, .l, .r, .s, .b]) := by kernel_rfl
theorem ps60_0 (k m : Nat) (v : (fr60_0 k).sh.V) : F60_0 k (m + 1) v.1.1 v.1.2.1 v.1.2.2.1 v.2.1 = (body Try.prog (stepper Try.prog (cfg60 k) lim60) (pl60_0 k) (codeAt (bodyOf Try.f60) [.r, .r, .r, .l, .r, .s, .b]) ((fr60_0 k).sh.st v) (loopK (fr60_0 k) fun v => F60_0 k m v.1.1 v.1.2.1 v.1.2.2.1 v.2.1)).eval := by kernel_rfl
theorem pe60_0 (k m : Nat) (v : (fr60_0 k).sh.V) : (body Try.prog (stepper Try.prog (cfg60 k) lim60) (pl60_0 k) (codeAt (bodyOf Try.f60) [.r, .r, .r, .l, .r, .s, .b]) ((fr60_0 k).sh.st v) (loopK (fr60_0 k) fun v => F60_0 k m v.1.1 v.1.2.1 v.1.2.2.1 v.2.1)).left = (body Try.prog (stepper Try.prog (cfg60 k) lim60) (pl60_0 k) (codeAt (bodyOf Try.f60) [.r, .r, .r, .l, .r, .s, .b]) ((fr60_0 k).sh.st v) (loopK (fr60_0 k) fun v => F60_0 k m v.1.1 v.1.2.1 v.1.2.2.1 v.2.1)).right := by kernel_rfl
theorem fr60_0_ok (k : Nat) : FragOK Try.prog lim60 (fr60_0 k) (codeAt (bodyOf Try.f60) [.r, .r, .r, .l, .r, .s]) :=
  frag_cast (by kernel_rfl) (loop_ok (cfg60_ok k) (Eq.mpr (pq60_0 k) (planOK_go _)) (fun m v => F60_0 k m v.1.1 v.1.2.1 v.1.2.2.1 v.2.1) k (fun _ => rfl) (fun _ => rfl) fun m v => ⟨ps60_0 k m v, pe60_0 k m v⟩)
def pl60 (k : Nat) : Plan := (.seq .go (.seq .go (.seq .go (.seq (.seq .go (.sub (.frag (fr60_0 k)))) .go))))
theorem pq60 (k : Nat) : PlanOK Try.prog lim60 (pl60 k) (codeAt (bodyOf Try.f60) []) = (PlanOK Try.prog lim60 .go (codeAt (bodyOf Try.f60) [.l]) ∧ (PlanOK Try.prog lim60 .go (codeAt (bodyOf Try.f60) [.r, .l]) ∧ (PlanOK Try.prog lim60 .go (codeAt (bodyOf Try.f60) [.r, .r, .l]) ∧ ((PlanOK Try.prog lim60 .go (codeAt (bodyOf Try.f60) [.r, .r, .r, .l, .l]) ∧ FragOK Try.prog lim60 (fr60_0 k) (codeAt (bodyOf Try.f60) [.r, .r, .r, .l, .r, .s])) ∧ PlanOK Try.prog lim60 .go (codeAt (bodyOf Try.f60) [.r, .r, .r, .r]))))) := by kernel_rfl
theorem ev60 (k : Nat) (x : AT (sp60 k).ps) : (sp60 k).impl x = (fnT Try.prog (cfg60 k) lim60 Try.f60 (bodyOf Try.f60) (pl60 k) (sp60 k) x).eval := by kernel_rfl
theorem eq60 (k : Nat) (x : AT (sp60 k).ps) : (fnT Try.prog (cfg60 k) lim60 Try.f60 (bodyOf Try.f60) (pl60 k) (sp60 k) x).left = (fnT Try.prog (cfg60 k) lim60 Try.f60 (bodyOf Try.f60) (pl60 k) (sp60 k) x).right := by kernel_rfl
theorem v60 (k : Nat) : Callable Try.prog 60 ∧ Valid Try.prog 60 (sp60 k) :=
  fn_ok (cfg60_ok k) (f := 60) (fn := Try.f60) (by kernel_rfl) (c := bodyOf Try.f60) (by kernel_rfl) (by kernel_rfl) rfl rfl (Nat.le_of_ble_eq_true rfl) (Nat.le_of_ble_eq_true rfl) (p := pl60 k) (Eq.mpr (pq60 k) ⟨(planOK_go _), ⟨(planOK_go _), ⟨(planOK_go _), ⟨⟨(planOK_go _), (fr60_0_ok k)⟩, (planOK_go _)⟩⟩⟩⟩) fun x => ⟨ev60 k x, eq60 k x⟩
/-! f61 hyphen/hyphenref3.Or -/
def F61 (k : Nat) (a0 : (List (Int × (Int × Unit)))) (a1 : (List (Int × (Int × Unit)))) : Option (((List (Int × (Int × Unit))) × Unit) × Unit) :=
  let x1 := (List.replicate 0 ((0 : Int), ((0 : Int), ())))
  if (List.length x1 + List.length a0) * (16 * 2) ≤ 281474976710656 ∧ List.length x1 + List.length a0 ≤ 9223372036854775807 then
    if (List.length (x1 ++ a0) + List.length a1) * (16 * 2) ≤ 281474976710656 ∧ List.length (x1 ++ a0) + List.length a1 ≤ 9223372036854775807 then
      (F59 k ((x1 ++ a0) ++ a1)).bind fun r2 =>
      some ((r2.1.1, ()), ())
    else none
  else none
def sp61 (k : Nat) : Spec := ⟨[.val (.sl false 113 (.pair (.int .i64) (.pair (.int .i64) .unit)) none), .val (.sl false 113 (.pair (.int .i64) (.pair (.int .i64) .unit)) none)], [.own (.sl true 113 (.pair (.int .i64) (.pair (.int .i64) .unit)) none)], fun x => F61 k x.1 x.2.1⟩
def lim61 : Lim := ⟨11, 2, false, false, []⟩
def cfg61 (k : Nat) : Nat → Option Spec := cfgL [(59, sp59 k)]
theorem cfg61_ok (k : Nat) : CfgOK Try.prog (cfg61 k) := cfgL_cons (v59 k) (cfgL_nil)
def pl61 (k : Nat) : Plan := .go
theorem pq61 (k : Nat) : PlanOK Try.prog lim61 (pl61 k) (codeAt (bodyOf Try.f61) []) = PlanOK Try.prog lim61 .go (codeAt (bodyOf Try.f61) []) := by kernel_rfl
theorem ev61 (k : Nat) (x : AT (sp61 k).ps) : (sp61 k).impl x = (fnT Try.prog (cfg61 k) lim61 Try.f61 (bodyOf Try.f61) (pl61 k) (sp61 k) x).eval := by kernel_rfl
theorem eq61 (k : Nat) (x : AT (sp61 k).ps) : (fnT Try.prog (cfg61 k) lim61 Try.f61 (bodyOf Try.f61) (pl61 k) (sp61 k) x).left = (fnT Try.prog (cfg61 k) lim61 Try.f61 (bodyOf Try.f61) (pl61 k) (sp61 k) x).right := by kernel_rfl
theorem v61 (k : Nat) : Callable Try.prog 61 ∧ Valid Try.prog 61 (sp61 k) :=
  fn_ok (cfg61_ok k) (f := 61) (fn := Try.f61) (by kernel_rfl) (c := bodyOf Try.f61) (by kernel_rfl) (by kernel_rfl) rfl rfl (Nat.le_of_ble_eq_true rfl) (Nat.le_of_ble_eq_true rfl) (p := pl61 k) (Eq.mpr (pq61 k) (planOK_go _)) fun x => ⟨ev61 k x, eq61 k x⟩
/-! f62 hyphen/hyphenref3.And -/
def F62 (k : Nat) (a0 : (List (Int × (Int × Unit)))) (a1 : (List (Int × (Int × Unit)))) : Option (((List (Int × (Int × Unit))) × Unit) × Unit) :=
  (F60 k a0).bind fun r1 =>
  (F60 k a1).bind fun r2 =>
  (F61 k r1.1.1 r2.1.1).bind fun r3 =>
  (F60 k r3.1.1).bind fun r4 =>
  some ((r4.1.1, ()), ())
def sp62 (k : Nat) : Spec := ⟨[.val (.sl false 113 (.pair (.int .i64) (.pair (.int .i64) .unit)) none), .val (.sl false 113 (.pair (.int .i64) (.pair (.int .i64) .unit)) none)], [.own (.sl true 113 (.pair (.int .i64) (.pair (.int .i64) .unit)) none)], fun x => F62 k x.1 x.2.1⟩
def lim62 : Lim := ⟨11, 2, false, false, []⟩
def cfg62 (k : Nat) : Nat → Option Spec := cfgL [(60, sp60 k), (61, sp61 k)]
theorem cfg62_ok (k : Nat) : CfgOK Try.prog (cfg62 k) := cfgL_cons (v60 k) (cfgL_cons (v61 k) (cfgL_nil))
def pl62 (k : Nat) : Plan := .go
theorem pq62 (k : Nat) : PlanOK Try.prog lim62 (pl62 k) (codeAt (bodyOf Try.f62) []) = PlanOK Try.prog lim62 .go (codeAt (bodyOf Try.f62) []) := by kernel_rfl
theorem ev62 (k : Nat) (x : AT (sp62 k).ps) : (sp62 k).impl x = (fnT Try.prog (cfg62 k) lim62 Try.f62 (bodyOf Try.f62) (pl62 k) (sp62 k) x).eval := by kernel_rfl
theorem eq62 (k : Nat) (x : AT (sp62 k).ps) : (fnT Try.prog (cfg62 k) lim62 Try.f62 (bodyOf Try.f62) (pl62 k) (sp62 k) x).left = (fnT Try.prog (cfg62 k) lim62 Try.f62 (bodyOf Try.f62) (pl62 k) (sp62 k) x).right := by kernel_rfl
theorem v62 (k : Nat) : Callable Try.prog 62 ∧ Valid Try.prog 62 (sp62 k) :=
  fn_ok (cfg62_ok k) (f := 62) (fn := Try.f62) (by kernel_rfl) (c := bodyOf Try.f62) (by kernel_rfl) (by kernel_rfl) rfl rfl (Nat.le_of_ble_eq_true rfl) (Nat.le_of_ble_eq_true rfl) (p := pl62 k) (Eq.mpr (pq62 k) (planOK_go _)) fun x => ⟨ev62 k x, eq62 k x⟩
/-! f63 hyphen/hyphenref3.Less -/
def F63 (k : Nat) (a0 : (List (Int × (Int × Unit)))) (a1 : (List (Int × (Int × Unit)))) : Option (((List (Int × (Int × Unit))) × Unit) × Unit) :=
  (F60 k a1).bind fun r1 =>
  (F62 k a0 r1.1.1).bind fun r2 =>
  some ((r2.1.1, ()), ())
def sp63 (k : Nat) : Spec := ⟨[.val (.sl false 113 (.pair (.int .i64) (.pair (.int .i64) .unit)) none), .val (.sl false 113 (.pair (.int .i64) (.pair (.int .i64) .unit)) none)], [.own (.sl true 113 (.pair (.int .i64) (.pair (.int .i64) .unit)) none)], fun x => F63 k x.1 x.2.1⟩
def lim63 : Lim := ⟨9, 2, false, false, []⟩
def cfg63 (k : Nat) : Nat → Option Spec := cfgL [(60, sp60 k), (62, sp62 k)]
theorem cfg63_ok (k : Nat) : CfgOK Try.prog (cfg63 k) := cfgL_cons (v60 k) (cfgL_cons (v62 k) (cfgL_nil))
def pl63 (k : Nat) : Plan := .go
theorem pq63 (k : Nat) : PlanOK Try.prog lim63 (pl63 k) (codeAt (bodyOf Try.f63) []) = PlanOK Try.prog lim63 .go (codeAt (bodyOf Try.f63) []) := by kernel_rfl
theorem ev63 (k : Nat) (x : AT (sp63 k).ps) : (sp63 k).impl x = (fnT Try.prog (cfg63 k) lim63 Try.f63 (bodyOf Try.f63) (pl63 k) (sp63 k) x).eval := by kernel_rfl
theorem eq63 (k : Nat) (x : AT (sp63 k).ps) : (fnT Try.prog (cfg63 k) lim63 Try.f63 (bodyOf Try.f63) (pl63 k) (sp63 k) x).left = (fnT Try.prog (cfg63 k) lim63 Try.f63 (bodyOf Try.f63) (pl63 k) (sp63 k) x).right := by kernel_rfl
theorem v63 (k : Nat) : Callable Try.prog 63 ∧ Valid Try.prog 63 (sp63 k) :=
  fn_ok (cfg63_ok k) (f := 63) (fn := Try.f63) (by kernel_rfl) (c := bodyOf Try.f63) (by kernel_rfl) (by kernel_rfl) rfl rfl (Nat.le_of_ble_eq_true rfl) (Nat.le_of_ble_eq_true rfl) (p := pl63 k) (Eq.mpr (pq63 k) (planOK_go _)) fun x => ⟨ev63 k x, eq63 k x⟩
/-! f46: f46 -/
def rs46 (f46 : ((Tree (Int × (Int × (Int × (ByteArray × Unit))))) → ((List (ByteArray × ((Tree (Int × (Int × (Int × (ByteArray × Unit))))) × Unit))) × ((List (Int × (Int × ((Tree (Int × (Int × (Int × (Int × (ByteArray × Unit)))))) × ((Tree (Int × (Int × (Int × (Int × (ByteArray × Unit)))))) × Unit))))) × Unit)) → (List (List (Int × (Int × Unit)))) → Option (((List (Int × (Int × Unit))) × Unit) × ((List (List (Int × (Int × Unit)))) × Unit)))) : Spec := ⟨[.val (.tree 86 (.pair (.int .i64) (.pair (.int .i64) (.pair (.int .i64) (.pair .str .unit))))), .val (.pair (.sl false 89 (.pair .str (.pair (.tree 86 (.pair (.int .i64) (.pair (.int .i64) (.pair (.int .i64) (.pair .str .unit))))) .unit)) none) (.pair (.sl false 133 (.pair (.int .i64) (.pair (.int .i64) (.pair (.tree 49 (.pair (.int .i64) (.pair (.int .i64) (.pair (.int .i64) (.pair (.int .i64) (.pair .str .unit)))))) (.pair (.tree 49 (.pair (.int .i64) (.pair (.int .i64) (.pair (.int .i64) (.pair (.int .i64) (.pair .str .unit)))))) .unit)))) none) .unit)), .mut (.sl true 96 (.sl false 113 (.pair (.int .i64) (.pair (.int .i64) .unit)) none) none)], [.val (.sl false 113 (.pair (.int .i64) (.pair (.int .i64) .unit)) none)], fun x => f46 x.1 x.2.1 x.2.2.1⟩
/-! f46 hyphen/hyphenref5.ranges -/
def F46_0 (k : Nat) (f46 : ((Tree (Int × (Int × (Int × (ByteArray × Unit))))) → ((List (ByteArray × ((Tree (Int × (Int × (Int × (ByteArray × Unit))))) × Unit))) × ((List (Int × (Int × ((Tree (Int × (Int × (Int × (Int × (ByteArray × Unit)))))) × ((Tree (Int × (Int × (Int × (Int × (ByteArray × Unit)))))) × Unit))))) × Unit)) → (List (List (Int × (Int × Unit)))) → Option (((List (Int × (Int × Unit))) × Unit) × ((List (List (Int × (Int × Unit)))) × Unit)))) : Nat → Int → (List (List (Int × (Int × Unit)))) → (Int × (Int × (Int × (ByteArray × ((List (Tree (Int × (Int × (Int × (ByteArray × Unit)))))) × Unit))))) → ((List (ByteArray × ((Tree (Int × (Int × (Int × (ByteArray × Unit))))) × Unit))) × ((List (Int × (Int × ((Tree (Int × (Int × (Int × (Int × (ByteArray × Unit)))))) × ((Tree (Int × (Int × (Int × (Int × (ByteArray × Unit)))))) × Unit))))) × Unit)) → (List (List (Int × (Int × Unit)))) → Option ((Unit × ((List (List (Int × (Int × Unit)))) × (Int × (Int × (Int × (ByteArray × ((List (Tree (Int × (Int × (Int × (ByteArray × Unit)))))) × Unit))))) × ((List (ByteArray × ((Tree (Int × (Int × (Int × (ByteArray × Unit))))) × Unit))) × ((List (Int × (Int × ((Tree (Int × (Int × (Int × (Int × (ByteArray × Unit)))))) × ((Tree (Int × (Int × (Int × (Int × (ByteArray × Unit)))))) × Unit))))) × Unit)) × (List (List (Int × (Int × Unit)))) × Unit)))
  | 0, _, _, _, _, _ => none
  | n + 1, t8, c2, c3, c4, c2000007 =>
    let x1 := (decide (t8 < ((List.length c3.2.2.2.2.1 : Nat) : Int)))
    bif x1 then
      if 0 ≤ t8 ∧ t8 < ((List.length c3.2.2.2.2.1 : Nat) : Int) then
        let x2 := (List.getD c3.2.2.2.2.1 (Int.toNat t8) (Tree.mk ((0 : Int), ((0 : Int), ((0 : Int), (ByteArray.empty, ())))) []))
        (f46 x2 c4 c2).bind fun r3 =>
        let x4 := (List.set (List.replicate 1 ([] : (List (Int × (Int × Unit))))) 0 r3.1.1)
        if (List.length c2000007 + List.length x4) * (24 * 2) ≤ 281474976710656 ∧ List.length c2000007 + List.length x4 ≤ 9223372036854775807 then
          (F46_0 k f46 n (IntKind.wrap .i64 (t8 + (1 : Int))) r3.2.1 c3 c4 (c2000007 ++ x4)).bind some
        else none
      else none
    else
      some ((), (c2, c3, c4, c2000007, ()))
def fr46_0 (k : Nat) (f46 : ((Tree (Int × (Int × (Int × (ByteArray × Unit))))) → ((List (ByteArray × ((Tree (Int × (Int × (Int × (ByteArray × Unit))))) × Unit))) × ((List (Int × (Int × ((Tree (Int × (Int × (Int × (Int × (ByteArray × Unit)))))) × ((Tree (Int × (Int × (Int × (Int × (ByteArray × Unit)))))) × Unit))))) × Unit)) → (List (List (Int × (Int × Unit)))) → Option (((List (Int × (Int × Unit))) × Unit) × ((List (List (Int × (Int × Unit)))) × Unit)))) : Frag := ⟨⟨[(7, (.sl true 96 (.sl false 113 (.pair (.int .i64) (.pair (.int .i64) .unit)) none) none))], [(2, .at 2 []), (3, .ptr 3 []), (4, .ptr 4 []), (7, .at 2000007 []), (8, .val (.int .i64))], [(2, none, (.sl true 96 (.sl false 113 (.pair (.int .i64) (.pair (.int .i64) .unit)) none) none)), (3, some 86, (.pair (.int .i64) (.pair (.int .i64) (.pair (.int .i64) (.pair .str (.pair (.tl 86 (.pair (.int .i64) (.pair (.int .i64) (.pair (.int .i64) (.pair .str .unit))))) .unit)))))), (4, some 54, (.pair (.sl false 89 (.pair .str (.pair (.tree 86 (.pair (.int .i64) (.pair (.int .i64) (.pair (.int .i64) (.pair .str .unit))))) .unit)) none) (.pair (.sl false 133 (.pair (.int .i64) (.pair (.int .i64) (.pair (.tree 49 (.pair (.int .i64) (.pair (.int .i64) (.pair (.int .i64) (.pair (.int .i64) (.pair .str .unit)))))) (.pair (.tree 49 (.pair (.int .i64) (.pair (.int .i64) (.pair (.int .i64) (.pair (.int .i64) (.pair .str .unit)))))) .unit)))) none) .unit))), (2000007, none, (.sl true 96 (.sl false 113 (.pair (.int .i64) (.pair (.int .i64) .unit)) none) none))]⟩, [(.exit 0, ⟨[(7, (.sl true 96 (.sl false 113 (.pair (.int .i64) (.pair (.int .i64) .unit)) none) none))], [(2, .at 2 []), (3, .ptr 3 []), (4, .ptr 4 []), (7, .at 2000007 [])], [(2, none, (.sl true 96 (.sl false 113 (.pair (.int .i64) (.pair (.int .i64) .unit)) none) none)), (3, some 86, (.pair (.int .i64) (.pair (.int .i64) (.pair (.int .i64) (.pair .str (.pair (.tl 86 (.pair (.int .i64) (.pair (.int .i64) (.pair (.int .i64) (.pair .str .unit))))) .unit)))))), (4, some 54, (.pair (.sl false 89 (.pair .str (.pair (.tree 86 (.pair (.int .i64) (.pair (.int .i64) (.pair (.int .i64) (.pair .str .unit))))) .unit)) none) (.pair (.sl false 133 (.pair (.int .i64) (.pair (.int .i64) (.pair (.tree 49 (.pair (.int .i64) (.pair (.int .i64) (.pair (.int .i64) (.pair (.int .i64) (.pair .str .unit)))))) (.pair (.tree 49 (.pair (.int .i64) (.pair (.int .i64) (.pair (.int .i64) (.pair (.int .i64) (.pair .str .unit)))))) .unit)))) none) .unit))), (2000007, none, (.sl true 96 (.sl false 113 (.pair (.int .i64) (.pair (.int .i64) .unit)) none) none))]⟩)], fun v => F46_0 k f46 k v.1.1 v.2.1 v.2.2.1 v.2.2.2.1 v.2.2.2.2.1⟩
def B46 (k : Nat) (f46 : ((Tree (Int × (Int × (Int × (ByteArray × Unit))))) → ((List (ByteArray × ((Tree (Int × (Int × (Int × (ByteArray × Unit))))) × Unit))) × ((List (Int × (Int × ((Tree (Int × (Int × (Int × (Int × (ByteArray × Unit)))))) × ((Tree (Int × (Int × (Int × (Int × (ByteArray × Unit)))))) × Unit))))) × Unit)) → (List (List (Int × (Int × Unit)))) → Option (((List (Int × (Int × Unit))) × Unit) × ((List (List (Int × (Int × Unit)))) × Unit)))) (a0 : (Tree (Int × (Int × (Int × (ByteArray × Unit)))))) (a1 : ((List (ByteArray × ((Tree (Int × (Int × (Int × (ByteArray × Unit))))) × Unit))) × ((List (Int × (Int × ((Tree (Int × (Int × (Int × (Int × (ByteArray × Unit)))))) × ((Tree (Int × (Int × (Int × (Int × (ByteArray × Unit)))))) × Unit))))) × Unit))) (a2 : (List (List (Int × (Int × Unit))))) : Option (((List (Int × (Int × Unit))) × Unit) × ((List (List (Int × (Int × Unit)))) × Unit)) :=
  (F46_0 k f46 k (0 : Int) a2 ((Tree.a a0).1, ((Tree.a a0).2.1, ((Tree.a a0).2.2.1, ((Tree.a a0).2.2.2.1, ((Tree.l a0), ()))))) a1 []).bind fun r5 =>
  let y6 := r5.2.1
  let y7 := r5.2.2.1
  let y8 := r5.2.2.2.1
  let y9 := r5.2.2.2.2.1
  bif (y7.1 == (1 : Int)) then
    let x10 := (List.set (List.replicate 1 ((0 : Int), ((0 : Int), ()))) 0 (y7.2.1, (y7.2.2.1, ())))
    (F59 k x10).bind fun r11 =>
    some ((r11.1.1, ()), (y6, ()))
  else
    bif (y7.1 == (2 : Int)) then
      (F55 k y8 y7.2.2.2.1).bind fun r12 =>
      if 0 ≤ r12.1.1 ∧ r12.1.1 < ((List.length y6 : Nat) : Int) then
        let x13 := (List.getD y6 (Int.toNat r12.1.1) ([] : (List (Int × (Int × Unit)))))
        some ((x13, ()), (y6, ()))
      else none
    else
      bif (y7.1 == (3 : Int)) then
        (F60 k []).bind fun r14 =>
        some ((r14.1.1, ()), (y6, ()))
      else
        bif (y7.1 == (4 : Int)) then
          if 0 ≤ (0 : Int) ∧ (0 : Int) < ((List.length y9 : Nat) : Int) then
            let x15 := (List.getD y9 (Int.toNat (0 : Int)) ([] : (List (Int × (Int × Unit)))))
            (F60 k x15).bind fun r16 =>
            some ((r16.1.1, ()), (y6, ()))
          else none
        else
          bif (y7.1 == (5 : Int)) then
            if 0 ≤ (0 : Int) ∧ (0 : Int) < ((List.length y9 : Nat) : Int) then
              let x17 := (List.getD y9 (Int.toNat (0 : Int)) ([] : (List (Int × (Int × Unit)))))
              if 0 ≤ (1 : Int) ∧ (1 : Int) < ((List.length y9 : Nat) : Int) then
                let x18 := (List.getD y9 (Int.toNat (1 : Int)) ([] : (List (Int × (Int × Unit)))))
                (F61 k x17 x18).bind fun r19 =>
                some ((r19.1.1, ()), (y6, ()))
              else none
            else none
          else
            bif (y7.1 == (6 : Int)) then
              if 0 ≤ (0 : Int) ∧ (0 : Int) < ((List.length y9 : Nat) : Int) then
                let x20 := (List.getD y9 (Int.toNat (0 : Int)) ([] : (List (Int × (Int × Unit)))))
                if 0 ≤ (1 : Int) ∧ (1 : Int) < ((List.length y9 : Nat) : Int) then
                  let x21 := (List.getD y9 (Int.toNat (1 : Int)) ([] : (List (Int × (Int × Unit)))))
                  (F62 k x20 x21).bind fun r22 =>
                  some ((r22.1.1, ()), (y6, ()))
                else none
              else none
            else
              if 0 ≤ (0 : Int) ∧ (0 : Int) < ((List.length y9 : Nat) : Int) then
                let x23 := (List.getD y9 (Int.toNat (0 : Int)) ([] : (List (Int × (Int × Unit)))))
                if 0 ≤ (1 : Int) ∧ (1 : Int) < ((List.length y9 : Nat) : Int) then
                  let x24 := (List.getD y9 (Int.toNat (1 : Int)) ([] : (List (Int × (Int × Unit)))))
                  (F63 k x23 x24).bind fun r25 =>
                  some ((r25.1.1, ()), (y6, ()))
                else none
              else none
def sb46 (k : Nat) (f46 : ((Tree (Int × (Int × (Int × (ByteArray × Unit))))) → ((List (ByteArray × ((Tree (Int × (Int × (Int × (ByteArray × Unit))))) × Unit))) × ((List (Int × (Int × ((Tree (Int × (Int × (Int × (Int × (ByteArray × Unit)))))) × ((Tree (Int × (Int × (Int × (Int × (ByteArray × Unit)))))) × Unit))))) × Unit)) → (List (List (Int × (Int × Unit)))) → Option (((List (Int × (Int × Unit))) × Unit) × ((List (List (Int × (Int × Unit)))) × Unit)))) : Spec := rs46 (B46 k f46)
def lim46 : Lim := ⟨81, 3, false, false, [37, 49, 55, 64, 73, 80]⟩
def cfg46 (k : Nat) (f46 : ((Tree (Int × (Int × (Int × (ByteArray × Unit))))) → ((List (ByteArray × ((Tree (Int × (Int × (Int × (ByteArray × Unit))))) × Unit))) × ((List (Int × (Int × ((Tree (Int × (Int × (Int × (Int × (ByteArray × Unit)))))) × ((Tree (Int × (Int × (Int × (Int × (ByteArray × Unit)))))) × Unit))))) × Unit)) → (List (List (Int × (Int × Unit)))) → Option (((List (Int × (Int × Unit))) × Unit) × ((List (List (Int × (Int × Unit)))) × Unit)))) : Nat → Option Spec := cfgL [(46, rs46 f46), (55, sp55 k), (59, sp59 k), (60, sp60 k), (61, sp61 k), (62, sp62 k), (63, sp63 k)]
theorem cfg46_ok (k : Nat) (f46 : ((Tree (Int × (Int × (Int × (ByteArray × Unit))))) → ((List (ByteArray × ((Tree (Int × (Int × (Int × (ByteArray × Unit))))) × Unit))) × ((List (Int × (Int × ((Tree (Int × (Int × (Int × (Int × (ByteArray × Unit)))))) × ((Tree (Int × (Int × (Int × (Int × (ByteArray × Unit)))))) × Unit))))) × Unit)) → (List (List (Int × (Int × Unit)))) → Option (((List (Int × (Int × Unit))) × Unit) × ((List (List (Int × (Int × Unit)))) × Unit)))) (h46 : Callable Try.prog 46 ∧ Valid Try.prog 46 (rs46 f46)) : CfgOK Try.prog (cfg46 k f46) := cfgL_cons h46 (cfgL_cons (v55 k) (cfgL_cons (v59 k) (cfgL_cons (v60 k) (cfgL_cons (v61 k) (cfgL_cons (v62 k) (cfgL_cons (v63 k) (cfgL_nil)))))))
def pl46_0 (k : Nat) (f46 : ((Tree (Int × (Int × (Int × (ByteArray × Unit))))) → ((List (ByteArray × ((Tree (Int × (Int × (Int × (ByteArray × Unit))))) × Unit))) × ((List (Int × (Int × ((Tree (Int × (Int × (Int × (Int × (ByteArray × Unit)))))) × ((Tree (Int × (Int × (Int × (Int × (ByteArray × Unit)))))) × Unit))))) × Unit)) → (List (List (Int × (Int × Unit)))) → Option (((List (Int × (Int × Unit))) × Unit) × ((List (List (Int × (Int × Unit)))) × Unit)))) : Plan := .go
theorem pq46_0 (k : Nat) (f46 : ((Tree (Int × (Int × (Int × (ByteArray × Unit))))) → ((List (ByteArray × ((Tree (Int × (Int × (Int × (ByteArray × Unit))))) × Unit))) × ((List (Int × (Int × ((Tree (Int × (Int × (Int × (Int × (ByteArray × Unit)))))) × ((Tree (Int × (Int × (Int × (Int × (ByteArray × Unit)))))) × Unit))))) × Unit)) → (List (List (Int × (Int × Unit)))) → Option (((List (Int × (Int × Unit))) × Unit) × ((List (List (Int × (Int × Unit)))) × Unit)))) : PlanOK Try.prog lim46 (pl46_0 k f46) (codeAt (bodyOf Try.f46) [.r, .r, .l, .r, .s, .b]) = PlanOK Try.prog lim46 .go (codeAt (bodyOf Try.f46) [.r, .r, .l, .r, .s, .b]) := by kernel_rfl
theorem ps46_0 (k : Nat) (f46 : ((Tree (Int × (Int × (Int × (ByteArray × Unit))))) → ((List (ByteArray × ((Tree (Int × (Int × (Int × (ByteArray × Unit))))) × Unit))) × ((List (Int × (Int × ((Tree (Int × (Int × (Int × (Int × (ByteArray × Unit)))))) × ((Tree (Int × (Int × (Int × (Int × (ByteArray × Unit)))))) × Unit))))) × Unit)) → (List (List (Int × (Int × Unit)))) → Option (((List (Int × (Int × Unit))) × Unit) × ((List (List (Int × (Int × Unit)))) × Unit)))) (m : Nat) (v : (fr46_0 k f46).sh.V) : F46_0 k f46 (m + 1) v.1.1 v.2.1 v.2.2.1 v.2.2.2.1 v.2.2.2.2.1 = (body Try.prog (stepper Try.prog (cfg46 k f46) lim46) (pl46_0 k f46) (codeAt (bodyOf Try.f46) [.r, .r, .l, .r, .s, .b]) ((fr46_0 k f46).sh.st v) (loopK (fr46_0 k f46) fun v => F46_0 k f46 m v.1.1 v.2.1 v.2.2.1 v.2.2.2.1 v.2.2.2.2.1)).eval := by kernel_rfl
theorem pe46_0 (k : Nat) (f46 : ((Tree (Int × (Int × (Int × (ByteArray × Unit))))) → ((List (ByteArray × ((Tree (Int × (Int × (Int × (ByteArray × Unit))))) × Unit))) × ((List (Int × (Int × ((Tree (Int × (Int × (Int × (Int × (ByteArray × Unit)))))) × ((Tree (Int × (Int × (Int × (Int × (ByteArray × Unit)))))) × Unit))))) × Unit)) → (List (List (Int × (Int × Unit)))) → Option (((List (Int × (Int × Unit))) × Unit) × ((List (List (Int × (Int × Unit)))) × Unit)))) (m : Nat) (v : (fr46_0 k f46).sh.V) : (body Try.prog (stepper Try.prog (cfg46 k f46) lim46) (pl46_0 k f46) (codeAt (bodyOf Try.f46) [.r, .r, .l, .r, .s, .b]) ((fr46_0 k f46).sh.st v) (loopK (fr46_0 k f46) fun v => F46_0 k f46 m v.1.1 v.2.1 v.2.2.1 v.2.2.2.1 v.2.2.2.2.1)).left = (body Try.prog (stepper Try.prog (cfg46 k f46) lim46) (pl46_0 k f46) (codeAt (bodyOf Try.f46) [.r, .r, .l, .r, .s, .b]) ((fr46_0 k f46).sh.st v) (loopK (fr46_0 k f46) fun v => F46_0 k f46 m v.1.1 v.2.1 v.2.2.1 v.2.2.2.1 v.2.2.2.2.1)).right := by kernel_rfl
theorem fr46_0_ok (k : Nat) (f46 : ((Tree (Int × (Int × (Int × (ByteArray × Unit))))) → ((List (ByteArray × ((Tree (Int × (Int × (Int × (ByteArray × Unit))))) × Unit))) × ((List (Int × (Int × ((Tree (Int × (Int × (Int × (Int × (ByteArray × Unit)))))) × ((Tree (Int × (Int × (Int × (Int × (ByteArray × Unit)))))) × Unit))))) × Unit)) → (List (List (Int × (Int × Unit)))) → Option (((List (Int × (Int × Unit))) × Unit) × ((List (List (Int × (Int × Unit)))) × Unit)))) (h46 : Callable Try.prog 46 ∧ Valid Try.prog 46 (rs46 f46)) : FragOK Try.prog lim46 (fr46_0 k f46) (codeAt (bodyOf Try.f46) [.r, .r, .l, .r, .s]) :=
  frag_cast (by kernel_rfl) (loop_ok (cfg46_ok k f46 h46) (Eq.mpr (pq46_0 k f46) (planOK_go _)) (fun m v => F46_0 k f46 m v.1.1 v.2.1 v.2.2.1 v.2.2.2.1 v.2.2.2.2.1) k (fun _ => rfl) (fun _ => rfl) fun m v => ⟨ps46_0 k f46 m v, pe46_0 k f46 m v⟩)
def pl46 (k : Nat) (f46 : ((Tree (Int × (Int × (Int × (ByteArray × Unit))))) → ((List (ByteArray × ((Tree (Int × (Int × (Int × (ByteArray × Unit))))) × Unit))) × ((List (Int × (Int × ((Tree (Int × (Int × (Int × (Int × (ByteArray × Unit)))))) × ((Tree (Int × (Int × (Int × (Int × (ByteArray × Unit)))))) × Unit))))) × Unit)) → (List (List (Int × (Int × Unit)))) → Option (((List (Int × (Int × Unit))) × Unit) × ((List (List (Int × (Int × Unit)))) × Unit)))) : Plan := (.seq .go (.seq .go (.seq (.seq .go (.sub (.frag (fr46_0 k f46)))) .go)))
theorem pq46 (k : Nat) (f46 : ((Tree (Int × (Int × (Int × (ByteArray × Unit))))) → ((List (ByteArray × ((Tree (Int × (Int × (Int × (ByteArray × Unit))))) × Unit))) × ((List (Int × (Int × ((Tree (Int × (Int × (Int × (Int × (ByteArray × Unit)))))) × ((Tree (Int × (Int × (Int × (Int × (ByteArray × Unit)))))) × Unit))))) × Unit)) → (List (List (Int × (Int × Unit)))) → Option (((List (Int × (Int × Unit))) × Unit) × ((List (List (Int × (Int × Unit)))) × Unit)))) : PlanOK Try.prog lim46 (pl46 k f46) (codeAt (bodyOf Try.f46) []) = (PlanOK Try.prog lim46 .go (codeAt (bodyOf Try.f46) [.l]) ∧ (PlanOK Try.prog lim46 .go (codeAt (bodyOf Try.f46) [.r, .l]) ∧ ((PlanOK Try.prog lim46 .go (codeAt (bodyOf Try.f46) [.r, .r, .l, .l]) ∧ FragOK Try.prog lim46 (fr46_0 k f46) (codeAt (bodyOf Try.f46) [.r, .r, .l, .r, .s])) ∧ PlanOK Try.prog lim46 .go (codeAt (bodyOf Try.f46) [.r, .r, .r])))) := by kernel_rfl
theorem ev46 (k : Nat) (f46 : ((Tree (Int × (Int × (Int × (ByteArray × Unit))))) → ((List (ByteArray × ((Tree (Int × (Int × (Int × (ByteArray × Unit))))) × Unit))) × ((List (Int × (Int × ((Tree (Int × (Int × (Int × (Int × (ByteArray × Unit)))))) × ((Tree (Int × (Int × (Int × (Int × (ByteArray × Unit)))))) × Unit))))) × Unit)) → (List (List (Int × (Int × Unit)))) → Option (((List (Int × (Int × Unit))) × Unit) × ((List (List (Int × (Int × Unit)))) × Unit)))) (x : AT (sb46 k f46).ps) : (sb46 k f46).impl x = (fnT Try.prog (cfg46 k f46) lim46 Try.f46 (bodyOf Try.f46) (pl46 k f46) (sb46 k f46) x).eval := by kernel_rfl
theorem eq46 (k : Nat) (f46 : ((Tree (Int × (Int × (Int × (ByteArray × Unit))))) → ((List (ByteArray × ((Tree (Int × (Int × (Int × (ByteArray × Unit))))) × Unit))) × ((List (Int × (Int × ((Tree (Int × (Int × (Int × (Int × (ByteArray × Unit)))))) × ((Tree (Int × (Int × (Int × (Int × (ByteArray × Unit)))))) × Unit))))) × Unit)) → (List (List (Int × (Int × Unit)))) → Option (((List (Int × (Int × Unit))) × Unit) × ((List (List (Int × (Int × Unit)))) × Unit)))) (x : AT (sb46 k f46).ps) : (fnT Try.prog (cfg46 k f46) lim46 Try.f46 (bodyOf Try.f46) (pl46 k f46) (sb46 k f46) x).left = (fnT Try.prog (cfg46 k f46) lim46 Try.f46 (bodyOf Try.f46) (pl46 k f46) (sb46 k f46) x).right := by kernel_rfl
theorem b46 (k : Nat) (f46 : ((Tree (Int × (Int × (Int × (ByteArray × Unit))))) → ((List (ByteArray × ((Tree (Int × (Int × (Int × (ByteArray × Unit))))) × Unit))) × ((List (Int × (Int × ((Tree (Int × (Int × (Int × (Int × (ByteArray × Unit)))))) × ((Tree (Int × (Int × (Int × (Int × (ByteArray × Unit)))))) × Unit))))) × Unit)) → (List (List (Int × (Int × Unit)))) → Option (((List (Int × (Int × Unit))) × Unit) × ((List (List (Int × (Int × Unit)))) × Unit)))) (h46 : Callable Try.prog 46 ∧ Valid Try.prog 46 (rs46 f46)) : Callable Try.prog 46 ∧ Valid Try.prog 46 (sb46 k f46) :=
  fn_ok (cfg46_ok k f46 h46) (f := 46) (fn := Try.f46) (by kernel_rfl) (c := bodyOf Try.f46) (by kernel_rfl) (by kernel_rfl) rfl rfl (Nat.le_of_ble_eq_true rfl) (Nat.le_of_ble_eq_true rfl) (p := pl46 k f46) (Eq.mpr (pq46 k f46) ⟨(planOK_go _), ⟨(planOK_go _), ⟨⟨(planOK_go _), (fr46_0_ok k f46 h46)⟩, (planOK_go _)⟩⟩⟩) fun x => ⟨ev46 k f46 x, eq46 k f46 x⟩
def R46 : Nat → ((Tree (Int × (Int × (Int × (ByteArray × Unit))))) → ((List (ByteArray × ((Tree (Int × (Int × (Int × (ByteArray × Unit))))) × Unit))) × ((List (Int × (Int × ((Tree (Int × (Int × (Int × (Int × (ByteArray × Unit)))))) × ((Tree (Int × (Int × (Int × (Int × (ByteArray × Unit)))))) × Unit))))) × Unit)) → (List (List (Int × (Int × Unit)))) → Option (((List (Int × (Int × Unit))) × Unit) × ((List (List (Int × (Int × Unit)))) × Unit)))
  | 0 => fun _ _ _ => none
  | k + 1 => B46 k (R46 k)
def F46 (k : Nat) (a0_ : (Tree (Int × (Int × (Int × (ByteArray × Unit)))))) (a1_ : ((List (ByteArray × ((Tree (Int × (Int × (Int × (ByteArray × Unit))))) × Unit))) × ((List (Int × (Int × ((Tree (Int × (Int × (Int × (Int × (ByteArray × Unit)))))) × ((Tree (Int × (Int × (Int × (Int × (ByteArray × Unit)))))) × Unit))))) × Unit))) (a2_ : (List (List (Int × (Int × Unit))))) : Option (((List (Int × (Int × Unit))) × Unit) × ((List (List (Int × (Int × Unit)))) × Unit)) := (R46 k) a0_ a1_ a2_
def sp46 (k : Nat) : Spec := ⟨[.val (.tree 86 (.pair (.int .i64) (.pair (.int .i64) (.pair (.int .i64) (.pair .str .unit))))), .val (.pair (.sl false 89 (.pair .str (.pair (.tree 86 (.pair (.int .i64) (.pair (.int .i64) (.pair (.int .i64) (.pair .str .unit))))) .unit)) none) (.pair (.sl false 133 (.pair (.int .i64) (.pair (.int .i64) (.pair (.tree 49 (.pair (.int .i64) (.pair (.int .i64) (.pair (.int .i64) (.pair (.int .i64) (.pair .str .unit)))))) (.pair (.tree 49 (.pair (.int .i64) (.pair (.int .i64) (.pair (.int .i64) (.pair (.int .i64) (.pair .str .unit)))))) .unit)))) none) .unit)), .mut (.sl true 96 (.sl false 113 (.pair (.int .i64) (.pair (.int .i64) .unit)) none) none)], [.val (.sl false 113 (.pair (.int .i64) (.pair (.int .i64) .unit)) none)], fun x => F46 k x.1 x.2.1 x.2.2.1⟩
theorem r46 (k : Nat) : (Callable Try.prog 46 ∧ Valid Try.prog 46 (rs46 (R46 k))) := by
  induction k with
  | zero => exact ⟨⟨Try.f46, by kernel_rfl, by kernel_rfl, by kernel_rfl⟩, fun x r h => by cases (show (none : Option _) = some r from h)⟩
  | succ k ih => exact b46 k (R46 k) ih
theorem v46 (k : Nat) : Callable Try.prog 46 ∧ Valid Try.prog 46 (sp46 k) := (r46 k)
/-! f28 hyphen/hyphenref5.Sets -/
def F28_0 (k : Nat) : Nat → Int → ((List (ByteArray × ((Tree (Int × (Int × (Int × (ByteArray × Unit))))) × Unit))) × ((List (Int × (Int × ((Tree (Int × (Int × (Int × (Int × (ByteArray × Unit)))))) × ((Tree (Int × (Int × (Int × (Int × (ByteArray × Unit)))))) × Unit))))) × Unit)) → Option ((Unit × Unit))
  | 0, _, _ => none
  | n + 1, t4, c1 =>
    let x3 := (decide (t4 < ((List.length c1.1 : Nat) : Int)))
    bif x3 then
      if 0 ≤ t4 ∧ t4 < ((List.length c1.1 : Nat) : Int) then
        none
      else none
    else
      some ((), ())
def fr28_0 (k : Nat) : Frag := ⟨⟨[], [(1, .ptr 1 []), (3, .nilS), (4, .val (.int .i64))], [(1, some 54, (.pair (.sl false 89 (.pair .str (.pair (.tree 86 (.pair (.int .i64) (.pair (.int .i64) (.pair (.int .i64) (.pair .str .unit))))) .unit)) none) (.pair (.sl false 133 (.pair (.int .i64) (.pair (.int .i64) (.pair (.tree 49 (.pair (.int .i64) (.pair (.int .i64) (.pair (.int .i64) (.pair (.int .i64) (.pair .str .unit)))))) (.pair (.tree 49 (.pair (.int .i64) (.pair (.int .i64) (.pair (.int .i64) (.pair (.int .i64) (.pair .str .unit)))))) .unit)))) none) .unit)))]⟩, [(.exit 0, ⟨[], [(3, .nilS)], []⟩)], fun v => F28_0 k k v.1.1 v.2.1⟩
def F28 (k : Nat) (a0 : ((List (ByteArray × ((Tree (Int × (Int × (Int × (ByteArray × Unit))))) × Unit))) × ((List (Int × (Int × ((Tree (Int × (Int × (Int × (Int × (ByteArray × Unit)))))) × ((Tree (Int × (Int × (Int × (Int × (ByteArray × Unit)))))) × Unit))))) × Unit))) : Option (((List (List (Int × (Int × Unit)))) × Unit) × Unit) :=
  (F28_0 k k (0 : Int) a0).bind fun r5 =>
  some (([], ()), ())
def sp28 (k : Nat) : Spec := ⟨[.val (.pair (.sl false 89 (.pair .str (.pair (.tree 86 (.pair (.int .i64) (.pair (.int .i64) (.pair (.int .i64) (.pair .str .unit))))) .unit)) none) (.pair (.sl false 133 (.pair (.int .i64) (.pair (.int .i64) (.pair (.tree 49 (.pair (.int .i64) (.pair (.int .i64) (.pair (.int .i64) (.pair (.int .i64) (.pair .str .unit)))))) (.pair (.tree 49 (.pair (.int .i64) (.pair (.int .i64) (.pair (.int .i64) (.pair (.int .i64) (.pair .str .unit)))))) .unit)))) none) .unit))], [.own (.sl true 96 (.sl false 113 (.pair (.int .i64) (.pair (.int .i64) .unit)) none) none)], fun x => F28 k x.1⟩
def lim28 : Lim := ⟨25, 1, false, false, []⟩
def cfg28 (k : Nat) : Nat → Option Spec := cfgL [(46, sp46 k)]
theorem cfg28_ok (k : Nat) : CfgOK Try.prog (cfg28 k) := cfgL_cons (v46 k) (cfgL_nil)
def pl28_0 (k : Nat) : Plan := .go
theorem pq28_0 (k : Nat) : PlanOK Try.prog lim28 (pl28_0 k) (codeAt (bodyOf Try.f28) [.r, .r, .l, .r, .s, .b]) = PlanOK Try.prog lim28 .go (codeAt (bodyOf Try.f28) [.r, .r, .l, .r, .s, .b]) := by kernel_rfl
theorem ps28_0 (k m : Nat) (v : (fr28_0 k).sh.V) : F28_0 k (m + 1) v.1.1 v.2.1 = (body Try.prog (stepper Try.prog (cfg28 k) lim28) (pl28_0 k) (codeAt (bodyOf Try.f28) [.r, .r, .l, .r, .s, .b]) ((fr28_0 k).sh.st v) (loopK (fr28_0 k) fun v => F28_0 k m v.1.1 v.2.1)).eval := by kernel_rfl
theorem pe28_0 (k m : Nat) (v : (fr28_0 k).sh.V) : (body Try.prog (stepper Try.prog (cfg28 k) lim28) (pl28_0 k) (codeAt (bodyOf Try.f28) [.r, .r, .l, .r, .s, .b]) ((fr28_0 k).sh.st v) (loopK (fr28_0 k) fun v => F28_0 k m v.1.1 v.2.1)).left = (body Try.prog (stepper Try.prog (cfg28 k) lim28) (pl28_0 k) (codeAt (bodyOf Try.f28) [.r, .r, .l, .r, .s, .b]) ((fr28_0 k).sh.st v) (loopK (fr28_0 k) fun v => F28_0 k m v.1.1 v.2.1)).right := by kernel_rfl
theorem fr28_0_ok (k : Nat) : FragOK Try.prog lim28 (fr28_0 k) (codeAt (bodyOf Try.f28) [.r, .r, .l, .r, .s]) :=
  frag_cast (by kernel_rfl) (loop_ok (cfg28_ok k) (Eq.mpr (pq28_0 k) (planOK_go _)) (fun m v => F28_0 k m v.1.1 v.2.1) k (fun _ => rfl) (fun _ => rfl) fun m v => ⟨ps28_0 k m v, pe28_0 k m v⟩)
def pl28 (k : Nat) : Plan := (.seq .go (.seq .go (.seq (.seq .go (.sub (.frag (fr28_0 k)))) .go)))
theorem pq28 (k : Nat) : PlanOK Try.prog lim28 (pl28 k) (codeAt (bodyOf Try.f28) []) = (PlanOK Try.prog lim28 .go (codeAt (bodyOf Try.f28) [.l]) ∧ (PlanOK Try.prog lim28 .go (codeAt (bodyOf Try.f28) [.r, .l]) ∧ ((PlanOK Try.prog lim28 .go (codeAt (bodyOf Try.f28) [.r, .r, .l, .l]) ∧ FragOK Try.prog lim28 (fr28_0 k) (codeAt (bodyOf Try.f28) [.r, .r, .l, .r, .s])) ∧ PlanOK Try.prog lim28 .go (codeAt (bodyOf Try.f28) [.r, .r, .r])))) := by kernel_rfl
theorem ev28 (k : Nat) (x : AT (sp28 k).ps) : (sp28 k).impl x = (fnT Try.prog (cfg28 k) lim28 Try.f28 (bodyOf Try.f28) (pl28 k) (sp28 k) x).eval := by kernel_rfl
theorem eq28 (k : Nat) (x : AT (sp28 k).ps) : (fnT Try.prog (cfg28 k) lim28 Try.f28 (bodyOf Try.f28) (pl28 k) (sp28 k) x).left = (fnT Try.prog (cfg28 k) lim28 Try.f28 (bodyOf Try.f28) (pl28 k) (sp28 k) x).right := by kernel_rfl
theorem v28 (k : Nat) : Callable Try.prog 28 ∧ Valid Try.prog 28 (sp28 k) :=
  fn_ok (cfg28_ok k) (f := 28) (fn := Try.f28) (by kernel_rfl) (c := bodyOf Try.f28) (by kernel_rfl) (by kernel_rfl) rfl rfl (Nat.le_of_ble_eq_true rfl) (Nat.le_of_ble_eq_true rfl) (p := pl28 k) (Eq.mpr (pq28 k) ⟨(planOK_go _), ⟨(planOK_go _), ⟨⟨(planOK_go _), (fr28_0_ok k)⟩, (planOK_go _)⟩⟩⟩) fun x => ⟨ev28 k x, eq28 k x⟩
/-! f47 hyphen/hyphenref4.points -/
def F47_0 (k : Nat) : Nat → (List (List (Int × (Int × Unit)))) → Int → Int → Int → Int → (List Int) → (List Int) → Option ((((List (List (Int × (Int × Unit)))) × Int × Int × Int × Int × Unit) × ((List Int) × (List Int) × Unit)))
  | 0, _, _, _, _, _, _, _ => none
  | n + 1, t0, t4, t5, t7, t8, c42, c2000003 =>
    bif (decide (t8 > (0 : Int))) then
      if 0 ≤ t7 ∧ t7 < ((List.length c42 : Nat) : Int) then
        if 0 ≤ (IntKind.wrap .i64 (t8 - (1 : Int))) ∧ (IntKind.wrap .i64 (t8 - (1 : Int))) < ((List.length c2000003 : Nat) : Int) then
          let x10 := (Int.toNat (IntKind.wrap .i64 (t8 - (1 : Int))))
          let x11 := (decide ((List.getD c42 (Int.toNat t7) (0 : Int)) < (List.getD c2000003 x10 (0 : Int))))
          bif x11 then
            (F47_0 k n t0 t4 t5 t7 (IntKind.wrap .i64 (t8 - (1 : Int))) c42 c2000003).bind some
          else
            some ((t0, t4, t5, t7, t8, ()), (c42, c2000003, ()))
        else none
      else none
    else
      some ((t0, t4, t5, t7, t8, ()), (c42, c2000003, ()))
def fr47_0 (k : Nat) : Frag := ⟨⟨[(3, (.sl true 3 (.int .i64) none))], [(0, .val (.sl false 96 (.sl false 113 (.pair (.int .i64) (.pair (.int .i64) .unit)) none) none)), (3, .at 2000003 []), (4, .val (.int .i64)), (5, .val (.int .i64)), (6, .at 42 []), (7, .val (.int .i64)), (8, .val (.int .i64))], [(42, none, (.sl true 3 (.int .i64) none)), (2000003, none, (.sl true 3 (.int .i64) none))]⟩, [(.exit 6, ⟨[], [(0, .val (.sl false 96 (.sl false 113 (.pair (.int .i64) (.pair (.int .i64) .unit)) none) none)), (3, .at 2000003 []), (4, .val (.int .i64)), (5, .val (.int .i64)), (6, .at 42 []), (7, .val (.int .i64)), (8, .val (.int .i64))], [(42, none, (.sl true 3 (.int .i64) none)), (2000003, none, (.sl true 3 (.int .i64) none))]⟩)], fun v => F47_0 k k v.1.1 v.1.2.1 v.1.2.2.1 v.1.2.2.2.1 v.1.2.2.2.2.1 v.2.1 v.2.2.1⟩
def F47_1 (k : Nat) : Nat → (List (List (Int × (Int × Unit)))) → Int → Int → Int → (List Int) → (List Int) → Option ((((List (List (Int × (Int × Unit)))) × Int × Int × Unit) × ((List Int) × Unit)))
  | 0, _, _, _, _, _, _ => none
  | n + 1, t0, t4, t5, t7, c42, c2000003 =>
    bif (decide (t7 < (2 : Int))) then
      (F47_0 k k t0 t4 t5 t7 ((List.length c2000003 : Nat) : Int) c42 c2000003).bind fun r12 =>
      let y13 := r12.1.1
      let y14 := r12.1.2.1
      let y15 := r12.1.2.2.1
      let y16 := r12.1.2.2.2.1
      let y17 := r12.1.2.2.2.2.1
      let y18 := r12.2.1
      let y19 := r12.2.2.1
      if 0 ≤ y16 ∧ y16 < ((List.length y18 : Nat) : Int) then
        let x20 := (decide ((List.getD y18 (Int.toNat y16) (0 : Int)) ≤ (1114111 : Int)))
        bif x20 then
          bif (y17 == (0 : Int)) then
            if 0 ≤ (0 : Int) ∧ (0 : Int) ≤ y17 ∧ y17 ≤ ((List.length y19 : Nat) : Int) then
              let x21 := (Int.toNat y17 - Int.toNat (0 : Int))
              if 0 ≤ y16 ∧ y16 < ((List.length y18 : Nat) : Int) then
                if 0 ≤ y17 ∧ y17 ≤ ((List.length y19 : Nat) : Int) ∧ ((List.length y19 : Nat) : Int) ≤ ((List.length y19 : Nat) : Int) then
                  let x22 := (Int.toNat ((List.length y19 : Nat) : Int) - Int.toNat y17)
                  if (List.length (List.replicate 0 (0 : Int)) + List.length (List.take x21 (List.drop (Int.toNat (0 : Int)) y19))) * (8 * 2) ≤ 281474976710656 ∧ List.length (List.replicate 0 (0 : Int)) + List.length (List.take x21 (List.drop (Int.toNat (0 : Int)) y19)) ≤ 9223372036854775807 then
                    let x23 := ((List.replicate 0 (0 : Int)) ++ (List.take x21 (List.drop (Int.toNat (0 : Int)) y19)))
                    let x24 := (List.set (List.replicate 1 (0 : Int)) 0 (List.getD y18 (Int.toNat y16) (0 : Int)))
                    if (List.length x23 + List.length x24) * (8 * 2) ≤ 281474976710656 ∧ List.length x23 + List.length x24 ≤ 9223372036854775807 then
                      if (List.length (x23 ++ x24) + List.length (List.take x22 (List.drop (Int.toNat y17) y19))) * (8 * 2) ≤ 281474976710656 ∧ List.length (x23 ++ x24) + List.length (List.take x22 (List.drop (Int.toNat y17) y19)) ≤ 9223372036854775807 then
                        let x25 := ((x23 ++ x24) ++ (List.take x22 (List.drop (Int.toNat y17) y19)))
                        (F47_1 k n y13 y14 y15 (IntKind.wrap .i64 (y16 + (1 : Int))) y18 x25).bind some
                      else none
                    else none
                  else none
                else none
              else none
            else none
          else
            if 0 ≤ (IntKind.wrap .i64 (y17 - (1 : Int))) ∧ (IntKind.wrap .i64 (y17 - (1 : Int))) < ((List.length y19 : Nat) : Int) then
              let x26 := (Int.toNat (IntKind.wrap .i64 (y17 - (1 : Int))))
              if 0 ≤ y16 ∧ y16 < ((List.length y18 : Nat) : Int) then
                let x27 := ((List.getD y19 x26 (0 : Int)) != (List.getD y18 (Int.toNat y16) (0 : Int)))
                bif x27 then
                  if 0 ≤ (0 : Int) ∧ (0 : Int) ≤ y17 ∧ y17 ≤ ((List.length y19 : Nat) : Int) then
                    let x28 := (Int.toNat y17 - Int.toNat (0 : Int))
                    if 0 ≤ y16 ∧ y16 < ((List.length y18 : Nat) : Int) then
                      if 0 ≤ y17 ∧ y17 ≤ ((List.length y19 : Nat) : Int) ∧ ((List.length y19 : Nat) : Int) ≤ ((List.length y19 : Nat) : Int) then
                        let x29 := (Int.toNat ((List.length y19 : Nat) : Int) - Int.toNat y17)
                        if (List.length (List.replicate 0 (0 : Int)) + List.length (List.take x28 (List.drop (Int.toNat (0 : Int)) y19))) * (8 * 2) ≤ 281474976710656 ∧ List.length (List.replicate 0 (0 : Int)) + List.length (List.take x28 (List.drop (Int.toNat (0 : Int)) y19)) ≤ 9223372036854775807 then
                          let x30 := ((List.replicate 0 (0 : Int)) ++ (List.take x28 (List.drop (Int.toNat (0 : Int)) y19)))
                          let x31 := (List.set (List.replicate 1 (0 : Int)) 0 (List.getD y18 (Int.toNat y16) (0 : Int)))
                          if (List.length x30 + List.length x31) * (8 * 2) ≤ 281474976710656 ∧ List.length x30 + List.length x31 ≤ 9223372036854775807 then
                            if (List.length (x30 ++ x31) + List.length (List.take x29 (List.drop (Int.toNat y17) y19))) * (8 * 2) ≤ 281474976710656 ∧ List.length (x30 ++ x31) + List.length (List.take x29 (List.drop (Int.toNat y17) y19)) ≤ 9223372036854775807 then
                              let x32 := ((x30 ++ x31) ++ (List.take x29 (List.drop (Int.toNat y17) y19)))
                              (F47_1 k n y13 y14 y15 (IntKind.wrap .i64 (y16 + (1 : Int))) y18 x32).bind some
                            else none
                          else none
                        else none
                      else none
                    else none
                  else none
                else
                  (F47_1 k n y13 y14 y15 (IntKind.wrap .i64 (y16 + (1 : Int))) y18 y19).bind some
              else none
            else none
        else
          (F47_1 k n y13 y14 y15 (IntKind.wrap .i64 (y16 + (1 : Int))) y18 y19).bind some
      else none
    else
      some ((t0, t4, t5, ()), (c2000003, ()))
def fr47_1 (k : Nat) : Frag := ⟨⟨[(3, (.sl true 3 (.int .i64) none))], [(0, .val (.sl false 96 (.sl false 113 (.pair (.int .i64) (.pair (.int .i64) .unit)) none) none)), (3, .at 2000003 []), (4, .val (.int .i64)), (5, .val (.int .i64)), (6, .at 42 []), (7, .val (.int .i64))], [(42, none, (.sl true 3 (.int .i64) none)), (2000003, none, (.sl true 3 (.int .i64) none))]⟩, [(.exit 4, ⟨[(3, (.sl true 3 (.int .i64) none))], [(0, .val (.sl false 96 (.sl false 113 (.pair (.int .i64) (.pair (.int .i64) .unit)) none) none)), (3, .at 2000003 []), (4, .val (.int .i64)), (5, .val (.int .i64))], [(2000003, none, (.sl true 3 (.int .i64) none))]⟩)], fun v => F47_1 k k v.1.1 v.1.2.1 v.1.2.2.1 v.1.2.2.2.1 v.2.1 v.2.2.1⟩
def F47_2 (k : Nat) : Nat → (List (List (Int × (Int × Unit)))) → Int → Int → (List Int) → Option ((((List (List (Int × (Int × Unit)))) × Int × Unit) × ((List Int) × Unit)))
  | 0, _, _, _, _ => none
  | n + 1, t0, t4, t5, c2000003 =>
    if 0 ≤ t4 ∧ t4 < ((List.length t0 : Nat) : Int) then
      let x3 := (List.getD t0 (Int.toNat t4) ([] : (List (Int × (Int × Unit)))))
      let x4 := (decide (t5 < ((List.length x3 : Nat) : Int)))
      bif x4 then
        if 0 ≤ t4 ∧ t4 < ((List.length t0 : Nat) : Int) then
          let x5 := (List.getD t0 (Int.toNat t4) ([] : (List (Int × (Int × Unit)))))
          if 0 ≤ t5 ∧ t5 < ((List.length x5 : Nat) : Int) then
            let x6 := (List.getD x5 (Int.toNat t5) ((0 : Int), ((0 : Int), ())))
            if 0 ≤ t4 ∧ t4 < ((List.length t0 : Nat) : Int) then
              let x7 := (List.getD t0 (Int.toNat t4) ([] : (List (Int × (Int × Unit)))))
              if 0 ≤ t5 ∧ t5 < ((List.length x7 : Nat) : Int) then
                let x8 := (List.getD x7 (Int.toNat t5) ((0 : Int), ((0 : Int), ())))
                let x9 := (List.set (List.set (List.replicate 2 (0 : Int)) 0 x6.1) 1 (IntKind.wrap .i64 (x8.2.1 + (1 : Int))))
                (F47_1 k k t0 t4 t5 (0 : Int) x9 c2000003).bind fun r33 =>
                let y34 := r33.1.1
                let y35 := r33.1.2.1
                let y36 := r33.1.2.2.1
                let y37 := r33.2.1
                (F47_2 k n y34 y35 (IntKind.wrap .i64 (y36 + (1 : Int))) y37).bind some
              else none
            else none
          else none
        else none
      else
        some ((t0, t4, ()), (c2000003, ()))
    else none
def fr47_2 (k : Nat) : Frag := ⟨⟨[(3, (.sl true 3 (.int .i64) none))], [(0, .val (.sl false 96 (.sl false 113 (.pair (.int .i64) (.pair (.int .i64) .unit)) none) none)), (3, .at 2000003 []), (4, .val (.int .i64)), (5, .val (.int .i64))], [(2000003, none, (.sl true 3 (.int .i64) none))]⟩, [(.exit 2, ⟨[(3, (.sl true 3 (.int .i64) none))], [(0, .val (.sl false 96 (.sl false 113 (.pair (.int .i64) (.pair (.int .i64) .unit)) none) none)), (3, .at 2000003 []), (4, .val (.int .i64))], [(2000003, none, (.sl true 3 (.int .i64) none))]⟩)], fun v => F47_2 k k v.1.1 v.1.2.1 v.1.2.2.1 v.2.1⟩
def F47_3 (k : Nat) : Nat → (List (List (Int × (Int × Unit)))) → Int → (List Int) → Option ((Unit × ((List Int) × Unit)))
  | 0, _, _, _ => none
  | n + 1, t0, t4, c2000003 =>
    let x2 := (decide (t4 < ((List.length t0 : Nat) : Int)))
    bif x2 then
      (F47_2 k k t0 t4 (0 : Int) c2000003).bind fun r38 =>
      let y39 := r38.1.1
      let y40 := r38.1.2.1
      let y41 := r38.2.1
      (F47_3 k n y39 (IntKind.wrap .i64 (y40 + (1 : Int))) y41).bind some
    else
      some ((), (c2000003, ()))
def fr47_3 (k : Nat) : Frag := ⟨⟨[(3, (.sl true 3 (.int .i64) none))], [(0, .val (.sl false 96 (.sl false 113 (.pair (.int .i64) (.pair (.int .i64) .unit)) none) none)), (3, .at 2000003 []), (4, .val (.int .i64))], [(2000003, none, (.sl true 3 (.int .i64) none))]⟩, [(.exit 0, ⟨[(3, (.sl true 3 (.int .i64) none))], [(3, .at 2000003 [])], [(2000003, none, (.sl true 3 (.int .i64) none))]⟩)], fun v => F47_3 k k v.1.1 v.1.2.1 v.2.1⟩
def F47 (k : Nat) (a0 : (List (List (Int × (Int × Unit))))) : Option (((List Int) × Unit) × Unit) :=
  let x1 := (List.set (List.replicate 1 (0 : Int)) 0 (0 : Int))
  (F47_3 k k a0 (0 : Int) x1).bind fun r42 =>
  let y43 := r42.2.1
  some ((y43, ()), ())
def sp47 (k : Nat) : Spec := ⟨[.val (.sl false 96 (.sl false 113 (.pair (.int .i64) (.pair (.int .i64) .unit)) none) none)], [.own (.sl true 3 (.int .i64) none)], fun x => F47 k x.1⟩
def lim47 : Lim := ⟨102, 1, false, true, []⟩
def cfg47 (k : Nat) : Nat → Option Spec := cfgL []
theorem cfg47_ok (k : Nat) : CfgOK Try.prog (cfg47 k) := cfgL_nil
def pl47_0 (k : Nat) : Plan := .go
theorem pq47_0 (k : Nat) : PlanOK Try.prog lim47 (pl47_0 k) (codeAt (bodyOf Try.f47) [.r, .r, .l, .r, .s, .b, .r, .l, .s, .r, .s, .b, .r, .l, .s, .r, .r, .s, .b, .r, .l, .s, .r, .l, .s, .b]) = PlanOK Try.prog lim47 .go (codeAt (bodyOf Try.f47) [.r, .r, .l, .r, .s, .b, .r, .l, .s, .r, .s, .b, .r, .l, .s, .r, .r, .s, .b, .r, .l, .s, .r, .l, .s, .b]) := by kernel_rfl
theorem ps47_0 (k m : Nat) (v : (fr47_0 k).sh.V) : F47_0 k (m + 1) v.1.1 v.1.2.1 v.1.2.2.1 v.1.2.2.2.1 v.1.2.2.2.2.1 v.2.1 v.2.2.1 = (body Try.prog (stepper Try.prog (cfg47 k) lim47) (pl47_0 k) (codeAt (bodyOf Try.f47) [.r, .r, .l, .r, .s, .b, .r, .l, .s, .r, .s, .b, .r, .l, .s, .r, .r, .s, .b, .r, .l, .s, .r, .l, .s, .b]) ((fr47_0 k).sh.st v) (loopK (fr47_0 k) fun v => F47_0 k m v.1.1 v.1.2.1 v.1.2.2.1 v.1.2.2.2.1 v.1.2.2.2.2.1 v.2.1 v.2.2.1)).eval := by kernel_rfl
theorem pe47_0 (k m : Nat) (v : (fr47_0 k).sh.V) : (body Try.prog (stepper Try.prog (cfg47 k) lim47) (pl47_0 k) (codeAt (bodyOf Try.f47) [.r, .r, .l, .r, .s, .b, .r, .l, .s, .r, .s, .b, .r, .l, .s, .r, .r, .s, .b, .r, .l, .s, .r, .l, .s, .b]) ((fr47_0 k).sh.st v) (loopK (fr47_0 k) fun v => F47_0 k m v.1.1 v.1.2.1 v.1.2.2.1 v.1.2.2.2.1 v.1.2.2.2.2.1 v.2.1 v.2.2.1)).left = (body Try.prog (stepper Try.prog (cfg47 k) lim47) (pl47_0 k) (codeAt (bodyOf Try.f47) [.r, .r, .l, .r, .s, .b, .r, .l, .s, .r, .s, .b, .r, .l, .s, .r, .r, .s, .b, .r, .l, .s, .r, .l, .s, .b]) ((fr47_0 k).sh.st v) (loopK (fr47_0 k) fun v => F47_0 k m v.1.1 v.1.2.1 v.1.2.2.1 v.1.2.2.2.1 v.1.2.2.2.2.1 v.2.1 v.2.2.1)).right := by kernel_rfl
theorem fr47_0_ok (k : Nat) : FragOK Try.prog lim47 (fr47_0 k) (codeAt (bodyOf Try.f47) [.r, .r, .l, .r, .s, .b, .r, .l, .s, .r, .s, .b, .r, .l, .s, .r, .r, .s, .b, .r, .l, .s, .r, .l, .s]) :=
  frag_cast (by kernel_rfl) (loop_ok (cfg47_ok k) (Eq.mpr (pq47_0 k) (planOK_go _)) (fun m v => F47_0 k m v.1.1 v.1.2.1 v.1.2.2.1 v.1.2.2.2.1 v.1.2.2.2.2.1 v.2.1 v.2.2.1) k (fun _ => rfl) (fun _ => rfl) fun m v => ⟨ps47_0 k m v, pe47_0 k m v⟩)
def pl47_1 (k : Nat) : Plan := (.seq .go (.seq (.sub (.seq .go (.seq (.sub (.frag (fr47_0 k))) .go))) .go))
theorem pq47_1 (k : Nat) : PlanOK Try.prog lim47 (pl47_1 k) (codeAt (bodyOf Try.f47) [.r, .r, .l, .r, .s, .b, .r, .l, .s, .r, .s, .b, .r, .l, .s, .r, .r, .s, .b]) = (PlanOK Try.prog lim47 .go (codeAt (bodyOf Try.f47) [.r, .r, .l, .r, .s, .b, .r, .l, .s, .r, .s, .b, .r, .l, .s, .r, .r, .s, .b, .l]) ∧ ((PlanOK Try.prog lim47 .go (codeAt (bodyOf Try.f47) [.r, .r, .l, .r, .s, .b, .r, .l, .s, .r, .s, .b, .r, .l, .s, .r, .r, .s, .b, .r, .l, .s, .l]) ∧ (FragOK Try.prog lim47 (fr47_0 k) (codeAt (bodyOf Try.f47) [.r, .r, .l, .r, .s, .b, .r, .l, .s, .r, .s, .b, .r, .l, .s, .r, .r, .s, .b, .r, .l, .s, .r, .l, .s]) ∧ PlanOK Try.prog lim47 .go (codeAt (bodyOf Try.f47) [.r, .r, .l, .r, .s, .b, .r, .l, .s, .r, .s, .b, .r, .l, .s, .r, .r, .s, .b, .r, .l, .s, .r, .r]))) ∧ PlanOK Try.prog lim47 .go (codeAt (bodyOf Try.f47) [.r, .r, .l, .r, .s, .b, .r, .l, .s, .r, .s, .b, .r, .l, .s, .r, .r, .s, .b, .r, .r]))) := by kernel_rfl
theorem ps47_1 (k m : Nat) (v : (fr47_1 k).sh.V) : F47_1 k (m + 1) v.1.1 v.1.2.1 v.1.2.2.1 v.1.2.2.2.1 v.2.1 v.2.2.1 = (body Try.prog (stepper Try.prog (cfg47 k) lim47) (pl47_1 k) (codeAt (bodyOf Try.f47) [.r, .r, .l, .r, .s, .b, .r, .l, .s, .r, .s, .b, .r, .l, .s, .r, .r, .s, .b]) ((fr47_1 k).sh.st v) (loopK (fr47_1 k) fun v => F47_1 k m v.1.1 v.1.2.1 v.1.2.2.1 v.1.2.2.2.1 v.2.1 v.2.2.1)).eval := by kernel_rfl
theorem pe47_1 (k m : Nat) (v : (fr47_1 k).sh.V) : (body Try.prog (stepper Try.prog (cfg47 k) lim47) (pl47_1 k) (codeAt (bodyOf Try.f47) [.r, .r, .l, .r, .s, .b, .r, .l, .s, .r, .s, .b, .r, .l, .s, .r, .r, .s, .b]) ((fr47_1 k).sh.st v) (loopK (fr47_1 k) fun v => F47_1 k m v.1.1 v.1.2.1 v.1.2.2.1 v.1.2.2.2.1 v.2.1 v.2.2.1)).left = (body Try.prog (stepper Try.prog (cfg47 k) lim47) (pl47_1 k) (codeAt (bodyOf Try.f47) [.r, .r, .l, .r, .s, .b, .r, .l, .s, .r, .s, .b, .r, .l, .s, .r, .r, .s, .b]) ((fr47_1 k).sh.st v) (loopK (fr47_1 k) fun v => F47_1 k m v.1.1 v.1.2.1 v.1.2.2.1 v.1.2.2.2.1 v.2.1 v.2.2.1)).right := by kernel_rfl
theorem fr47_1_ok (k : Nat) : FragOK Try.prog lim47 (fr47_1 k) (codeAt (bodyOf Try.f47) [.r, .r, .l, .r, .s, .b, .r, .l, .s, .r, .s, .b, .r, .l, .s, .r, .r, .s]) :=
  frag_cast (by kernel_rfl) (loop_ok (cfg47_ok k) (Eq.mpr (pq47_1 k) ⟨(planOK_go _), ⟨⟨(planOK_go _), ⟨(fr47_0_ok k), (planOK_go _)⟩⟩, (planOK_go _)⟩⟩) (fun m v => F47_1 k m v.1.1 v.1.2.1 v.1.2.2.1 v.1.2.2.2.1 v.2.1 v.2.2.1) k (fun _ => rfl) (fun _ => rfl) fun m v => ⟨ps47_1 k m v, pe47_1 k m v⟩)
def pl47_2 (k : Nat) : Plan := (.seq .go (.seq (.sub (.seq .go (.seq .go (.sub (.frag (fr47_1 k)))))) .go))
theorem pq47_2 (k : Nat) : PlanOK Try.prog lim47 (pl47_2 k) (codeAt (bodyOf Try.f47) [.r, .r, .l, .r, .s, .b, .r, .l, .s, .r, .s, .b]) = (PlanOK Try.prog lim47 .go (codeAt (bodyOf Try.f47) [.r, .r, .l, .r, .s, .b, .r, .l, .s, .r, .s, .b, .l]) ∧ ((PlanOK Try.prog lim47 .go (codeAt (bodyOf Try.f47) [.r, .r, .l, .r, .s, .b, .r, .l, .s, .r, .s, .b, .r, .l, .s, .l]) ∧ (PlanOK Try.prog lim47 .go (codeAt (bodyOf Try.f47) [.r, .r, .l, .r, .s, .b, .r, .l, .s, .r, .s, .b, .r, .l, .s, .r, .l]) ∧ FragOK Try.prog lim47 (fr47_1 k) (codeAt (bodyOf Try.f47) [.r, .r, .l, .r, .s, .b, .r, .l, .s, .r, .s, .b, .r, .l, .s, .r, .r, .s]))) ∧ PlanOK Try.prog lim47 .go (codeAt (bodyOf Try.f47) [.r, .r, .l, .r, .s, .b, .r, .l, .s, .r, .s, .b, .r, .r]))) := by kernel_rfl
theorem ps47_2 (k m : Nat) (v : (fr47_2 k).sh.V) : F47_2 k (m + 1) v.1.1 v.1.2.1 v.1.2.2.1 v.2.1 = (body Try.prog (stepper Try.prog (cfg47 k) lim47) (pl47_2 k) (codeAt (bodyOf Try.f47) [.r, .r, .l, .r, .s, .b, .r, .l, .s, .r, .s, .b]) ((fr47_2 k).sh.st v) (loopK (fr47_2 k) fun v => F47_2 k m v.1.1 v.1.2.1 v.1.2.2.1 v.2.1)).eval := by kernel_rfl
theorem pe47_2 (k m : Nat) (v : (fr47_2 k).sh.V) : (body Try.prog (stepper Try.prog (cfg47 k) lim47) (pl47_2 k) (codeAt (bodyOf Try.f47) [.r, .r, .l, .r, .s, .b, .r, .l, .s, .r, .s, .b]) ((fr47_2 k).sh.st v) (loopK (fr47_2 k) fun v => F47_2 k m v.1.1 v.1.2.1 v.1.2.2.1 v.2.1)).left = (body Try.prog (stepper Try.prog (cfg47 k) lim47) (pl47_2 k) (codeAt (bodyOf Try.f47) [.r, .r, .l, .r, .s, .b, .r, .l, .s, .r, .s, .b]) ((fr47_2 k).sh.st v) (loopK (fr47_2 k) fun v => F47_2 k m v.1.1 v.1.2.1 v.1.2.2.1 v.2.1)).right := by kernel_rfl
theorem fr47_2_ok (k : Nat) : FragOK Try.prog lim47 (fr47_2 k) (codeAt (bodyOf Try.f47) [.r, .r, .l, .r, .s, .b, .r, .l, .s, .r, .s]) :=
  frag_cast (by kernel_rfl) (loop_ok (cfg47_ok k) (Eq.mpr (pq47_2 k) ⟨(planOK_go _), ⟨⟨(planOK_go _), ⟨(planOK_go _), (fr47_1_ok k)⟩⟩, (planOK_go _)⟩⟩) (fun m v => F47_2 k m v.1.1 v.1.2.1 v.1.2.2.1 v.2.1) k (fun _ => rfl) (fun _ => rfl) fun m v => ⟨ps47_2 k m v, pe47_2 k m v⟩)
def pl47_3 (k : Nat) : Plan := (.seq .go (.seq (.sub (.seq .go (.sub (.frag (fr47_2 k))))) .go))
theorem pq47_3 (k : Nat) : PlanOK Try.prog lim47 (pl47_3 k) (codeAt (bodyOf Try.f47) [.r, .r, .l, .r, .s, .b]) = (PlanOK Try.prog lim47 .go (codeAt (bodyOf Try.f47) [.r, .r, .l, .r, .s, .b, .l]) ∧ ((PlanOK Try.prog lim47 .go (codeAt (bodyOf Try.f47) [.r, .r, .l, .r, .s, .b, .r, .l, .s, .l]) ∧ FragOK Try.prog lim47 (fr47_2 k) (codeAt (bodyOf Try.f47) [.r, .r, .l, .r, .s, .b, .r, .l, .s, .r, .s])) ∧ PlanOK Try.prog lim47 .go (codeAt (bodyOf Try.f47) [.r, .r, .l, .r, .s, .b, .r, .r]))) := by kernel_rfl
theorem ps47_3 (k m : Nat) (v : (fr47_3 k).sh.V) : F47_3 k (m + 1) v.1.1 v.1.2.1 v.2.1 = (body Try.prog (stepper Try.prog (cfg47 k) lim47) (pl47_3 k) (codeAt (bodyOf Try.f47) [.r, .r, .l, .r, .s, .b]) ((fr47_3 k).sh.st v) (loopK (fr47_3 k) fun v => F47_3 k m v.1.1 v.1.2.1 v.2.1)).eval := by kernel_rfl
theorem pe47_3 (k m : Nat) (v : (fr47_3 k).sh.V) : (body Try.prog (stepper Try.prog (cfg47 k) lim47) (pl47_3 k) (codeAt (bodyOf Try.f47) [.r, .r, .l, .r, .s, .b]) ((fr47_3 k).sh.st v) (loopK (fr47_3 k) fun v => F47_3 k m v.1.1 v.1.2.1 v.2.1)).left = (body Try.prog (stepper Try.prog (cfg47 k) lim47) (pl47_3 k) (codeAt (bodyOf Try.f47) [.r, .r, .l, .r, .s, .b]) ((fr47_3 k).sh.st v) (loopK (fr47_3 k) fun v => F47_3 k m v.1.1 v.1.2.1 v.2.1)).right := by kernel_rfl
theorem fr47_3_ok (k : Nat) : FragOK Try.prog lim47 (fr47_3 k) (codeAt (bodyOf Try.f47) [.r, .r, .l, .r, .s]) :=
  frag_cast (by kernel_rfl) (loop_ok (cfg47_ok k) (Eq.mpr (pq47_3 k) ⟨(planOK_go _), ⟨⟨(planOK_go _), (fr47_2_ok k)⟩, (planOK_go _)⟩⟩) (fun m v => F47_3 k m v.1.1 v.1.2.1 v.2.1) k (fun _ => rfl) (fun _ => rfl) fun m v => ⟨ps47_3 k m v, pe47_3 k m v⟩)
def pl47 (k : Nat) : Plan := (.seq .go (.seq .go (.seq (.seq .go (.sub (.frag (fr47_3 k)))) .go)))
theorem pq47 (k : Nat) : PlanOK Try.prog lim47 (pl47 k) (codeAt (bodyOf Try.f47) []) = (PlanOK Try.prog lim47 .go (codeAt (bodyOf Try.f47) [.l]) ∧ (PlanOK Try.prog lim47 .go (codeAt (bodyOf Try.f47) [.r, .l]) ∧ ((PlanOK Try.prog lim47 .go (codeAt (bodyOf Try.f47) [.r, .r, .l, .l]) ∧ FragOK Try.prog lim47 (fr47_3 k) (codeAt (bodyOf Try.f47) [.r, .r, .l, .r, .s])) ∧ PlanOK Try.prog lim47 .go (codeAt (bodyOf Try.f47) [.r, .r, .r])))) := by kernel_rfl
theorem ev47 (k : Nat) (x : AT (sp47 k).ps) : (sp47 k).impl x = (fnT Try.prog (cfg47 k) lim47 Try.f47 (bodyOf Try.f47) (pl47 k) (sp47 k) x).eval := by kernel_rfl
theorem eq47 (k : Nat) (x : AT (sp47 k).ps) : (fnT Try.prog (cfg47 k) lim47 Try.f47 (bodyOf Try.f47) (pl47 k) (sp47 k) x).left = (fnT Try.prog (cfg47 k) lim47 Try.f47 (bodyOf Try.f47) (pl47 k) (sp47 k) x).right := by kernel_rfl
theorem v47 (k : Nat) : Callable Try.prog 47 ∧ Valid Try.prog 47 (sp47 k) :=
  fn_ok (cfg47_ok k) (f := 47) (fn := Try.f47) (by kernel_rfl) (c := bodyOf Try.f47) (by kernel_rfl) (by kernel_rfl) rfl rfl (Nat.le_of_ble_eq_true rfl) (Nat.le_of_ble_eq_true rfl) (p := pl47 k) (Eq.mpr (pq47 k) ⟨(planOK_go _), ⟨(planOK_go _), ⟨⟨(planOK_go _), (fr47_3_ok k)⟩, (planOK_go _)⟩⟩⟩) fun x => ⟨ev47 k x, eq47 k x⟩
/-! f51 hyphen/hyphenref3.Has -/
def F51_0 (k : Nat) : Nat → (List (Int × (Int × Unit))) → Int → Int → Option ((Unit × Unit) ⊕ ((Bool × Unit) × Unit))
  | 0, _, _, _ => none
  | n + 1, t0, t1, t5 =>
    let x4 := (decide (t5 < ((List.length t0 : Nat) : Int)))
    bif x4 then
      if 0 ≤ t5 ∧ t5 < ((List.length t0 : Nat) : Int) then
        let x5 := (List.getD t0 (Int.toNat t5) ((0 : Int), ((0 : Int), ())))
        bif (decide (t1 ≥ x5.1)) then
          if 0 ≤ t5 ∧ t5 < ((List.length t0 : Nat) : Int) then
            let x6 := (List.getD t0 (Int.toNat t5) ((0 : Int), ((0 : Int), ())))
            bif (decide (t1 ≤ x6.2.1)) then
              some (.inr ((true, ()), ()))
            else
              (F51_0 k n t0 t1 (IntKind.wrap .i64 (t5 + (1 : Int)))).bind some
          else none
        else
          (F51_0 k n t0 t1 (IntKind.wrap .i64 (t5 + (1 : Int)))).bind some
      else none
    else
      some (.inl ((), ()))
def fr51_0 (k : Nat) : Frag := ⟨⟨[], [(0, .val (.sl false 113 (.pair (.int .i64) (.pair (.int .i64) .unit)) none)), (1, .val (.int .i64)), (5, .val (.int .i64))], []⟩, [(.exit 0, ⟨[], [], []⟩), (.ret, ⟨[], [(4, .val .bool)], []⟩)], fun v => F51_0 k k v.1.1 v.1.2.1 v.1.2.2.1⟩
def F51 (k : Nat) (a0 : (List (Int × (Int × Unit)))) (a1 : Int) : Option ((Bool × Unit) × Unit) :=
  (F51_0 k k a0 a1 (0 : Int)).bind fun r7 =>
  match r7 with
  | .inl r8 =>
    some ((false, ()), ())
  | .inr r8 =>
    let y9 := r8.1.1
    some ((y9, ()), ())
def sp51 (k : Nat) : Spec := ⟨[.val (.sl false 113 (.pair (.int .i64) (.pair (.int .i64) .unit)) none), .val (.int .i64)], [.val .bool], fun x => F51 k x.1 x.2.1⟩
def lim51 : Lim := ⟨28, 2, false, false, []⟩
def cfg51 (k : Nat) : Nat → Option Spec := cfgL []
theorem cfg51_ok (k : Nat) : CfgOK Try.prog (cfg51 k) := cfgL_nil
def pl51_0 (k : Nat) : Plan := .go
theorem pq51_0 (k : Nat) : PlanOK Try.prog lim51 (pl51_0 k) (codeAt (bodyOf Try.f51) [.r, .l, .r, .s, .b]) = PlanOK Try.prog lim51 .go (codeAt (bodyOf Try.f51) [.r, .l, .r, .s, .b]) := by kernel_rfl
theorem ps51_0 (k m : Nat) (v : (fr51_0 k).sh.V) : F51_0 k (m + 1) v.1.1 v.1.2.1 v.1.2.2.1 = (body Try.prog (stepper Try.prog (cfg51 k) lim51) (pl51_0 k) (codeAt (bodyOf Try.f51) [.r, .l, .r, .s, .b]) ((fr51_0 k).sh.st v) (loopK (fr51_0 k) fun v => F51_0 k m v.1.1 v.1.2.1 v.1.2.2.1)).eval := by kernel_rfl
theorem pe51_0 (k m : Nat) (v : (fr51_0 k).sh.V) : (body Try.prog (stepper Try.prog (cfg51 k) lim51) (pl51_0 k) (codeAt (bodyOf Try.f51) [.r, .l, .r, .s, .b]) ((fr51_0 k).sh.st v) (loopK (fr51_0 k) fun v => F51_0 k m v.1.1 v.1.2.1 v.1.2.2.1)).left = (body Try.prog (stepper Try.prog (cfg51 k) lim51) (pl51_0 k) (codeAt (bodyOf Try.f51) [.r, .l, .r, .s, .b]) ((fr51_0 k).sh.st v) (loopK (fr51_0 k) fun v => F51_0 k m v.1.1 v.1.2.1 v.1.2.2.1)).right := by kernel_rfl
theorem fr51_0_ok (k : Nat) : FragOK Try.prog lim51 (fr51_0 k) (codeAt (bodyOf Try.f51) [.r, .l, .r, .s]) :=
  frag_cast (by kernel_rfl) (loop_ok (cfg51_ok k) (Eq.mpr (pq51_0 k) (planOK_go _)) (fun m v => F51_0 k m v.1.1 v.1.2.1 v.1.2.2.1) k (fun _ => rfl) (fun _ => rfl) fun m v => ⟨ps51_0 k m v, pe51_0 k m v⟩)
def pl51 (k : Nat) : Plan := (.seq .go (.seq (.seq .go (.sub (.frag (fr51_0 k)))) .go))
theorem pq51 (k : Nat) : PlanOK Try.prog lim51 (pl51 k) (codeAt (bodyOf Try.f51) []) = (PlanOK Try.prog lim51 .go (codeAt (bodyOf Try.f51) [.l]) ∧ ((PlanOK Try.prog lim51 .go (codeAt (bodyOf Try.f51) [.r, .l, .l]) ∧ FragOK Try.prog lim51 (fr51_0 k) (codeAt (bodyOf Try.f51) [.r, .l, .r, .s])) ∧ PlanOK Try.prog lim51 .go (codeAt (bodyOf Try.f51) [.r, .r]))) := by kernel_rfl
theorem ev51 (k : Nat) (x : AT (sp51 k).ps) : (sp51 k).impl x = (fnT Try.prog (cfg51 k) lim51 Try.f51 (bodyOf Try.f51) (pl51 k) (sp51 k) x).eval := by kernel_rfl
theorem eq51 (k : Nat) (x : AT (sp51 k).ps) : (fnT Try.prog (cfg51 k) lim51 Try.f51 (bodyOf Try.f51) (pl51 k) (sp51 k) x).left = (fnT Try.prog (cfg51 k) lim51 Try.f51 (bodyOf Try.f51) (pl51 k) (sp51 k) x).right := by kernel_rfl
theorem v51 (k : Nat) : Callable Try.prog 51 ∧ Valid Try.prog 51 (sp51 k) :=
  fn_ok (cfg51_ok k) (f := 51) (fn := Try.f51) (by kernel_rfl) (c := bodyOf Try.f51) (by kernel_rfl) (by kernel_rfl) rfl rfl (Nat.le_of_ble_eq_true rfl) (Nat.le_of_ble_eq_true rfl) (p := pl51 k) (Eq.mpr (pq51 k) ⟨(planOK_go _), ⟨⟨(planOK_go _), (fr51_0_ok k)⟩, (planOK_go _)⟩⟩) fun x => ⟨ev51 k x, eq51 k x⟩
/-! f48 hyphen/hyphenref4.key -/
def F48_0 (k : Nat) : Nat → (List (List (Int × (Int × Unit)))) → Int → Int → Int → Option (((Int × Unit) × Unit))
  | 0, _, _, _, _ => none
  | n + 1, t0, t1, t5, t6 =>
    let x5 := (decide (t6 < ((List.length t0 : Nat) : Int)))
    bif x5 then
      if 0 ≤ t6 ∧ t6 < ((List.length t0 : Nat) : Int) then
        let x6 := (List.getD t0 (Int.toNat t6) ([] : (List (Int × (Int × Unit)))))
        (F51 k x6 t1).bind fun r7 =>
        bif r7.1.1 then
          let x8 := (IntKind.wrap .i64 ((IntKind.wrap .i64 ((2 : Int) * t5)) + (1 : Int)))
          (F48_0 k n t0 t1 x8 (IntKind.wrap .i64 (t6 + (1 : Int)))).bind some
        else
          (F48_0 k n t0 t1 (IntKind.wrap .i64 ((2 : Int) * t5)) (IntKind.wrap .i64 (t6 + (1 : Int)))).bind some
      else none
    else
      some ((t5, ()), ())
def fr48_0 (k : Nat) : Frag := ⟨⟨[], [(0, .val (.sl false 96 (.sl false 113 (.pair (.int .i64) (.pair (.int .i64) .unit)) none) none)), (1, .val (.int .i64)), (5, .val (.int .i64)), (6, .val (.int .i64))], []⟩, [(.exit 0, ⟨[], [(5, .val (.int .i64))], []⟩)], fun v => F48_0 k k v.1.1 v.1.2.1 v.1.2.2.1 v.1.2.2.2.1⟩
def F48 (k : Nat) (a0 : (List (List (Int × (Int × Unit))))) (a1 : Int) : Option ((Int × Unit) × Unit) :=
  (F48_0 k k a0 a1 (0 : Int) (0 : Int)).bind fun r9 =>
  let y10 := r9.1.1
  some ((y10, ()), ())
def sp48 (k : Nat) : Spec := ⟨[.val (.sl false 96 (.sl false 113 (.pair (.int .i64) (.pair (.int .i64) .unit)) none) none), .val (.int .i64)], [.val (.int .i64)], fun x => F48 k x.1 x.2.1⟩
def lim48 : Lim := ⟨24, 2, false, false, []⟩
def cfg48 (k : Nat) : Nat → Option Spec := cfgL [(51, sp51 k)]
theorem cfg48_ok (k : Nat) : CfgOK Try.prog (cfg48 k) := cfgL_cons (v51 k) (cfgL_nil)
def pl48_0 (k : Nat) : Plan := .go
theorem pq48_0 (k : Nat) : PlanOK Try.prog lim48 (pl48_0 k) (codeAt (bodyOf Try.f48) [.r, .r, .l, .r, .s, .b]) = PlanOK Try.prog lim48 .go (codeAt (bodyOf Try.f48) [.r, .r, .l, .r, .s, .b]) := by kernel_rfl
theorem ps48_0 (k m : Nat) (v : (fr48_0 k).sh.V) : F48_0 k (m + 1) v.1.1 v.1.2.1 v.1.2.2.1 v.1.2.2.2.1 = (body Try.prog (stepper Try.prog (cfg48 k) lim48) (pl48_0 k) (codeAt (bodyOf Try.f48) [.r, .r, .l, .r, .s, .b]) ((fr48_0 k).sh.st v) (loopK (fr48_0 k) fun v => F48_0 k m v.1.1 v.1.2.1 v.1.2.2.1 v.1.2.2.2.1)).eval := by kernel_rfl
theorem pe48_0 (k m : Nat) (v : (fr48_0 k).sh.V) : (body Try.prog (stepper Try.prog (cfg48 k) lim48) (pl48_0 k) (codeAt (bodyOf Try.f48) [.r, .r, .l, .r, .s, .b]) ((fr48_0 k).sh.st v) (loopK (fr48_0 k) fun v => F48_0 k m v.1.1 v.1.2.1 v.1.2.2.1 v.1.2.2.2.1)).left = (body Try.prog (stepper Try.prog (cfg48 k) lim48) (pl48_0 k) (codeAt (bodyOf Try.f48) [.r, .r, .l, .r, .s, .b]) ((fr48_0 k).sh.st v) (loopK (fr48_0 k) fun v => F48_0 k m v.1.1 v.1.2.1 v.1.2.2.1 v.1.2.2.2.1)).right := by kernel_rfl
theorem fr48_0_ok (k : Nat) : FragOK Try.prog lim48 (fr48_0 k) (codeAt (bodyOf Try.f48) [.r, .r, .l, .r, .s]) :=
  frag_cast (by kernel_rfl) (loop_ok (cfg48_ok k) (Eq.mpr (pq48_0 k) (planOK_go _)) (fun m v => F48_0 k m v.1.1 v.1.2.1 v.1.2.2.1 v.1.2.2.2.1) k (fun _ => rfl) (fun _ => rfl) fun m v => ⟨ps48_0 k m v, pe48_0 k m v⟩)
def pl48 (k : Nat) : Plan := (.seq .go (.seq .go (.seq (.seq .go (.sub (.frag (fr48_0 k)))) .go)))
theorem pq48 (k : Nat) : PlanOK Try.prog lim48 (pl48 k) (codeAt (bodyOf Try.f48) []) = (PlanOK Try.prog lim48 .go (codeAt (bodyOf Try.f48) [.l]) ∧ (PlanOK Try.prog lim48 .go (codeAt (bodyOf Try.f48) [.r, .l]) ∧ ((PlanOK Try.prog lim48 .go (codeAt (bodyOf Try.f48) [.r, .r, .l, .l]) ∧ FragOK Try.prog lim48 (fr48_0 k) (codeAt (bodyOf Try.f48) [.r, .r, .l, .r, .s])) ∧ PlanOK Try.prog lim48 .go (codeAt (bodyOf Try.f48) [.r, .r, .r])))) := by kernel_rfl
theorem ev48 (k : Nat) (x : AT (sp48 k).ps) : (sp48 k).impl x = (fnT Try.prog (cfg48 k) lim48 Try.f48 (bodyOf Try.f48) (pl48 k) (sp48 k) x).eval := by kernel_rfl
theorem eq48 (k : Nat) (x : AT (sp48 k).ps) : (fnT Try.prog (cfg48 k) lim48 Try.f48 (bodyOf Try.f48) (pl48 k) (sp48 k) x).left = (fnT Try.prog (cfg48 k) lim48 Try.f48 (bodyOf Try.f48) (pl48 k) (sp48 k) x).right := by kernel_rfl
theorem v48 (k : Nat) : Callable Try.prog 48 ∧ Valid Try.prog 48 (sp48 k) :=
  fn_ok (cfg48_ok k) (f := 48) (fn := Try.f48) (by kernel_rfl) (c := bodyOf Try.f48) (by kernel_rfl) (by kernel_rfl) rfl rfl (Nat.le_of_ble_eq_true rfl) (Nat.le_of_ble_eq_true rfl) (p := pl48 k) (Eq.mpr (pq48 k) ⟨(planOK_go _), ⟨(planOK_go _), ⟨⟨(planOK_go _), (fr48_0_ok k)⟩, (planOK_go _)⟩⟩⟩) fun x => ⟨ev48 k x, eq48 k x⟩
/-! f29 hyphen/hyphenref4.Cuts -/
def F29_0 (k : Nat) : Nat → (List (List (Int × (Int × Unit)))) → Int → Int → Int → Int → (List Int) → (List Int) → (List Int) → (List Int) → Option ((((List (List (Int × (Int × Unit)))) × Int × Int × Int × Int × Unit) × ((List Int) × (List Int) × (List Int) × (List Int) × Unit)))
  | 0, _, _, _, _, _, _, _, _, _ => none
  | n + 1, t0, t8, t9, t10, t11, c1000208, c2000004, c2000005, c2000006 =>
    let x5 := (decide (t11 < ((List.length c2000006 : Nat) : Int)))
    bif x5 then
      if 0 ≤ t11 ∧ t11 < ((List.length c2000006 : Nat) : Int) then
        let x6 := (List.getD c2000006 (Int.toNat t11) (0 : Int))
        bif (x6 != t10) then
          (F29_0 k n t0 t8 t9 t10 (IntKind.wrap .i64 (t11 + (1 : Int))) c1000208 c2000004 c2000005 c2000006).bind some
        else
          some ((t0, t8, t9, t10, t11, ()), (c1000208, c2000004, c2000005, c2000006, ()))
      else none
    else
      some ((t0, t8, t9, t10, t11, ()), (c1000208, c2000004, c2000005, c2000006, ()))
def fr29_0 (k : Nat) : Frag := ⟨⟨[(4, (.sl true 3 (.int .i64) none)), (5, (.sl true 3 (.int .i64) none)), (6, (.sl true 3 (.int .i64) none))], [(0, .val (.sl false 96 (.sl false 113 (.pair (.int .i64) (.pair (.int .i64) .unit)) none) none)), (4, .at 2000004 []), (5, .at 2000005 []), (6, .at 2000006 []), (7, .at 1000208 []), (8, .val (.int .i64)), (9, .val (.int .i64)), (10, .val (.int .i64)), (11, .val (.int .i64))], [(1000208, none, (.sl true 3 (.int .i64) none)), (2000004, none, (.sl true 3 (.int .i64) none)), (2000005, none, (.sl true 3 (.int .i64) none)), (2000006, none, (.sl true 3 (.int .i64) none))]⟩, [(.exit 2, ⟨[], [(0, .val (.sl false 96 (.sl false 113 (.pair (.int .i64) (.pair (.int .i64) .unit)) none) none)), (4, .at 2000004 []), (5, .at 2000005 []), (6, .at 2000006 []), (7, .at 1000208 []), (8, .val (.int .i64)), (9, .val (.int .i64)), (10, .val (.int .i64)), (11, .val (.int .i64))], [(1000208, none, (.sl true 3 (.int .i64) none)), (2000004, none, (.sl true 3 (.int .i64) none)), (2000005, none, (.sl true 3 (.int .i64) none)), (2000006, none, (.sl true 3 (.int .i64) none))]⟩)], fun v => F29_0 k k v.1.1 v.1.2.1 v.1.2.2.1 v.1.2.2.2.1 v.1.2.2.2.2.1 v.2.1 v.2.2.1 v.2.2.2.1 v.2.2.2.2.1⟩
def F29_1 (k : Nat) : Nat → (List (List (Int × (Int × Unit)))) → Int → Int → (List Int) → (List Int) → (List Int) → (List Int) → Option ((Unit × ((List Int) × (List Int) × Unit)))
  | 0, _, _, _, _, _, _, _ => none
  | n + 1, t0, t8, t9, c1000208, c2000004, c2000005, c2000006 =>
    let x2 := (decide (t9 < ((List.length c1000208 : Nat) : Int)))
    bif x2 then
      if 0 ≤ t9 ∧ t9 < ((List.length c1000208 : Nat) : Int) then
        let x3 := (List.getD c1000208 (Int.toNat t9) (0 : Int))
        (F48 k t0 x3).bind fun r4 =>
        bif (r4.1.1 == t8) then
          (F29_1 k n t0 t8 (IntKind.wrap .i64 (t9 + (1 : Int))) c1000208 c2000004 c2000005 c2000006).bind some
        else
          (F29_0 k k t0 r4.1.1 t9 r4.1.1 (0 : Int) c1000208 c2000004 c2000005 c2000006).bind fun r7 =>
          let y8 := r7.1.1
          let y9 := r7.1.2.1
          let y10 := r7.1.2.2.1
          let y11 := r7.1.2.2.2.1
          let y12 := r7.1.2.2.2.2.1
          let y13 := r7.2.1
          let y14 := r7.2.2.1
          let y15 := r7.2.2.2.1
          let y16 := r7.2.2.2.2.1
          bif (y12 == ((List.length y16 : Nat) : Int)) then
            let x17 := (List.set (List.replicate 1 (0 : Int)) 0 y11)
            if (List.length y16 + List.length x17) * (8 * 2) ≤ 281474976710656 ∧ List.length y16 + List.length x17 ≤ 9223372036854775807 then
              if 0 ≤ y10 ∧ y10 < ((List.length y13 : Nat) : Int) then
                let x18 := (List.set (List.replicate 1 (0 : Int)) 0 (List.getD y13 (Int.toNat y10) (0 : Int)))
                if (List.length y14 + List.length x18) * (8 * 2) ≤ 281474976710656 ∧ List.length y14 + List.length x18 ≤ 9223372036854775807 then
                  let x19 := (List.set (List.replicate 1 (0 : Int)) 0 y12)
                  if (List.length y15 + List.length x19) * (8 * 2) ≤ 281474976710656 ∧ List.length y15 + List.length x19 ≤ 9223372036854775807 then
                    (F29_1 k n y8 y9 (IntKind.wrap .i64 (y10 + (1 : Int))) y13 (y14 ++ x18) (y15 ++ x19) (y16 ++ x17)).bind some
                  else none
                else none
              else none
            else none
          else
            if 0 ≤ y10 ∧ y10 < ((List.length y13 : Nat) : Int) then
              let x20 := (List.set (List.replicate 1 (0 : Int)) 0 (List.getD y13 (Int.toNat y10) (0 : Int)))
              if (List.length y14 + List.length x20) * (8 * 2) ≤ 281474976710656 ∧ List.length y14 + List.length x20 ≤ 9223372036854775807 then
                let x21 := (List.set (List.replicate 1 (0 : Int)) 0 y12)
                if (List.length y15 + List.length x21) * (8 * 2) ≤ 281474976710656 ∧ List.length y15 + List.length x21 ≤ 9223372036854775807 then
                  (F29_1 k n y8 y9 (IntKind.wrap .i64 (y10 + (1 : Int))) y13 (y14 ++ x20) (y15 ++ x21) y16).bind some
                else none
              else none
            else none
      else none
    else
      some ((), (c2000004, c2000005, ()))
def fr29_1 (k : Nat) : Frag := ⟨⟨[(4, (.sl true 3 (.int .i64) none)), (5, (.sl true 3 (.int .i64) none)), (6, (.sl true 3 (.int .i64) none))], [(0, .val (.sl false 96 (.sl false 113 (.pair (.int .i64) (.pair (.int .i64) .unit)) none) none)), (4, .at 2000004 []), (5, .at 2000005 []), (6, .at 2000006 []), (7, .at 1000208 []), (8, .val (.int .i64)), (9, .val (.int .i64))], [(1000208, none, (.sl true 3 (.int .i64) none)), (2000004, none, (.sl true 3 (.int .i64) none)), (2000005, none, (.sl true 3 (.int .i64) none)), (2000006, none, (.sl true 3 (.int .i64) none))]⟩, [(.exit 0, ⟨[(4, (.sl true 3 (.int .i64) none)), (5, (.sl true 3 (.int .i64) none))], [(4, .at 2000004 []), (5, .at 2000005 [])], [(2000004, none, (.sl true 3 (.int .i64) none)), (2000005, none, (.sl true 3 (.int .i64) none))]⟩)], fun v => F29_1 k k v.1.1 v.1.2.1 v.1.2.2.1 v.2.1 v.2.2.1 v.2.2.2.1 v.2.2.2.2.1⟩
def F29 (k : Nat) (a0 : (List (List (Int × (Int × Unit))))) : Option (((List Int) × (List Int) × Unit) × Unit) :=
  (F47 k a0).bind fun r1 =>
  (F29_1 k k a0 (-1 : Int) (0 : Int) r1.1.1 [] [] []).bind fun r22 =>
  let y23 := r22.2.1
  let y24 := r22.2.2.1
  some ((y23, y24, ()), ())
def sp29 (k : Nat) : Spec := ⟨[.val (.sl false 96 (.sl false 113 (.pair (.int .i64) (.pair (.int .i64) .unit)) none) none)], [.own (.sl true 3 (.int .i64) none), .own (.sl true 3 (.int .i64) none)], fun x => F29 k x.1⟩
def lim29 : Lim := ⟨65, 1, false, false, []⟩
def cfg29 (k : Nat) : Nat → Option Spec := cfgL [(47, sp47 k), (48, sp48 k)]
theorem cfg29_ok (k : Nat) : CfgOK Try.prog (cfg29 k) := cfgL_cons (v47 k) (cfgL_cons (v48 k) (cfgL_nil))
def pl29_0 (k : Nat) : Plan := .go
theorem pq29_0 (k : Nat) : PlanOK Try.prog lim29 (pl29_0 k) (codeAt (bodyOf Try.f29) [.r, .r, .r, .r, .l, .r, .s, .b, .r, .l, .s, .r, .r, .r, .r, .l, .s, .b]) = PlanOK Try.prog lim29 .go (codeAt (bodyOf Try.f29) [.r, .r, .r, .r, .l, .r, .s, .b, .r, .l, .s, .r, .r, .r, .r, .l, .s, .b]) := by kernel_rfl
theorem ps29_0 (k m : Nat) (v : (fr29_0 k).sh.V) : F29_0 k (m + 1) v.1.1 v.1.2.1 v.1.2.2.1 v.1.2.2.2.1 v.1.2.2.2.2.1 v.2.1 v.2.2.1 v.2.2.2.1 v.2.2.2.2.1 = (body Try.prog (stepper Try.prog (cfg29 k) lim29) (pl29_0 k) (codeAt (bodyOf Try.f29) [.r, .r, .r, .r, .l, .r, .s, .b, .r, .l, .s, .r, .r, .r, .r, .l, .s, .b]) ((fr29_0 k).sh.st v) (loopK (fr29_0 k) fun v => F29_0 k m v.1.1 v.1.2.1 v.1.2.2.1 v.1.2.2.2.1 v.1.2.2.2.2.1 v.2.1 v.2.2.1 v.2.2.2.1 v.2.2.2.2.1)).eval := by kernel_rfl
theorem pe29_0 (k m : Nat) (v : (fr29_0 k).sh.V) : (body Try.prog (stepper Try.prog (cfg29 k) lim29) (pl29_0 k) (codeAt (bodyOf Try.f29) [.r, .r, .r, .r, .l, .r, .s, .b, .r, .l, .s, .r, .r, .r, .r, .l, .s, .b]) ((fr29_0 k).sh.st v) (loopK (fr29_0 k) fun v => F29_0 k m v.1.1 v.1.2.1 v.1.2.2.1 v.1.2.2.2.1 v.1.2.2.2.2.1 v.2.1 v.2.2.1 v.2.2.2.1 v.2.2.2.2.1)).left = (body Try.prog (stepper Try.prog (cfg29 k) lim29) (pl29_0 k) (codeAt (bodyOf Try.f29) [.r, .r, .r, .r, .l, .r, .s, .b, .r, .l, .s, .r, .r, .r, .r, .l, .s, .b]) ((fr29_0 k).sh.st v) (loopK (fr29_0 k) fun v => F29_0 k m v.1.1 v.1.2.1 v.1.2.2.1 v.1.2.2.2.1 v.1.2.2.2.2.1 v.2.1 v.2.2.1 v.2.2.2.1 v.2.2.2.2.1)).right := by kernel_rfl
theorem fr29_0_ok (k : Nat) : FragOK Try.prog lim29 (fr29_0 k) (codeAt (bodyOf Try.f29) [.r, .r, .r, .r, .l, .r, .s, .b, .r, .l, .s, .r, .r, .r, .r, .l, .s]) :=
  frag_cast (by kernel_rfl) (loop_ok (cfg29_ok k) (Eq.mpr (pq29_0 k) (planOK_go _)) (fun m v => F29_0 k m v.1.1 v.1.2.1 v.1.2.2.1 v.1.2.2.2.1 v.1.2.2.2.2.1 v.2.1 v.2.2.1 v.2.2.2.1 v.2.2.2.2.1) k (fun _ => rfl) (fun _ => rfl) fun m v => ⟨ps29_0 k m v, pe29_0 k m v⟩)
def pl29_1 (k : Nat) : Plan := (.seq .go (.seq (.sub (.seq .go (.seq .go (.seq .go (.seq .go (.seq (.sub (.frag (fr29_0 k))) .go)))))) .go))
theorem pq29_1 (k : Nat) : PlanOK Try.prog lim29 (pl29_1 k) (codeAt (bodyOf Try.f29) [.r, .r, .r, .r, .l, .r, .s, .b]) = (PlanOK Try.prog lim29 .go (codeAt (bodyOf Try.f29) [.r, .r, .r, .r, .l, .r, .s, .b, .l]) ∧ ((PlanOK Try.prog lim29 .go (codeAt (bodyOf Try.f29) [.r, .r, .r, .r, .l, .r, .s, .b, .r, .l, .s, .l]) ∧ (PlanOK Try.prog lim29 .go (codeAt (bodyOf Try.f29) [.r, .r, .r, .r, .l, .r, .s, .b, .r, .l, .s, .r, .l]) ∧ (PlanOK Try.prog lim29 .go (codeAt (bodyOf Try.f29) [.r, .r, .r, .r, .l, .r, .s, .b, .r, .l, .s, .r, .r, .l]) ∧ (PlanOK Try.prog lim29 .go (codeAt (bodyOf Try.f29) [.r, .r, .r, .r, .l, .r, .s, .b, .r, .l, .s, .r, .r, .r, .l]) ∧ (FragOK Try.prog lim29 (fr29_0 k) (codeAt (bodyOf Try.f29) [.r, .r, .r, .r, .l, .r, .s, .b, .r, .l, .s, .r, .r, .r, .r, .l, .s]) ∧ PlanOK Try.prog lim29 .go (codeAt (bodyOf Try.f29) [.r, .r, .r, .r, .l, .r, .s, .b, .r, .l, .s, .r, .r, .r, .r, .r])))))) ∧ PlanOK Try.prog lim29 .go (codeAt (bodyOf Try.f29) [.r, .r, .r, .r, .l, .r, .s, .b, .r, .r]))) := by kernel_rfl
theorem ps29_1 (k m : Nat) (v : (fr29_1 k).sh.V) : F29_1 k (m + 1) v.1.1 v.1.2.1 v.1.2.2.1 v.2.1 v.2.2.1 v.2.2.2.1 v.2.2.2.2.1 = (body Try.prog (stepper Try.prog (cfg29 k) lim29) (pl29_1 k) (codeAt (bodyOf Try.f29) [.r, .r, .r, .r, .l, .r, .s, .b]) ((fr29_1 k).sh.st v) (loopK (fr29_1 k) fun v => F29_1 k m v.1.1 v.1.2.1 v.1.2.2.1 v.2.1 v.2.2.1 v.2.2.2.1 v.2.2.2.2.1)).eval := by kernel_rfl
theorem pe29_1 (k m : Nat) (v : (fr29_1 k).sh.V) : (body Try.prog (stepper Try.prog (cfg29 k) lim29) (pl29_1 k) (codeAt (bodyOf Try.f29) [.r, .r, .r, .r, .l, .r, .s, .b]) ((fr29_1 k).sh.st v) (loopK (fr29_1 k) fun v => F29_1 k m v.1.1 v.1.2.1 v.1.2.2.1 v.2.1 v.2.2.1 v.2.2.2.1 v.2.2.2.2.1)).left = (body Try.prog (stepper Try.prog (cfg29 k) lim29) (pl29_1 k) (codeAt (bodyOf Try.f29) [.r, .r, .r, .r, .l, .r, .s, .b]) ((fr29_1 k).sh.st v) (loopK (fr29_1 k) fun v => F29_1 k m v.1.1 v.1.2.1 v.1.2.2.1 v.2.1 v.2.2.1 v.2.2.2.1 v.2.2.2.2.1)).right := by kernel_rfl
theorem fr29_1_ok (k : Nat) : FragOK Try.prog lim29 (fr29_1 k) (codeAt (bodyOf Try.f29) [.r, .r, .r, .r, .l, .r, .s]) :=
  frag_cast (by kernel_rfl) (loop_ok (cfg29_ok k) (Eq.mpr (pq29_1 k) ⟨(planOK_go _), ⟨⟨(planOK_go _), ⟨(planOK_go _), ⟨(planOK_go _), ⟨(planOK_go _), ⟨(fr29_0_ok k), (planOK_go _)⟩⟩⟩⟩⟩, (planOK_go _)⟩⟩) (fun m v => F29_1 k m v.1.1 v.1.2.1 v.1.2.2.1 v.2.1 v.2.2.1 v.2.2.2.1 v.2.2.2.2.1) k (fun _ => rfl) (fun _ => rfl) fun m v => ⟨ps29_1 k m v, pe29_1 k m v⟩)
def pl29 (k : Nat) : Plan := (.seq .go (.seq .go (.seq .go (.seq .go (.seq (.seq .go (.sub (.frag (fr29_1 k)))) .go)))))
theorem pq29 (k : Nat) : PlanOK Try.prog lim29 (pl29 k) (codeAt (bodyOf Try.f29) []) = (PlanOK Try.prog lim29 .go (codeAt (bodyOf Try.f29) [.l]) ∧ (PlanOK Try.prog lim29 .go (codeAt (bodyOf Try.f29) [.r, .l]) ∧ (PlanOK Try.prog lim29 .go (codeAt (bodyOf Try.f29) [.r, .r, .l]) ∧ (PlanOK Try.prog lim29 .go (codeAt (bodyOf Try.f29) [.r, .r, .r, .l]) ∧ ((PlanOK Try.prog lim29 .go (codeAt (bodyOf Try.f29) [.r, .r, .r, .r, .l, .l]) ∧ FragOK Try.prog lim29 (fr29_1 k) (codeAt (bodyOf Try.f29) [.r, .r, .r, .r, .l, .r, .s])) ∧ PlanOK Try.prog lim29 .go (codeAt (bodyOf Try.f29) [.r, .r, .r, .r, .r])))))) := by kernel_rfl
theorem ev29 (k : Nat) (x : AT (sp29 k).ps) : (sp29 k).impl x = (fnT Try.prog (cfg29 k) lim29 Try.f29 (bodyOf Try.f29) (pl29 k) (sp29 k) x).eval := by kernel_rfl
theorem eq29 (k : Nat) (x : AT (sp29 k).ps) : (fnT Try.prog (cfg29 k) lim29 Try.f29 (bodyOf Try.f29) (pl29 k) (sp29 k) x).left = (fnT Try.prog (cfg29 k) lim29 Try.f29 (bodyOf Try.f29) (pl29 k) (sp29 k) x).right := by kernel_rfl
theorem v29 (k : Nat) : Callable Try.prog 29 ∧ Valid Try.prog 29 (sp29 k) :=
  fn_ok (cfg29_ok k) (f := 29) (fn := Try.f29) (by kernel_rfl) (c := bodyOf Try.f29) (by kernel_rfl) (by kernel_rfl) rfl rfl (Nat.le_of_ble_eq_true rfl) (Nat.le_of_ble_eq_true rfl) (p := pl29 k) (Eq.mpr (pq29 k) ⟨(planOK_go _), ⟨(planOK_go _), ⟨(planOK_go _), ⟨(planOK_go _), ⟨⟨(planOK_go _), (fr29_1_ok k)⟩, (planOK_go _)⟩⟩⟩⟩⟩) fun x => ⟨ev29 k x, eq29 k x⟩
/-! f50 hyphen/hyphenref4.Count -/
def F50_0 (k : Nat) : Nat → (List Int) → Int → Int → Option (((Int × Unit) × Unit))
  | 0, _, _, _ => none
  | n + 1, t0, t3, t4 =>
    let x3 := (decide (t4 < ((List.length t0 : Nat) : Int)))
    bif x3 then
      if 0 ≤ t4 ∧ t4 < ((List.length t0 : Nat) : Int) then
        let x4 := (IntKind.wrap .i64 ((List.getD t0 (Int.toNat t4) (0 : Int)) + (1 : Int)))
        (F50_0 k n t0 (maxI t3 x4) (IntKind.wrap .i64 (t4 + (1 : Int)))).bind some
      else none
    else
      some ((t3, ()), ())
def fr50_0 (k : Nat) : Frag := ⟨⟨[], [(0, .val (.sl false 3 (.int .i64) none)), (3, .val (.int .i64)), (4, .val (.int .i64))], []⟩, [(.exit 0, ⟨[], [(3, .val (.int .i64))], []⟩)], fun v => F50_0 k k v.1.1 v.1.2.1 v.1.2.2.1⟩
def F50 (k : Nat) (a0 : (List Int)) : Option ((Int × Unit) × Unit) :=
  (F50_0 k k a0 (0 : Int) (0 : Int)).bind fun r5 =>
  let y6 := r5.1.1
  some ((y6, ()), ())
def sp50 (k : Nat) : Spec := ⟨[.val (.sl false 3 (.int .i64) none)], [.val (.int .i64)], fun x => F50 k x.1⟩
def lim50 : Lim := ⟨19, 1, false, false, []⟩
def cfg50 (k : Nat) : Nat → Option Spec := cfgL []
theorem cfg50_ok (k : Nat) : CfgOK Try.prog (cfg50 k) := cfgL_nil
def pl50_0 (k : Nat) : Plan := .go
theorem pq50_0 (k : Nat) : PlanOK Try.prog lim50 (pl50_0 k) (codeAt (bodyOf Try.f50) [.r, .r, .l, .r, .s, .b]) = PlanOK Try.prog lim50 .go (codeAt (bodyOf Try.f50) [.r, .r, .l, .r, .s, .b]) := by kernel_rfl
theorem ps50_0 (k m : Nat) (v : (fr50_0 k).sh.V) : F50_0 k (m + 1) v.1.1 v.1.2.1 v.1.2.2.1 = (body Try.prog (stepper Try.prog (cfg50 k) lim50) (pl50_0 k) (codeAt (bodyOf Try.f50) [.r, .r, .l, .r, .s, .b]) ((fr50_0 k).sh.st v) (loopK (fr50_0 k) fun v => F50_0 k m v.1.1 v.1.2.1 v.1.2.2.1)).eval := by kernel_rfl
theorem pe50_0 (k m : Nat) (v : (fr50_0 k).sh.V) : (body Try.prog (stepper Try.prog (cfg50 k) lim50) (pl50_0 k) (codeAt (bodyOf Try.f50) [.r, .r, .l, .r, .s, .b]) ((fr50_0 k).sh.st v) (loopK (fr50_0 k) fun v => F50_0 k m v.1.1 v.1.2.1 v.1.2.2.1)).left = (body Try.prog (stepper Try.prog (cfg50 k) lim50) (pl50_0 k) (codeAt (bodyOf Try.f50) [.r, .r, .l, .r, .s, .b]) ((fr50_0 k).sh.st v) (loopK (fr50_0 k) fun v => F50_0 k m v.1.1 v.1.2.1 v.1.2.2.1)).right := by kernel_rfl
theorem fr50_0_ok (k : Nat) : FragOK Try.prog lim50 (fr50_0 k) (codeAt (bodyOf Try.f50) [.r, .r, .l, .r, .s]) :=
  frag_cast (by kernel_rfl) (loop_ok (cfg50_ok k) (Eq.mpr (pq50_0 k) (planOK_go _)) (fun m v => F50_0 k m v.1.1 v.1.2.1 v.1.2.2.1) k (fun _ => rfl) (fun _ => rfl) fun m v => ⟨ps50_0 k m v, pe50_0 k m v⟩)
def pl50 (k : Nat) : Plan := (.seq .go (.seq .go (.seq (.seq .go (.sub (.frag (fr50_0 k)))) .go)))
theorem pq50 (k : Nat) : PlanOK Try.prog lim50 (pl50 k) (codeAt (bodyOf Try.f50) []) = (PlanOK Try.prog lim50 .go (codeAt (bodyOf Try.f50) [.l]) ∧ (PlanOK Try.prog lim50 .go (codeAt (bodyOf Try.f50) [.r, .l]) ∧ ((PlanOK Try.prog lim50 .go (codeAt (bodyOf Try.f50) [.r, .r, .l, .l]) ∧ FragOK Try.prog lim50 (fr50_0 k) (codeAt (bodyOf Try.f50) [.r, .r, .l, .r, .s])) ∧ PlanOK Try.prog lim50 .go (codeAt (bodyOf Try.f50) [.r, .r, .r])))) := by kernel_rfl
theorem ev50 (k : Nat) (x : AT (sp50 k).ps) : (sp50 k).impl x = (fnT Try.prog (cfg50 k) lim50 Try.f50 (bodyOf Try.f50) (pl50 k) (sp50 k) x).eval := by kernel_rfl
theorem eq50 (k : Nat) (x : AT (sp50 k).ps) : (fnT Try.prog (cfg50 k) lim50 Try.f50 (bodyOf Try.f50) (pl50 k) (sp50 k) x).left = (fnT Try.prog (cfg50 k) lim50 Try.f50 (bodyOf Try.f50) (pl50 k) (sp50 k) x).right := by kernel_rfl
theorem v50 (k : Nat) : Callable Try.prog 50 ∧ Valid Try.prog 50 (sp50 k) :=
  fn_ok (cfg50_ok k) (f := 50) (fn := Try.f50) (by kernel_rfl) (c := bodyOf Try.f50) (by kernel_rfl) (by kernel_rfl) rfl rfl (Nat.le_of_ble_eq_true rfl) (Nat.le_of_ble_eq_true rfl) (p := pl50 k) (Eq.mpr (pq50 k) ⟨(planOK_go _), ⟨(planOK_go _), ⟨⟨(planOK_go _), (fr50_0_ok k)⟩, (planOK_go _)⟩⟩⟩) fun x => ⟨ev50 k x, eq50 k x⟩
/-! f31 hyphen/hyphenref4.In -/
def F31_0 (k : Nat) : Nat → (List (List (Int × (Int × Unit)))) → (List Int) → (List Int) → Int → Int → (List Bool) → (List (List Bool)) → Option ((((List (List (Int × (Int × Unit)))) × (List Int) × (List Int) × Int × Unit) × ((List Bool) × (List (List Bool)) × Unit)))
  | 0, _, _, _, _, _, _, _ => none
  | n + 1, t0, t1, t2, t8, t10, c19, c2000007 =>
    let x3 := (decide (t10 < ((List.length t1 : Nat) : Int)))
    bif x3 then
      if 0 ≤ t10 ∧ t10 < ((List.length t2 : Nat) : Int) then
        if 0 ≤ t8 ∧ t8 < ((List.length t0 : Nat) : Int) then
          let x4 := (List.getD t0 (Int.toNat t8) ([] : (List (Int × (Int × Unit)))))
          if 0 ≤ t10 ∧ t10 < ((List.length t1 : Nat) : Int) then
            (F51 k x4 (List.getD t1 (Int.toNat t10) (0 : Int))).bind fun r5 =>
            if 0 ≤ (List.getD t2 (Int.toNat t10) (0 : Int)) ∧ (List.getD t2 (Int.toNat t10) (0 : Int)) < ((List.length c19 : Nat) : Int) then
              let x6 := (Int.toNat (List.getD t2 (Int.toNat t10) (0 : Int)))
              (F31_0 k n t0 t1 t2 t8 (IntKind.wrap .i64 (t10 + (1 : Int))) (List.set c19 x6 r5.1.1) c2000007).bind some
            else none
          else none
        else none
      else none
    else
      some ((t0, t1, t2, t8, ()), (c19, c2000007, ()))
def fr31_0 (k : Nat) : Frag := ⟨⟨[(7, (.sl true 82 (.sl true 4 .bool none) none))], [(0, .val (.sl false 96 (.sl false 113 (.pair (.int .i64) (.pair (.int .i64) .unit)) none) none)), (1, .val (.sl false 3 (.int .i64) none)), (2, .val (.sl false 3 (.int .i64) none)), (7, .at 2000007 []), (8, .val (.int .i64)), (9, .at 19 []), (10, .val (.int .i64))], [(19, none, (.sl true 4 .bool none)), (2000007, none, (.sl true 82 (.sl true 4 .bool none) none))]⟩, [(.exit 2, ⟨[], [(0, .val (.sl false 96 (.sl false 113 (.pair (.int .i64) (.pair (.int .i64) .unit)) none) none)), (1, .val (.sl false 3 (.int .i64) none)), (2, .val (.sl false 3 (.int .i64) none)), (7, .at 2000007 []), (8, .val (.int .i64)), (9, .at 19 [])], [(19, none, (.sl true 4 .bool none)), (2000007, none, (.sl true 82 (.sl true 4 .bool none) none))]⟩)], fun v => F31_0 k k v.1.1 v.1.2.1 v.1.2.2.1 v.1.2.2.2.1 v.1.2.2.2.2.1 v.2.1 v.2.2.1⟩
def F31_1 (k : Nat) : Nat → (List (List (Int × (Int × Unit)))) → (List Int) → (List Int) → Int → (List (List Bool)) → Option ((Unit × ((List (List Bool)) × Unit)))
  | 0, _, _, _, _, _ => none
  | n + 1, t0, t1, t2, t8, c2000007 =>
    let x1 := (decide (t8 < ((List.length t0 : Nat) : Int)))
    bif x1 then
      (F50 k t2).bind fun r2 =>
      if (0 ≤ r2.1.1 ∧ r2.1.1 < r2.1.1 + 1) ∧ r2.1.1 ≤ 9223372036854775807 ∧ ((1 : Nat) : Int) * r2.1.1 ≤ 281474976710656 then
        (F31_0 k k t0 t1 t2 t8 (0 : Int) (List.replicate (Int.toNat r2.1.1) false) c2000007).bind fun r7 =>
        let y8 := r7.1.1
        let y9 := r7.1.2.1
        let y10 := r7.1.2.2.1
        let y11 := r7.1.2.2.2.1
        let y12 := r7.2.1
        let y13 := r7.2.2.1
        let x14 := (List.set (List.replicate 1 ([] : (List Bool))) 0 y12)
        if (List.length y13 + List.length x14) * (24 * 2) ≤ 281474976710656 ∧ List.length y13 + List.length x14 ≤ 9223372036854775807 then
          (F31_1 k n y8 y9 y10 (IntKind.wrap .i64 (y11 + (1 : Int))) (y13 ++ x14)).bind some
        else none
      else none
    else
      some ((), (c2000007, ()))
def fr31_1 (k : Nat) : Frag := ⟨⟨[(7, (.sl true 82 (.sl true 4 .bool none) none))], [(0, .val (.sl false 96 (.sl false 113 (.pair (.int .i64) (.pair (.int .i64) .unit)) none) none)), (1, .val (.sl false 3 (.int .i64) none)), (2, .val (.sl false 3 (.int .i64) none)), (7, .at 2000007 []), (8, .val (.int .i64))], [(2000007, none, (.sl true 82 (.sl true 4 .bool none) none))]⟩, [(.exit 0, ⟨[(7, (.sl true 82 (.sl true 4 .bool none) none))], [(7, .at 2000007 [])], [(2000007, none, (.sl true 82 (.sl true 4 .bool none) none))]⟩)], fun v => F31_1 k k v.1.1 v.1.2.1 v.1.2.2.1 v.1.2.2.2.1 v.2.1⟩
def F31 (k : Nat) (a0 : (List (List (Int × (Int × Unit))))) (a1 : (List Int)) (a2 : (List Int)) : Option (((List (List Bool)) × Unit) × Unit) :=
  (F31_1 k k a0 a1 a2 (0 : Int) []).bind fun r15 =>
  let y16 := r15.2.1
  some ((y16, ()), ())
def sp31 (k : Nat) : Spec := ⟨[.val (.sl false 96 (.sl false 113 (.pair (.int .i64) (.pair (.int .i64) .unit)) none) none), .val (.sl false 3 (.int .i64) none), .val (.sl false 3 (.int .i64) none)], [.own (.sl true 82 (.sl true 4 .bool none) none)], fun x => F31 k x.1 x.2.1 x.2.2.1⟩
def lim31 : Lim := ⟨46, 3, false, false, []⟩
def cfg31 (k : Nat) : Nat → Option Spec := cfgL [(50, sp50 k), (51, sp51 k)]
theorem cfg31_ok (k : Nat) : CfgOK Try.prog (cfg31 k) := cfgL_cons (v50 k) (cfgL_cons (v51 k) (cfgL_nil))
def pl31_0 (k : Nat) : Plan := .go
theorem pq31_0 (k : Nat) : PlanOK Try.prog lim31 (pl31_0 k) (codeAt (bodyOf Try.f31) [.r, .r, .l, .r, .s, .b, .r, .l, .s, .r, .l, .r, .s, .b]) = PlanOK Try.prog lim31 .go (codeAt (bodyOf Try.f31) [.r, .r, .l, .r, .s, .b, .r, .l, .s, .r, .l, .r, .s, .b]) := by kernel_rfl
theorem ps31_0 (k m : Nat) (v : (fr31_0 k).sh.V) : F31_0 k (m + 1) v.1.1 v.1.2.1 v.1.2.2.1 v.1.2.2.2.1 v.1.2.2.2.2.1 v.2.1 v.2.2.1 = (body Try.prog (stepper Try.prog (cfg31 k) lim31) (pl31_0 k) (codeAt (bodyOf Try.f31) [.r, .r, .l, .r, .s, .b, .r, .l, .s, .r, .l, .r, .s, .b]) ((fr31_0 k).sh.st v) (loopK (fr31_0 k) fun v => F31_0 k m v.1.1 v.1.2.1 v.1.2.2.1 v.1.2.2.2.1 v.1.2.2.2.2.1 v.2.1 v.2.2.1)).eval := by kernel_rfl
theorem pe31_0 (k m : Nat) (v : (fr31_0 k).sh.V) : (body Try.prog (stepper Try.prog (cfg31 k) lim31) (pl31_0 k) (codeAt (bodyOf Try.f31) [.r, .r, .l, .r, .s, .b, .r, .l, .s, .r, .l, .r, .s, .b]) ((fr31_0 k).sh.st v) (loopK (fr31_0 k) fun v => F31_0 k m v.1.1 v.1.2.1 v.1.2.2.1 v.1.2.2.2.1 v.1.2.2.2.2.1 v.2.1 v.2.2.1)).left = (body Try.prog (stepper Try.prog (cfg31 k) lim31) (pl31_0 k) (codeAt (bodyOf Try.f31) [.r, .r, .l, .r, .s, .b, .r, .l, .s, .r, .l, .r, .s, .b]) ((fr31_0 k).sh.st v) (loopK (fr31_0 k) fun v => F31_0 k m v.1.1 v.1.2.1 v.1.2.2.1 v.1.2.2.2.1 v.1.2.2.2.2.1 v.2.1 v.2.2.1)).right := by kernel_rfl
theorem fr31_0_ok (k : Nat) : FragOK Try.prog lim31 (fr31_0 k) (codeAt (bodyOf Try.f31) [.r, .r, .l, .r, .s, .b, .r, .l, .s, .r, .l, .r, .s]) :=
  frag_cast (by kernel_rfl) (loop_ok (cfg31_ok k) (Eq.mpr (pq31_0 k) (planOK_go _)) (fun m v => F31_0 k m v.1.1 v.1.2.1 v.1.2.2.1 v.1.2.2.2.1 v.1.2.2.2.2.1 v.2.1 v.2.2.1) k (fun _ => rfl) (fun _ => rfl) fun m v => ⟨ps31_0 k m v, pe31_0 k m v⟩)
def pl31_1 (k : Nat) : Plan := (.seq .go (.seq (.sub (.seq .go (.seq (.seq .go (.sub (.frag (fr31_0 k)))) .go))) .go))
theorem pq31_1 (k : Nat) : PlanOK Try.prog lim31 (pl31_1 k) (codeAt (bodyOf Try.f31) [.r, .r, .l, .r, .s, .b]) = (PlanOK Try.prog lim31 .go (codeAt (bodyOf Try.f31) [.r, .r, .l, .r, .s, .b, .l]) ∧ ((PlanOK Try.prog lim31 .go (codeAt (bodyOf Try.f31) [.r, .r, .l, .r, .s, .b, .r, .l, .s, .l]) ∧ ((PlanOK Try.prog lim31 .go (codeAt (bodyOf Try.f31) [.r, .r, .l, .r, .s, .b, .r, .l, .s, .r, .l, .l]) ∧ FragOK Try.prog lim31 (fr31_0 k) (codeAt (bodyOf Try.f31) [.r, .r, .l, .r, .s, .b, .r, .l, .s, .r, .l, .r, .s])) ∧ PlanOK Try.prog lim31 .go (codeAt (bodyOf Try.f31) [.r, .r, .l, .r, .s, .b, .r, .l, .s, .r, .r]))) ∧ PlanOK Try.prog lim31 .go (codeAt (bodyOf Try.f31) [.r, .r, .l, .r, .s, .b, .r, .r]))) := by kernel_rfl
theorem ps31_1 (k m : Nat) (v : (fr31_1 k).sh.V) : F31_1 k (m + 1) v.1.1 v.1.2.1 v.1.2.2.1 v.1.2.2.2.1 v.2.1 = (body Try.prog (stepper Try.prog (cfg31 k) lim31) (pl31_1 k) (codeAt (bodyOf Try.f31) [.r, .r, .l, .r, .s, .b]) ((fr31_1 k).sh.st v) (loopK (fr31_1 k) fun v => F31_1 k m v.1.1 v.1.2.1 v.1.2.2.1 v.1.2.2.2.1 v.2.1)).eval := by kernel_rfl
theorem pe31_1 (k m : Nat) (v : (fr31_1 k).sh.V) : (body Try.prog (stepper Try.prog (cfg31 k) lim31) (pl31_1 k) (codeAt (bodyOf Try.f31) [.r, .r, .l, .r, .s, .b]) ((fr31_1 k).sh.st v) (loopK (fr31_1 k) fun v => F31_1 k m v.1.1 v.1.2.1 v.1.2.2.1 v.1.2.2.2.1 v.2.1)).left = (body Try.prog (stepper Try.prog (cfg31 k) lim31) (pl31_1 k) (codeAt (bodyOf Try.f31) [.r, .r, .l, .r, .s, .b]) ((fr31_1 k).sh.st v) (loopK (fr31_1 k) fun v => F31_1 k m v.1.1 v.1.2.1 v.1.2.2.1 v.1.2.2.2.1 v.2.1)).right := by kernel_rfl
theorem fr31_1_ok (k : Nat) : FragOK Try.prog lim31 (fr31_1 k) (codeAt (bodyOf Try.f31) [.r, .r, .l, .r, .s]) :=
  frag_cast (by kernel_rfl) (loop_ok (cfg31_ok k) (Eq.mpr (pq31_1 k) ⟨(planOK_go _), ⟨⟨(planOK_go _), ⟨⟨(planOK_go _), (fr31_0_ok k)⟩, (planOK_go _)⟩⟩, (planOK_go _)⟩⟩) (fun m v => F31_1 k m v.1.1 v.1.2.1 v.1.2.2.1 v.1.2.2.2.1 v.2.1) k (fun _ => rfl) (fun _ => rfl) fun m v => ⟨ps31_1 k m v, pe31_1 k m v⟩)
def pl31 (k : Nat) : Plan := (.seq .go (.seq .go (.seq (.seq .go (.sub (.frag (fr31_1 k)))) .go)))
theorem pq31 (k : Nat) : PlanOK Try.prog lim31 (pl31 k) (codeAt (bodyOf Try.f31) []) = (PlanOK Try.prog lim31 .go (codeAt (bodyOf Try.f31) [.l]) ∧ (PlanOK Try.prog lim31 .go (codeAt (bodyOf Try.f31) [.r, .l]) ∧ ((PlanOK Try.prog lim31 .go (codeAt (bodyOf Try.f31) [.r, .r, .l, .l]) ∧ FragOK Try.prog lim31 (fr31_1 k) (codeAt (bodyOf Try.f31) [.r, .r, .l, .r, .s])) ∧ PlanOK Try.prog lim31 .go (codeAt (bodyOf Try.f31) [.r, .r, .r])))) := by kernel_rfl
theorem ev31 (k : Nat) (x : AT (sp31 k).ps) : (sp31 k).impl x = (fnT Try.prog (cfg31 k) lim31 Try.f31 (bodyOf Try.f31) (pl31 k) (sp31 k) x).eval := by kernel_rfl
theorem eq31 (k : Nat) (x : AT (sp31 k).ps) : (fnT Try.prog (cfg31 k) lim31 Try.f31 (bodyOf Try.f31) (pl31 k) (sp31 k) x).left = (fnT Try.prog (cfg31 k) lim31 Try.f31 (bodyOf Try.f31) (pl31 k) (sp31 k) x).right := by kernel_rfl
theorem v31 (k : Nat) : Callable Try.prog 31 ∧ Valid Try.prog 31 (sp31 k) :=
  fn_ok (cfg31_ok k) (f := 31) (fn := Try.f31) (by kernel_rfl) (c := bodyOf Try.f31) (by kernel_rfl) (by kernel_rfl) rfl rfl (Nat.le_of_ble_eq_true rfl) (Nat.le_of_ble_eq_true rfl) (p := pl31 k) (Eq.mpr (pq31 k) ⟨(planOK_go _), ⟨(planOK_go _), ⟨⟨(planOK_go _), (fr31_1_ok k)⟩, (planOK_go _)⟩⟩⟩) fun x => ⟨ev31 k x, eq31 k x⟩
/-! f49 hyphen/hyphenref7.some -/
def F49_0 (k : Nat) : Nat → (List (List Bool)) → Int → Int → ((List Int) × ((List Int) × ((List Int) × ((List (Int × (Int × (Int × Unit)))) × (Int × Unit))))) → Option ((Unit × Unit) ⊕ ((Bool × Unit) × Unit))
  | 0, _, _, _, _ => none
  | n + 1, t1, t2, t7, c3 =>
    if 0 ≤ t2 ∧ t2 < ((List.length c3.1 : Nat) : Int) then
      if 0 ≤ (List.getD c3.1 (Int.toNat t2) (0 : Int)) ∧ (List.getD c3.1 (Int.toNat t2) (0 : Int)) < ((List.length t1 : Nat) : Int) then
        let x5 := (List.getD t1 (Int.toNat (List.getD c3.1 (Int.toNat t2) (0 : Int))) ([] : (List Bool)))
        let x6 := (decide (t7 < ((List.length x5 : Nat) : Int)))
        bif x6 then
          if 0 ≤ t2 ∧ t2 < ((List.length c3.1 : Nat) : Int) then
            if 0 ≤ (List.getD c3.1 (Int.toNat t2) (0 : Int)) ∧ (List.getD c3.1 (Int.toNat t2) (0 : Int)) < ((List.length t1 : Nat) : Int) then
              let x7 := (List.getD t1 (Int.toNat (List.getD c3.1 (Int.toNat t2) (0 : Int))) ([] : (List Bool)))
              if 0 ≤ t7 ∧ t7 < ((List.length x7 : Nat) : Int) then
                bif (List.getD x7 (Int.toNat t7) false) then
                  some (.inr ((true, ()), ()))
                else
                  (F49_0 k n t1 t2 (IntKind.wrap .i64 (t7 + (1 : Int))) c3).bind some
              else none
            else none
          else none
        else
          some (.inl ((), ()))
      else none
    else none
def fr49_0 (k : Nat) : Frag := ⟨⟨[], [(1, .val (.sl false 82 (.sl false 4 .bool none) none)), (2, .val (.int .i64)), (3, .ptr 3 []), (7, .val (.int .i64))], [(3, some 28, (.pair (.sl false 3 (.int .i64) none) (.pair (.sl false 3 (.int .i64) none) (.pair (.sl false 3 (.int .i64) none) (.pair (.sl false 43 (.pair (.int .i64) (.pair (.int .i64) (.pair (.int .i64) .unit))) none) (.pair (.int .i64) .unit))))))]⟩, [(.exit 0, ⟨[], [], []⟩), (.ret, ⟨[], [(6, .val .bool)], []⟩)], fun v => F49_0 k k v.1.1 v.1.2.1 v.1.2.2.1 v.2.1⟩
def F49 (k : Nat) (a0 : ((List Int) × ((List Int) × ((List Int) × ((List (Int × (Int × (Int × Unit)))) × (Int × Unit)))))) (a1 : (List (List Bool))) (a2 : Int) : Option ((Bool × Unit) × Unit) :=
  if 0 ≤ a2 ∧ a2 < ((List.length a0.1 : Nat) : Int) then
    let x1 := (decide ((List.getD a0.1 (Int.toNat a2) (0 : Int)) < (0 : Int)))
    bif x1 then
      some ((true, ()), ())
    else
      (F49_0 k k a1 a2 (0 : Int) a0).bind fun r8 =>
      match r8 with
      | .inl r9 =>
        some ((false, ()), ())
      | .inr r9 =>
        let y10 := r9.1.1
        some ((y10, ()), ())
  else none
def sp49 (k : Nat) : Spec := ⟨[.val (.pair (.sl false 3 (.int .i64) none) (.pair (.sl false 3 (.int .i64) none) (.pair (.sl false 3 (.int .i64) none) (.pair (.sl false 43 (.pair (.int .i64) (.pair (.int .i64) (.pair (.int .i64) .unit))) none) (.pair (.int .i64) .unit))))), .val (.sl false 82 (.sl false 4 .bool none) none), .val (.int .i64)], [.val .bool], fun x => F49 k x.1 x.2.1 x.2.2.1⟩
def lim49 : Lim := ⟨38, 3, false, false, []⟩
def cfg49 (k : Nat) : Nat → Option Spec := cfgL []
theorem cfg49_ok (k : Nat) : CfgOK Try.prog (cfg49 k) := cfgL_nil
def pl49_0 (k : Nat) : Plan := .go
theorem pq49_0 (k : Nat) : PlanOK Try.prog lim49 (pl49_0 k) (codeAt (bodyOf Try.f49) [.r, .r, .l, .r, .s, .b]) = PlanOK Try.prog lim49 .go (codeAt (bodyOf Try.f49) [.r, .r, .l, .r, .s, .b]) := by kernel_rfl
theorem ps49_0 (k m : Nat) (v : (fr49_0 k).sh.V) : F49_0 k (m + 1) v.1.1 v.1.2.1 v.1.2.2.1 v.2.1 = (body Try.prog (stepper Try.prog (cfg49 k) lim49) (pl49_0 k) (codeAt (bodyOf Try.f49) [.r, .r, .l, .r, .s, .b]) ((fr49_0 k).sh.st v) (loopK (fr49_0 k) fun v => F49_0 k m v.1.1 v.1.2.1 v.1.2.2.1 v.2.1)).eval := by kernel_rfl
theorem pe49_0 (k m : Nat) (v : (fr49_0 k).sh.V) : (body Try.prog (stepper Try.prog (cfg49 k) lim49) (pl49_0 k) (codeAt (bodyOf Try.f49) [.r, .r, .l, .r, .s, .b]) ((fr49_0 k).sh.st v) (loopK (fr49_0 k) fun v => F49_0 k m v.1.1 v.1.2.1 v.1.2.2.1 v.2.1)).left = (body Try.prog (stepper Try.prog (cfg49 k) lim49) (pl49_0 k) (codeAt (bodyOf Try.f49) [.r, .r, .l, .r, .s, .b]) ((fr49_0 k).sh.st v) (loopK (fr49_0 k) fun v => F49_0 k m v.1.1 v.1.2.1 v.1.2.2.1 v.2.1)).right := by kernel_rfl
theorem fr49_0_ok (k : Nat) : FragOK Try.prog lim49 (fr49_0 k) (codeAt (bodyOf Try.f49) [.r, .r, .l, .r, .s]) :=
  frag_cast (by kernel_rfl) (loop_ok (cfg49_ok k) (Eq.mpr (pq49_0 k) (planOK_go _)) (fun m v => F49_0 k m v.1.1 v.1.2.1 v.1.2.2.1 v.2.1) k (fun _ => rfl) (fun _ => rfl) fun m v => ⟨ps49_0 k m v, pe49_0 k m v⟩)
def pl49 (k : Nat) : Plan := (.seq .go (.seq .go (.seq (.seq .go (.sub (.frag (fr49_0 k)))) .go)))
theorem pq49 (k : Nat) : PlanOK Try.prog lim49 (pl49 k) (codeAt (bodyOf Try.f49) []) = (PlanOK Try.prog lim49 .go (codeAt (bodyOf Try.f49) [.l]) ∧ (PlanOK Try.prog lim49 .go (codeAt (bodyOf Try.f49) [.r, .l]) ∧ ((PlanOK Try.prog lim49 .go (codeAt (bodyOf Try.f49) [.r, .r, .l, .l]) ∧ FragOK Try.prog lim49 (fr49_0 k) (codeAt (bodyOf Try.f49) [.r, .r, .l, .r, .s])) ∧ PlanOK Try.prog lim49 .go (codeAt (bodyOf Try.f49) [.r, .r, .r])))) := by kernel_rfl
theorem ev49 (k : Nat) (x : AT (sp49 k).ps) : (sp49 k).impl x = (fnT Try.prog (cfg49 k) lim49 Try.f49 (bodyOf Try.f49) (pl49 k) (sp49 k) x).eval := by kernel_rfl
theorem eq49 (k : Nat) (x : AT (sp49 k).ps) : (fnT Try.prog (cfg49 k) lim49 Try.f49 (bodyOf Try.f49) (pl49 k) (sp49 k) x).left = (fnT Try.prog (cfg49 k) lim49 Try.f49 (bodyOf Try.f49) (pl49 k) (sp49 k) x).right := by kernel_rfl
theorem v49 (k : Nat) : Callable Try.prog 49 ∧ Valid Try.prog 49 (sp49 k) :=
  fn_ok (cfg49_ok k) (f := 49) (fn := Try.f49) (by kernel_rfl) (c := bodyOf Try.f49) (by kernel_rfl) (by kernel_rfl) rfl rfl (Nat.le_of_ble_eq_true rfl) (Nat.le_of_ble_eq_true rfl) (p := pl49 k) (Eq.mpr (pq49 k) ⟨(planOK_go _), ⟨(planOK_go _), ⟨⟨(planOK_go _), (fr49_0_ok k)⟩, (planOK_go _)⟩⟩⟩) fun x => ⟨ev49 k x, eq49 k x⟩
/-! f30 hyphen/hyphenref7.Trim -/
def F30_0 (k : Nat) : Nat → (List (List Bool)) → Int → Int → ((List Int) × ((List Int) × ((List Int) × ((List (Int × (Int × (Int × Unit)))) × (Int × Unit))))) → ((List Int) × ((List Int) × ((List Int) × ((List (Int × (Int × (Int × Unit)))) × (Int × Unit))))) → (List Bool) → (List Bool) → (List Bool) → Option (((Int × Unit) × (((List Int) × ((List Int) × ((List Int) × ((List (Int × (Int × (Int × Unit)))) × (Int × Unit))))) × ((List Int) × ((List Int) × ((List Int) × ((List (Int × (Int × (Int × Unit)))) × (Int × Unit))))) × (List Bool) × (List Bool) × (List Bool) × Unit)))
  | 0, _, _, _, _, _, _, _, _ => none
  | n + 1, t1, t5, t9, c2, c4, c22, c24, c26 =>
    bif (decide (t9 < t5)) then
      (F49 k c2 t1 t9).bind fun r13 =>
      if 0 ≤ t9 ∧ t9 < ((List.length c26 : Nat) : Int) then
        if 0 ≤ t9 ∧ t9 < ((List.length (List.set c26 (Int.toNat t9) r13.1.1) : Nat) : Int) then
          let x14 := (List.getD (List.set c26 (Int.toNat t9) r13.1.1) (Int.toNat t9) false)
          bif x14 then
            if 0 ≤ t9 ∧ t9 < ((List.length c2.2.1 : Nat) : Int) then
              let x15 := (decide ((List.getD c2.2.1 (Int.toNat t9) (0 : Int)) < (1152921504606846976 : Int)))
              if 0 ≤ t9 ∧ t9 < ((List.length (List.set c26 (Int.toNat t9) r13.1.1) : Nat) : Int) then
                let x16 := (List.getD (List.set c26 (Int.toNat t9) r13.1.1) (Int.toNat t9) false)
                bif x16 then
                  if 0 ≤ t9 ∧ t9 < ((List.length c2.2.2.1 : Nat) : Int) then
                    let x17 := (List.getD c2.2.2.1 (Int.toNat t9) (0 : Int))
                    if 0 ≤ t9 ∧ t9 < ((List.length c22 : Nat) : Int) then
                      if 0 ≤ t9 ∧ t9 < ((List.length c24 : Nat) : Int) then
                        let x18 := (List.set c24 (Int.toNat t9) (decide (x17 < (1152921504606846976 : Int))))
                        (F30_0 k n t1 t5 (IntKind.wrap .i64 (t9 + (1 : Int))) c2 c4 (List.set c22 (Int.toNat t9) x15) x18 (List.set c26 (Int.toNat t9) r13.1.1)).bind some
                      else none
                    else none
                  else none
                else
                  if 0 ≤ t9 ∧ t9 < ((List.length c22 : Nat) : Int) then
                    if 0 ≤ t9 ∧ t9 < ((List.length c24 : Nat) : Int) then
                      (F30_0 k n t1 t5 (IntKind.wrap .i64 (t9 + (1 : Int))) c2 c4 (List.set c22 (Int.toNat t9) x15) (List.set c24 (Int.toNat t9) false) (List.set c26 (Int.toNat t9) r13.1.1)).bind some
                    else none
                  else none
              else none
            else none
          else
            if 0 ≤ t9 ∧ t9 < ((List.length (List.set c26 (Int.toNat t9) r13.1.1) : Nat) : Int) then
              let x19 := (List.getD (List.set c26 (Int.toNat t9) r13.1.1) (Int.toNat t9) false)
              bif x19 then
                if 0 ≤ t9 ∧ t9 < ((List.length c2.2.2.1 : Nat) : Int) then
                  let x20 := (List.getD c2.2.2.1 (Int.toNat t9) (0 : Int))
                  if 0 ≤ t9 ∧ t9 < ((List.length c22 : Nat) : Int) then
                    if 0 ≤ t9 ∧ t9 < ((List.length c24 : Nat) : Int) then
                      let x21 := (List.set c24 (Int.toNat t9) (decide (x20 < (1152921504606846976 : Int))))
                      (F30_0 k n t1 t5 (IntKind.wrap .i64 (t9 + (1 : Int))) c2 c4 (List.set c22 (Int.toNat t9) false) x21 (List.set c26 (Int.toNat t9) r13.1.1)).bind some
                    else none
                  else none
                else none
              else
                if 0 ≤ t9 ∧ t9 < ((List.length c22 : Nat) : Int) then
                  if 0 ≤ t9 ∧ t9 < ((List.length c24 : Nat) : Int) then
                    (F30_0 k n t1 t5 (IntKind.wrap .i64 (t9 + (1 : Int))) c2 c4 (List.set c22 (Int.toNat t9) false) (List.set c24 (Int.toNat t9) false) (List.set c26 (Int.toNat t9) r13.1.1)).bind some
                  else none
                else none
            else none
        else none
      else none
    else
      some ((t5, ()), (c2, c4, c22, c24, c26, ()))
def fr30_0 (k : Nat) : Frag := ⟨⟨[], [(1, .val (.sl false 82 (.sl false 4 .bool none) none)), (2, .ptr 2 []), (4, .ptr 4 []), (5, .val (.int .i64)), (6, .at 22 []), (7, .at 24 []), (8, .at 26 []), (9, .val (.int .i64))], [(2, some 28, (.pair (.sl false 3 (.int .i64) none) (.pair (.sl false 3 (.int .i64) none) (.pair (.sl false 3 (.int .i64) none) (.pair (.sl false 43 (.pair (.int .i64) (.pair (.int .i64) (.pair (.int .i64) .unit))) none) (.pair (.int .i64) .unit)))))), (4, some 28, (.pair (.sl true 3 (.int .i64) none) (.pair (.sl true 3 (.int .i64) none) (.pair (.sl true 3 (.int .i64) none) (.pair (.sl true 43 (.pair (.int .i64) (.pair (.int .i64) (.pair (.int .i64) .unit))) none) (.pair (.int .i64) .unit)))))), (22, none, (.sl true 4 .bool none)), (24, none, (.sl true 4 .bool none)), (26, none, (.sl true 4 .bool none))]⟩, [(.exit 0, ⟨[], [(2, .ptr 2 []), (4, .ptr 4 []), (5, .val (.int .i64)), (6, .at 22 []), (7, .at 24 []), (8, .at 26 [])], [(2, some 28, (.pair (.sl false 3 (.int .i64) none) (.pair (.sl false 3 (.int .i64) none) (.pair (.sl false 3 (.int .i64) none) (.pair (.sl false 43 (.pair (.int .i64) (.pair (.int .i64) (.pair (.int .i64) .unit))) none) (.pair (.int .i64) .unit)))))), (4, some 28, (.pair (.sl true 3 (.int .i64) none) (.pair (.sl true 3 (.int .i64) none) (.pair (.sl true 3 (.int .i64) none) (.pair (.sl true 43 (.pair (.int .i64) (.pair (.int .i64) (.pair (.int .i64) .unit))) none) (.pair (.int .i64) .unit)))))), (22, none, (.sl true 4 .bool none)), (24, none, (.sl true 4 .bool none)), (26, none, (.sl true 4 .bool none))]⟩)], fun v => F30_0 k k v.1.1 v.1.2.1 v.1.2.2.1 v.2.1 v.2.2.1 v.2.2.2.1 v.2.2.2.2.1 v.2.2.2.2.2.1⟩
def F30_1 (k : Nat) : Nat → Int → Bool → Int → ((List Int) × ((List Int) × ((List Int) × ((List (Int × (Int × (Int × Unit)))) × (Int × Unit))))) → ((List Int) × ((List Int) × ((List Int) × ((List (Int × (Int × (Int × Unit)))) × (Int × Unit))))) → (List Bool) → (List Bool) → (List Bool) → Option (((Int × Bool × Unit) × (((List Int) × ((List Int) × ((List Int) × ((List (Int × (Int × (Int × Unit)))) × (Int × Unit))))) × ((List Int) × ((List Int) × ((List Int) × ((List (Int × (Int × (Int × Unit)))) × (Int × Unit))))) × (List Bool) × (List Bool) × (List Bool) × Unit)))
  | 0, _, _, _, _, _, _, _, _ => none
  | n + 1, t5, t10, t11, c2, c4, c22, c24, c26 =>
    let x31 := (decide (t11 < ((List.length c2.2.2.2.1 : Nat) : Int)))
    bif x31 then
      if 0 ≤ t11 ∧ t11 < ((List.length c2.2.2.2.1 : Nat) : Int) then
        let x32 := (List.getD c2.2.2.2.1 (Int.toNat t11) ((0 : Int), ((0 : Int), ((0 : Int), ()))))
        if 0 ≤ x32.1 ∧ x32.1 < ((List.length c22 : Nat) : Int) then
          bif (List.getD c22 (Int.toNat x32.1) false) then
            if 0 ≤ x32.2.1 ∧ x32.2.1 < ((List.length c26 : Nat) : Int) then
              bif (List.getD c26 (Int.toNat x32.2.1) false) then
                if 0 ≤ x32.2.1 ∧ x32.2.1 < ((List.length c22 : Nat) : Int) then
                  bif (!(List.getD c22 (Int.toNat x32.2.1) false)) then
                    if 0 ≤ x32.2.1 ∧ x32.2.1 < ((List.length c22 : Nat) : Int) then
                      if 0 ≤ x32.2.1 ∧ x32.2.1 < ((List.length c24 : Nat) : Int) then
                        bif (List.getD c24 (Int.toNat x32.2.1) false) then
                          if 0 ≤ x32.1 ∧ x32.1 < ((List.length c26 : Nat) : Int) then
                            bif (List.getD c26 (Int.toNat x32.1) false) then
                              if 0 ≤ x32.1 ∧ x32.1 < ((List.length c24 : Nat) : Int) then
                                bif (!(List.getD c24 (Int.toNat x32.1) false)) then
                                  if 0 ≤ x32.1 ∧ x32.1 < ((List.length c24 : Nat) : Int) then
                                    (F30_1 k n t5 true (IntKind.wrap .i64 (t11 + (1 : Int))) c2 c4 (List.set c22 (Int.toNat x32.2.1) true) (List.set c24 (Int.toNat x32.1) true) c26).bind some
                                  else none
                                else
                                  (F30_1 k n t5 true (IntKind.wrap .i64 (t11 + (1 : Int))) c2 c4 (List.set c22 (Int.toNat x32.2.1) true) c24 c26).bind some
                              else none
                            else
                              (F30_1 k n t5 true (IntKind.wrap .i64 (t11 + (1 : Int))) c2 c4 (List.set c22 (Int.toNat x32.2.1) true) c24 c26).bind some
                          else none
                        else
                          (F30_1 k n t5 true (IntKind.wrap .i64 (t11 + (1 : Int))) c2 c4 (List.set c22 (Int.toNat x32.2.1) true) c24 c26).bind some
                      else none
                    else none
                  else
                    if 0 ≤ x32.2.1 ∧ x32.2.1 < ((List.length c24 : Nat) : Int) then
                      bif (List.getD c24 (Int.toNat x32.2.1) false) then
                        if 0 ≤ x32.1 ∧ x32.1 < ((List.length c26 : Nat) : Int) then
                          bif (List.getD c26 (Int.toNat x32.1) false) then
                            if 0 ≤ x32.1 ∧ x32.1 < ((List.length c24 : Nat) : Int) then
                              bif (!(List.getD c24 (Int.toNat x32.1) false)) then
                                if 0 ≤ x32.1 ∧ x32.1 < ((List.length c24 : Nat) : Int) then
                                  (F30_1 k n t5 true (IntKind.wrap .i64 (t11 + (1 : Int))) c2 c4 c22 (List.set c24 (Int.toNat x32.1) true) c26).bind some
                                else none
                              else
                                (F30_1 k n t5 t10 (IntKind.wrap .i64 (t11 + (1 : Int))) c2 c4 c22 c24 c26).bind some
                            else none
                          else
                            (F30_1 k n t5 t10 (IntKind.wrap .i64 (t11 + (1 : Int))) c2 c4 c22 c24 c26).bind some
                        else none
                      else
                        (F30_1 k n t5 t10 (IntKind.wrap .i64 (t11 + (1 : Int))) c2 c4 c22 c24 c26).bind some
                    else none
                else none
              else
                if 0 ≤ x32.2.1 ∧ x32.2.1 < ((List.length c24 : Nat) : Int) then
                  bif (List.getD c24 (Int.toNat x32.2.1) false) then
                    if 0 ≤ x32.1 ∧ x32.1 < ((List.length c26 : Nat) : Int) then
                      bif (List.getD c26 (Int.toNat x32.1) false) then
                        if 0 ≤ x32.1 ∧ x32.1 < ((List.length c24 : Nat) : Int) then
                          bif (!(List.getD c24 (Int.toNat x32.1) false)) then
                            if 0 ≤ x32.1 ∧ x32.1 < ((List.length c24 : Nat) : Int) then
                              (F30_1 k n t5 true (IntKind.wrap .i64 (t11 + (1 : Int))) c2 c4 c22 (List.set c24 (Int.toNat x32.1) true) c26).bind some
                            else none
                          else
                            (F30_1 k n t5 t10 (IntKind.wrap .i64 (t11 + (1 : Int))) c2 c4 c22 c24 c26).bind some
                        else none
                      else
                        (F30_1 k n t5 t10 (IntKind.wrap .i64 (t11 + (1 : Int))) c2 c4 c22 c24 c26).bind some
                    else none
                  else
                    (F30_1 k n t5 t10 (IntKind.wrap .i64 (t11 + (1 : Int))) c2 c4 c22 c24 c26).bind some
                else none
            else none
          else
            if 0 ≤ x32.2.1 ∧ x32.2.1 < ((List.length c24 : Nat) : Int) then
              bif (List.getD c24 (Int.toNat x32.2.1) false) then
                if 0 ≤ x32.1 ∧ x32.1 < ((List.length c26 : Nat) : Int) then
                  bif (List.getD c26 (Int.toNat x32.1) false) then
                    if 0 ≤ x32.1 ∧ x32.1 < ((List.length c24 : Nat) : Int) then
                      bif (!(List.getD c24 (Int.toNat x32.1) false)) then
                        if 0 ≤ x32.1 ∧ x32.1 < ((List.length c24 : Nat) : Int) then
                          (F30_1 k n t5 true (IntKind.wrap .i64 (t11 + (1 : Int))) c2 c4 c22 (List.set c24 (Int.toNat x32.1) true) c26).bind some
                        else none
                      else
                        (F30_1 k n t5 t10 (IntKind.wrap .i64 (t11 + (1 : Int))) c2 c4 c22 c24 c26).bind some
                    else none
                  else
                    (F30_1 k n t5 t10 (IntKind.wrap .i64 (t11 + (1 : Int))) c2 c4 c22 c24 c26).bind some
                else none
              else
                (F30_1 k n t5 t10 (IntKind.wrap .i64 (t11 + (1 : Int))) c2 c4 c22 c24 c26).bind some
            else none
        else none
      else none
    else
      some ((t5, t10, ()), (c2, c4, c22, c24, c26, ()))
def fr30_1 (k : Nat) : Frag := ⟨⟨[], [(2, .ptr 2 []), (4, .ptr 4 []), (5, .val (.int .i64)), (6, .at 22 []), (7, .at 24 []), (8, .at 26 []), (10, .val .bool), (11, .val (.int .i64))], [(2, some 28, (.pair (.sl false 3 (.int .i64) none) (.pair (.sl false 3 (.int .i64) none) (.pair (.sl false 3 (.int .i64) none) (.pair (.sl false 43 (.pair (.int .i64) (.pair (.int .i64) (.pair (.int .i64) .unit))) none) (.pair (.int .i64) .unit)))))), (4, some 28, (.pair (.sl true 3 (.int .i64) none) (.pair (.sl true 3 (.int .i64) none) (.pair (.sl true 3 (.int .i64) none) (.pair (.sl true 43 (.pair (.int .i64) (.pair (.int .i64) (.pair (.int .i64) .unit))) none) (.pair (.int .i64) .unit)))))), (22, none, (.sl true 4 .bool none)), (24, none, (.sl true 4 .bool none)), (26, none, (.sl true 4 .bool none))]⟩, [(.exit 4, ⟨[], [(2, .ptr 2 []), (4, .ptr 4 []), (5, .val (.int .i64)), (6, .at 22 []), (7, .at 24 []), (8, .at 26 []), (10, .val .bool)], [(2, some 28, (.pair (.sl false 3 (.int .i64) none) (.pair (.sl false 3 (.int .i64) none) (.pair (.sl false 3 (.int .i64) none) (.pair (.sl false 43 (.pair (.int .i64) (.pair (.int .i64) (.pair (.int .i64) .unit))) none) (.pair (.int .i64) .unit)))))), (4, some 28, (.pair (.sl true 3 (.int .i64) none) (.pair (.sl true 3 (.int .i64) none) (.pair (.sl true 3 (.int .i64) none) (.pair (.sl true 43 (.pair (.int .i64) (.pair (.int .i64) (.pair (.int .i64) .unit))) none) (.pair (.int .i64) .unit)))))), (22, none, (.sl true 4 .bool none)), (24, none, (.sl true 4 .bool none)), (26, none, (.sl true 4 .bool none))]⟩)], fun v => F30_1 k k v.1.1 v.1.2.1 v.1.2.2.1 v.2.1 v.2.2.1 v.2.2.2.1 v.2.2.2.2.1 v.2.2.2.2.2.1⟩
def F30_2 (k : Nat) : Nat → Int → Bool → ((List Int) × ((List Int) × ((List Int) × ((List (Int × (Int × (Int × Unit)))) × (Int × Unit))))) → ((List Int) × ((List Int) × ((List Int) × ((List (Int × (Int × (Int × Unit)))) × (Int × Unit))))) → (List Bool) → (List Bool) → (List Bool) → Option (((Int × Unit) × (((List Int) × ((List Int) × ((List Int) × ((List (Int × (Int × (Int × Unit)))) × (Int × Unit))))) × ((List Int) × ((List Int) × ((List Int) × ((List (Int × (Int × (Int × Unit)))) × (Int × Unit))))) × (List Bool) × (List Bool) × Unit)))
  | 0, _, _, _, _, _, _, _ => none
  | n + 1, t5, t10, c2, c4, c22, c24, c26 =>
    bif t10 then
      (F30_1 k k t5 false (0 : Int) c2 c4 c22 c24 c26).bind fun r41 =>
      let y42 := r41.1.1
      let y43 := r41.1.2.1
      let y44 := r41.2.1
      let y45 := r41.2.2.1
      let y46 := r41.2.2.2.1
      let y47 := r41.2.2.2.2.1
      let y48 := r41.2.2.2.2.2.1
      (F30_2 k n y42 y43 y44 y45 y46 y47 y48).bind some
    else
      some ((t5, ()), (c2, c4, c22, c24, ()))
def fr30_2 (k : Nat) : Frag := ⟨⟨[], [(2, .ptr 2 []), (4, .ptr 4 []), (5, .val (.int .i64)), (6, .at 22 []), (7, .at 24 []), (8, .at 26 []), (10, .val .bool)], [(2, some 28, (.pair (.sl false 3 (.int .i64) none) (.pair (.sl false 3 (.int .i64) none) (.pair (.sl false 3 (.int .i64) none) (.pair (.sl false 43 (.pair (.int .i64) (.pair (.int .i64) (.pair (.int .i64) .unit))) none) (.pair (.int .i64) .unit)))))), (4, some 28, (.pair (.sl true 3 (.int .i64) none) (.pair (.sl true 3 (.int .i64) none) (.pair (.sl true 3 (.int .i64) none) (.pair (.sl true 43 (.pair (.int .i64) (.pair (.int .i64) (.pair (.int .i64) .unit))) none) (.pair (.int .i64) .unit)))))), (22, none, (.sl true 4 .bool none)), (24, none, (.sl true 4 .bool none)), (26, none, (.sl true 4 .bool none))]⟩, [(.exit 2, ⟨[], [(2, .ptr 2 []), (4, .ptr 4 []), (5, .val (.int .i64)), (6, .at 22 []), (7, .at 24 [])], [(2, some 28, (.pair (.sl false 3 (.int .i64) none) (.pair (.sl false 3 (.int .i64) none) (.pair (.sl false 3 (.int .i64) none) (.pair (.sl false 43 (.pair (.int .i64) (.pair (.int .i64) (.pair (.int .i64) .unit))) none) (.pair (.int .i64) .unit)))))), (4, some 28, (.pair (.sl true 3 (.int .i64) none) (.pair (.sl true 3 (.int .i64) none) (.pair (.sl true 3 (.int .i64) none) (.pair (.sl true 43 (.pair (.int .i64) (.pair (.int .i64) (.pair (.int .i64) .unit))) none) (.pair (.int .i64) .unit)))))), (22, none, (.sl true 4 .bool none)), (24, none, (.sl true 4 .bool none))]⟩)], fun v => F30_2 k k v.1.1 v.1.2.1 v.2.1 v.2.2.1 v.2.2.2.1 v.2.2.2.2.1 v.2.2.2.2.2.1⟩
def F30_3 (k : Nat) : Nat → Int → Int → ((List Int) × ((List Int) × ((List Int) × ((List (Int × (Int × (Int × Unit)))) × (Int × Unit))))) → ((List Int) × ((List Int) × ((List Int) × ((List (Int × (Int × (Int × Unit)))) × (Int × Unit))))) → ((List Int) × ((List Int) × ((List Int) × ((List (Int × (Int × (Int × Unit)))) × (Int × Unit))))) → (List Bool) → (List Bool) → (List Int) → Option ((Unit × (((List Int) × ((List Int) × ((List Int) × ((List (Int × (Int × (Int × Unit)))) × (Int × Unit))))) × ((List Int) × ((List Int) × ((List Int) × ((List (Int × (Int × (Int × Unit)))) × (Int × Unit))))) × ((List Int) × ((List Int) × ((List Int) × ((List (Int × (Int × (Int × Unit)))) × (Int × Unit))))) × (List Int) × Unit)))
  | 0, _, _, _, _, _, _, _, _ => none
  | n + 1, t5, t15, c2, c4, c13, c22, c24, c134 =>
    bif (decide (t15 < t5)) then
      if 0 ≤ t15 ∧ t15 < ((List.length c134 : Nat) : Int) then
        if 0 ≤ t15 ∧ t15 < ((List.length c22 : Nat) : Int) then
          bif (List.getD c22 (Int.toNat t15) false) then
            if 0 ≤ t15 ∧ t15 < ((List.length c24 : Nat) : Int) then
              bif (List.getD c24 (Int.toNat t15) false) then
                if 0 ≤ t15 ∧ t15 < ((List.length (List.set c134 (Int.toNat t15) (-1 : Int)) : Nat) : Int) then
                  let x60 := (List.set (List.set c134 (Int.toNat t15) (-1 : Int)) (Int.toNat t15) ((List.length c13.1 : Nat) : Int))
                  if 0 ≤ t15 ∧ t15 < ((List.length c2.1 : Nat) : Int) then
                    if 0 ≤ t15 ∧ t15 < ((List.length c2.2.1 : Nat) : Int) then
                      if 0 ≤ t15 ∧ t15 < ((List.length c2.2.2.1 : Nat) : Int) then
                        let x61 := (List.getD c2.2.2.1 (Int.toNat t15) (0 : Int))
                        let x62 := (List.set (List.replicate 1 (0 : Int)) 0 (List.getD c2.1 (Int.toNat t15) (0 : Int)))
                        if (List.length c13.1 + List.length x62) * (8 * 2) ≤ 281474976710656 ∧ List.length c13.1 + List.length x62 ≤ 9223372036854775807 then
                          let x63 := (List.set (List.replicate 1 (0 : Int)) 0 (List.getD c2.2.1 (Int.toNat t15) (0 : Int)))
                          if (List.length c13.2.1 + List.length x63) * (8 * 2) ≤ 281474976710656 ∧ List.length c13.2.1 + List.length x63 ≤ 9223372036854775807 then
                            let x64 := (List.set (List.replicate 1 (0 : Int)) 0 x61)
                            if (List.length c13.2.2.1 + List.length x64) * (8 * 2) ≤ 281474976710656 ∧ List.length c13.2.2.1 + List.length x64 ≤ 9223372036854775807 then
                              (F30_3 k n t5 (IntKind.wrap .i64 (t15 + (1 : Int))) c2 c4 ((c13.1 ++ x62), ((c13.2.1 ++ x63), ((c13.2.2.1 ++ x64), c13.2.2.2))) c22 c24 x60).bind some
                            else none
                          else none
                        else none
                      else none
                    else none
                  else none
                else none
              else
                (F30_3 k n t5 (IntKind.wrap .i64 (t15 + (1 : Int))) c2 c4 c13 c22 c24 (List.set c134 (Int.toNat t15) (-1 : Int))).bind some
            else none
          else
            (F30_3 k n t5 (IntKind.wrap .i64 (t15 + (1 : Int))) c2 c4 c13 c22 c24 (List.set c134 (Int.toNat t15) (-1 : Int))).bind some
        else none
      else none
    else
      some ((), (c2, c4, c13, c134, ()))
def fr30_3 (k : Nat) : Frag := ⟨⟨[], [(2, .ptr 2 []), (4, .ptr 4 []), (5, .val (.int .i64)), (6, .at 22 []), (7, .at 24 []), (13, .ptr 13 []), (14, .at 134 []), (15, .val (.int .i64))], [(2, some 28, (.pair (.sl false 3 (.int .i64) none) (.pair (.sl false 3 (.int .i64) none) (.pair (.sl false 3 (.int .i64) none) (.pair (.sl false 43 (.pair (.int .i64) (.pair (.int .i64) (.pair (.int .i64) .unit))) none) (.pair (.int .i64) .unit)))))), (4, some 28, (.pair (.sl true 3 (.int .i64) none) (.pair (.sl true 3 (.int .i64) none) (.pair (.sl true 3 (.int .i64) none) (.pair (.sl true 43 (.pair (.int .i64) (.pair (.int .i64) (.pair (.int .i64) .unit))) none) (.pair (.int .i64) .unit)))))), (13, some 28, (.pair (.sl true 3 (.int .i64) none) (.pair (.sl true 3 (.int .i64) none) (.pair (.sl true 3 (.int .i64) none) (.pair (.sl true 43 (.pair (.int .i64) (.pair (.int .i64) (.pair (.int .i64) .unit))) none) (.pair (.int .i64) .unit)))))), (22, none, (.sl true 4 .bool none)), (24, none, (.sl true 4 .bool none)), (134, none, (.sl true 3 (.int .i64) none))]⟩, [(.exit 6, ⟨[], [(2, .ptr 2 []), (4, .ptr 4 []), (13, .ptr 13 []), (14, .at 134 [])], [(2, some 28, (.pair (.sl false 3 (.int .i64) none) (.pair (.sl false 3 (.int .i64) none) (.pair (.sl false 3 (.int .i64) none) (.pair (.sl false 43 (.pair (.int .i64) (.pair (.int .i64) (.pair (.int .i64) .unit))) none) (.pair (.int .i64) .unit)))))), (4, some 28, (.pair (.sl true 3 (.int .i64) none) (.pair (.sl true 3 (.int .i64) none) (.pair (.sl true 3 (.int .i64) none) (.pair (.sl true 43 (.pair (.int .i64) (.pair (.int .i64) (.pair (.int .i64) .unit))) none) (.pair (.int .i64) .unit)))))), (13, some 28, (.pair (.sl true 3 (.int .i64) none) (.pair (.sl true 3 (.int .i64) none) (.pair (.sl true 3 (.int .i64) none) (.pair (.sl true 43 (.pair (.int .i64) (.pair (.int .i64) (.pair (.int .i64) .unit))) none) (.pair (.int .i64) .unit)))))), (134, none, (.sl true 3 (.int .i64) none))]⟩)], fun v => F30_3 k k v.1.1 v.1.2.1 v.2.1 v.2.2.1 v.2.2.2.1 v.2.2.2.2.1 v.2.2.2.2.2.1 v.2.2.2.2.2.2.1⟩
def F30_4 (k : Nat) : Nat → Int → ((List Int) × ((List Int) × ((List Int) × ((List (Int × (Int × (Int × Unit)))) × (Int × Unit))))) → ((List Int) × ((List Int) × ((List Int) × ((List (Int × (Int × (Int × Unit)))) × (Int × Unit))))) → ((List Int) × ((List Int) × ((List Int) × ((List (Int × (Int × (Int × Unit)))) × (Int × Unit))))) → (List Int) → Option ((Unit × (((List Int) × ((List Int) × ((List Int) × ((List (Int × (Int × (Int × Unit)))) × (Int × Unit))))) × ((List Int) × ((List Int) × ((List Int) × ((List (Int × (Int × (Int × Unit)))) × (Int × Unit))))) × Unit)))
  | 0, _, _, _, _, _ => none
  | n + 1, t16, c2, c4, c13, c134 =>
    let x76 := (decide (t16 < ((List.length c2.2.2.2.1 : Nat) : Int)))
    bif x76 then
      if 0 ≤ t16 ∧ t16 < ((List.length c2.2.2.2.1 : Nat) : Int) then
        let x77 := (List.getD c2.2.2.2.1 (Int.toNat t16) ((0 : Int), ((0 : Int), ((0 : Int), ()))))
        if 0 ≤ x77.1 ∧ x77.1 < ((List.length c134 : Nat) : Int) then
          let x78 := (decide ((List.getD c134 (Int.toNat x77.1) (0 : Int)) ≥ (0 : Int)))
          bif x78 then
            if 0 ≤ x77.2.1 ∧ x77.2.1 < ((List.length c134 : Nat) : Int) then
              let x79 := (List.getD c134 (Int.toNat x77.2.1) (0 : Int))
              bif (decide (x79 ≥ (0 : Int))) then
                if 0 ≤ x77.1 ∧ x77.1 < ((List.length c134 : Nat) : Int) then
                  if 0 ≤ x77.2.1 ∧ x77.2.1 < ((List.length c134 : Nat) : Int) then
                    let x80 := (List.getD c134 (Int.toNat x77.2.1) (0 : Int))
                    let x81 := (List.set (List.replicate 1 ((0 : Int), ((0 : Int), ((0 : Int), ())))) 0 ((List.getD c134 (Int.toNat x77.1) (0 : Int)), (x80, (x77.2.2.1, ()))))
                    if (List.length c13.2.2.2.1 + List.length x81) * (24 * 2) ≤ 281474976710656 ∧ List.length c13.2.2.2.1 + List.length x81 ≤ 9223372036854775807 then
                      (F30_4 k n (IntKind.wrap .i64 (t16 + (1 : Int))) c2 c4 (c13.1, (c13.2.1, (c13.2.2.1, ((c13.2.2.2.1 ++ x81), c13.2.2.2.2)))) c134).bind some
                    else none
                  else none
                else none
              else
                (F30_4 k n (IntKind.wrap .i64 (t16 + (1 : Int))) c2 c4 c13 c134).bind some
            else none
          else
            (F30_4 k n (IntKind.wrap .i64 (t16 + (1 : Int))) c2 c4 c13 c134).bind some
        else none
      else none
    else
      some ((), (c4, c13, ()))
def fr30_4 (k : Nat) : Frag := ⟨⟨[], [(2, .ptr 2 []), (4, .ptr 4 []), (13, .ptr 13 []), (14, .at 134 []), (16, .val (.int .i64))], [(2, some 28, (.pair (.sl false 3 (.int .i64) none) (.pair (.sl false 3 (.int .i64) none) (.pair (.sl false 3 (.int .i64) none) (.pair (.sl false 43 (.pair (.int .i64) (.pair (.int .i64) (.pair (.int .i64) .unit))) none) (.pair (.int .i64) .unit)))))), (4, some 28, (.pair (.sl true 3 (.int .i64) none) (.pair (.sl true 3 (.int .i64) none) (.pair (.sl true 3 (.int .i64) none) (.pair (.sl true 43 (.pair (.int .i64) (.pair (.int .i64) (.pair (.int .i64) .unit))) none) (.pair (.int .i64) .unit)))))), (13, some 28, (.pair (.sl true 3 (.int .i64) none) (.pair (.sl true 3 (.int .i64) none) (.pair (.sl true 3 (.int .i64) none) (.pair (.sl true 43 (.pair (.int .i64) (.pair (.int .i64) (.pair (.int .i64) .unit))) none) (.pair (.int .i64) .unit)))))), (134, none, (.sl true 3 (.int .i64) none))]⟩, [(.exit 8, ⟨[], [(4, .ptr 4 []), (13, .ptr 13 [])], [(4, some 28, (.pair (.sl true 3 (.int .i64) none) (.pair (.sl true 3 (.int .i64) none) (.pair (.sl true 3 (.int .i64) none) (.pair (.sl true 43 (.pair (.int .i64) (.pair (.int .i64) (.pair (.int .i64) .unit))) none) (.pair (.int .i64) .unit)))))), (13, some 28, (.pair (.sl true 3 (.int .i64) none) (.pair (.sl true 3 (.int .i64) none) (.pair (.sl true 3 (.int .i64) none) (.pair (.sl true 43 (.pair (.int .i64) (.pair (.int .i64) (.pair (.int .i64) .unit))) none) (.pair (.int .i64) .unit))))))]⟩)], fun v => F30_4 k k v.1.1 v.2.1 v.2.2.1 v.2.2.2.1 v.2.2.2.2.1⟩
def F30 (k : Nat) (a0 : ((List Int) × ((List Int) × ((List Int) × ((List (Int × (Int × (Int × Unit)))) × (Int × Unit)))))) (a1 : (List (List Bool))) : Option ((((List Int) × ((List Int) × ((List Int) × ((List (Int × (Int × (Int × Unit)))) × (Int × Unit))))) × Unit) × Unit) :=
  if (0 ≤ ((List.length a0.1 : Nat) : Int) ∧ ((List.length a0.1 : Nat) : Int) < ((List.length a0.1 : Nat) : Int) + 1) ∧ ((List.length a0.1 : Nat) : Int) ≤ 9223372036854775807 ∧ ((1 : Nat) : Int) * ((List.length a0.1 : Nat) : Int) ≤ 281474976710656 then
    let x1 := (List.replicate (Int.toNat ((List.length a0.1 : Nat) : Int)) false)
    if (0 ≤ ((List.length a0.1 : Nat) : Int) ∧ ((List.length a0.1 : Nat) : Int) < ((List.length a0.1 : Nat) : Int) + 1) ∧ ((List.length a0.1 : Nat) : Int) ≤ 9223372036854775807 ∧ ((1 : Nat) : Int) * ((List.length a0.1 : Nat) : Int) ≤ 281474976710656 then
      let x2 := (List.replicate (Int.toNat ((List.length a0.1 : Nat) : Int)) false)
      if (0 ≤ ((List.length a0.1 : Nat) : Int) ∧ ((List.length a0.1 : Nat) : Int) < ((List.length a0.1 : Nat) : Int) + 1) ∧ ((List.length a0.1 : Nat) : Int) ≤ 9223372036854775807 ∧ ((1 : Nat) : Int) * ((List.length a0.1 : Nat) : Int) ≤ 281474976710656 then
        let x3 := (List.replicate (Int.toNat ((List.length a0.1 : Nat) : Int)) false)
        (F30_0 k k a1 ((List.length a0.1 : Nat) : Int) (0 : Int) a0 (([] : (List Int)), (([] : (List Int)), (([] : (List Int)), (([] : (List (Int × (Int × (Int × Unit))))), ((0 : Int), ()))))) x1 x2 x3).bind fun r22 =>
        let y23 := r22.1.1
        let y24 := r22.2.1
        let y25 := r22.2.2.1
        let y26 := r22.2.2.2.1
        let y27 := r22.2.2.2.2.1
        let y28 := r22.2.2.2.2.2.1
        (F30_2 k k y23 true y24 y25 y26 y27 y28).bind fun r49 =>
        let y50 := r49.1.1
        let y51 := r49.2.1
        let y52 := r49.2.2.1
        let y53 := r49.2.2.2.1
        let y54 := r49.2.2.2.2.1
        if (0 ≤ y50 ∧ y50 < y50 + 1) ∧ y50 ≤ 9223372036854775807 ∧ ((8 : Nat) : Int) * y50 ≤ 281474976710656 then
          (F30_3 k k y50 (0 : Int) y51 y52 (([] : (List Int)), (([] : (List Int)), (([] : (List Int)), (([] : (List (Int × (Int × (Int × Unit))))), (y51.2.2.2.2.1, ()))))) y53 y54 (List.replicate (Int.toNat y50) (0 : Int))).bind fun r65 =>
          let y66 := r65.2.1
          let y67 := r65.2.2.1
          let y68 := r65.2.2.2.1
          let y69 := r65.2.2.2.2.1
          (F30_4 k k (0 : Int) y66 y67 y68 y69).bind fun r82 =>
          let y84 := r82.2.2.1
          some ((y84, ()), ())
        else none
      else none
    else none
  else none
def sp30 (k : Nat) : Spec := ⟨[.val (.pair (.sl false 3 (.int .i64) none) (.pair (.sl false 3 (.int .i64) none) (.pair (.sl false 3 (.int .i64) none) (.pair (.sl false 43 (.pair (.int .i64) (.pair (.int .i64) (.pair (.int .i64) .unit))) none) (.pair (.int .i64) .unit))))), .val (.sl false 82 (.sl false 4 .bool none) none)], [.own (.pair (.sl true 3 (.int .i64) none) (.pair (.sl true 3 (.int .i64) none) (.pair (.sl true 3 (.int .i64) none) (.pair (.sl true 43 (.pair (.int .i64) (.pair (.int .i64) (.pair (.int .i64) .unit))) none) (.pair (.int .i64) .unit)))))], fun x => F30 k x.1 x.2.1⟩
def lim30 : Lim := ⟨234, 2, false, false, []⟩
def cfg30 (k : Nat) : Nat → Option Spec := cfgL [(49, sp49 k)]
theorem cfg30_ok (k : Nat) : CfgOK Try.prog (cfg30 k) := cfgL_cons (v49 k) (cfgL_nil)
def pl30_0 (k : Nat) : Plan := .go
theorem pq30_0 (k : Nat) : PlanOK Try.prog lim30 (pl30_0 k) (codeAt (bodyOf Try.f30) [.r, .r, .r, .r, .l, .r, .s, .b]) = PlanOK Try.prog lim30 .go (codeAt (bodyOf Try.f30) [.r, .r, .r, .r, .l, .r, .s, .b]) := by kernel_rfl
theorem ps30_0 (k m : Nat) (v : (fr30_0 k).sh.V) : F30_0 k (m + 1) v.1.1 v.1.2.1 v.1.2.2.1 v.2.1 v.2.2.1 v.2.2.2.1 v.2.2.2.2.1 v.2.2.2.2.2.1 = (body Try.prog (stepper Try.prog (cfg30 k) lim30) (pl30_0 k) (codeAt (bodyOf Try.f30) [.r, .r, .r, .r, .l, .r, .s, .b]) ((fr30_0 k).sh.st v) (loopK (fr30_0 k) fun v => F30_0 k m v.1.1 v.1.2.1 v.1.2.2.1 v.2.1 v.2.2.1 v.2.2.2.1 v.2.2.2.2.1 v.2.2.2.2.2.1)).eval := by kernel_rfl
theorem pe30_0 (k m : Nat) (v : (fr30_0 k).sh.V) : (body Try.prog (stepper Try.prog (cfg30 k) lim30) (pl30_0 k) (codeAt (bodyOf Try.f30) [.r, .r, .r, .r, .l, .r, .s, .b]) ((fr30_0 k).sh.st v) (loopK (fr30_0 k) fun v => F30_0 k m v.1.1 v.1.2.1 v.1.2.2.1 v.2.1 v.2.2.1 v.2.2.2.1 v.2.2.2.2.1 v.2.2.2.2.2.1)).left = (body Try.prog (stepper Try.prog (cfg30 k) lim30) (pl30_0 k) (codeAt (bodyOf Try.f30) [.r, .r, .r, .r, .l, .r, .s, .b]) ((fr30_0 k).sh.st v) (loopK (fr30_0 k) fun v => F30_0 k m v.1.1 v.1.2.1 v.1.2.2.1 v.2.1 v.2.2.1 v.2.2.2.1 v.2.2.2.2.1 v.2.2.2.2.2.1)).right := by kernel_rfl
theorem fr30_0_ok (k : Nat) : FragOK Try.prog lim30 (fr30_0 k) (codeAt (bodyOf Try.f30) [.r, .r, .r, .r, .l, .r, .s]) :=
  frag_cast (by kernel_rfl) (loop_ok (cfg30_ok k) (Eq.mpr (pq30_0 k) (planOK_go _)) (fun m v => F30_0 k m v.1.1 v.1.2.1 v.1.2.2.1 v.2.1 v.2.2.1 v.2.2.2.1 v.2.2.2.2.1 v.2.2.2.2.2.1) k (fun _ => rfl) (fun _ => rfl) fun m v => ⟨ps30_0 k m v, pe30_0 k m v⟩)
def pl30_1 (k : Nat) : Plan := .go
theorem pq30_1 (k : Nat) : PlanOK Try.prog lim30 (pl30_1 k) (codeAt (bodyOf Try.f30) [.r, .r, .r, .r, .r, .l, .r, .s, .b, .r, .s, .r, .r, .s, .b]) = PlanOK Try.prog lim30 .go (codeAt (bodyOf Try.f30) [.r, .r, .r, .r, .r, .l, .r, .s, .b, .r, .s, .r, .r, .s, .b]) := by kernel_rfl
theorem ps30_1 (k m : Nat) (v : (fr30_1 k).sh.V) : F30_1 k (m + 1) v.1.1 v.1.2.1 v.1.2.2.1 v.2.1 v.2.2.1 v.2.2.2.1 v.2.2.2.2.1 v.2.2.2.2.2.1 = (body Try.prog (stepper Try.prog (cfg30 k) lim30) (pl30_1 k) (codeAt (bodyOf Try.f30) [.r, .r, .r, .r, .r, .l, .r, .s, .b, .r, .s, .r, .r, .s, .b]) ((fr30_1 k).sh.st v) (loopK (fr30_1 k) fun v => F30_1 k m v.1.1 v.1.2.1 v.1.2.2.1 v.2.1 v.2.2.1 v.2.2.2.1 v.2.2.2.2.1 v.2.2.2.2.2.1)).eval := by kernel_rfl
theorem pe30_1 (k m : Nat) (v : (fr30_1 k).sh.V) : (body Try.prog (stepper Try.prog (cfg30 k) lim30) (pl30_1 k) (codeAt (bodyOf Try.f30) [.r, .r, .r, .r, .r, .l, .r, .s, .b, .r, .s, .r, .r, .s, .b]) ((fr30_1 k).sh.st v) (loopK (fr30_1 k) fun v => F30_1 k m v.1.1 v.1.2.1 v.1.2.2.1 v.2.1 v.2.2.1 v.2.2.2.1 v.2.2.2.2.1 v.2.2.2.2.2.1)).left = (body Try.prog (stepper Try.prog (cfg30 k) lim30) (pl30_1 k) (codeAt (bodyOf Try.f30) [.r, .r, .r, .r, .r, .l, .r, .s, .b, .r, .s, .r, .r, .s, .b]) ((fr30_1 k).sh.st v) (loopK (fr30_1 k) fun v => F30_1 k m v.1.1 v.1.2.1 v.1.2.2.1 v.2.1 v.2.2.1 v.2.2.2.1 v.2.2.2.2.1 v.2.2.2.2.2.1)).right := by kernel_rfl
theorem fr30_1_ok (k : Nat) : FragOK Try.prog lim30 (fr30_1 k) (codeAt (bodyOf Try.f30) [.r, .r, .r, .r, .r, .l, .r, .s, .b, .r, .s, .r, .r, .s]) :=
  frag_cast (by kernel_rfl) (loop_ok (cfg30_ok k) (Eq.mpr (pq30_1 k) (planOK_go _)) (fun m v => F30_1 k m v.1.1 v.1.2.1 v.1.2.2.1 v.2.1 v.2.2.1 v.2.2.2.1 v.2.2.2.2.1 v.2.2.2.2.2.1) k (fun _ => rfl) (fun _ => rfl) fun m v => ⟨ps30_1 k m v, pe30_1 k m v⟩)
def pl30_2 (k : Nat) : Plan := (.seq .go (.sub (.seq .go (.seq .go (.sub (.frag (fr30_1 k)))))))
theorem pq30_2 (k : Nat) : PlanOK Try.prog lim30 (pl30_2 k) (codeAt (bodyOf Try.f30) [.r, .r, .r, .r, .r, .l, .r, .s, .b]) = (PlanOK Try.prog lim30 .go (codeAt (bodyOf Try.f30) [.r, .r, .r, .r, .r, .l, .r, .s, .b, .l]) ∧ (PlanOK Try.prog lim30 .go (codeAt (bodyOf Try.f30) [.r, .r, .r, .r, .r, .l, .r, .s, .b, .r, .s, .l]) ∧ (PlanOK Try.prog lim30 .go (codeAt (bodyOf Try.f30) [.r, .r, .r, .r, .r, .l, .r, .s, .b, .r, .s, .r, .l]) ∧ FragOK Try.prog lim30 (fr30_1 k) (codeAt (bodyOf Try.f30) [.r, .r, .r, .r, .r, .l, .r, .s, .b, .r, .s, .r, .r, .s])))) := by kernel_rfl
theorem ps30_2 (k m : Nat) (v : (fr30_2 k).sh.V) : F30_2 k (m + 1) v.1.1 v.1.2.1 v.2.1 v.2.2.1 v.2.2.2.1 v.2.2.2.2.1 v.2.2.2.2.2.1 = (body Try.prog (stepper Try.prog (cfg30 k) lim30) (pl30_2 k) (codeAt (bodyOf Try.f30) [.r, .r, .r, .r, .r, .l, .r, .s, .b]) ((fr30_2 k).sh.st v) (loopK (fr30_2 k) fun v => F30_2 k m v.1.1 v.1.2.1 v.2.1 v.2.2.1 v.2.2.2.1 v.2.2.2.2.1 v.2.2.2.2.2.1)).eval := by kernel_rfl
theorem pe30_2 (k m : Nat) (v : (fr30_2 k).sh.V) : (body Try.prog (stepper Try.prog (cfg30 k) lim30) (pl30_2 k) (codeAt (bodyOf Try.f30) [.r, .r, .r, .r, .r, .l, .r, .s, .b]) ((fr30_2 k).sh.st v) (loopK (fr30_2 k) fun v => F30_2 k m v.1.1 v.1.2.1 v.2.1 v.2.2.1 v.2.2.2.1 v.2.2.2.2.1 v.2.2.2.2.2.1)).left = (body Try.prog (stepper Try.prog (cfg30 k) lim30) (pl30_2 k) (codeAt (bodyOf Try.f30) [.r, .r, .r, .r, .r, .l, .r, .s, .b]) ((fr30_2 k).sh.st v) (loopK (fr30_2 k) fun v => F30_2 k m v.1.1 v.1.2.1 v.2.1 v.2.2.1 v.2.2.2.1 v.2.2.2.2.1 v.2.2.2.2.2.1)).right := by kernel_rfl
theorem fr30_2_ok (k : Nat) : FragOK Try.prog lim30 (fr30_2 k) (codeAt (bodyOf Try.f30) [.r, .r, .r, .r, .r, .l, .r, .s]) :=
  frag_cast (by kernel_rfl) (loop_ok (cfg30_ok k) (Eq.mpr (pq30_2 k) ⟨(planOK_go _), ⟨(planOK_go _), ⟨(planOK_go _), (fr30_1_ok k)⟩⟩⟩) (fun m v => F30_2 k m v.1.1 v.1.2.1 v.2.1 v.2.2.1 v.2.2.2.1 v.2.2.2.2.1 v.2.2.2.2.2.1) k (fun _ => rfl) (fun _ => rfl) fun m v => ⟨ps30_2 k m v, pe30_2 k m v⟩)
def pl30_3 (k : Nat) : Plan := .go
theorem pq30_3 (k : Nat) : PlanOK Try.prog lim30 (pl30_3 k) (codeAt (bodyOf Try.f30) [.r, .r, .r, .r, .r, .r, .r, .r, .l, .r, .s, .b]) = PlanOK Try.prog lim30 .go (codeAt (bodyOf Try.f30) [.r, .r, .r, .r, .r, .r, .r, .r, .l, .r, .s, .b]) := by kernel_rfl
theorem ps30_3 (k m : Nat) (v : (fr30_3 k).sh.V) : F30_3 k (m + 1) v.1.1 v.1.2.1 v.2.1 v.2.2.1 v.2.2.2.1 v.2.2.2.2.1 v.2.2.2.2.2.1 v.2.2.2.2.2.2.1 = (body Try.prog (stepper Try.prog (cfg30 k) lim30) (pl30_3 k) (codeAt (bodyOf Try.f30) [.r, .r, .r, .r, .r, .r, .r, .r, .l, .r, .s, .b]) ((fr30_3 k).sh.st v) (loopK (fr30_3 k) fun v => F30_3 k m v.1.1 v.1.2.1 v.2.1 v.2.2.1 v.2.2.2.1 v.2.2.2.2.1 v.2.2.2.2.2.1 v.2.2.2.2.2.2.1)).eval := by kernel_rfl
theorem pe30_3 (k m : Nat) (v : (fr30_3 k).sh.V) : (body Try.prog (stepper Try.prog (cfg30 k) lim30) (pl30_3 k) (codeAt (bodyOf Try.f30) [.r, .r, .r, .r, .r, .r, .r, .r, .l, .r, .s, .b]) ((fr30_3 k).sh.st v) (loopK (fr30_3 k) fun v => F30_3 k m v.1.1 v.1.2.1 v.2.1 v.2.2.1 v.2.2.2.1 v.2.2.2.2.1 v.2.2.2.2.2.1 v.2.2.2.2.2.2.1)).left = (body Try.prog (stepper Try.prog (cfg30 k) lim30) (pl30_3 k) (codeAt (bodyOf Try.f30) [.r, .r, .r, .r, .r, .r, .r, .r, .l, .r, .s, .b]) ((fr30_3 k).sh.st v) (loopK (fr30_3 k) fun v => F30_3 k m v.1.1 v.1.2.1 v.2.1 v.2.2.1 v.2.2.2.1 v.2.2.2.2.1 v.2.2.2.2.2.1 v.2.2.2.2.2.2.1)).right := by kernel_rfl
theorem fr30_3_ok (k : Nat) : FragOK Try.prog lim30 (fr30_3 k) (codeAt (bodyOf Try.f30) [.r, .r, .r, .r, .r, .r, .r, .r, .l, .r, .s]) :=
  frag_cast (by kernel_rfl) (loop_ok (cfg30_ok k) (Eq.mpr (pq30_3 k) (planOK_go _)) (fun m v => F30_3 k m v.1.1 v.1.2.1 v.2.1 v.2.2.1 v.2.2.2.1 v.2.2.2.2.1 v.2.2.2.2.2.1 v.2.2.2.2.2.2.1) k (fun _ => rfl) (fun _ => rfl) fun m v => ⟨ps30_3 k m v, pe30_3 k m v⟩)
def pl30_4 (k : Nat) : Plan := .go
theorem pq30_4 (k : Nat) : PlanOK Try.prog lim30 (pl30_4 k) (codeAt (bodyOf Try.f30) [.r, .r, .r, .r, .r, .r, .r, .r, .r, .l, .r, .s, .b]) = PlanOK Try.prog lim30 .go (codeAt (bodyOf Try.f30) [.r, .r, .r, .r, .r, .r, .r, .r, .r, .l, .r, .s, .b]) := by kernel_rfl
theorem ps30_4 (k m : Nat) (v : (fr30_4 k).sh.V) : F30_4 k (m + 1) v.1.1 v.2.1 v.2.2.1 v.2.2.2.1 v.2.2.2.2.1 = (body Try.prog (stepper Try.prog (cfg30 k) lim30) (pl30_4 k) (codeAt (bodyOf Try.f30) [.r, .r, .r, .r, .r, .r, .r, .r, .r, .l, .r, .s, .b]) ((fr30_4 k).sh.st v) (loopK (fr30_4 k) fun v => F30_4 k m v.1.1 v.2.1 v.2.2.1 v.2.2.2.1 v.2.2.2.2.1)).eval := by kernel_rfl
theorem pe30_4 (k m : Nat) (v : (fr30_4 k).sh.V) : (body Try.prog (stepper Try.prog (cfg30 k) lim30) (pl30_4 k) (codeAt (bodyOf Try.f30) [.r, .r, .r, .r, .r, .r, .r, .r, .r, .l, .r, .s, .b]) ((fr30_4 k).sh.st v) (loopK (fr30_4 k) fun v => F30_4 k m v.1.1 v.2.1 v.2.2.1 v.2.2.2.1 v.2.2.2.2.1)).left = (body Try.prog (stepper Try.prog (cfg30 k) lim30) (pl30_4 k) (codeAt (bodyOf Try.f30) [.r, .r, .r, .r, .r, .r, .r, .r, .r, .l, .r, .s, .b]) ((fr30_4 k).sh.st v) (loopK (fr30_4 k) fun v => F30_4 k m v.1.1 v.2.1 v.2.2.1 v.2.2.2.1 v.2.2.2.2.1)).right := by kernel_rfl
theorem fr30_4_ok (k : Nat) : FragOK Try.prog lim30 (fr30_4 k) (codeAt (bodyOf Try.f30) [.r, .r, .r, .r, .r, .r, .r, .r, .r, .l, .r, .s]) :=
  frag_cast (by kernel_rfl) (loop_ok (cfg30_ok k) (Eq.mpr (pq30_4 k) (planOK_go _)) (fun m v => F30_4 k m v.1.1 v.2.1 v.2.2.1 v.2.2.2.1 v.2.2.2.2.1) k (fun _ => rfl) (fun _ => rfl) fun m v => ⟨ps30_4 k m v, pe30_4 k m v⟩)
def pl30 (k : Nat) : Plan := (.seq .go (.seq .go (.seq .go (.seq .go (.seq (.seq .go (.sub (.frag (fr30_0 k)))) (.seq (.seq .go (.sub (.frag (fr30_2 k)))) (.seq .go (.seq .go (.seq (.seq .go (.sub (.frag (fr30_3 k)))) (.seq (.seq .go (.sub (.frag (fr30_4 k)))) .go))))))))))
theorem pq30 (k : Nat) : PlanOK Try.prog lim30 (pl30 k) (codeAt (bodyOf Try.f30) []) = (PlanOK Try.prog lim30 .go (codeAt (bodyOf Try.f30) [.l]) ∧ (PlanOK Try.prog lim30 .go (codeAt (bodyOf Try.f30) [.r, .l]) ∧ (PlanOK Try.prog lim30 .go (codeAt (bodyOf Try.f30) [.r, .r, .l]) ∧ (PlanOK Try.prog lim30 .go (codeAt (bodyOf Try.f30) [.r, .r, .r, .l]) ∧ ((PlanOK Try.prog lim30 .go (codeAt (bodyOf Try.f30) [.r, .r, .r, .r, .l, .l]) ∧ FragOK Try.prog lim30 (fr30_0 k) (codeAt (bodyOf Try.f30) [.r, .r, .r, .r, .l, .r, .s])) ∧ ((PlanOK Try.prog lim30 .go (codeAt (bodyOf Try.f30) [.r, .r, .r, .r, .r, .l, .l]) ∧ FragOK Try.prog lim30 (fr30_2 k) (codeAt (bodyOf Try.f30) [.r, .r, .r, .r, .r, .l, .r, .s])) ∧ (PlanOK Try.prog lim30 .go (codeAt (bodyOf Try.f30) [.r, .r, .r, .r, .r, .r, .l]) ∧ (PlanOK Try.prog lim30 .go (codeAt (bodyOf Try.f30) [.r, .r, .r, .r, .r, .r, .r, .l]) ∧ ((PlanOK Try.prog lim30 .go (codeAt (bodyOf Try.f30) [.r, .r, .r, .r, .r, .r, .r, .r, .l, .l]) ∧ FragOK Try.prog lim30 (fr30_3 k) (codeAt (bodyOf Try.f30) [.r, .r, .r, .r, .r, .r, .r, .r, .l, .r, .s])) ∧ ((PlanOK Try.prog lim30 .go (codeAt (bodyOf Try.f30) [.r, .r, .r, .r, .r, .r, .r, .r, .r, .l, .l]) ∧ FragOK Try.prog lim30 (fr30_4 k) (codeAt (bodyOf Try.f30) [.r, .r, .r, .r, .r, .r, .r, .r, .r, .l, .r, .s])) ∧ PlanOK Try.prog lim30 .go (codeAt (bodyOf Try.f30) [.r, .r, .r, .r, .r, .r, .r, .r, .r, .r]))))))))))) := by kernel_rfl
theorem ev30 (k : Nat) (x : AT (sp30 k).ps) : (sp30 k).impl x = (fnT Try.prog (cfg30 k) lim30 Try.f30 (bodyOf Try.f30) (pl30 k) (sp30 k) x).eval := by kernel_rfl
theorem eq30 (k : Nat) (x : AT (sp30 k).ps) : (fnT Try.prog (cfg30 k) lim30 Try.f30 (bodyOf Try.f30) (pl30 k) (sp30 k) x).left = (fnT Try.prog (cfg30 k) lim30 Try.f30 (bodyOf Try.f30) (pl30 k) (sp30 k) x).right := by kernel_rfl
theorem v30 (k : Nat) : Callable Try.prog 30 ∧ Valid Try.prog 30 (sp30 k) :=
  fn_ok (cfg30_ok k) (f := 30) (fn := Try.f30) (by kernel_rfl) (c := bodyOf Try.f30) (by kernel_rfl) (by kernel_rfl) rfl rfl (Nat.le_of_ble_eq_true rfl) (Nat.le_of_ble_eq_true rfl) (p := pl30 k) (Eq.mpr (pq30 k) ⟨(planOK_go _), ⟨(planOK_go _), ⟨(planOK_go _), ⟨(planOK_go _), ⟨⟨(planOK_go _), (fr30_0_ok k)⟩, ⟨⟨(planOK_go _), (fr30_2_ok k)⟩, ⟨(planOK_go _), ⟨(planOK_go _), ⟨⟨(planOK_go _), (fr30_3_ok k)⟩, ⟨⟨(planOK_go _), (fr30_4_ok k)⟩, (planOK_go _)⟩⟩⟩⟩⟩⟩⟩⟩⟩⟩) fun x => ⟨ev30 k x, eq30 k x⟩
/-! f13 hyphen/hyphenlaw8.Side -/
def F13 (k : Nat) (a0 : (Tree (Int × (Int × Unit)))) (a1 : (List Int)) : Option ((((List Int) × ((List Int) × ((List Int) × ((List (Int × (Int × (Int × Unit)))) × (Int × Unit))))) × Bool × Unit) × Unit) :=
  (F21 k a1).bind fun r1 =>
  let x2 := ([] : (List (Int × (Int × ((Tree (Int × (Int × (Int × (Int × (ByteArray × Unit)))))) × ((Tree (Int × (Int × (Int × (Int × (ByteArray × Unit)))))) × Unit))))))
  let x5 := (Tree.mk ((Tree.a a0).1, ((Tree.a a0).2.1, ())) (Tree.l a0))
  (F27 k x5 false).bind fun r6 =>
  (F22 k r6.1.1 (r1.1.1, (x2, ()))).bind fun r7 =>
  bif (!r7.1.2.1) then
    some (((([] : (List Int)), (([] : (List Int)), (([] : (List Int)), (([] : (List (Int × (Int × (Int × Unit))))), ((0 : Int), ()))))), false, ()), ())
  else
    (F28 k (r1.1.1, (x2, ()))).bind fun r8 =>
    (F29 k r8.1.1).bind fun r9 =>
    (F31 k r8.1.1 r9.1.1 r9.1.2.1).bind fun r10 =>
    (F30 k r7.1.1 r10.1.1).bind fun r11 =>
    some ((r11.1.1, true, ()), ())
def sp13 (k : Nat) : Spec := ⟨[.val (.tree 32 (.pair (.int .i64) (.pair (.int .i64) .unit))), .val (.sl false 3 (.int .i64) none)], [.own (.pair (.sl true 3 (.int .i64) none) (.pair (.sl true 3 (.int .i64) none) (.pair (.sl true 3 (.int .i64) none) (.pair (.sl true 43 (.pair (.int .i64) (.pair (.int .i64) (.pair (.int .i64) .unit))) none) (.pair (.int .i64) .unit))))), .val .bool], fun x => F13 k x.1 x.2.1⟩
def lim13 : Lim := ⟨38, 2, false, false, [14]⟩
def cfg13 (k : Nat) : Nat → Option Spec := cfgL [(21, sp21 k), (22, sp22 k), (27, sp27 k), (28, sp28 k), (29, sp29 k), (30, sp30 k), (31, sp31 k)]
theorem cfg13_ok (k : Nat) : CfgOK Try.prog (cfg13 k) := cfgL_cons (v21 k) (cfgL_cons (v22 k) (cfgL_cons (v27 k) (cfgL_cons (v28 k) (cfgL_cons (v29 k) (cfgL_cons (v30 k) (cfgL_cons (v31 k) (cfgL_nil)))))))
def pl13 (k : Nat) : Plan := .go
theorem pq13 (k : Nat) : PlanOK Try.prog lim13 (pl13 k) (codeAt (bodyOf Try.f13) []) = PlanOK Try.prog lim13 .go (codeAt (bodyOf Try.f13) []) := by kernel_rfl
theorem ev13 (k : Nat) (x : AT (sp13 k).ps) : (sp13 k).impl x = (fnT Try.prog (cfg13 k) lim13 Try.f13 (bodyOf Try.f13) (pl13 k) (sp13 k) x).eval := by kernel_rfl
theorem eq13 (k : Nat) (x : AT (sp13 k).ps) : (fnT Try.prog (cfg13 k) lim13 Try.f13 (bodyOf Try.f13) (pl13 k) (sp13 k) x).left = (fnT Try.prog (cfg13 k) lim13 Try.f13 (bodyOf Try.f13) (pl13 k) (sp13 k) x).right := by kernel_rfl
theorem v13 (k : Nat) : Callable Try.prog 13 ∧ Valid Try.prog 13 (sp13 k) :=
  fn_ok (cfg13_ok k) (f := 13) (fn := Try.f13) (by kernel_rfl) (c := bodyOf Try.f13) (by kernel_rfl) (by kernel_rfl) rfl rfl (Nat.le_of_ble_eq_true rfl) (Nat.le_of_ble_eq_true rfl) (p := pl13 k) (Eq.mpr (pq13 k) (planOK_go _)) fun x => ⟨ev13 k x, eq13 k x⟩
/-! f15 hyphen/hyphenref8.Round -/
def F15_0 (k : Nat) : Nat → Int → Int → ((List Int) × ((List Int) × ((List Int) × ((List (Int × (Int × (Int × Unit)))) × (Int × Unit))))) → (List (List Bool)) → Option (((Int × Unit) × (((List Int) × ((List Int) × ((List Int) × ((List (Int × (Int × (Int × Unit)))) × (Int × Unit))))) × (List (List Bool)) × Unit)))
  | 0, _, _, _, _ => none
  | n + 1, t3, t5, c1, c16 =>
    bif (decide (t5 < t3)) then
      if (0 ≤ t3 ∧ t3 < t3 + 1) ∧ t3 ≤ 9223372036854775807 ∧ ((1 : Nat) : Int) * t3 ≤ 281474976710656 then
        if 0 ≤ t5 ∧ t5 < ((List.length c16 : Nat) : Int) then
          let x4 := (List.set c16 (Int.toNat t5) (List.replicate (Int.toNat t3) false))
          if 0 ≤ t5 ∧ t5 < ((List.length x4 : Nat) : Int) then
            if 0 ≤ t5 ∧ t5 < ((List.length (List.getD x4 (Int.toNat t5) ([] : (List Bool))) : Nat) : Int) then
              let x5 := (List.set x4 (Int.toNat t5) (List.set (List.getD x4 (Int.toNat t5) ([] : (List Bool))) (Int.toNat t5) true))
              (F15_0 k n t3 (IntKind.wrap .i64 (t5 + (1 : Int))) c1 x5).bind some
            else none
          else none
        else none
      else none
    else
      some ((t3, ()), (c1, c16, ()))
def fr15_0 (k : Nat) : Frag := ⟨⟨[], [(1, .ptr 1 []), (3, .val (.int .i64)), (4, .at 16 []), (5, .val (.int .i64))], [(1, some 28, (.pair (.sl false 3 (.int .i64) none) (.pair (.sl false 3 (.int .i64) none) (.pair (.sl false 3 (.int .i64) none) (.pair (.sl false 43 (.pair (.int .i64) (.pair (.int .i64) (.pair (.int .i64) .unit))) none) (.pair (.int .i64) .unit)))))), (16, none, (.sl true 82 (.sl true 4 .bool none) none))]⟩, [(.exit 0, ⟨[], [(1, .ptr 1 []), (3, .val (.int .i64)), (4, .at 16 [])], [(1, some 28, (.pair (.sl false 3 (.int .i64) none) (.pair (.sl false 3 (.int .i64) none) (.pair (.sl false 3 (.int .i64) none) (.pair (.sl false 43 (.pair (.int .i64) (.pair (.int .i64) (.pair (.int .i64) .unit))) none) (.pair (.int .i64) .unit)))))), (16, none, (.sl true 82 (.sl true 4 .bool none) none))]⟩)], fun v => F15_0 k k v.1.1 v.1.2.1 v.2.1 v.2.2.1⟩
def F15_1 (k : Nat) : Nat → Int → Int → ((List Int) × ((List Int) × ((List Int) × ((List (Int × (Int × (Int × Unit)))) × (Int × Unit))))) → (List (List Bool)) → Option (((Int × Unit) × (((List Int) × ((List Int) × ((List Int) × ((List (Int × (Int × (Int × Unit)))) × (Int × Unit))))) × (List (List Bool)) × Unit)))
  | 0, _, _, _, _ => none
  | n + 1, t3, t6, c1, c16 =>
    let x14 := (decide (t6 < ((List.length c1.2.2.2.1 : Nat) : Int)))
    bif x14 then
      if 0 ≤ t6 ∧ t6 < ((List.length c1.2.2.2.1 : Nat) : Int) then
        let x15 := (List.getD c1.2.2.2.1 (Int.toNat t6) ((0 : Int), ((0 : Int), ((0 : Int), ()))))
        if 0 ≤ x15.1 ∧ x15.1 < ((List.length c16 : Nat) : Int) then
          if 0 ≤ t6 ∧ t6 < ((List.length c1.2.2.2.1 : Nat) : Int) then
            let x16 := (List.getD c1.2.2.2.1 (Int.toNat t6) ((0 : Int), ((0 : Int), ((0 : Int), ()))))
            if 0 ≤ x16.2.1 ∧ x16.2.1 < ((List.length (List.getD c16 (Int.toNat x15.1) ([] : (List Bool))) : Nat) : Int) then
              let x17 := (List.set c16 (Int.toNat x15.1) (List.set (List.getD c16 (Int.toNat x15.1) ([] : (List Bool))) (Int.toNat x16.2.1) true))
              (F15_1 k n t3 (IntKind.wrap .i64 (t6 + (1 : Int))) c1 x17).bind some
            else none
          else none
        else none
      else none
    else
      some ((t3, ()), (c1, c16, ()))
def fr15_1 (k : Nat) : Frag := ⟨⟨[], [(1, .ptr 1 []), (3, .val (.int .i64)), (4, .at 16 []), (6, .val (.int .i64))], [(1, some 28, (.pair (.sl false 3 (.int .i64) none) (.pair (.sl false 3 (.int .i64) none) (.pair (.sl false 3 (.int .i64) none) (.pair (.sl false 43 (.pair (.int .i64) (.pair (.int .i64) (.pair (.int .i64) .unit))) none) (.pair (.int .i64) .unit)))))), (16, none, (.sl true 82 (.sl true 4 .bool none) none))]⟩, [(.exit 2, ⟨[], [(1, .ptr 1 []), (3, .val (.int .i64)), (4, .at 16 [])], [(1, some 28, (.pair (.sl false 3 (.int .i64) none) (.pair (.sl false 3 (.int .i64) none) (.pair (.sl false 3 (.int .i64) none) (.pair (.sl false 43 (.pair (.int .i64) (.pair (.int .i64) (.pair (.int .i64) .unit))) none) (.pair (.int .i64) .unit)))))), (16, none, (.sl true 82 (.sl true 4 .bool none) none))]⟩)], fun v => F15_1 k k v.1.1 v.1.2.1 v.2.1 v.2.2.1⟩
def F15_2 (k : Nat) : Nat → Int → Int → Int → Int → ((List Int) × ((List Int) × ((List Int) × ((List (Int × (Int × (Int × Unit)))) × (Int × Unit))))) → (List (List Bool)) → Option (((Int × Int × Int × Unit) × (((List Int) × ((List Int) × ((List Int) × ((List (Int × (Int × (Int × Unit)))) × (Int × Unit))))) × (List (List Bool)) × Unit)))
  | 0, _, _, _, _, _, _ => none
  | n + 1, t3, t7, t8, t9, c1, c16 =>
    bif (decide (t9 < t3)) then
      if 0 ≤ t8 ∧ t8 < ((List.length c16 : Nat) : Int) then
        if 0 ≤ t8 ∧ t8 < ((List.length c16 : Nat) : Int) then
          if 0 ≤ t9 ∧ t9 < ((List.length (List.getD c16 (Int.toNat t8) ([] : (List Bool))) : Nat) : Int) then
            let x28 := (List.getD (List.getD c16 (Int.toNat t8) ([] : (List Bool))) (Int.toNat t9) false)
            bif x28 then
              if 0 ≤ t9 ∧ t9 < ((List.length (List.getD c16 (Int.toNat t8) ([] : (List Bool))) : Nat) : Int) then
                let x29 := (List.set c16 (Int.toNat t8) (List.set (List.getD c16 (Int.toNat t8) ([] : (List Bool))) (Int.toNat t9) true))
                (F15_2 k n t3 t7 t8 (IntKind.wrap .i64 (t9 + (1 : Int))) c1 x29).bind some
              else none
            else
              if 0 ≤ t8 ∧ t8 < ((List.length c16 : Nat) : Int) then
                if 0 ≤ t7 ∧ t7 < ((List.length (List.getD c16 (Int.toNat t8) ([] : (List Bool))) : Nat) : Int) then
                  let x30 := (List.getD (List.getD c16 (Int.toNat t8) ([] : (List Bool))) (Int.toNat t7) false)
                  bif x30 then
                    if 0 ≤ t7 ∧ t7 < ((List.length c16 : Nat) : Int) then
                      if 0 ≤ t9 ∧ t9 < ((List.length (List.getD c16 (Int.toNat t7) ([] : (List Bool))) : Nat) : Int) then
                        let x31 := (List.getD (List.getD c16 (Int.toNat t7) ([] : (List Bool))) (Int.toNat t9) false)
                        if 0 ≤ t9 ∧ t9 < ((List.length (List.getD c16 (Int.toNat t8) ([] : (List Bool))) : Nat) : Int) then
                          let x32 := (List.set c16 (Int.toNat t8) (List.set (List.getD c16 (Int.toNat t8) ([] : (List Bool))) (Int.toNat t9) x31))
                          (F15_2 k n t3 t7 t8 (IntKind.wrap .i64 (t9 + (1 : Int))) c1 x32).bind some
                        else none
                      else none
                    else none
                  else
                    if 0 ≤ t9 ∧ t9 < ((List.length (List.getD c16 (Int.toNat t8) ([] : (List Bool))) : Nat) : Int) then
                      let x33 := (List.set c16 (Int.toNat t8) (List.set (List.getD c16 (Int.toNat t8) ([] : (List Bool))) (Int.toNat t9) false))
                      (F15_2 k n t3 t7 t8 (IntKind.wrap .i64 (t9 + (1 : Int))) c1 x33).bind some
                    else none
                else none
              else none
          else none
        else none
      else none
    else
      some ((t3, t7, t8, ()), (c1, c16, ()))
def fr15_2 (k : Nat) : Frag := ⟨⟨[], [(1, .ptr 1 []), (3, .val (.int .i64)), (4, .at 16 []), (7, .val (.int .i64)), (8, .val (.int .i64)), (9, .val (.int .i64))], [(1, some 28, (.pair (.sl false 3 (.int .i64) none) (.pair (.sl false 3 (.int .i64) none) (.pair (.sl false 3 (.int .i64) none) (.pair (.sl false 43 (.pair (.int .i64) (.pair (.int .i64) (.pair (.int .i64) .unit))) none) (.pair (.int .i64) .unit)))))), (16, none, (.sl true 82 (.sl true 4 .bool none) none))]⟩, [(.exit 8, ⟨[], [(1, .ptr 1 []), (3, .val (.int .i64)), (4, .at 16 []), (7, .val (.int .i64)), (8, .val (.int .i64))], [(1, some 28, (.pair (.sl false 3 (.int .i64) none) (.pair (.sl false 3 (.int .i64) none) (.pair (.sl false 3 (.int .i64) none) (.pair (.sl false 43 (.pair (.int .i64) (.pair (.int .i64) (.pair (.int .i64) .unit))) none) (.pair (.int .i64) .unit)))))), (16, none, (.sl true 82 (.sl true 4 .bool none) none))]⟩)], fun v => F15_2 k k v.1.1 v.1.2.1 v.1.2.2.1 v.1.2.2.2.1 v.2.1 v.2.2.1⟩
def F15_3 (k : Nat) : Nat → Int → Int → Int → ((List Int) × ((List Int) × ((List Int) × ((List (Int × (Int × (Int × Unit)))) × (Int × Unit))))) → (List (List Bool)) → Option (((Int × Int × Unit) × (((List Int) × ((List Int) × ((List Int) × ((List (Int × (Int × (Int × Unit)))) × (Int × Unit))))) × (List (List Bool)) × Unit)))
  | 0, _, _, _, _, _ => none
  | n + 1, t3, t7, t8, c1, c16 =>
    bif (decide (t8 < t3)) then
      (F15_2 k k t3 t7 t8 (0 : Int) c1 c16).bind fun r40 =>
      let y41 := r40.1.1
      let y42 := r40.1.2.1
      let y43 := r40.1.2.2.1
      let y44 := r40.2.1
      let y45 := r40.2.2.1
      (F15_3 k n y41 y42 (IntKind.wrap .i64 (y43 + (1 : Int))) y44 y45).bind some
    else
      some ((t3, t7, ()), (c1, c16, ()))
def fr15_3 (k : Nat) : Frag := ⟨⟨[], [(1, .ptr 1 []), (3, .val (.int .i64)), (4, .at 16 []), (7, .val (.int .i64)), (8, .val (.int .i64))], [(1, some 28, (.pair (.sl false 3 (.int .i64) none) (.pair (.sl false 3 (.int .i64) none) (.pair (.sl false 3 (.int .i64) none) (.pair (.sl false 43 (.pair (.int .i64) (.pair (.int .i64) (.pair (.int .i64) .unit))) none) (.pair (.int .i64) .unit)))))), (16, none, (.sl true 82 (.sl true 4 .bool none) none))]⟩, [(.exit 6, ⟨[], [(1, .ptr 1 []), (3, .val (.int .i64)), (4, .at 16 []), (7, .val (.int .i64))], [(1, some 28, (.pair (.sl false 3 (.int .i64) none) (.pair (.sl false 3 (.int .i64) none) (.pair (.sl false 3 (.int .i64) none) (.pair (.sl false 43 (.pair (.int .i64) (.pair (.int .i64) (.pair (.int .i64) .unit))) none) (.pair (.int .i64) .unit)))))), (16, none, (.sl true 82 (.sl true 4 .bool none) none))]⟩)], fun v => F15_3 k k v.1.1 v.1.2.1 v.1.2.2.1 v.2.1 v.2.2.1⟩
def F15_4 (k : Nat) : Nat → Int → Int → ((List Int) × ((List Int) × ((List Int) × ((List (Int × (Int × (Int × Unit)))) × (Int × Unit))))) → (List (List Bool)) → Option ((Unit × (((List Int) × ((List Int) × ((List Int) × ((List (Int × (Int × (Int × Unit)))) × (Int × Unit))))) × (List (List Bool)) × Unit)))
  | 0, _, _, _, _ => none
  | n + 1, t3, t7, c1, c16 =>
    bif (decide (t7 < t3)) then
      (F15_3 k k t3 t7 (0 : Int) c1 c16).bind fun r51 =>
      let y52 := r51.1.1
      let y53 := r51.1.2.1
      let y54 := r51.2.1
      let y55 := r51.2.2.1
      (F15_4 k n y52 (IntKind.wrap .i64 (y53 + (1 : Int))) y54 y55).bind some
    else
      some ((), (c1, c16, ()))
def fr15_4 (k : Nat) : Frag := ⟨⟨[], [(1, .ptr 1 []), (3, .val (.int .i64)), (4, .at 16 []), (7, .val (.int .i64))], [(1, some 28, (.pair (.sl false 3 (.int .i64) none) (.pair (.sl false 3 (.int .i64) none) (.pair (.sl false 3 (.int .i64) none) (.pair (.sl false 43 (.pair (.int .i64) (.pair (.int .i64) (.pair (.int .i64) .unit))) none) (.pair (.int .i64) .unit)))))), (16, none, (.sl true 82 (.sl true 4 .bool none) none))]⟩, [(.exit 4, ⟨[], [(1, .ptr 1 []), (4, .at 16 [])], [(1, some 28, (.pair (.sl false 3 (.int .i64) none) (.pair (.sl false 3 (.int .i64) none) (.pair (.sl false 3 (.int .i64) none) (.pair (.sl false 43 (.pair (.int .i64) (.pair (.int .i64) (.pair (.int .i64) .unit))) none) (.pair (.int .i64) .unit)))))), (16, none, (.sl true 82 (.sl true 4 .bool none) none))]⟩)], fun v => F15_4 k k v.1.1 v.1.2.1 v.2.1 v.2.2.1⟩
def F15_5 (k : Nat) : Nat → Int → ((List Int) × ((List Int) × ((List Int) × ((List (Int × (Int × (Int × Unit)))) × (Int × Unit))))) → (List (List Bool)) → Option ((Unit × Unit) ⊕ ((Bool × Unit) × Unit))
  | 0, _, _, _ => none
  | n + 1, t10, c1, c16 =>
    let x62 := (decide (t10 < ((List.length c1.2.2.2.1 : Nat) : Int)))
    bif x62 then
      if 0 ≤ t10 ∧ t10 < ((List.length c1.2.2.2.1 : Nat) : Int) then
        let x63 := (List.getD c1.2.2.2.1 (Int.toNat t10) ((0 : Int), ((0 : Int), ((0 : Int), ()))))
        bif (decide (x63.2.2.1 > (0 : Int))) then
          if 0 ≤ x63.2.1 ∧ x63.2.1 < ((List.length c16 : Nat) : Int) then
            if 0 ≤ x63.1 ∧ x63.1 < ((List.length (List.getD c16 (Int.toNat x63.2.1) ([] : (List Bool))) : Nat) : Int) then
              let x64 := (List.getD (List.getD c16 (Int.toNat x63.2.1) ([] : (List Bool))) (Int.toNat x63.1) false)
              bif x64 then
                some (.inr ((true, ()), ()))
              else
                (F15_5 k n (IntKind.wrap .i64 (t10 + (1 : Int))) c1 c16).bind some
            else none
          else none
        else
          (F15_5 k n (IntKind.wrap .i64 (t10 + (1 : Int))) c1 c16).bind some
      else none
    else
      some (.inl ((), ()))
def fr15_5 (k : Nat) : Frag := ⟨⟨[], [(1, .ptr 1 []), (4, .at 16 []), (10, .val (.int .i64))], [(1, some 28, (.pair (.sl false 3 (.int .i64) none) (.pair (.sl false 3 (.int .i64) none) (.pair (.sl false 3 (.int .i64) none) (.pair (.sl false 43 (.pair (.int .i64) (.pair (.int .i64) (.pair (.int .i64) .unit))) none) (.pair (.int .i64) .unit)))))), (16, none, (.sl true 82 (.sl true 4 .bool none) none))]⟩, [(.exit 10, ⟨[], [], []⟩), (.ret, ⟨[], [(2, .val .bool)], []⟩)], fun v => F15_5 k k v.1.1 v.2.1 v.2.2.1⟩
def F15 (k : Nat) (a0 : ((List Int) × ((List Int) × ((List Int) × ((List (Int × (Int × (Int × Unit)))) × (Int × Unit)))))) : Option ((Bool × Unit) × Unit) :=
  if (0 ≤ ((List.length a0.1 : Nat) : Int) ∧ ((List.length a0.1 : Nat) : Int) < ((List.length a0.1 : Nat) : Int) + 1) ∧ ((List.length a0.1 : Nat) : Int) ≤ 9223372036854775807 ∧ ((24 : Nat) : Int) * ((List.length a0.1 : Nat) : Int) ≤ 281474976710656 then
    let x1 := (List.replicate (Int.toNat ((List.length a0.1 : Nat) : Int)) ([] : (List Bool)))
    (F15_0 k k ((List.length a0.1 : Nat) : Int) (0 : Int) a0 x1).bind fun r6 =>
    let y7 := r6.1.1
    let y8 := r6.2.1
    let y9 := r6.2.2.1
    (F15_1 k k y7 (0 : Int) y8 y9).bind fun r18 =>
    let y19 := r18.1.1
    let y20 := r18.2.1
    let y21 := r18.2.2.1
    (F15_4 k k y19 (0 : Int) y20 y21).bind fun r56 =>
    let y57 := r56.2.1
    let y58 := r56.2.2.1
    (F15_5 k k (0 : Int) y57 y58).bind fun r65 =>
    match r65 with
    | .inl r66 =>
      some ((false, ()), ())
    | .inr r66 =>
      let y67 := r66.1.1
      some ((y67, ()), ())
  else none
def sp15 (k : Nat) : Spec := ⟨[.val (.pair (.sl false 3 (.int .i64) none) (.pair (.sl false 3 (.int .i64) none) (.pair (.sl false 3 (.int .i64) none) (.pair (.sl false 43 (.pair (.int .i64) (.pair (.int .i64) (.pair (.int .i64) .unit))) none) (.pair (.int .i64) .unit)))))], [.val .bool], fun x => F15 k x.1⟩
def lim15 : Lim := ⟨128, 1, false, false, []⟩
def cfg15 (k : Nat) : Nat → Option Spec := cfgL []
theorem cfg15_ok (k : Nat) : CfgOK Try.prog (cfg15 k) := cfgL_nil
def pl15_0 (k : Nat) : Plan := .go
theorem pq15_0 (k : Nat) : PlanOK Try.prog lim15 (pl15_0 k) (codeAt (bodyOf Try.f15) [.r, .r, .r, .l, .r, .s, .b]) = PlanOK Try.prog lim15 .go (codeAt (bodyOf Try.f15) [.r, .r, .r, .l, .r, .s, .b]) := by kernel_rfl
theorem ps15_0 (k m : Nat) (v : (fr15_0 k).sh.V) : F15_0 k (m + 1) v.1.1 v.1.2.1 v.2.1 v.2.2.1 = (body Try.prog (stepper Try.prog (cfg15 k) lim15) (pl15_0 k) (codeAt (bodyOf Try.f15) [.r, .r, .r, .l, .r, .s, .b]) ((fr15_0 k).sh.st v) (loopK (fr15_0 k) fun v => F15_0 k m v.1.1 v.1.2.1 v.2.1 v.2.2.1)).eval := by kernel_rfl
theorem pe15_0 (k m : Nat) (v : (fr15_0 k).sh.V) : (body Try.prog (stepper Try.prog (cfg15 k) lim15) (pl15_0 k) (codeAt (bodyOf Try.f15) [.r, .r, .r, .l, .r, .s, .b]) ((fr15_0 k).sh.st v) (loopK (fr15_0 k) fun v => F15_0 k m v.1.1 v.1.2.1 v.2.1 v.2.2.1)).left = (body Try.prog (stepper Try.prog (cfg15 k) lim15) (pl15_0 k) (codeAt (bodyOf Try.f15) [.r, .r, .r, .l, .r, .s, .b]) ((fr15_0 k).sh.st v) (loopK (fr15_0 k) fun v => F15_0 k m v.1.1 v.1.2.1 v.2.1 v.2.2.1)).right := by kernel_rfl
theorem fr15_0_ok (k : Nat) : FragOK Try.prog lim15 (fr15_0 k) (codeAt (bodyOf Try.f15) [.r, .r, .r, .l, .r, .s]) :=
  frag_cast (by kernel_rfl) (loop_ok (cfg15_ok k) (Eq.mpr (pq15_0 k) (planOK_go _)) (fun m v => F15_0 k m v.1.1 v.1.2.1 v.2.1 v.2.2.1) k (fun _ => rfl) (fun _ => rfl) fun m v => ⟨ps15_0 k m v, pe15_0 k m v⟩)
def pl15_1 (k : Nat) : Plan := .go
theorem pq15_1 (k : Nat) : PlanOK Try.prog lim15 (pl15_1 k) (codeAt (bodyOf Try.f15) [.r, .r, .r, .r, .l, .r, .s, .b]) = PlanOK Try.prog lim15 .go (codeAt (bodyOf Try.f15) [.r, .r, .r, .r, .l, .r, .s, .b]) := by kernel_rfl
theorem ps15_1 (k m : Nat) (v : (fr15_1 k).sh.V) : F15_1 k (m + 1) v.1.1 v.1.2.1 v.2.1 v.2.2.1 = (body Try.prog (stepper Try.prog (cfg15 k) lim15) (pl15_1 k) (codeAt (bodyOf Try.f15) [.r, .r, .r, .r, .l, .r, .s, .b]) ((fr15_1 k).sh.st v) (loopK (fr15_1 k) fun v => F15_1 k m v.1.1 v.1.2.1 v.2.1 v.2.2.1)).eval := by kernel_rfl
theorem pe15_1 (k m : Nat) (v : (fr15_1 k).sh.V) : (body Try.prog (stepper Try.prog (cfg15 k) lim15) (pl15_1 k) (codeAt (bodyOf Try.f15) [.r, .r, .r, .r, .l, .r, .s, .b]) ((fr15_1 k).sh.st v) (loopK (fr15_1 k) fun v => F15_1 k m v.1.1 v.1.2.1 v.2.1 v.2.2.1)).left = (body Try.prog (stepper Try.prog (cfg15 k) lim15) (pl15_1 k) (codeAt (bodyOf Try.f15) [.r, .r, .r, .r, .l, .r, .s, .b]) ((fr15_1 k).sh.st v) (loopK (fr15_1 k) fun v => F15_1 k m v.1.1 v.1.2.1 v.2.1 v.2.2.1)).right := by kernel_rfl
theorem fr15_1_ok (k : Nat) : FragOK Try.prog lim15 (fr15_1 k) (codeAt (bodyOf Try.f15) [.r, .r, .r, .r, .l, .r, .s]) :=
  frag_cast (by kernel_rfl) (loop_ok (cfg15_ok k) (Eq.mpr (pq15_1 k) (planOK_go _)) (fun m v => F15_1 k m v.1.1 v.1.2.1 v.2.1 v.2.2.1) k (fun _ => rfl) (fun _ => rfl) fun m v => ⟨ps15_1 k m v, pe15_1 k m v⟩)
def pl15_2 (k : Nat) : Plan := .go
theorem pq15_2 (k : Nat) : PlanOK Try.prog lim15 (pl15_2 k) (codeAt (bodyOf Try.f15) [.r, .r, .r, .r, .r, .l, .r, .s, .b, .r, .l, .s, .r, .s, .b, .r, .l, .s, .r, .s, .b]) = PlanOK Try.prog lim15 .go (codeAt (bodyOf Try.f15) [.r, .r, .r, .r, .r, .l, .r, .s, .b, .r, .l, .s, .r, .s, .b, .r, .l, .s, .r, .s, .b]) := by kernel_rfl
theorem ps15_2 (k m : Nat) (v : (fr15_2 k).sh.V) : F15_2 k (m + 1) v.1.1 v.1.2.1 v.1.2.2.1 v.1.2.2.2.1 v.2.1 v.2.2.1 = (body Try.prog (stepper Try.prog (cfg15 k) lim15) (pl15_2 k) (codeAt (bodyOf Try.f15) [.r, .r, .r, .r, .r, .l, .r, .s, .b, .r, .l, .s, .r, .s, .b, .r, .l, .s, .r, .s, .b]) ((fr15_2 k).sh.st v) (loopK (fr15_2 k) fun v => F15_2 k m v.1.1 v.1.2.1 v.1.2.2.1 v.1.2.2.2.1 v.2.1 v.2.2.1)).eval := by kernel_rfl
theorem pe15_2 (k m : Nat) (v : (fr15_2 k).sh.V) : (body Try.prog (stepper Try.prog (cfg15 k) lim15) (pl15_2 k) (codeAt (bodyOf Try.f15) [.r, .r, .r, .r, .r, .l, .r, .s, .b, .r, .l, .s, .r, .s, .b, .r, .l, .s, .r, .s, .b]) ((fr15_2 k).sh.st v) (loopK (fr15_2 k) fun v => F15_2 k m v.1.1 v.1.2.1 v.1.2.2.1 v.1.2.2.2.1 v.2.1 v.2.2.1)).left = (body Try.prog (stepper Try.prog (cfg15 k) lim15) (pl15_2 k) (codeAt (bodyOf Try.f15) [.r, .r, .r, .r, .r, .l, .r, .s, .b, .r, .l, .s, .r, .s, .b, .r, .l, .s, .r, .s, .b]) ((fr15_2 k).sh.st v) (loopK (fr15_2 k) fun v => F15_2 k m v.1.1 v.1.2.1 v.1.2.2.1 v.1.2.2.2.1 v.2.1 v.2.2.1)).right := by kernel_rfl
theorem fr15_2_ok (k : Nat) : FragOK Try.prog lim15 (fr15_2 k) (codeAt (bodyOf Try.f15) [.r, .r, .r, .r, .r, .l, .r, .s, .b, .r, .l, .s, .r, .s, .b, .r, .l, .s, .r, .s]) :=
  frag_cast (by kernel_rfl) (loop_ok (cfg15_ok k) (Eq.mpr (pq15_2 k) (planOK_go _)) (fun m v => F15_2 k m v.1.1 v.1.2.1 v.1.2.2.1 v.1.2.2.2.1 v.2.1 v.2.2.1) k (fun _ => rfl) (fun _ => rfl) fun m v => ⟨ps15_2 k m v, pe15_2 k m v⟩)
def pl15_3 (k : Nat) : Plan := (.seq .go (.seq (.sub (.seq .go (.sub (.frag (fr15_2 k))))) .go))
theorem pq15_3 (k : Nat) : PlanOK Try.prog lim15 (pl15_3 k) (codeAt (bodyOf Try.f15) [.r, .r, .r, .r, .r, .l, .r, .s, .b, .r, .l, .s, .r, .s, .b]) = (PlanOK Try.prog lim15 .go (codeAt (bodyOf Try.f15) [.r, .r, .r, .r, .r, .l, .r, .s, .b, .r, .l, .s, .r, .s, .b, .l]) ∧ ((PlanOK Try.prog lim15 .go (codeAt (bodyOf Try.f15) [.r, .r, .r, .r, .r, .l, .r, .s, .b, .r, .l, .s, .r, .s, .b, .r, .l, .s, .l]) ∧ FragOK Try.prog lim15 (fr15_2 k) (codeAt (bodyOf Try.f15) [.r, .r, .r, .r, .r, .l, .r, .s, .b, .r, .l, .s, .r, .s, .b, .r, .l, .s, .r, .s])) ∧ PlanOK Try.prog lim15 .go (codeAt (bodyOf Try.f15) [.r, .r, .r, .r, .r, .l, .r, .s, .b, .r, .l, .s, .r, .s, .b, .r, .r]))) := by kernel_rfl
theorem ps15_3 (k m : Nat) (v : (fr15_3 k).sh.V) : F15_3 k (m + 1) v.1.1 v.1.2.1 v.1.2.2.1 v.2.1 v.2.2.1 = (body Try.prog (stepper Try.prog (cfg15 k) lim15) (pl15_3 k) (codeAt (bodyOf Try.f15) [.r, .r, .r, .r, .r, .l, .r, .s, .b, .r, .l, .s, .r, .s, .b]) ((fr15_3 k).sh.st v) (loopK (fr15_3 k) fun v => F15_3 k m v.1.1 v.1.2.1 v.1.2.2.1 v.2.1 v.2.2.1)).eval := by kernel_rfl
theorem pe15_3 (k m : Nat) (v : (fr15_3 k).sh.V) : (body Try.prog (stepper Try.prog (cfg15 k) lim15) (pl15_3 k) (codeAt (bodyOf Try.f15) [.r, .r, .r, .r, .r, .l, .r, .s, .b, .r, .l, .s, .r, .s, .b]) ((fr15_3 k).sh.st v) (loopK (fr15_3 k) fun v => F15_3 k m v.1.1 v.1.2.1 v.1.2.2.1 v.2.1 v.2.2.1)).left = (body Try.prog (stepper Try.prog (cfg15 k) lim15) (pl15_3 k) (codeAt (bodyOf Try.f15) [.r, .r, .r, .r, .r, .l, .r, .s, .b, .r, .l, .s, .r, .s, .b]) ((fr15_3 k).sh.st v) (loopK (fr15_3 k) fun v => F15_3 k m v.1.1 v.1.2.1 v.1.2.2.1 v.2.1 v.2.2.1)).right := by kernel_rfl
theorem fr15_3_ok (k : Nat) : FragOK Try.prog lim15 (fr15_3 k) (codeAt (bodyOf Try.f15) [.r, .r, .r, .r, .r, .l, .r, .s, .b, .r, .l, .s, .r, .s]) :=
  frag_cast (by kernel_rfl) (loop_ok (cfg15_ok k) (Eq.mpr (pq15_3 k) ⟨(planOK_go _), ⟨⟨(planOK_go _), (fr15_2_ok k)⟩, (planOK_go _)⟩⟩) (fun m v => F15_3 k m v.1.1 v.1.2.1 v.1.2.2.1 v.2.1 v.2.2.1) k (fun _ => rfl) (fun _ => rfl) fun m v => ⟨ps15_3 k m v, pe15_3 k m v⟩)
def pl15_4 (k : Nat) : Plan := (.seq .go (.seq (.sub (.seq .go (.sub (.frag (fr15_3 k))))) .go))
theorem pq15_4 (k : Nat) : PlanOK Try.prog lim15 (pl15_4 k) (codeAt (bodyOf Try.f15) [.r, .r, .r, .r, .r, .l, .r, .s, .b]) = (PlanOK Try.prog lim15 .go (codeAt (bodyOf Try.f15) [.r, .r, .r, .r, .r, .l, .r, .s, .b, .l]) ∧ ((PlanOK Try.prog lim15 .go (codeAt (bodyOf Try.f15) [.r, .r, .r, .r, .r, .l, .r, .s, .b, .r, .l, .s, .l]) ∧ FragOK Try.prog lim15 (fr15_3 k) (codeAt (bodyOf Try.f15) [.r, .r, .r, .r, .r, .l, .r, .s, .b, .r, .l, .s, .r, .s])) ∧ PlanOK Try.prog lim15 .go (codeAt (bodyOf Try.f15) [.r, .r, .r, .r, .r, .l, .r, .s, .b, .r, .r]))) := by kernel_rfl
theorem ps15_4 (k m : Nat) (v : (fr15_4 k).sh.V) : F15_4 k (m + 1) v.1.1 v.1.2.1 v.2.1 v.2.2.1 = (body Try.prog (stepper Try.prog (cfg15 k) lim15) (pl15_4 k) (codeAt (bodyOf Try.f15) [.r, .r, .r, .r, .r, .l, .r, .s, .b]) ((fr15_4 k).sh.st v) (loopK (fr15_4 k) fun v => F15_4 k m v.1.1 v.1.2.1 v.2.1 v.2.2.1)).eval := by kernel_rfl
theorem pe15_4 (k m : Nat) (v : (fr15_4 k).sh.V) : (body Try.prog (stepper Try.prog (cfg15 k) lim15) (pl15_4 k) (codeAt (bodyOf Try.f15) [.r, .r, .r, .r, .r, .l, .r, .s, .b]) ((fr15_4 k).sh.st v) (loopK (fr15_4 k) fun v => F15_4 k m v.1.1 v.1.2.1 v.2.1 v.2.2.1)).left = (body Try.prog (stepper Try.prog (cfg15 k) lim15) (pl15_4 k) (codeAt (bodyOf Try.f15) [.r, .r, .r, .r, .r, .l, .r, .s, .b]) ((fr15_4 k).sh.st v) (loopK (fr15_4 k) fun v => F15_4 k m v.1.1 v.1.2.1 v.2.1 v.2.2.1)).right := by kernel_rfl
theorem fr15_4_ok (k : Nat) : FragOK Try.prog lim15 (fr15_4 k) (codeAt (bodyOf Try.f15) [.r, .r, .r, .r, .r, .l, .r, .s]) :=
  frag_cast (by kernel_rfl) (loop_ok (cfg15_ok k) (Eq.mpr (pq15_4 k) ⟨(planOK_go _), ⟨⟨(planOK_go _), (fr15_3_ok k)⟩, (planOK_go _)⟩⟩) (fun m v => F15_4 k m v.1.1 v.1.2.1 v.2.1 v.2.2.1) k (fun _ => rfl) (fun _ => rfl) fun m v => ⟨ps15_4 k m v, pe15_4 k m v⟩)
def pl15_5 (k : Nat) : Plan := .go
theorem pq15_5 (k : Nat) : PlanOK Try.prog lim15 (pl15_5 k) (codeAt (bodyOf Try.f15) [.r, .r, .r, .r, .r, .r, .l, .r, .s, .b]) = PlanOK Try.prog lim15 .go (codeAt (bodyOf Try.f15) [.r, .r, .r, .r, .r, .r, .l, .r, .s, .b]) := by kernel_rfl
theorem ps15_5 (k m : Nat) (v : (fr15_5 k).sh.V) : F15_5 k (m + 1) v.1.1 v.2.1 v.2.2.1 = (body Try.prog (stepper Try.prog (cfg15 k) lim15) (pl15_5 k) (codeAt (bodyOf Try.f15) [.r, .r, .r, .r, .r, .r, .l, .r, .s, .b]) ((fr15_5 k).sh.st v) (loopK (fr15_5 k) fun v => F15_5 k m v.1.1 v.2.1 v.2.2.1)).eval := by kernel_rfl
theorem pe15_5 (k m : Nat) (v : (fr15_5 k).sh.V) : (body Try.prog (stepper Try.prog (cfg15 k) lim15) (pl15_5 k) (codeAt (bodyOf Try.f15) [.r, .r, .r, .r, .r, .r, .l, .r, .s, .b]) ((fr15_5 k).sh.st v) (loopK (fr15_5 k) fun v => F15_5 k m v.1.1 v.2.1 v.2.2.1)).left = (body Try.prog (stepper Try.prog (cfg15 k) lim15) (pl15_5 k) (codeAt (bodyOf Try.f15) [.r, .r, .r, .r, .r, .r, .l, .r, .s, .b]) ((fr15_5 k).sh.st v) (loopK (fr15_5 k) fun v => F15_5 k m v.1.1 v.2.1 v.2.2.1)).right := by kernel_rfl
theorem fr15_5_ok (k : Nat) : FragOK Try.prog lim15 (fr15_5 k) (codeAt (bodyOf Try.f15) [.r, .r, .r, .r, .r, .r, .l, .r, .s]) :=
  frag_cast (by kernel_rfl) (loop_ok (cfg15_ok k) (Eq.mpr (pq15_5 k) (planOK_go _)) (fun m v => F15_5 k m v.1.1 v.2.1 v.2.2.1) k (fun _ => rfl) (fun _ => rfl) fun m v => ⟨ps15_5 k m v, pe15_5 k m v⟩)
def pl15 (k : Nat) : Plan := (.seq .go (.seq .go (.seq .go (.seq (.seq .go (.sub (.frag (fr15_0 k)))) (.seq (.seq .go (.sub (.frag (fr15_1 k)))) (.seq (.seq .go (.sub (.frag (fr15_4 k)))) (.seq (.seq .go (.sub (.frag (fr15_5 k)))) .go)))))))
theorem pq15 (k : Nat) : PlanOK Try.prog lim15 (pl15 k) (codeAt (bodyOf Try.f15) []) = (PlanOK Try.prog lim15 .go (codeAt (bodyOf Try.f15) [.l]) ∧ (PlanOK Try.prog lim15 .go (codeAt (bodyOf Try.f15) [.r, .l]) ∧ (PlanOK Try.prog lim15 .go (codeAt (bodyOf Try.f15) [.r, .r, .l]) ∧ ((PlanOK Try.prog lim15 .go (codeAt (bodyOf Try.f15) [.r, .r, .r, .l, .l]) ∧ FragOK Try.prog lim15 (fr15_0 k) (codeAt (bodyOf Try.f15) [.r, .r, .r, .l, .r, .s])) ∧ ((PlanOK Try.prog lim15 .go (codeAt (bodyOf Try.f15) [.r, .r, .r, .r, .l, .l]) ∧ FragOK Try.prog lim15 (fr15_1 k) (codeAt (bodyOf Try.f15) [.r, .r, .r, .r, .l, .r, .s])) ∧ ((PlanOK Try.prog lim15 .go (codeAt (bodyOf Try.f15) [.r, .r, .r, .r, .r, .l, .l]) ∧ FragOK Try.prog lim15 (fr15_4 k) (codeAt (bodyOf Try.f15) [.r, .r, .r, .r, .r, .l, .r, .s])) ∧ ((PlanOK Try.prog lim15 .go (codeAt (bodyOf Try.f15) [.r, .r, .r, .r, .r, .r, .l, .l]) ∧ FragOK Try.prog lim15 (fr15_5 k) (codeAt (bodyOf Try.f15) [.r, .r, .r, .r, .r, .r, .l, .r, .s])) ∧ PlanOK Try.prog lim15 .go (codeAt (bodyOf Try.f15) [.r, .r, .r, .r, .r, .r, .r])))))))) := by kernel_rfl
theorem ev15 (k : Nat) (x : AT (sp15 k).ps) : (sp15 k).impl x = (fnT Try.prog (cfg15 k) lim15 Try.f15 (bodyOf Try.f15) (pl15 k) (sp15 k) x).eval := by kernel_rfl
theorem eq15 (k : Nat) (x : AT (sp15 k).ps) : (fnT Try.prog (cfg15 k) lim15 Try.f15 (bodyOf Try.f15) (pl15 k) (sp15 k) x).left = (fnT Try.prog (cfg15 k) lim15 Try.f15 (bodyOf Try.f15) (pl15 k) (sp15 k) x).right := by kernel_rfl
theorem v15 (k : Nat) : Callable Try.prog 15 ∧ Valid Try.prog 15 (sp15 k) :=
  fn_ok (cfg15_ok k) (f := 15) (fn := Try.f15) (by kernel_rfl) (c := bodyOf Try.f15) (by kernel_rfl) (by kernel_rfl) rfl rfl (Nat.le_of_ble_eq_true rfl) (Nat.le_of_ble_eq_true rfl) (p := pl15 k) (Eq.mpr (pq15 k) ⟨(planOK_go _), ⟨(planOK_go _), ⟨(planOK_go _), ⟨⟨(planOK_go _), (fr15_0_ok k)⟩, ⟨⟨(planOK_go _), (fr15_1_ok k)⟩, ⟨⟨(planOK_go _), (fr15_4_ok k)⟩, ⟨⟨(planOK_go _), (fr15_5_ok k)⟩, (planOK_go _)⟩⟩⟩⟩⟩⟩⟩) fun x => ⟨ev15 k x, eq15 k x⟩
/-! f36 hyphen/hyphenref8.cost -/
def F36_0 (k : Nat) : Nat → Int → Int → Int → ((List Int) × ((List Int) × ((List Int) × ((List (Int × (Int × (Int × Unit)))) × (Int × Unit))))) → Option ((Unit × Unit) ⊕ ((Int × Bool × Unit) × Unit))
  | 0, _, _, _, _ => none
  | n + 1, t1, t2, t8, c3 =>
    let x5 := (decide (t8 < ((List.length c3.2.2.2.1 : Nat) : Int)))
    bif x5 then
      if 0 ≤ t8 ∧ t8 < ((List.length c3.2.2.2.1 : Nat) : Int) then
        let x6 := (List.getD c3.2.2.2.1 (Int.toNat t8) ((0 : Int), ((0 : Int), ((0 : Int), ()))))
        bif (x6.1 == t1) then
          if 0 ≤ t8 ∧ t8 < ((List.length c3.2.2.2.1 : Nat) : Int) then
            let x7 := (List.getD c3.2.2.2.1 (Int.toNat t8) ((0 : Int), ((0 : Int), ((0 : Int), ()))))
            bif (x7.2.1 == t2) then
              if 0 ≤ t8 ∧ t8 < ((List.length c3.2.2.2.1 : Nat) : Int) then
                let x8 := (List.getD c3.2.2.2.1 (Int.toNat t8) ((0 : Int), ((0 : Int), ((0 : Int), ()))))
                some (.inr ((x8.2.2.1, true, ()), ()))
              else none
            else
              (F36_0 k n t1 t2 (IntKind.wrap .i64 (t8 + (1 : Int))) c3).bind some
          else none
        else
          (F36_0 k n t1 t2 (IntKind.wrap .i64 (t8 + (1 : Int))) c3).bind some
      else none
    else
      some (.inl ((), ()))
def fr36_0 (k : Nat) : Frag := ⟨⟨[], [(1, .val (.int .i64)), (2, .val (.int .i64)), (3, .ptr 3 []), (8, .val (.int .i64))], [(3, some 28, (.pair (.sl false 3 (.int .i64) none) (.pair (.sl false 3 (.int .i64) none) (.pair (.sl false 3 (.int .i64) none) (.pair (.sl false 43 (.pair (.int .i64) (.pair (.int .i64) (.pair (.int .i64) .unit))) none) (.pair (.int .i64) .unit))))))]⟩, [(.exit 0, ⟨[], [], []⟩), (.ret, ⟨[], [(6, .val (.int .i64)), (7, .val .bool)], []⟩)], fun v => F36_0 k k v.1.1 v.1.2.1 v.1.2.2.1 v.2.1⟩
def F36 (k : Nat) (a0 : ((List Int) × ((List Int) × ((List Int) × ((List (Int × (Int × (Int × Unit)))) × (Int × Unit)))))) (a1 : Int) (a2 : Int) : Option ((Int × Bool × Unit) × Unit) :=
  (F36_0 k k a1 a2 (0 : Int) a0).bind fun r9 =>
  match r9 with
  | .inl r10 =>
    some (((0 : Int), false, ()), ())
  | .inr r10 =>
    let y11 := r10.1.1
    let y12 := r10.1.2.1
    some ((y11, y12, ()), ())
def sp36 (k : Nat) : Spec := ⟨[.val (.pair (.sl false 3 (.int .i64) none) (.pair (.sl false 3 (.int .i64) none) (.pair (.sl false 3 (.int .i64) none) (.pair (.sl false 43 (.pair (.int .i64) (.pair (.int .i64) (.pair (.int .i64) .unit))) none) (.pair (.int .i64) .unit))))), .val (.int .i64), .val (.int .i64)], [.val (.int .i64), .val .bool], fun x => F36 k x.1 x.2.1 x.2.2.1⟩
def lim36 : Lim := ⟨40, 3, false, false, []⟩
def cfg36 (k : Nat) : Nat → Option Spec := cfgL []
theorem cfg36_ok (k : Nat) : CfgOK Try.prog (cfg36 k) := cfgL_nil
def pl36_0 (k : Nat) : Plan := .go
theorem pq36_0 (k : Nat) : PlanOK Try.prog lim36 (pl36_0 k) (codeAt (bodyOf Try.f36) [.r, .l, .r, .s, .b]) = PlanOK Try.prog lim36 .go (codeAt (bodyOf Try.f36) [.r, .l, .r, .s, .b]) := by kernel_rfl
theorem ps36_0 (k m : Nat) (v : (fr36_0 k).sh.V) : F36_0 k (m + 1) v.1.1 v.1.2.1 v.1.2.2.1 v.2.1 = (body Try.prog (stepper Try.prog (cfg36 k) lim36) (pl36_0 k) (codeAt (bodyOf Try.f36) [.r, .l, .r, .s, .b]) ((fr36_0 k).sh.st v) (loopK (fr36_0 k) fun v => F36_0 k m v.1.1 v.1.2.1 v.1.2.2.1 v.2.1)).eval := by kernel_rfl
theorem pe36_0 (k m : Nat) (v : (fr36_0 k).sh.V) : (body Try.prog (stepper Try.prog (cfg36 k) lim36) (pl36_0 k) (codeAt (bodyOf Try.f36) [.r, .l, .r, .s, .b]) ((fr36_0 k).sh.st v) (loopK (fr36_0 k) fun v => F36_0 k m v.1.1 v.1.2.1 v.1.2.2.1 v.2.1)).left = (body Try.prog (stepper Try.prog (cfg36 k) lim36) (pl36_0 k) (codeAt (bodyOf Try.f36) [.r, .l, .r, .s, .b]) ((fr36_0 k).sh.st v) (loopK (fr36_0 k) fun v => F36_0 k m v.1.1 v.1.2.1 v.1.2.2.1 v.2.1)).right := by kernel_rfl
theorem fr36_0_ok (k : Nat) : FragOK Try.prog lim36 (fr36_0 k) (codeAt (bodyOf Try.f36) [.r, .l, .r, .s]) :=
  frag_cast (by kernel_rfl) (loop_ok (cfg36_ok k) (Eq.mpr (pq36_0 k) (planOK_go _)) (fun m v => F36_0 k m v.1.1 v.1.2.1 v.1.2.2.1 v.2.1) k (fun _ => rfl) (fun _ => rfl) fun m v => ⟨ps36_0 k m v, pe36_0 k m v⟩)
def pl36 (k : Nat) : Plan := (.seq .go (.seq (.seq .go (.sub (.frag (fr36_0 k)))) .go))
theorem pq36 (k : Nat) : PlanOK Try.prog lim36 (pl36 k) (codeAt (bodyOf Try.f36) []) = (PlanOK Try.prog lim36 .go (codeAt (bodyOf Try.f36) [.l]) ∧ ((PlanOK Try.prog lim36 .go (codeAt (bodyOf Try.f36) [.r, .l, .l]) ∧ FragOK Try.prog lim36 (fr36_0 k) (codeAt (bodyOf Try.f36) [.r, .l, .r, .s])) ∧ PlanOK Try.prog lim36 .go (codeAt (bodyOf Try.f36) [.r, .r]))) := by kernel_rfl
theorem ev36 (k : Nat) (x : AT (sp36 k).ps) : (sp36 k).impl x = (fnT Try.prog (cfg36 k) lim36 Try.f36 (bodyOf Try.f36) (pl36 k) (sp36 k) x).eval := by kernel_rfl
theorem eq36 (k : Nat) (x : AT (sp36 k).ps) : (fnT Try.prog (cfg36 k) lim36 Try.f36 (bodyOf Try.f36) (pl36 k) (sp36 k) x).left = (fnT Try.prog (cfg36 k) lim36 Try.f36 (bodyOf Try.f36) (pl36 k) (sp36 k) x).right := by kernel_rfl
theorem v36 (k : Nat) : Callable Try.prog 36 ∧ Valid Try.prog 36 (sp36 k) :=
  fn_ok (cfg36_ok k) (f := 36) (fn := Try.f36) (by kernel_rfl) (c := bodyOf Try.f36) (by kernel_rfl) (by kernel_rfl) rfl rfl (Nat.le_of_ble_eq_true rfl) (Nat.le_of_ble_eq_true rfl) (p := pl36 k) (Eq.mpr (pq36 k) ⟨(planOK_go _), ⟨⟨(planOK_go _), (fr36_0_ok k)⟩, (planOK_go _)⟩⟩) fun x => ⟨ev36 k x, eq36 k x⟩
/-! f16 hyphen/hyphenref8.Check -/
def F16_0 (k : Nat) : Nat → (List Int) → Int → Int → ((List Int) × ((List Int) × ((List Int) × ((List (Int × (Int × (Int × Unit)))) × (Int × Unit))))) → Option ((((List Int) × Int × Unit) × Unit) ⊕ ((Int × Bool × Unit) × Unit))
  | 0, _, _, _, _ => none
  | n + 1, t1, t6, t7, c2 =>
    let x5 := (decide (t7 < ((List.length t1 : Nat) : Int)))
    bif x5 then
      if 0 ≤ t7 ∧ t7 < ((List.length t1 : Nat) : Int) then
        if ((List.length t1 : Nat) : Int) ≠ 0 then
          let x6 := (Int.tmod (IntKind.wrap .i64 (t7 + (1 : Int))) ((List.length t1 : Nat) : Int))
          if 0 ≤ x6 ∧ x6 < ((List.length t1 : Nat) : Int) then
            (F36 k c2 (List.getD t1 (Int.toNat t7) (0 : Int)) (List.getD t1 (Int.toNat x6) (0 : Int))).bind fun r7 =>
            bif (!r7.1.2.1) then
              some (.inr (((0 : Int), false, ()), ()))
            else
              (F37 k t6 r7.1.1).bind fun r8 =>
              (F16_0 k n t1 r8.1.1 (IntKind.wrap .i64 (t7 + (1 : Int))) c2).bind some
          else none
        else none
      else none
    else
      some (.inl ((t1, t6, ()), ()))
def fr16_0 (k : Nat) : Frag := ⟨⟨[], [(1, .val (.sl false 3 (.int .i64) none)), (2, .ptr 2 []), (6, .val (.int .i64)), (7, .val (.int .i64))], [(2, some 28, (.pair (.sl false 3 (.int .i64) none) (.pair (.sl false 3 (.int .i64) none) (.pair (.sl false 3 (.int .i64) none) (.pair (.sl false 43 (.pair (.int .i64) (.pair (.int .i64) (.pair (.int .i64) .unit))) none) (.pair (.int .i64) .unit))))))]⟩, [(.exit 0, ⟨[], [(1, .val (.sl false 3 (.int .i64) none)), (6, .val (.int .i64))], []⟩), (.ret, ⟨[], [(4, .val (.int .i64)), (5, .val .bool)], []⟩)], fun v => F16_0 k k v.1.1 v.1.2.1 v.1.2.2.1 v.2.1⟩
def F16 (k : Nat) (a0 : ((List Int) × ((List Int) × ((List Int) × ((List (Int × (Int × (Int × Unit)))) × (Int × Unit)))))) (a1 : (List Int)) : Option ((Int × Bool × Unit) × Unit) :=
  (F16_0 k k a1 (0 : Int) (0 : Int) a0).bind fun r9 =>
  match r9 with
  | .inl r10 =>
    let y11 := r10.1.1
    let y12 := r10.1.2.1
    let x13 := (decide (((List.length y11 : Nat) : Int) > (0 : Int)))
    some ((y12, x13, ()), ())
  | .inr r10 =>
    let y14 := r10.1.1
    let y15 := r10.1.2.1
    some ((y14, y15, ()), ())
def sp16 (k : Nat) : Spec := ⟨[.val (.pair (.sl false 3 (.int .i64) none) (.pair (.sl false 3 (.int .i64) none) (.pair (.sl false 3 (.int .i64) none) (.pair (.sl false 43 (.pair (.int .i64) (.pair (.int .i64) (.pair (.int .i64) .unit))) none) (.pair (.int .i64) .unit))))), .val (.sl false 3 (.int .i64) none)], [.val (.int .i64), .val .bool], fun x => F16 k x.1 x.2.1⟩
def lim16 : Lim := ⟨42, 2, false, false, []⟩
def cfg16 (k : Nat) : Nat → Option Spec := cfgL [(36, sp36 k), (37, sp37 k)]
theorem cfg16_ok (k : Nat) : CfgOK Try.prog (cfg16 k) := cfgL_cons (v36 k) (cfgL_cons (v37 k) (cfgL_nil))
def pl16_0 (k : Nat) : Plan := .go
theorem pq16_0 (k : Nat) : PlanOK Try.prog lim16 (pl16_0 k) (codeAt (bodyOf Try.f16) [.r, .r, .l, .r, .s, .b]) = PlanOK Try.prog lim16 .go (codeAt (bodyOf Try.f16) [.r, .r, .l, .r, .s, .b]) := by kernel_rfl
theorem ps16_0 (k m : Nat) (v : (fr16_0 k).sh.V) : F16_0 k (m + 1) v.1.1 v.1.2.1 v.1.2.2.1 v.2.1 = (body Try.prog (stepper Try.prog (cfg16 k) lim16) (pl16_0 k) (codeAt (bodyOf Try.f16) [.r, .r, .l, .r, .s, .b]) ((fr16_0 k).sh.st v) (loopK (fr16_0 k) fun v => F16_0 k m v.1.1 v.1.2.1 v.1.2.2.1 v.2.1)).eval := by kernel_rfl
theorem pe16_0 (k m : Nat) (v : (fr16_0 k).sh.V) : (body Try.prog (stepper Try.prog (cfg16 k) lim16) (pl16_0 k) (codeAt (bodyOf Try.f16) [.r, .r, .l, .r, .s, .b]) ((fr16_0 k).sh.st v) (loopK (fr16_0 k) fun v => F16_0 k m v.1.1 v.1.2.1 v.1.2.2.1 v.2.1)).left = (body Try.prog (stepper Try.prog (cfg16 k) lim16) (pl16_0 k) (codeAt (bodyOf Try.f16) [.r, .r, .l, .r, .s, .b]) ((fr16_0 k).sh.st v) (loopK (fr16_0 k) fun v => F16_0 k m v.1.1 v.1.2.1 v.1.2.2.1 v.2.1)).right := by kernel_rfl
theorem fr16_0_ok (k : Nat) : FragOK Try.prog lim16 (fr16_0 k) (codeAt (bodyOf Try.f16) [.r, .r, .l, .r, .s]) :=
  frag_cast (by kernel_rfl) (loop_ok (cfg16_ok k) (Eq.mpr (pq16_0 k) (planOK_go _)) (fun m v => F16_0 k m v.1.1 v.1.2.1 v.1.2.2.1 v.2.1) k (fun _ => rfl) (fun _ => rfl) fun m v => ⟨ps16_0 k m v, pe16_0 k m v⟩)
def pl16 (k : Nat) : Plan := (.seq .go (.seq .go (.seq (.seq .go (.sub (.frag (fr16_0 k)))) .go)))
theorem pq16 (k : Nat) : PlanOK Try.prog lim16 (pl16 k) (codeAt (bodyOf Try.f16) []) = (PlanOK Try.prog lim16 .go (codeAt (bodyOf Try.f16) [.l]) ∧ (PlanOK Try.prog lim16 .go (codeAt (bodyOf Try.f16) [.r, .l]) ∧ ((PlanOK Try.prog lim16 .go (codeAt (bodyOf Try.f16) [.r, .r, .l, .l]) ∧ FragOK Try.prog lim16 (fr16_0 k) (codeAt (bodyOf Try.f16) [.r, .r, .l, .r, .s])) ∧ PlanOK Try.prog lim16 .go (codeAt (bodyOf Try.f16) [.r, .r, .r])))) := by kernel_rfl
theorem ev16 (k : Nat) (x : AT (sp16 k).ps) : (sp16 k).impl x = (fnT Try.prog (cfg16 k) lim16 Try.f16 (bodyOf Try.f16) (pl16 k) (sp16 k) x).eval := by kernel_rfl
theorem eq16 (k : Nat) (x : AT (sp16 k).ps) : (fnT Try.prog (cfg16 k) lim16 Try.f16 (bodyOf Try.f16) (pl16 k) (sp16 k) x).left = (fnT Try.prog (cfg16 k) lim16 Try.f16 (bodyOf Try.f16) (pl16 k) (sp16 k) x).right := by kernel_rfl
theorem v16 (k : Nat) : Callable Try.prog 16 ∧ Valid Try.prog 16 (sp16 k) :=
  fn_ok (cfg16_ok k) (f := 16) (fn := Try.f16) (by kernel_rfl) (c := bodyOf Try.f16) (by kernel_rfl) (by kernel_rfl) rfl rfl (Nat.le_of_ble_eq_true rfl) (Nat.le_of_ble_eq_true rfl) (p := pl16 k) (Eq.mpr (pq16 k) ⟨(planOK_go _), ⟨(planOK_go _), ⟨⟨(planOK_go _), (fr16_0_ok k)⟩, (planOK_go _)⟩⟩⟩) fun x => ⟨ev16 k x, eq16 k x⟩
end Go.Proofs.YtgojfdimbciaiaaE
