/- Functions of the program, as Lean functions, with their contracts; printed by gen.py. Conditions: none. -/
import Derived.Test.YtibammoednhnoaaG0
set_option linter.unusedVariables false
namespace Go.Proofs.YtibammoednhnoaaE
open Kd
open List (length getD replicate take drop)
open Int (toNat)
open IntKind (wrap)
set_option maxRecDepth 20000
def rs57 (f57:(TY49→TY13→Option TY27)):Spec:=⟨[.val KD28,.val KD5],[.own KD16],fun x=>f57 x.1 x.2.1⟩
def F57_0 (k:Nat) (f57:(TY49→TY13→Option TY27)):Nat→Int→TY26→TY33→TY33→Option TY17
 |0,_,_,_,_=>none
 |n+1,t7,c2,c4,c6 =>
  let x30:=(decide (t7<(length c6.2.1:Int)))
  bif x30 then
  if 0≤t7∧t7<(length c6.2.1:Int) then
  (F69 k (getD c6.2.1 (toNat t7) (0:Int)) c2.2.2.2.1).bind fun r31 =>
  if 0≤t7∧t7<(length c6.2.1:Int) then
  (F57_0 k f57 n (wrap .i64 (t7+(1:Int))) c2 c4 (c6.1,((List.set c6.2.1 (toNat t7) r31.1.1),c6.2.2))).bind some
  else none
  else none
  else
  some ((),(c4,c6,()))
def sq57_0:Shape:=⟨[],[(2,.ptr 2 []),(4,.ptr 4 []),(6,.ptr 6 []),(7,.val (.int .i64))],[(2,some 55,KD20),(4,some 65,KD16),(6,some 65,KD16)]⟩
def fu57_0 (k:Nat) (f57:(TY49→TY13→Option TY27)) (m:Nat) (v:sq57_0.V):=F57_0 k f57 m v.1.1 v.2.1 v.2.2.1 v.2.2.2.1
def fr57_0 (k:Nat) (f57:(TY49→TY13→Option TY27)):Frag:=⟨sq57_0,[(.exit 1,⟨[],[(4,.ptr 4 []),(6,.ptr 6 [])],[(4,some 65,KD16),(6,some 65,KD16)]⟩)],fu57_0 k f57 k⟩
def F57_1 (k:Nat) (f57:(TY49→TY13→Option TY27)):Nat→Int→TY26→TY33→TY33→TY33→Option TY17
 |0,_,_,_,_,_=>none
 |n+1,t10,c2,c4,c8,c9 =>
  bif (decide (t10≥(1:Int))) then
  (F81 k c9 c8).bind fun r39 =>
  bif (decide (t10>c2.2.1)) then
  (F57_1 k f57 n (wrap .i64 (t10-(1:Int))) c2 c4 (r39.1.1.1,(r39.1.1.2.1,(r39.1.1.2.2.1,(r39.1.1.2.2.2.1,((0:Int),r39.1.1.2.2.2.2.2))))) c9).bind some
  else
  (F57_1 k f57 n (wrap .i64 (t10-(1:Int))) c2 c4 r39.1.1 c9).bind some
  else
  some ((),(c4,c8,()))
def sq57_1:Shape:=⟨[],[(2,.ptr 2 []),(4,.ptr 4 []),(8,.ptr 8 []),(9,.ptr 9 []),(10,.val (.int .i64))],[(2,some 55,KD20),(4,some 65,KD16),(8,some 65,KD16),(9,some 65,KD16)]⟩
def fu57_1 (k:Nat) (f57:(TY49→TY13→Option TY27)) (m:Nat) (v:sq57_1.V):=F57_1 k f57 m v.1.1 v.2.1 v.2.2.1 v.2.2.2.1 v.2.2.2.2.1
def fr57_1 (k:Nat) (f57:(TY49→TY13→Option TY27)):Frag:=⟨sq57_1,[(.exit 3,⟨[],[(4,.ptr 4 []),(8,.ptr 8 [])],[(4,some 65,KD16),(8,some 65,KD16)]⟩)],fu57_1 k f57 k⟩
def B57 (k:Nat) (f57:(TY49→TY13→Option TY27)) (a0:TY49) (a1:TY13):Option TY27 :=
 bif ((Tree.a a0).1==(1:Int)) then
 (F79 k).bind fun r1 =>
 some ((r1.1.1,()),())
 else
 bif ((Tree.a a0).1==(2:Int)) then
 (F80 k (1:Int)).bind fun r2 =>
 if 0≤(0:Int)∧(0:Int)<(length r2.1.1.1:Int) then
 let x3:=(List.set r2.1.1.1 (toNat (0:Int)) (-1:Int))
 if 0≤(0:Int)∧(0:Int)<(length r2.1.1.2.1:Int) then
 let x4:=(List.set r2.1.1.2.1 (toNat (0:Int)) (0:Int))
 if 0≤(0:Int)∧(0:Int)<(length r2.1.1.2.2.1:Int) then
 let x5:=(List.set r2.1.1.2.2.1 (toNat (0:Int)) (0:Int))
 bif ((Tree.a a0).1==(2:Int)) then
 (F66 k a1 (Tree.a a0).2.2.2.2.1).bind fun r6 =>
 if 0≤(0:Int)∧(0:Int)<(length x3:Int) then
 some ((((List.set x3 (toNat (0:Int)) r6.1.1),(x4,(x5,r2.1.1.2.2.2))),()),())
 else none
 else
 some (((x3,(x4,(x5,r2.1.1.2.2.2))),()),())
 else none
 else none
 else none
 else
 bif ((Tree.a a0).1==(3:Int)) then
 (F80 k (1:Int)).bind fun r7 =>
 if 0≤(0:Int)∧(0:Int)<(length r7.1.1.1:Int) then
 let x8:=(List.set r7.1.1.1 (toNat (0:Int)) (-1:Int))
 if 0≤(0:Int)∧(0:Int)<(length r7.1.1.2.1:Int) then
 let x9:=(List.set r7.1.1.2.1 (toNat (0:Int)) (0:Int))
 if 0≤(0:Int)∧(0:Int)<(length r7.1.1.2.2.1:Int) then
 let x10:=(List.set r7.1.1.2.2.1 (toNat (0:Int)) (0:Int))
 bif ((Tree.a a0).1==(2:Int)) then
 (F66 k a1 (Tree.a a0).2.2.2.2.1).bind fun r11 =>
 if 0≤(0:Int)∧(0:Int)<(length x8:Int) then
 some ((((List.set x8 (toNat (0:Int)) r11.1.1),(x9,(x10,r7.1.1.2.2.2))),()),())
 else none
 else
 some (((x8,(x9,(x10,r7.1.1.2.2.2))),()),())
 else none
 else none
 else none
 else
 bif ((Tree.a a0).1==(4:Int)) then
 if 0≤(0:Int)∧(0:Int)<(length (Tree.l a0):Int) then
 let x12:=(getD (Tree.l a0) (toNat (0:Int)) (Tree.mk ((0:Int),((0:Int),((0:Int),((0:Int),(ByteArray.empty,()))))) []))
 if 0≤(1:Int)∧(1:Int)<(length (Tree.l a0):Int) then
 let x13:=(getD (Tree.l a0) (toNat (1:Int)) (Tree.mk ((0:Int),((0:Int),((0:Int),((0:Int),(ByteArray.empty,()))))) []))
 (f57 x12 a1).bind fun r14 =>
 (f57 x13 a1).bind fun r15 =>
 (F81 k r14.1.1 r15.1.1).bind fun r16 =>
 some ((r16.1.1,()),())
 else none
 else none
 else
 bif ((Tree.a a0).1==(5:Int)) then
 if 0≤(0:Int)∧(0:Int)<(length (Tree.l a0):Int) then
 let x17:=(getD (Tree.l a0) (toNat (0:Int)) (Tree.mk ((0:Int),((0:Int),((0:Int),((0:Int),(ByteArray.empty,()))))) []))
 if 0≤(1:Int)∧(1:Int)<(length (Tree.l a0):Int) then
 let x18:=(getD (Tree.l a0) (toNat (1:Int)) (Tree.mk ((0:Int),((0:Int),((0:Int),((0:Int),(ByteArray.empty,()))))) []))
 (f57 x17 a1).bind fun r19 =>
 (f57 x18 a1).bind fun r20 =>
 (F82 k r19.1.1 r20.1.1).bind fun r21 =>
 some ((r21.1.1,()),())
 else none
 else none
 else
 bif ((Tree.a a0).1==(6:Int)) then
 if 0≤(0:Int)∧(0:Int)<(length (Tree.l a0):Int) then
 let x22:=(getD (Tree.l a0) (toNat (0:Int)) (Tree.mk ((0:Int),((0:Int),((0:Int),((0:Int),(ByteArray.empty,()))))) []))
 (f57 x22 a1).bind fun r23 =>
 (F83 k r23.1.1).bind fun r24 =>
 some ((r24.1.1,()),())
 else none
 else
 bif ((Tree.a a0).1==(8:Int)) then
 if 0≤(0:Int)∧(0:Int)<(length (Tree.l a0):Int) then
 let x25:=(getD (Tree.l a0) (toNat (0:Int)) (Tree.mk ((0:Int),((0:Int),((0:Int),((0:Int),(ByteArray.empty,()))))) []))
 (f57 x25 a1).bind fun r26 =>
 (F69 k r26.1.1.2.2.2.2.1 (Tree.a a0).2.2.2.1).bind fun r27 =>
 (F57_0 k f57 k (0:Int) ((Tree.a a0).1,((Tree.a a0).2.1,((Tree.a a0).2.2.1,((Tree.a a0).2.2.2.1,((Tree.a a0).2.2.2.2.1,((Tree.l a0),())))))) (([]:(List Int)),(([]:(List Int)),(([]:(List Int)),(([]:TY62),((0:Int),()))))) (r26.1.1.1,(r26.1.1.2.1,(r26.1.1.2.2.1,(r26.1.1.2.2.2.1,(r27.1.1,r26.1.1.2.2.2.2.2)))))).bind fun r32 =>
 some ((r32.2.2.1,()),())
 else none
 else
 if 0≤(0:Int)∧(0:Int)<(length (Tree.l a0):Int) then
 let x35:=(getD (Tree.l a0) (toNat (0:Int)) (Tree.mk ((0:Int),((0:Int),((0:Int),((0:Int),(ByteArray.empty,()))))) []))
 (F79 k).bind fun r36 =>
 (f57 x35 a1).bind fun r37 =>
 (F57_1 k f57 k (Tree.a a0).2.2.1 ((Tree.a a0).1,((Tree.a a0).2.1,((Tree.a a0).2.2.1,((Tree.a a0).2.2.2.1,((Tree.a a0).2.2.2.2.1,((Tree.l a0),())))))) (([]:(List Int)),(([]:(List Int)),(([]:(List Int)),(([]:TY62),((0:Int),()))))) r36.1.1 r37.1.1).bind fun r40 =>
 some ((r40.2.2.1,()),())
 else none
def sb57 (k:Nat) (f57:(TY49→TY13→Option TY27)):Spec:=rs57 (B57 k f57)
def lim57:Lim:=⟨135,2,false,false,[],[]⟩
def cfg57 (k:Nat) (f57:(TY49→TY13→Option TY27)):Nat→Option Spec:=cfgL [(57,rs57 f57),(66,sp66 k),(69,sp69 k),(79,sp79 k),(80,sp80 k),(81,sp81 k),(82,sp82 k),(83,sp83 k)]
noncomputable def co57_0:Code:=codeAt (bodyOf Try.f57) [.r,.l,.r,.s,.r,.r,.r,.r,.r,.r,.r,.r,.r,.r,.r,.l,.r,.r,.l,.r,.s]
noncomputable def cb57_0:Code:=codeAt (bodyOf Try.f57) [.r,.l,.r,.s,.r,.r,.r,.r,.r,.r,.r,.r,.r,.r,.r,.l,.r,.r,.l,.r,.s,.b]
noncomputable def co57_1:Code:=codeAt (bodyOf Try.f57) [.r,.r,.r,.l,.r,.s]
noncomputable def cb57_1:Code:=codeAt (bodyOf Try.f57) [.r,.r,.r,.l,.r,.s,.b]
noncomputable def co57:Code:=codeAt (bodyOf Try.f57) []
theorem cfg57_ok (k:Nat) (f57:(TY49→TY13→Option TY27)) (h57:Callable Try.prog 57∧Valid Try.prog 57 (rs57 f57)):CfgOK Try.prog (cfg57 k f57):=cfgL_cons h57 (cfgL_cons (v66 k) (cfgL_cons (v69 k) (cfgL_cons (v79 k) (cfgL_cons (v80 k) (cfgL_cons (v81 k) (cfgL_cons (v82 k) (cfgL_cons (v83 k) (cfgL_nil))))))))
noncomputable def bo57_0 (k:Nat) (f57:(TY49→TY13→Option TY27)) (m:Nat) (v:sq57_0.V):=body Try.prog (stepper Try.prog (cfg57 k f57) lim57) .go cb57_0 (sq57_0.st v) (loopK (fr57_0 k f57) (fu57_0 k f57 m))
theorem pp57_0 (k:Nat) (f57:(TY49→TY13→Option TY27)) (m:Nat) (v:sq57_0.V):fu57_0 k f57 (m+1) v=(bo57_0 k f57 m v).eval∧(bo57_0 k f57 m v).left=(bo57_0 k f57 m v).right:=⟨by kernel_rfl,by kernel_rfl⟩
theorem fr57_0_ok (k:Nat) (f57:(TY49→TY13→Option TY27)) (h57:Callable Try.prog 57∧Valid Try.prog 57 (rs57 f57)):FragOK Try.prog lim57 (fr57_0 k f57) co57_0 :=
 frag_cast (by kernel_rfl) (loop_ok (cfg57_ok k f57 h57) (planOK_go _) (fu57_0 k f57) k (fun _=>rfl) (fun _=>rfl) (pp57_0 k f57))
noncomputable def bo57_1 (k:Nat) (f57:(TY49→TY13→Option TY27)) (m:Nat) (v:sq57_1.V):=body Try.prog (stepper Try.prog (cfg57 k f57) lim57) .go cb57_1 (sq57_1.st v) (loopK (fr57_1 k f57) (fu57_1 k f57 m))
theorem pp57_1 (k:Nat) (f57:(TY49→TY13→Option TY27)) (m:Nat) (v:sq57_1.V):fu57_1 k f57 (m+1) v=(bo57_1 k f57 m v).eval∧(bo57_1 k f57 m v).left=(bo57_1 k f57 m v).right:=⟨by kernel_rfl,by kernel_rfl⟩
theorem fr57_1_ok (k:Nat) (f57:(TY49→TY13→Option TY27)) (h57:Callable Try.prog 57∧Valid Try.prog 57 (rs57 f57)):FragOK Try.prog lim57 (fr57_1 k f57) co57_1 :=
 frag_cast (by kernel_rfl) (loop_ok (cfg57_ok k f57 h57) (planOK_go _) (fu57_1 k f57) k (fun _=>rfl) (fun _=>rfl) (pp57_1 k f57))
def pl57 (k:Nat) (f57:(TY49→TY13→Option TY27)):Plan:=(.seq .go (.seq (.seq .go (.sub (.seq .go (.seq .go (.seq .go (.seq .go (.seq .go (.seq .go (.seq .go (.seq .go (.seq .go (.seq .go (.seq .go (.seq (.seq .go (.seq .go (.seq (.seq .go (.sub (.frag (fr57_0 k f57)))) .go))) .go)))))))))))))) (.seq .go (.seq (.seq .go (.sub (.frag (fr57_1 k f57)))) .go))))
noncomputable def bo57 (k:Nat) (f57:(TY49→TY13→Option TY27)) (x:AT (sb57 k f57).ps):=fnT Try.prog (cfg57 k f57) lim57 Try.f57 (bodyOf Try.f57) (pl57 k f57) (sb57 k f57) x
theorem vv57 (k:Nat) (f57:(TY49→TY13→Option TY27)) (x:AT (sb57 k f57).ps):(sb57 k f57).impl x=(bo57 k f57 x).eval∧(bo57 k f57 x).left=(bo57 k f57 x).right:=⟨by kernel_rfl,by kernel_rfl⟩
theorem b57 (k:Nat) (f57:(TY49→TY13→Option TY27)) (h57:Callable Try.prog 57∧Valid Try.prog 57 (rs57 f57)):Callable Try.prog 57∧Valid Try.prog 57 (sb57 k f57) :=
 fn_of (n:=lim57) (fn:=Try.f57) (p:=(pl57 k f57)) (cfg57_ok k f57 h57) (by kernel_rfl) (plan_of (L:=[(fr57_0 k f57,co57_0),(fr57_1 k f57,co57_1)]) (by kernel_rfl) (.cons (fr57_0_ok k f57 h57) (.cons (fr57_1_ok k f57 h57) .nil))) (vv57 k f57)
def R57:Nat→(TY49→TY13→Option TY27)
 |0=>fun _ _=>none
 |k+1=>B57 k (R57 k)
def F57 (k:Nat) (a0_:TY49) (a1_:TY13):Option TY27:=(R57 k) a0_ a1_
def sp57 (k:Nat):Spec:=⟨[.val KD28,.val KD5],[.own KD16],fun x=>F57 k x.1 x.2.1⟩
theorem r57 (k:Nat):(Callable Try.prog 57∧Valid Try.prog 57 (rs57 (R57 k))):=by
 induction k with
 |zero=>exact ⟨⟨Try.f57,by kernel_rfl,by kernel_rfl,by kernel_rfl⟩,fun x r h=>by cases (show (none:Option _)=some r from h)⟩
 |succ k ih=>exact b57 k (R57 k) ih
theorem v57 (k:Nat):Callable Try.prog 57∧Valid Try.prog 57 (sp57 k):=(r57 k)
def F33 (k:Nat) (a0:TY49) (a1:TY13):Option ((TY33×Bool×Unit)×Unit) :=
 let x1:=(Tree.mk ((Tree.a a0).1,((Tree.a a0).2.1,((Tree.a a0).2.2.1,((Tree.a a0).2.2.2.1,((Tree.a a0).2.2.2.2.1,()))))) (Tree.l a0))
 (F56 k x1).bind fun r2 =>
 bif (decide (r2.1.1>(120:Int))) then
 some (((([]:(List Int)),(([]:(List Int)),(([]:(List Int)),(([]:TY62),((0:Int),()))))),false,()),())
 else
 let x3:=(Tree.mk ((Tree.a a0).1,((Tree.a a0).2.1,((Tree.a a0).2.2.1,((Tree.a a0).2.2.2.1,((Tree.a a0).2.2.2.2.1,()))))) (Tree.l a0))
 (F57 k x3 a1).bind fun r4 =>
 some ((r4.1.1,true,()),())
def sp33 (k:Nat):Spec:=⟨[.val KD28,.val KD5],[.own KD16,.val .bool],fun x=>F33 k x.1 x.2.1⟩
def lim33:Lim:=⟨13,2,false,false,[],[]⟩
def cfg33 (k:Nat):Nat→Option Spec:=cfgL [(56,sp56 k),(57,sp57 k)]
noncomputable def co33:Code:=codeAt (bodyOf Try.f33) []
theorem cfg33_ok (k:Nat):CfgOK Try.prog (cfg33 k):=cfgL_cons (v56 k) (cfgL_cons (v57 k) (cfgL_nil))
noncomputable def bo33 (k:Nat) (x:AT (sp33 k).ps):=fnT Try.prog (cfg33 k) lim33 Try.f33 (bodyOf Try.f33) .go (sp33 k) x
theorem vv33 (k:Nat) (x:AT (sp33 k).ps):(sp33 k).impl x=(bo33 k x).eval∧(bo33 k x).left=(bo33 k x).right:=⟨by kernel_rfl,by kernel_rfl⟩
theorem v33 (k:Nat):Callable Try.prog 33∧Valid Try.prog 33 (sp33 k) :=
 fn_of (n:=lim33) (fn:=Try.f33) (p:=.go) (cfg33_ok k) (by kernel_rfl) (planOK_go _) (vv33 k)
def F58_0 (k:Nat):Nat→(List (List Bool))→Int→Int→TY33→Option ((Unit×Unit)⊕TY78)
 |0,_,_,_,_=>none
 |n+1,t1,t2,t7,c3 =>
  if 0≤t2∧t2<(length c3.1:Int) then
  if 0≤(getD c3.1 (toNat t2) (0:Int))∧(getD c3.1 (toNat t2) (0:Int))<(length t1:Int) then
  let x5:=(getD t1 (toNat (getD c3.1 (toNat t2) (0:Int))) ([]:(List Bool)))
  let x6:=(decide (t7<(length x5:Int)))
  bif x6 then
  if 0≤t2∧t2<(length c3.1:Int) then
  if 0≤(getD c3.1 (toNat t2) (0:Int))∧(getD c3.1 (toNat t2) (0:Int))<(length t1:Int) then
  let x7:=(getD t1 (toNat (getD c3.1 (toNat t2) (0:Int))) ([]:(List Bool)))
  if 0≤t7∧t7<(length x7:Int) then
  bif (getD x7 (toNat t7) false) then
  some (.inr ((true,()),()))
  else
  (F58_0 k n t1 t2 (wrap .i64 (t7+(1:Int))) c3).bind some
  else none
  else none
  else none
  else
  some (.inl ((),()))
  else none
  else none
def sq58_0:Shape:=⟨[],[(1,.val KD56),(2,.val (.int .i64)),(3,.ptr 3 []),(7,.val (.int .i64))],[(3,some 65,KD15)]⟩
def fu58_0 (k m:Nat) (v:sq58_0.V):=F58_0 k m v.1.1 v.1.2.1 v.1.2.2.1 v.2.1
def fr58_0 (k:Nat):Frag:=⟨sq58_0,[(.exit 0,⟨[],[],[]⟩),(.ret,⟨[],[(6,.val .bool)],[]⟩)],fu58_0 k k⟩
def F58 (k:Nat) (a0:TY33) (a1:(List (List Bool))) (a2:Int):Option TY78 :=
 if 0≤a2∧a2<(length a0.1:Int) then
 let x1:=(decide ((getD a0.1 (toNat a2) (0:Int))<(0:Int)))
 bif x1 then
 some ((true,()),())
 else
 (F58_0 k k a1 a2 (0:Int) a0).bind fun r8 =>
 match r8 with
 |.inl r9 =>
  some ((false,()),())
 |.inr r9 =>
  some ((r9.1.1,()),())
 else none
def sp58 (k:Nat):Spec:=⟨[.val KD15,.val KD56,.val (.int .i64)],[.val .bool],fun x=>F58 k x.1 x.2.1 x.2.2.1⟩
def lim58:Lim:=⟨38,3,false,false,[],[]⟩
def cfg58 (k:Nat):Nat→Option Spec:=cfgL []
noncomputable def co58_0:Code:=codeAt (bodyOf Try.f58) [.r,.r,.l,.r,.s]
noncomputable def cb58_0:Code:=codeAt (bodyOf Try.f58) [.r,.r,.l,.r,.s,.b]
noncomputable def co58:Code:=codeAt (bodyOf Try.f58) []
theorem cfg58_ok (k:Nat):CfgOK Try.prog (cfg58 k):=cfgL_nil
noncomputable def bo58_0 (k m:Nat) (v:sq58_0.V):=body Try.prog (stepper Try.prog (cfg58 k) lim58) .go cb58_0 (sq58_0.st v) (loopK (fr58_0 k) (fu58_0 k m))
theorem pp58_0 (k m:Nat) (v:sq58_0.V):fu58_0 k (m+1) v=(bo58_0 k m v).eval∧(bo58_0 k m v).left=(bo58_0 k m v).right:=⟨by kernel_rfl,by kernel_rfl⟩
theorem fr58_0_ok (k:Nat):FragOK Try.prog lim58 (fr58_0 k) co58_0 :=
 frag_cast (by kernel_rfl) (loop_ok (cfg58_ok k) (planOK_go _) (fu58_0 k) k (fun _=>rfl) (fun _=>rfl) (pp58_0 k))
def pl58 (k:Nat):Plan:=(.seq .go (.seq .go (.seq (.seq .go (.sub (.frag (fr58_0 k)))) .go)))
noncomputable def bo58 (k:Nat) (x:AT (sp58 k).ps):=fnT Try.prog (cfg58 k) lim58 Try.f58 (bodyOf Try.f58) (pl58 k) (sp58 k) x
theorem vv58 (k:Nat) (x:AT (sp58 k).ps):(sp58 k).impl x=(bo58 k x).eval∧(bo58 k x).left=(bo58 k x).right:=⟨by kernel_rfl,by kernel_rfl⟩
theorem v58 (k:Nat):Callable Try.prog 58∧Valid Try.prog 58 (sp58 k) :=
 fn_of (n:=lim58) (fn:=Try.f58) (p:=(pl58 k)) (cfg58_ok k) (by kernel_rfl) (plan_of (L:=[(fr58_0 k,co58_0)]) (by kernel_rfl) (.cons (fr58_0_ok k) .nil)) (vv58 k)
def F34_0 (k:Nat):Nat→(List (List Bool))→Int→Int→TY33→TY33→(List Bool)→(List Bool)→(List Bool)→Option (((Int×Unit)×TY12))
 |0,_,_,_,_,_,_,_,_=>none
 |n+1,t1,t5,t9,c2,c4,c22,c24,c26 =>
  bif (decide (t9<t5)) then
  (F58 k c2 t1 t9).bind fun r13 =>
  if 0≤t9∧t9<(length c26:Int) then
  if 0≤t9∧t9<(length (List.set c26 (toNat t9) r13.1.1):Int) then
  let x14:=(getD (List.set c26 (toNat t9) r13.1.1) (toNat t9) false)
  bif x14 then
  if 0≤t9∧t9<(length c2.2.1:Int) then
  let x15:=(decide ((getD c2.2.1 (toNat t9) (0:Int))<(1152921504606846976:Int)))
  if 0≤t9∧t9<(length (List.set c26 (toNat t9) r13.1.1):Int) then
  let x16:=(getD (List.set c26 (toNat t9) r13.1.1) (toNat t9) false)
  bif x16 then
  if 0≤t9∧t9<(length c2.2.2.1:Int) then
  let x17:=(getD c2.2.2.1 (toNat t9) (0:Int))
  if 0≤t9∧t9<(length c22:Int) then
  if 0≤t9∧t9<(length c24:Int) then
  let x18:=(List.set c24 (toNat t9) (decide (x17<(1152921504606846976:Int))))
  (F34_0 k n t1 t5 (wrap .i64 (t9+(1:Int))) c2 c4 (List.set c22 (toNat t9) x15) x18 (List.set c26 (toNat t9) r13.1.1)).bind some
  else none
  else none
  else none
  else
  if 0≤t9∧t9<(length c22:Int) then
  if 0≤t9∧t9<(length c24:Int) then
  (F34_0 k n t1 t5 (wrap .i64 (t9+(1:Int))) c2 c4 (List.set c22 (toNat t9) x15) (List.set c24 (toNat t9) false) (List.set c26 (toNat t9) r13.1.1)).bind some
  else none
  else none
  else none
  else none
  else
  if 0≤t9∧t9<(length (List.set c26 (toNat t9) r13.1.1):Int) then
  let x19:=(getD (List.set c26 (toNat t9) r13.1.1) (toNat t9) false)
  bif x19 then
  if 0≤t9∧t9<(length c2.2.2.1:Int) then
  let x20:=(getD c2.2.2.1 (toNat t9) (0:Int))
  if 0≤t9∧t9<(length c22:Int) then
  if 0≤t9∧t9<(length c24:Int) then
  let x21:=(List.set c24 (toNat t9) (decide (x20<(1152921504606846976:Int))))
  (F34_0 k n t1 t5 (wrap .i64 (t9+(1:Int))) c2 c4 (List.set c22 (toNat t9) false) x21 (List.set c26 (toNat t9) r13.1.1)).bind some
  else none
  else none
  else none
  else
  if 0≤t9∧t9<(length c22:Int) then
  if 0≤t9∧t9<(length c24:Int) then
  (F34_0 k n t1 t5 (wrap .i64 (t9+(1:Int))) c2 c4 (List.set c22 (toNat t9) false) (List.set c24 (toNat t9) false) (List.set c26 (toNat t9) r13.1.1)).bind some
  else none
  else none
  else none
  else none
  else none
  else
  some ((t5,()),(c2,c4,c22,c24,c26,()))
def sq34_0:Shape:=⟨[],[(1,.val KD56),(2,.ptr 2 []),(4,.ptr 4 []),(5,.val (.int .i64)),(6,.at 22 []),(7,.at 24 []),(8,.at 26 []),(9,.val (.int .i64))],[(2,some 65,KD15),(4,some 65,KD16),(22,none,KD77),(24,none,KD77),(26,none,KD77)]⟩
def fu34_0 (k m:Nat) (v:sq34_0.V):=F34_0 k m v.1.1 v.1.2.1 v.1.2.2.1 v.2.1 v.2.2.1 v.2.2.2.1 v.2.2.2.2.1 v.2.2.2.2.2.1
def fr34_0 (k:Nat):Frag:=⟨sq34_0,[(.exit 0,⟨[],[(2,.ptr 2 []),(4,.ptr 4 []),(5,.val (.int .i64)),(6,.at 22 []),(7,.at 24 []),(8,.at 26 [])],[(2,some 65,KD15),(4,some 65,KD16),(22,none,KD77),(24,none,KD77),(26,none,KD77)]⟩)],fu34_0 k k⟩
def F34_1 (k:Nat):Nat→Int→Bool→Int→TY33→TY33→(List Bool)→(List Bool)→(List Bool)→Option (((Int×Bool×Unit)×TY12))
 |0,_,_,_,_,_,_,_,_=>none
 |n+1,t5,t10,t11,c2,c4,c22,c24,c26 =>
  let x31:=(decide (t11<(length c2.2.2.2.1:Int)))
  bif x31 then
  if 0≤t11∧t11<(length c2.2.2.2.1:Int) then
  let x32:=(getD c2.2.2.2.1 (toNat t11) ((0:Int),((0:Int),((0:Int),()))))
  if 0≤x32.1∧x32.1<(length c22:Int) then
  bif (getD c22 (toNat x32.1) false) then
  if 0≤x32.2.1∧x32.2.1<(length c26:Int) then
  bif (getD c26 (toNat x32.2.1) false) then
  if 0≤x32.2.1∧x32.2.1<(length c22:Int) then
  bif (!(getD c22 (toNat x32.2.1) false)) then
  if 0≤x32.2.1∧x32.2.1<(length c22:Int) then
  if 0≤x32.2.1∧x32.2.1<(length c24:Int) then
  bif (getD c24 (toNat x32.2.1) false) then
  if 0≤x32.1∧x32.1<(length c26:Int) then
  bif (getD c26 (toNat x32.1) false) then
  if 0≤x32.1∧x32.1<(length c24:Int) then
  bif (!(getD c24 (toNat x32.1) false)) then
  if 0≤x32.1∧x32.1<(length c24:Int) then
  (F34_1 k n t5 true (wrap .i64 (t11+(1:Int))) c2 c4 (List.set c22 (toNat x32.2.1) true) (List.set c24 (toNat x32.1) true) c26).bind some
  else none
  else
  (F34_1 k n t5 true (wrap .i64 (t11+(1:Int))) c2 c4 (List.set c22 (toNat x32.2.1) true) c24 c26).bind some
  else none
  else
  (F34_1 k n t5 true (wrap .i64 (t11+(1:Int))) c2 c4 (List.set c22 (toNat x32.2.1) true) c24 c26).bind some
  else none
  else
  (F34_1 k n t5 true (wrap .i64 (t11+(1:Int))) c2 c4 (List.set c22 (toNat x32.2.1) true) c24 c26).bind some
  else none
  else none
  else
  if 0≤x32.2.1∧x32.2.1<(length c24:Int) then
  bif (getD c24 (toNat x32.2.1) false) then
  if 0≤x32.1∧x32.1<(length c26:Int) then
  bif (getD c26 (toNat x32.1) false) then
  if 0≤x32.1∧x32.1<(length c24:Int) then
  bif (!(getD c24 (toNat x32.1) false)) then
  if 0≤x32.1∧x32.1<(length c24:Int) then
  (F34_1 k n t5 true (wrap .i64 (t11+(1:Int))) c2 c4 c22 (List.set c24 (toNat x32.1) true) c26).bind some
  else none
  else
  (F34_1 k n t5 t10 (wrap .i64 (t11+(1:Int))) c2 c4 c22 c24 c26).bind some
  else none
  else
  (F34_1 k n t5 t10 (wrap .i64 (t11+(1:Int))) c2 c4 c22 c24 c26).bind some
  else none
  else
  (F34_1 k n t5 t10 (wrap .i64 (t11+(1:Int))) c2 c4 c22 c24 c26).bind some
  else none
  else none
  else
  if 0≤x32.2.1∧x32.2.1<(length c24:Int) then
  bif (getD c24 (toNat x32.2.1) false) then
  if 0≤x32.1∧x32.1<(length c26:Int) then
  bif (getD c26 (toNat x32.1) false) then
  if 0≤x32.1∧x32.1<(length c24:Int) then
  bif (!(getD c24 (toNat x32.1) false)) then
  if 0≤x32.1∧x32.1<(length c24:Int) then
  (F34_1 k n t5 true (wrap .i64 (t11+(1:Int))) c2 c4 c22 (List.set c24 (toNat x32.1) true) c26).bind some
  else none
  else
  (F34_1 k n t5 t10 (wrap .i64 (t11+(1:Int))) c2 c4 c22 c24 c26).bind some
  else none
  else
  (F34_1 k n t5 t10 (wrap .i64 (t11+(1:Int))) c2 c4 c22 c24 c26).bind some
  else none
  else
  (F34_1 k n t5 t10 (wrap .i64 (t11+(1:Int))) c2 c4 c22 c24 c26).bind some
  else none
  else none
  else
  if 0≤x32.2.1∧x32.2.1<(length c24:Int) then
  bif (getD c24 (toNat x32.2.1) false) then
  if 0≤x32.1∧x32.1<(length c26:Int) then
  bif (getD c26 (toNat x32.1) false) then
  if 0≤x32.1∧x32.1<(length c24:Int) then
  bif (!(getD c24 (toNat x32.1) false)) then
  if 0≤x32.1∧x32.1<(length c24:Int) then
  (F34_1 k n t5 true (wrap .i64 (t11+(1:Int))) c2 c4 c22 (List.set c24 (toNat x32.1) true) c26).bind some
  else none
  else
  (F34_1 k n t5 t10 (wrap .i64 (t11+(1:Int))) c2 c4 c22 c24 c26).bind some
  else none
  else
  (F34_1 k n t5 t10 (wrap .i64 (t11+(1:Int))) c2 c4 c22 c24 c26).bind some
  else none
  else
  (F34_1 k n t5 t10 (wrap .i64 (t11+(1:Int))) c2 c4 c22 c24 c26).bind some
  else none
  else none
  else none
  else
  some ((t5,t10,()),(c2,c4,c22,c24,c26,()))
def sq34_1:Shape:=⟨[],[(2,.ptr 2 []),(4,.ptr 4 []),(5,.val (.int .i64)),(6,.at 22 []),(7,.at 24 []),(8,.at 26 []),(10,.val .bool),(11,.val (.int .i64))],[(2,some 65,KD15),(4,some 65,KD16),(22,none,KD77),(24,none,KD77),(26,none,KD77)]⟩
def fu34_1 (k m:Nat) (v:sq34_1.V):=F34_1 k m v.1.1 v.1.2.1 v.1.2.2.1 v.2.1 v.2.2.1 v.2.2.2.1 v.2.2.2.2.1 v.2.2.2.2.2.1
def fr34_1 (k:Nat):Frag:=⟨sq34_1,[(.exit 4,⟨[],[(2,.ptr 2 []),(4,.ptr 4 []),(5,.val (.int .i64)),(6,.at 22 []),(7,.at 24 []),(8,.at 26 []),(10,.val .bool)],[(2,some 65,KD15),(4,some 65,KD16),(22,none,KD77),(24,none,KD77),(26,none,KD77)]⟩)],fu34_1 k k⟩
def F34_2 (k:Nat):Nat→Int→Bool→TY33→TY33→(List Bool)→(List Bool)→(List Bool)→Option (((Int×Unit)×(TY33×TY33×(List Bool)×(List Bool)×Unit)))
 |0,_,_,_,_,_,_,_=>none
 |n+1,t5,t10,c2,c4,c22,c24,c26 =>
  bif t10 then
  (F34_1 k k t5 false (0:Int) c2 c4 c22 c24 c26).bind fun r41 =>
  (F34_2 k n r41.1.1 r41.1.2.1 r41.2.1 r41.2.2.1 r41.2.2.2.1 r41.2.2.2.2.1 r41.2.2.2.2.2.1).bind some
  else
  some ((t5,()),(c2,c4,c22,c24,()))
def sq34_2:Shape:=⟨[],[(2,.ptr 2 []),(4,.ptr 4 []),(5,.val (.int .i64)),(6,.at 22 []),(7,.at 24 []),(8,.at 26 []),(10,.val .bool)],[(2,some 65,KD15),(4,some 65,KD16),(22,none,KD77),(24,none,KD77),(26,none,KD77)]⟩
def fu34_2 (k m:Nat) (v:sq34_2.V):=F34_2 k m v.1.1 v.1.2.1 v.2.1 v.2.2.1 v.2.2.2.1 v.2.2.2.2.1 v.2.2.2.2.2.1
def fr34_2 (k:Nat):Frag:=⟨sq34_2,[(.exit 2,⟨[],[(2,.ptr 2 []),(4,.ptr 4 []),(5,.val (.int .i64)),(6,.at 22 []),(7,.at 24 [])],[(2,some 65,KD15),(4,some 65,KD16),(22,none,KD77),(24,none,KD77)]⟩)],fu34_2 k k⟩
def F34_3 (k:Nat):Nat→Int→Int→TY33→TY33→TY33→(List Bool)→(List Bool)→(List Int)→Option ((Unit×(TY33×TY33×TY33×(List Int)×Unit)))
 |0,_,_,_,_,_,_,_,_=>none
 |n+1,t5,t15,c2,c4,c13,c22,c24,c134 =>
  bif (decide (t15<t5)) then
  if 0≤t15∧t15<(length c134:Int) then
  if 0≤t15∧t15<(length c22:Int) then
  bif (getD c22 (toNat t15) false) then
  if 0≤t15∧t15<(length c24:Int) then
  bif (getD c24 (toNat t15) false) then
  if 0≤t15∧t15<(length (List.set c134 (toNat t15) (-1:Int)):Int) then
  let x60:=(List.set (List.set c134 (toNat t15) (-1:Int)) (toNat t15) (length c13.1:Int))
  if 0≤t15∧t15<(length c2.1:Int) then
  if 0≤t15∧t15<(length c2.2.1:Int) then
  if 0≤t15∧t15<(length c2.2.2.1:Int) then
  let x61:=(getD c2.2.2.1 (toNat t15) (0:Int))
  let x62:=(List.set (replicate 1 (0:Int)) 0 (getD c2.1 (toNat t15) (0:Int)))
  if (length c13.1+length x62)*(8*2)≤281474976710656∧length c13.1+length x62≤9223372036854775807 then
  let x63:=(List.set (replicate 1 (0:Int)) 0 (getD c2.2.1 (toNat t15) (0:Int)))
  if (length c13.2.1+length x63)*(8*2)≤281474976710656∧length c13.2.1+length x63≤9223372036854775807 then
  let x64:=(List.set (replicate 1 (0:Int)) 0 x61)
  if (length c13.2.2.1+length x64)*(8*2)≤281474976710656∧length c13.2.2.1+length x64≤9223372036854775807 then
  (F34_3 k n t5 (wrap .i64 (t15+(1:Int))) c2 c4 ((c13.1++x62),((c13.2.1++x63),((c13.2.2.1++x64),c13.2.2.2))) c22 c24 x60).bind some
  else none
  else none
  else none
  else none
  else none
  else none
  else none
  else
  (F34_3 k n t5 (wrap .i64 (t15+(1:Int))) c2 c4 c13 c22 c24 (List.set c134 (toNat t15) (-1:Int))).bind some
  else none
  else
  (F34_3 k n t5 (wrap .i64 (t15+(1:Int))) c2 c4 c13 c22 c24 (List.set c134 (toNat t15) (-1:Int))).bind some
  else none
  else none
  else
  some ((),(c2,c4,c13,c134,()))
def sq34_3:Shape:=⟨[],[(2,.ptr 2 []),(4,.ptr 4 []),(5,.val (.int .i64)),(6,.at 22 []),(7,.at 24 []),(13,.ptr 13 []),(14,.at 134 []),(15,.val (.int .i64))],[(2,some 65,KD15),(4,some 65,KD16),(13,some 65,KD16),(22,none,KD77),(24,none,KD77),(134,none,KD71)]⟩
def fu34_3 (k m:Nat) (v:sq34_3.V):=F34_3 k m v.1.1 v.1.2.1 v.2.1 v.2.2.1 v.2.2.2.1 v.2.2.2.2.1 v.2.2.2.2.2.1 v.2.2.2.2.2.2.1
def fr34_3 (k:Nat):Frag:=⟨sq34_3,[(.exit 6,⟨[],[(2,.ptr 2 []),(4,.ptr 4 []),(13,.ptr 13 []),(14,.at 134 [])],[(2,some 65,KD15),(4,some 65,KD16),(13,some 65,KD16),(134,none,KD71)]⟩)],fu34_3 k k⟩
def F34_4 (k:Nat):Nat→Int→TY33→TY33→TY33→(List Int)→Option TY17
 |0,_,_,_,_,_=>none
 |n+1,t16,c2,c4,c13,c134 =>
  let x76:=(decide (t16<(length c2.2.2.2.1:Int)))
  bif x76 then
  if 0≤t16∧t16<(length c2.2.2.2.1:Int) then
  let x77:=(getD c2.2.2.2.1 (toNat t16) ((0:Int),((0:Int),((0:Int),()))))
  if 0≤x77.1∧x77.1<(length c134:Int) then
  let x78:=(decide ((getD c134 (toNat x77.1) (0:Int))≥(0:Int)))
  bif x78 then
  if 0≤x77.2.1∧x77.2.1<(length c134:Int) then
  let x79:=(getD c134 (toNat x77.2.1) (0:Int))
  bif (decide (x79≥(0:Int))) then
  if 0≤x77.1∧x77.1<(length c134:Int) then
  if 0≤x77.2.1∧x77.2.1<(length c134:Int) then
  let x80:=(getD c134 (toNat x77.2.1) (0:Int))
  let x81:=(List.set (replicate 1 ((0:Int),((0:Int),((0:Int),())))) 0 ((getD c134 (toNat x77.1) (0:Int)),(x80,(x77.2.2.1,()))))
  if (length c13.2.2.2.1+length x81)*(24*2)≤281474976710656∧length c13.2.2.2.1+length x81≤9223372036854775807 then
  (F34_4 k n (wrap .i64 (t16+(1:Int))) c2 c4 (c13.1,(c13.2.1,(c13.2.2.1,((c13.2.2.2.1++x81),c13.2.2.2.2)))) c134).bind some
  else none
  else none
  else none
  else
  (F34_4 k n (wrap .i64 (t16+(1:Int))) c2 c4 c13 c134).bind some
  else none
  else
  (F34_4 k n (wrap .i64 (t16+(1:Int))) c2 c4 c13 c134).bind some
  else none
  else none
  else
  some ((),(c4,c13,()))
def sq34_4:Shape:=⟨[],[(2,.ptr 2 []),(4,.ptr 4 []),(13,.ptr 13 []),(14,.at 134 []),(16,.val (.int .i64))],[(2,some 65,KD15),(4,some 65,KD16),(13,some 65,KD16),(134,none,KD71)]⟩
def fu34_4 (k m:Nat) (v:sq34_4.V):=F34_4 k m v.1.1 v.2.1 v.2.2.1 v.2.2.2.1 v.2.2.2.2.1
def fr34_4 (k:Nat):Frag:=⟨sq34_4,[(.exit 8,⟨[],[(4,.ptr 4 []),(13,.ptr 13 [])],[(4,some 65,KD16),(13,some 65,KD16)]⟩)],fu34_4 k k⟩
def F34 (k:Nat) (a0:TY33) (a1:(List (List Bool))):Option TY27 :=
 if (0≤(length a0.1:Int)∧(length a0.1:Int)<(length a0.1:Int)+1)∧(length a0.1:Int)≤9223372036854775807∧((1:Nat):Int)*(length a0.1:Int)≤281474976710656 then
 let x1:=(replicate (toNat (length a0.1:Int)) false)
 if (0≤(length a0.1:Int)∧(length a0.1:Int)<(length a0.1:Int)+1)∧(length a0.1:Int)≤9223372036854775807∧((1:Nat):Int)*(length a0.1:Int)≤281474976710656 then
 let x2:=(replicate (toNat (length a0.1:Int)) false)
 if (0≤(length a0.1:Int)∧(length a0.1:Int)<(length a0.1:Int)+1)∧(length a0.1:Int)≤9223372036854775807∧((1:Nat):Int)*(length a0.1:Int)≤281474976710656 then
 let x3:=(replicate (toNat (length a0.1:Int)) false)
 (F34_0 k k a1 (length a0.1:Int) (0:Int) a0 (([]:(List Int)),(([]:(List Int)),(([]:(List Int)),(([]:TY62),((0:Int),()))))) x1 x2 x3).bind fun r22 =>
 (F34_2 k k r22.1.1 true r22.2.1 r22.2.2.1 r22.2.2.2.1 r22.2.2.2.2.1 r22.2.2.2.2.2.1).bind fun r49 =>
 let y50:=r49.1.1
 if (0≤y50∧y50<y50+1)∧y50≤9223372036854775807∧((8:Nat):Int)*y50≤281474976710656 then
 (F34_3 k k y50 (0:Int) r49.2.1 r49.2.2.1 (([]:(List Int)),(([]:(List Int)),(([]:(List Int)),(([]:TY62),(r49.2.1.2.2.2.2.1,()))))) r49.2.2.2.1 r49.2.2.2.2.1 (replicate (toNat y50) (0:Int))).bind fun r65 =>
 (F34_4 k k (0:Int) r65.2.1 r65.2.2.1 r65.2.2.2.1 r65.2.2.2.2.1).bind fun r82 =>
 some ((r82.2.2.1,()),())
 else none
 else none
 else none
 else none
def sp34 (k:Nat):Spec:=⟨[.val KD15,.val KD56],[.own KD16],fun x=>F34 k x.1 x.2.1⟩
def lim34:Lim:=⟨234,2,false,false,[],[]⟩
def cfg34 (k:Nat):Nat→Option Spec:=cfgL [(58,sp58 k)]
noncomputable def co34_0:Code:=codeAt (bodyOf Try.f34) [.r,.r,.r,.r,.l,.r,.s]
noncomputable def cb34_0:Code:=codeAt (bodyOf Try.f34) [.r,.r,.r,.r,.l,.r,.s,.b]
noncomputable def co34_1:Code:=codeAt (bodyOf Try.f34) [.r,.r,.r,.r,.r,.l,.r,.s,.b,.r,.s,.r,.r,.s]
noncomputable def cb34_1:Code:=codeAt (bodyOf Try.f34) [.r,.r,.r,.r,.r,.l,.r,.s,.b,.r,.s,.r,.r,.s,.b]
noncomputable def co34_2:Code:=codeAt (bodyOf Try.f34) [.r,.r,.r,.r,.r,.l,.r,.s]
noncomputable def cb34_2:Code:=codeAt (bodyOf Try.f34) [.r,.r,.r,.r,.r,.l,.r,.s,.b]
noncomputable def co34_3:Code:=codeAt (bodyOf Try.f34) [.r,.r,.r,.r,.r,.r,.r,.r,.l,.r,.s]
noncomputable def cb34_3:Code:=codeAt (bodyOf Try.f34) [.r,.r,.r,.r,.r,.r,.r,.r,.l,.r,.s,.b]
noncomputable def co34_4:Code:=codeAt (bodyOf Try.f34) [.r,.r,.r,.r,.r,.r,.r,.r,.r,.l,.r,.s]
noncomputable def cb34_4:Code:=codeAt (bodyOf Try.f34) [.r,.r,.r,.r,.r,.r,.r,.r,.r,.l,.r,.s,.b]
noncomputable def co34:Code:=codeAt (bodyOf Try.f34) []
theorem cfg34_ok (k:Nat):CfgOK Try.prog (cfg34 k):=cfgL_cons (v58 k) (cfgL_nil)
noncomputable def bo34_0 (k m:Nat) (v:sq34_0.V):=body Try.prog (stepper Try.prog (cfg34 k) lim34) .go cb34_0 (sq34_0.st v) (loopK (fr34_0 k) (fu34_0 k m))
theorem pp34_0 (k m:Nat) (v:sq34_0.V):fu34_0 k (m+1) v=(bo34_0 k m v).eval∧(bo34_0 k m v).left=(bo34_0 k m v).right:=⟨by kernel_rfl,by kernel_rfl⟩
theorem fr34_0_ok (k:Nat):FragOK Try.prog lim34 (fr34_0 k) co34_0 :=
 frag_cast (by kernel_rfl) (loop_ok (cfg34_ok k) (planOK_go _) (fu34_0 k) k (fun _=>rfl) (fun _=>rfl) (pp34_0 k))
noncomputable def bo34_1 (k m:Nat) (v:sq34_1.V):=body Try.prog (stepper Try.prog (cfg34 k) lim34) .go cb34_1 (sq34_1.st v) (loopK (fr34_1 k) (fu34_1 k m))
theorem pp34_1 (k m:Nat) (v:sq34_1.V):fu34_1 k (m+1) v=(bo34_1 k m v).eval∧(bo34_1 k m v).left=(bo34_1 k m v).right:=⟨by kernel_rfl,by kernel_rfl⟩
theorem fr34_1_ok (k:Nat):FragOK Try.prog lim34 (fr34_1 k) co34_1 :=
 frag_cast (by kernel_rfl) (loop_ok (cfg34_ok k) (planOK_go _) (fu34_1 k) k (fun _=>rfl) (fun _=>rfl) (pp34_1 k))
def pl34_2 (k:Nat):Plan:=(.seq .go (.sub (.seq .go (.seq .go (.sub (.frag (fr34_1 k)))))))
noncomputable def bo34_2 (k m:Nat) (v:sq34_2.V):=body Try.prog (stepper Try.prog (cfg34 k) lim34) (pl34_2 k) cb34_2 (sq34_2.st v) (loopK (fr34_2 k) (fu34_2 k m))
theorem pp34_2 (k m:Nat) (v:sq34_2.V):fu34_2 k (m+1) v=(bo34_2 k m v).eval∧(bo34_2 k m v).left=(bo34_2 k m v).right:=⟨by kernel_rfl,by kernel_rfl⟩
theorem fr34_2_ok (k:Nat):FragOK Try.prog lim34 (fr34_2 k) co34_2 :=
 frag_cast (by kernel_rfl) (loop_ok (cfg34_ok k) (plan_of (L:=[(fr34_1 k,co34_1)]) (by kernel_rfl) (.cons (fr34_1_ok k) .nil)) (fu34_2 k) k (fun _=>rfl) (fun _=>rfl) (pp34_2 k))
noncomputable def bo34_3 (k m:Nat) (v:sq34_3.V):=body Try.prog (stepper Try.prog (cfg34 k) lim34) .go cb34_3 (sq34_3.st v) (loopK (fr34_3 k) (fu34_3 k m))
theorem pp34_3 (k m:Nat) (v:sq34_3.V):fu34_3 k (m+1) v=(bo34_3 k m v).eval∧(bo34_3 k m v).left=(bo34_3 k m v).right:=⟨by kernel_rfl,by kernel_rfl⟩
theorem fr34_3_ok (k:Nat):FragOK Try.prog lim34 (fr34_3 k) co34_3 :=
 frag_cast (by kernel_rfl) (loop_ok (cfg34_ok k) (planOK_go _) (fu34_3 k) k (fun _=>rfl) (fun _=>rfl) (pp34_3 k))
noncomputable def bo34_4 (k m:Nat) (v:sq34_4.V):=body Try.prog (stepper Try.prog (cfg34 k) lim34) .go cb34_4 (sq34_4.st v) (loopK (fr34_4 k) (fu34_4 k m))
theorem pp34_4 (k m:Nat) (v:sq34_4.V):fu34_4 k (m+1) v=(bo34_4 k m v).eval∧(bo34_4 k m v).left=(bo34_4 k m v).right:=⟨by kernel_rfl,by kernel_rfl⟩
theorem fr34_4_ok (k:Nat):FragOK Try.prog lim34 (fr34_4 k) co34_4 :=
 frag_cast (by kernel_rfl) (loop_ok (cfg34_ok k) (planOK_go _) (fu34_4 k) k (fun _=>rfl) (fun _=>rfl) (pp34_4 k))
def pl34 (k:Nat):Plan:=(.seq .go (.seq .go (.seq .go (.seq .go (.seq (.seq .go (.sub (.frag (fr34_0 k)))) (.seq (.seq .go (.sub (.frag (fr34_2 k)))) (.seq .go (.seq .go (.seq (.seq .go (.sub (.frag (fr34_3 k)))) (.seq (.seq .go (.sub (.frag (fr34_4 k)))) .go))))))))))
noncomputable def bo34 (k:Nat) (x:AT (sp34 k).ps):=fnT Try.prog (cfg34 k) lim34 Try.f34 (bodyOf Try.f34) (pl34 k) (sp34 k) x
theorem vv34 (k:Nat) (x:AT (sp34 k).ps):(sp34 k).impl x=(bo34 k x).eval∧(bo34 k x).left=(bo34 k x).right:=⟨by kernel_rfl,by kernel_rfl⟩
theorem v34 (k:Nat):Callable Try.prog 34∧Valid Try.prog 34 (sp34 k) :=
 fn_of (n:=lim34) (fn:=Try.f34) (p:=(pl34 k)) (cfg34_ok k) (by kernel_rfl) (plan_of (L:=[(fr34_0 k,co34_0),(fr34_2 k,co34_2),(fr34_3 k,co34_3),(fr34_4 k,co34_4)]) (by kernel_rfl) (.cons (fr34_0_ok k) (.cons (fr34_2_ok k) (.cons (fr34_3_ok k) (.cons (fr34_4_ok k) .nil))))) (vv34 k)
def F14_0 (k:Nat):Nat→Int→TY3→TY3→Option ((Unit×(TY3×TY3×Unit))⊕((Bool×Unit)×(TY3×Unit)))
 |0,_,_,_=>none
 |n+1,t10,c6,c8 =>
  let x25:=(decide (t10<(length c8.1.2.1:Int)))
  bif x25 then
  if 0≤t10∧t10<(length c8.1.2.1:Int) then
  let x26:=(getD c8.1.2.1 (toNat t10) ((0:Int),((0:Int),((Tree.mk ((0:Int),((0:Int),((0:Int),((0:Int),(ByteArray.empty,()))))) []),((Tree.mk ((0:Int),((0:Int),((0:Int),((0:Int),(ByteArray.empty,()))))) []),())))))
  (F33 k x26.2.2.1 c8.1).bind fun r27 =>
  if 0≤t10∧t10<(length c8.1.2.1:Int) then
  let x28:=(getD c8.1.2.1 (toNat t10) ((0:Int),((0:Int),((Tree.mk ((0:Int),((0:Int),((0:Int),((0:Int),(ByteArray.empty,()))))) []),((Tree.mk ((0:Int),((0:Int),((0:Int),((0:Int),(ByteArray.empty,()))))) []),())))))
  (F33 k x28.2.2.2.1 c8.1).bind fun r29 =>
  bif (!r27.1.2.1) then
  some (.inr ((false,()),(c8,())))
  else
  bif (!r29.1.2.1) then
  some (.inr ((false,()),(c8,())))
  else
  (F34 k r27.1.1 c8.2.2.2.1).bind fun r30 =>
  let x31:=(List.set (replicate 1 (([]:(List Int)),(([]:(List Int)),(([]:(List Int)),(([]:TY62),((0:Int),())))))) 0 r30.1.1)
  if (length c8.2.2.2.2.1+length x31)*(104*2)≤281474976710656∧length c8.2.2.2.2.1+length x31≤9223372036854775807 then
  (F34 k r29.1.1 c8.2.2.2.1).bind fun r32 =>
  let x33:=(List.set (replicate 1 (([]:(List Int)),(([]:(List Int)),(([]:(List Int)),(([]:TY62),((0:Int),())))))) 0 r32.1.1)
  if (length c8.2.2.2.2.2.1+length x33)*(104*2)≤281474976710656∧length c8.2.2.2.2.2.1+length x33≤9223372036854775807 then
  (F14_0 k n (wrap .i64 (t10+(1:Int))) c6 (c8.1,(c8.2.1,(c8.2.2.1,(c8.2.2.2.1,((c8.2.2.2.2.1++x31),((c8.2.2.2.2.2.1++x33),c8.2.2.2.2.2.2))))))).bind some
  else none
  else none
  else none
  else none
  else
  some (.inl ((),(c6,c8,())))
def sq14_0:Shape:=⟨[],[(6,.ptr 6 []),(8,.ptr 8 []),(10,.val (.int .i64))],[(6,some 33,KD2),(8,some 33,KD1)]⟩
def fu14_0 (k m:Nat) (v:sq14_0.V):=F14_0 k m v.1.1 v.2.1 v.2.2.1
def fr14_0 (k:Nat):Frag:=⟨sq14_0,[(.exit 0,⟨[],[(6,.ptr 6 []),(8,.ptr 8 [])],[(6,some 33,KD2),(8,some 33,KD1)]⟩),(.ret,⟨[],[(6,.ptr 6 []),(7,.val .bool)],[(6,some 33,KD1)]⟩)],fu14_0 k k⟩
def F14 (k:Nat) (a0:TY64) (a1:(List Int)) (a2:(List Int)):Option ((TY3×Bool×Unit)×Unit) :=
 let x1:=([]:TY41)
 let x2:=([]:TY24)
 let x3:=([]:TY29)
 let x4:=([]:TY29)
 (F28 k a0 a1 a2).bind fun r5 =>
 let x6:=([]:TY29)
 let x7:=([]:TY29)
 (F29 k r5.1.1).bind fun r12 =>
 (F30 k r12.1.1).bind fun r13 =>
 (F31 k r12.1.1 r13.1.1 r13.1.2.1).bind fun r14 =>
 (F32 k r13.1.2.1).bind fun r15 =>
 (F14_0 k k (0:Int) ((x1,(x2,())),(([]:(List Int)),(([]:(List Int)),(([]:(List (List Bool))),(x3,(x4,((0:Int),()))))))) (r5.1.1,(r13.1.1,(r13.1.2.1,(r14.1.1,(x6,(x7,(r15.1.1,())))))))).bind fun r34 =>
 match r34 with
 |.inl r35 =>
  some ((r35.2.2.1,true,()),())
 |.inr r35 =>
  some ((r35.2.1,r35.1.1,()),())
def sp14 (k:Nat):Spec:=⟨[.val KD51,.val KD68,.val KD68],[.own KD1,.val .bool],fun x=>F14 k x.1 x.2.1 x.2.2.1⟩
def lim14:Lim:=⟨101,3,false,false,[18,87,95],[(19,KD1)]⟩
def cfg14 (k:Nat):Nat→Option Spec:=cfgL [(28,sp28 k),(29,sp29 k),(30,sp30 k),(31,sp31 k),(32,sp32 k),(33,sp33 k),(34,sp34 k)]
noncomputable def co14_0:Code:=codeAt (bodyOf Try.f14) [.r,.r,.r,.r,.r,.r,.l,.r,.s]
noncomputable def cb14_0:Code:=codeAt (bodyOf Try.f14) [.r,.r,.r,.r,.r,.r,.l,.r,.s,.b]
noncomputable def co14:Code:=codeAt (bodyOf Try.f14) []
theorem cfg14_ok (k:Nat):CfgOK Try.prog (cfg14 k):=cfgL_cons (v28 k) (cfgL_cons (v29 k) (cfgL_cons (v30 k) (cfgL_cons (v31 k) (cfgL_cons (v32 k) (cfgL_cons (v33 k) (cfgL_cons (v34 k) (cfgL_nil)))))))
noncomputable def bo14_0 (k m:Nat) (v:sq14_0.V):=body Try.prog (stepper Try.prog (cfg14 k) lim14) .go cb14_0 (sq14_0.st v) (loopK (fr14_0 k) (fu14_0 k m))
theorem pp14_0 (k m:Nat) (v:sq14_0.V):fu14_0 k (m+1) v=(bo14_0 k m v).eval∧(bo14_0 k m v).left=(bo14_0 k m v).right:=⟨by kernel_rfl,by kernel_rfl⟩
theorem fr14_0_ok (k:Nat):FragOK Try.prog lim14 (fr14_0 k) co14_0 :=
 frag_cast (by kernel_rfl) (loop_ok (cfg14_ok k) (planOK_go _) (fu14_0 k) k (fun _=>rfl) (fun _=>rfl) (pp14_0 k))
def pl14 (k:Nat):Plan:=(.seq .go (.seq .go (.seq .go (.seq .go (.seq .go (.seq .go (.seq (.seq .go (.sub (.frag (fr14_0 k)))) .go)))))))
noncomputable def bo14 (k:Nat) (x:AT (sp14 k).ps):=fnT Try.prog (cfg14 k) lim14 Try.f14 (bodyOf Try.f14) (pl14 k) (sp14 k) x
theorem vv14 (k:Nat) (x:AT (sp14 k).ps):(sp14 k).impl x=(bo14 k x).eval∧(bo14 k x).left=(bo14 k x).right:=⟨by kernel_rfl,by kernel_rfl⟩
theorem v14 (k:Nat):Callable Try.prog 14∧Valid Try.prog 14 (sp14 k) :=
 fn_of (n:=lim14) (fn:=Try.f14) (p:=(pl14 k)) (cfg14_ok k) (by kernel_rfl) (plan_of (L:=[(fr14_0 k,co14_0)]) (by kernel_rfl) (.cons (fr14_0_ok k) .nil)) (vv14 k)
def F47 (k:Nat) (a0:Int) (a1:Int):Option TY79 :=
 if a1≠0 then
 bif (decide ((Int.tmod a0 a1)<(0:Int))) then
 some (((wrap .i64 ((Int.tmod a0 a1)+a1)),()),())
 else
 some (((Int.tmod a0 a1),()),())
 else none
def sp47 (k:Nat):Spec:=⟨[.val (.int .i64),.val (.int .i64)],[.val (.int .i64)],fun x=>F47 k x.1 x.2.1⟩
def lim47:Lim:=⟨15,2,false,false,[],[]⟩
def cfg47 (k:Nat):Nat→Option Spec:=cfgL []
noncomputable def co47:Code:=codeAt (bodyOf Try.f47) []
theorem cfg47_ok (k:Nat):CfgOK Try.prog (cfg47 k):=cfgL_nil
noncomputable def bo47 (k:Nat) (x:AT (sp47 k).ps):=fnT Try.prog (cfg47 k) lim47 Try.f47 (bodyOf Try.f47) .go (sp47 k) x
theorem vv47 (k:Nat) (x:AT (sp47 k).ps):(sp47 k).impl x=(bo47 k x).eval∧(bo47 k x).left=(bo47 k x).right:=⟨by kernel_rfl,by kernel_rfl⟩
theorem v47 (k:Nat):Callable Try.prog 47∧Valid Try.prog 47 (sp47 k) :=
 fn_of (n:=lim47) (fn:=Try.f47) (p:=.go) (cfg47_ok k) (by kernel_rfl) (planOK_go _) (vv47 k)
def F21_0 (k:Nat):Nat→(List Int)→Int→Int→(List Int)→Option TY69
 |0,_,_,_,_=>none
 |n+1,t0,t1,t6,e0 =>
  let x1:=(decide (t6<(length t0:Int)))
  bif x1 then
  bif (decide (t6<t1)) then
  let x2:=(List.set (List.set (List.set (List.set (List.set (List.set (List.set (List.set (List.set (List.set (List.set (List.set (replicate 12 (0:Int)) 0 (97:Int)) 1 (97:Int)) 2 (98:Int)) 3 (99:Int)) 4 (49:Int)) 5 (55:Int)) 6 (32:Int)) 7 (120:Int)) 8 (19969:Int)) 9 (128512:Int)) 10 (45:Int)) 11 (50:Int))
  if 0≤t6∧t6<(length t0:Int) then
  (F47 k (getD t0 (toNat t6) (0:Int)) (12:Int)).bind fun r3 =>
  if 0≤r3.1.1∧r3.1.1<(length x2:Int) then
  let x4:=(List.set (replicate 1 (0:Int)) 0 (getD x2 (toNat r3.1.1) (0:Int)))
  if (length e0+length x4)*(8*2)≤281474976710656∧length e0+length x4≤9223372036854775807 then
  (F21_0 k n t0 t1 (wrap .i64 (t6+(1:Int))) (e0++x4)).bind some
  else none
  else none
  else none
  else
  some ((),(e0,()))
  else
  some ((),(e0,()))
def sq21_0:Shape:=⟨[(5,KD71)],[(0,.val KD68),(1,.val (.int .i64)),(5,.at 2000005 []),(6,.val (.int .i64))],[(2000005,none,KD71)]⟩
def fu21_0 (k m:Nat) (v:sq21_0.V):=F21_0 k m v.1.1 v.1.2.1 v.1.2.2.1 v.2.1
def fr21_0 (k:Nat):Frag:=⟨sq21_0,[(.exit 0,⟨[(5,KD71)],[(5,.at 2000005 [])],[(2000005,none,KD71)]⟩)],fu21_0 k k⟩
def F21 (k:Nat) (a0:(List Int)) (a1:Int):Option TY73 :=
 (F21_0 k k a0 a1 (0:Int) []).bind fun r5 =>
 some ((r5.2.1,()),())
def sp21 (k:Nat):Spec:=⟨[.val KD68,.val (.int .i64)],[.own KD71],fun x=>F21 k x.1 x.2.1⟩
def lim21:Lim:=⟨30,2,false,false,[],[]⟩
def cfg21 (k:Nat):Nat→Option Spec:=cfgL [(47,sp47 k)]
noncomputable def co21_0:Code:=codeAt (bodyOf Try.f21) [.r,.r,.l,.r,.s]
noncomputable def cb21_0:Code:=codeAt (bodyOf Try.f21) [.r,.r,.l,.r,.s,.b]
noncomputable def co21:Code:=codeAt (bodyOf Try.f21) []
theorem cfg21_ok (k:Nat):CfgOK Try.prog (cfg21 k):=cfgL_cons (v47 k) (cfgL_nil)
noncomputable def bo21_0 (k m:Nat) (v:sq21_0.V):=body Try.prog (stepper Try.prog (cfg21 k) lim21) .go cb21_0 (sq21_0.st v) (loopK (fr21_0 k) (fu21_0 k m))
theorem pp21_0 (k m:Nat) (v:sq21_0.V):fu21_0 k (m+1) v=(bo21_0 k m v).eval∧(bo21_0 k m v).left=(bo21_0 k m v).right:=⟨by kernel_rfl,by kernel_rfl⟩
theorem fr21_0_ok (k:Nat):FragOK Try.prog lim21 (fr21_0 k) co21_0 :=
 frag_cast (by kernel_rfl) (loop_ok (cfg21_ok k) (planOK_go _) (fu21_0 k) k (fun _=>rfl) (fun _=>rfl) (pp21_0 k))
def pl21 (k:Nat):Plan:=(.seq .go (.seq .go (.seq (.seq .go (.sub (.frag (fr21_0 k)))) .go)))
noncomputable def bo21 (k:Nat) (x:AT (sp21 k).ps):=fnT Try.prog (cfg21 k) lim21 Try.f21 (bodyOf Try.f21) (pl21 k) (sp21 k) x
theorem vv21 (k:Nat) (x:AT (sp21 k).ps):(sp21 k).impl x=(bo21 k x).eval∧(bo21 k x).left=(bo21 k x).right:=⟨by kernel_rfl,by kernel_rfl⟩
theorem v21 (k:Nat):Callable Try.prog 21∧Valid Try.prog 21 (sp21 k) :=
 fn_of (n:=lim21) (fn:=Try.f21) (p:=(pl21 k)) (cfg21_ok k) (by kernel_rfl) (plan_of (L:=[(fr21_0 k,co21_0)]) (by kernel_rfl) (.cons (fr21_0_ok k) .nil)) (vv21 k)
def F46_0 (k:Nat):Nat→(List Int)→(List Int)→Int→Int→Option ((((List Int)×Int×Unit)×Unit))
 |0,_,_,_,_=>none
 |n+1,t0,t1,t2,t7 =>
  let x3:=(decide ((wrap .i64 (t7+(1:Int)))<(length t0:Int)))
  bif x3 then
  if 0≤(wrap .i64 (t7+(1:Int)))∧(wrap .i64 (t7+(1:Int)))<(length t0:Int) then
  let x4:=(getD t0 (toNat (wrap .i64 (t7+(1:Int)))) (0:Int))
  bif (decide (x4≤t2)) then
  (F46_0 k n t0 t1 t2 (wrap .i64 (t7+(1:Int)))).bind some
  else
  some ((t1,t7,()),())
  else none
  else
  some ((t1,t7,()),())
def sq46_0:Shape:=⟨[],[(0,.val KD68),(1,.val KD68),(2,.val (.int .i64)),(7,.val (.int .i64))],[]⟩
def fu46_0 (k m:Nat) (v:sq46_0.V):=F46_0 k m v.1.1 v.1.2.1 v.1.2.2.1 v.1.2.2.2.1
def fr46_0 (k:Nat):Frag:=⟨sq46_0,[(.exit 0,⟨[],[(1,.val KD68),(7,.val (.int .i64))],[]⟩)],fu46_0 k k⟩
def F46 (k:Nat) (a0:(List Int)) (a1:(List Int)) (a2:Int):Option TY79 :=
 (F46_0 k k a0 a1 a2 (0:Int)).bind fun r5 =>
 if 0≤r5.1.2.1∧r5.1.2.1<(length r5.1.1:Int) then
 some (((getD r5.1.1 (toNat r5.1.2.1) (0:Int)),()),())
 else none
def sp46 (k:Nat):Spec:=⟨[.val KD68,.val KD68,.val (.int .i64)],[.val (.int .i64)],fun x=>F46 k x.1 x.2.1 x.2.2.1⟩
def lim46:Lim:=⟨28,3,false,false,[],[]⟩
def cfg46 (k:Nat):Nat→Option Spec:=cfgL []
noncomputable def co46_0:Code:=codeAt (bodyOf Try.f46) [.r,.r,.l,.s]
noncomputable def cb46_0:Code:=codeAt (bodyOf Try.f46) [.r,.r,.l,.s,.b]
noncomputable def co46:Code:=codeAt (bodyOf Try.f46) []
theorem cfg46_ok (k:Nat):CfgOK Try.prog (cfg46 k):=cfgL_nil
noncomputable def bo46_0 (k m:Nat) (v:sq46_0.V):=body Try.prog (stepper Try.prog (cfg46 k) lim46) .go cb46_0 (sq46_0.st v) (loopK (fr46_0 k) (fu46_0 k m))
theorem pp46_0 (k m:Nat) (v:sq46_0.V):fu46_0 k (m+1) v=(bo46_0 k m v).eval∧(bo46_0 k m v).left=(bo46_0 k m v).right:=⟨by kernel_rfl,by kernel_rfl⟩
theorem fr46_0_ok (k:Nat):FragOK Try.prog lim46 (fr46_0 k) co46_0 :=
 frag_cast (by kernel_rfl) (loop_ok (cfg46_ok k) (planOK_go _) (fu46_0 k) k (fun _=>rfl) (fun _=>rfl) (pp46_0 k))
def pl46 (k:Nat):Plan:=(.seq .go (.seq .go (.seq (.sub (.frag (fr46_0 k))) .go)))
noncomputable def bo46 (k:Nat) (x:AT (sp46 k).ps):=fnT Try.prog (cfg46 k) lim46 Try.f46 (bodyOf Try.f46) (pl46 k) (sp46 k) x
theorem vv46 (k:Nat) (x:AT (sp46 k).ps):(sp46 k).impl x=(bo46 k x).eval∧(bo46 k x).left=(bo46 k x).right:=⟨by kernel_rfl,by kernel_rfl⟩
theorem v46 (k:Nat):Callable Try.prog 46∧Valid Try.prog 46 (sp46 k) :=
 fn_of (n:=lim46) (fn:=Try.f46) (p:=(pl46 k)) (cfg46_ok k) (by kernel_rfl) (plan_of (L:=[(fr46_0 k,co46_0)]) (by kernel_rfl) (.cons (fr46_0_ok k) .nil)) (vv46 k)
def F20_0 (k:Nat):Nat→(List Int)→Int→TY3→(List Int)→Option TY69
 |0,_,_,_,_=>none
 |n+1,t1,t6,c2,e0 =>
  let x1:=(decide (t6<(length t1:Int)))
  bif x1 then
  if 0≤t6∧t6<(length t1:Int) then
  (F46 k c2.2.1 c2.2.2.1 (getD t1 (toNat t6) (0:Int))).bind fun r2 =>
  let x3:=(List.set (replicate 1 (0:Int)) 0 r2.1.1)
  if (length e0+length x3)*(8*2)≤281474976710656∧length e0+length x3≤9223372036854775807 then
  (F20_0 k n t1 (wrap .i64 (t6+(1:Int))) c2 (e0++x3)).bind some
  else none
  else none
  else
  some ((),(e0,()))
def sq20_0:Shape:=⟨[(5,KD71)],[(1,.val KD68),(2,.ptr 2 []),(5,.at 2000005 []),(6,.val (.int .i64))],[(2,some 33,KD0),(2000005,none,KD71)]⟩
def fu20_0 (k m:Nat) (v:sq20_0.V):=F20_0 k m v.1.1 v.1.2.1 v.2.1 v.2.2.1
def fr20_0 (k:Nat):Frag:=⟨sq20_0,[(.exit 0,⟨[(5,KD71)],[(5,.at 2000005 [])],[(2000005,none,KD71)]⟩)],fu20_0 k k⟩
def F20 (k:Nat) (a0:TY3) (a1:(List Int)):Option TY73 :=
 (F20_0 k k a1 (0:Int) a0 []).bind fun r4 =>
 some ((r4.2.1,()),())
def sp20 (k:Nat):Spec:=⟨[.val KD0,.val KD68],[.own KD71],fun x=>F20 k x.1 x.2.1⟩
def lim20:Lim:=⟨26,2,false,false,[],[]⟩
def cfg20 (k:Nat):Nat→Option Spec:=cfgL [(46,sp46 k)]
noncomputable def co20_0:Code:=codeAt (bodyOf Try.f20) [.r,.r,.l,.r,.s]
noncomputable def cb20_0:Code:=codeAt (bodyOf Try.f20) [.r,.r,.l,.r,.s,.b]
noncomputable def co20:Code:=codeAt (bodyOf Try.f20) []
theorem cfg20_ok (k:Nat):CfgOK Try.prog (cfg20 k):=cfgL_cons (v46 k) (cfgL_nil)
noncomputable def bo20_0 (k m:Nat) (v:sq20_0.V):=body Try.prog (stepper Try.prog (cfg20 k) lim20) .go cb20_0 (sq20_0.st v) (loopK (fr20_0 k) (fu20_0 k m))
theorem pp20_0 (k m:Nat) (v:sq20_0.V):fu20_0 k (m+1) v=(bo20_0 k m v).eval∧(bo20_0 k m v).left=(bo20_0 k m v).right:=⟨by kernel_rfl,by kernel_rfl⟩
theorem fr20_0_ok (k:Nat):FragOK Try.prog lim20 (fr20_0 k) co20_0 :=
 frag_cast (by kernel_rfl) (loop_ok (cfg20_ok k) (planOK_go _) (fu20_0 k) k (fun _=>rfl) (fun _=>rfl) (pp20_0 k))
def pl20 (k:Nat):Plan:=(.seq .go (.seq .go (.seq (.seq .go (.sub (.frag (fr20_0 k)))) .go)))
noncomputable def bo20 (k:Nat) (x:AT (sp20 k).ps):=fnT Try.prog (cfg20 k) lim20 Try.f20 (bodyOf Try.f20) (pl20 k) (sp20 k) x
theorem vv20 (k:Nat) (x:AT (sp20 k).ps):(sp20 k).impl x=(bo20 k x).eval∧(bo20 k x).left=(bo20 k x).right:=⟨by kernel_rfl,by kernel_rfl⟩
theorem v20 (k:Nat):Callable Try.prog 20∧Valid Try.prog 20 (sp20 k) :=
 fn_of (n:=lim20) (fn:=Try.f20) (p:=(pl20 k)) (cfg20_ok k) (by kernel_rfl) (plan_of (L:=[(fr20_0 k,co20_0)]) (by kernel_rfl) (.cons (fr20_0_ok k) .nil)) (vv20 k)
def F65_0 (k:Nat):Nat→Int→Int→Int→(List (List Int))→Option (((Int×Int×Unit)×((List (List Int))×Unit)))
 |0,_,_,_,_=>none
 |n+1,t0,t4,t5,c7 =>
  bif (decide (t5<t0)) then
  if 0≤t4∧t4<(length c7:Int) then
  if 0≤t5∧t5<(length (getD c7 (toNat t4) ([]:(List Int))):Int) then
  let x4:=(List.set c7 (toNat t4) (List.set (getD c7 (toNat t4) ([]:(List Int))) (toNat t5) (1152921504606846976:Int)))
  (F65_0 k n t0 t4 (wrap .i64 (t5+(1:Int))) x4).bind some
  else none
  else none
  else
  some ((t0,t4,()),(c7,()))
def sq65_0:Shape:=⟨[],[(0,.val (.int .i64)),(3,.at 7 []),(4,.val (.int .i64)),(5,.val (.int .i64))],[(7,none,KD54)]⟩
def fu65_0 (k m:Nat) (v:sq65_0.V):=F65_0 k m v.1.1 v.1.2.1 v.1.2.2.1 v.2.1
def fr65_0 (k:Nat):Frag:=⟨sq65_0,[(.exit 2,⟨[],[(0,.val (.int .i64)),(3,.at 7 []),(4,.val (.int .i64))],[(7,none,KD54)]⟩)],fu65_0 k k⟩
def F65_1 (k:Nat):Nat→Int→Int→(List (List Int))→Option TY60
 |0,_,_,_=>none
 |n+1,t0,t4,c7 =>
  bif (decide (t4<t0)) then
  if (0≤t0∧t0<t0+1)∧t0≤9223372036854775807∧((8:Nat):Int)*t0≤281474976710656 then
  if 0≤t4∧t4<(length c7:Int) then
  let x9:=(List.set c7 (toNat t4) (replicate (toNat t0) (0:Int)))
  (F65_0 k k t0 t4 (0:Int) x9).bind fun r10 =>
  (F65_1 k n r10.1.1 (wrap .i64 (r10.1.2.1+(1:Int))) r10.2.1).bind some
  else none
  else none
  else
  some ((),(c7,()))
def sq65_1:Shape:=⟨[],[(0,.val (.int .i64)),(3,.at 7 []),(4,.val (.int .i64))],[(7,none,KD54)]⟩
def fu65_1 (k m:Nat) (v:sq65_1.V):=F65_1 k m v.1.1 v.1.2.1 v.2.1
def fr65_1 (k:Nat):Frag:=⟨sq65_1,[(.exit 0,⟨[],[(3,.at 7 [])],[(7,none,KD54)]⟩)],fu65_1 k k⟩
def F65 (k:Nat) (a0:Int):Option TY63 :=
 if (0≤a0∧a0<a0+1)∧a0≤9223372036854775807∧((24:Nat):Int)*a0≤281474976710656 then
 let x1:=(replicate (toNat a0) ([]:(List Int)))
 (F65_1 k k a0 (0:Int) x1).bind fun r14 =>
 some ((r14.2.1,()),())
 else none
def sp65 (k:Nat):Spec:=⟨[.val (.int .i64)],[.own KD54],fun x=>F65 k x.1⟩
def lim65:Lim:=⟨30,1,false,false,[],[]⟩
def cfg65 (k:Nat):Nat→Option Spec:=cfgL []
noncomputable def co65_0:Code:=codeAt (bodyOf Try.f65) [.r,.r,.l,.r,.s,.b,.r,.l,.s,.r,.r,.s]
noncomputable def cb65_0:Code:=codeAt (bodyOf Try.f65) [.r,.r,.l,.r,.s,.b,.r,.l,.s,.r,.r,.s,.b]
noncomputable def co65_1:Code:=codeAt (bodyOf Try.f65) [.r,.r,.l,.r,.s]
noncomputable def cb65_1:Code:=codeAt (bodyOf Try.f65) [.r,.r,.l,.r,.s,.b]
noncomputable def co65:Code:=codeAt (bodyOf Try.f65) []
theorem cfg65_ok (k:Nat):CfgOK Try.prog (cfg65 k):=cfgL_nil
noncomputable def bo65_0 (k m:Nat) (v:sq65_0.V):=body Try.prog (stepper Try.prog (cfg65 k) lim65) .go cb65_0 (sq65_0.st v) (loopK (fr65_0 k) (fu65_0 k m))
theorem pp65_0 (k m:Nat) (v:sq65_0.V):fu65_0 k (m+1) v=(bo65_0 k m v).eval∧(bo65_0 k m v).left=(bo65_0 k m v).right:=⟨by kernel_rfl,by kernel_rfl⟩
theorem fr65_0_ok (k:Nat):FragOK Try.prog lim65 (fr65_0 k) co65_0 :=
 frag_cast (by kernel_rfl) (loop_ok (cfg65_ok k) (planOK_go _) (fu65_0 k) k (fun _=>rfl) (fun _=>rfl) (pp65_0 k))
def pl65_1 (k:Nat):Plan:=(.seq .go (.seq (.sub (.seq .go (.seq .go (.sub (.frag (fr65_0 k)))))) .go))
noncomputable def bo65_1 (k m:Nat) (v:sq65_1.V):=body Try.prog (stepper Try.prog (cfg65 k) lim65) (pl65_1 k) cb65_1 (sq65_1.st v) (loopK (fr65_1 k) (fu65_1 k m))
theorem pp65_1 (k m:Nat) (v:sq65_1.V):fu65_1 k (m+1) v=(bo65_1 k m v).eval∧(bo65_1 k m v).left=(bo65_1 k m v).right:=⟨by kernel_rfl,by kernel_rfl⟩
theorem fr65_1_ok (k:Nat):FragOK Try.prog lim65 (fr65_1 k) co65_1 :=
 frag_cast (by kernel_rfl) (loop_ok (cfg65_ok k) (plan_of (L:=[(fr65_0 k,co65_0)]) (by kernel_rfl) (.cons (fr65_0_ok k) .nil)) (fu65_1 k) k (fun _=>rfl) (fun _=>rfl) (pp65_1 k))
def pl65 (k:Nat):Plan:=(.seq .go (.seq .go (.seq (.seq .go (.sub (.frag (fr65_1 k)))) .go)))
noncomputable def bo65 (k:Nat) (x:AT (sp65 k).ps):=fnT Try.prog (cfg65 k) lim65 Try.f65 (bodyOf Try.f65) (pl65 k) (sp65 k) x
theorem vv65 (k:Nat) (x:AT (sp65 k).ps):(sp65 k).impl x=(bo65 k x).eval∧(bo65 k x).left=(bo65 k x).right:=⟨by kernel_rfl,by kernel_rfl⟩
theorem v65 (k:Nat):Callable Try.prog 65∧Valid Try.prog 65 (sp65 k) :=
 fn_of (n:=lim65) (fn:=Try.f65) (p:=(pl65 k)) (cfg65_ok k) (by kernel_rfl) (plan_of (L:=[(fr65_1 k,co65_1)]) (by kernel_rfl) (.cons (fr65_1_ok k) .nil)) (vv65 k)
def F64_0 (k:Nat):Nat→Int→Int→(List (List Int))→Option TY60
 |0,_,_,_=>none
 |n+1,t0,t4,e0 =>
  bif (decide (t4<t0)) then
  if 0≤t4∧t4<(length e0:Int) then
  if 0≤t4∧t4<(length (getD e0 (toNat t4) ([]:(List Int))):Int) then
  let x3:=(List.set e0 (toNat t4) (List.set (getD e0 (toNat t4) ([]:(List Int))) (toNat t4) (0:Int)))
  (F64_0 k n t0 (wrap .i64 (t4+(1:Int))) x3).bind some
  else none
  else none
  else
  some ((),(e0,()))
def sq64_0:Shape:=⟨[],[(0,.val (.int .i64)),(3,.at 1000096 []),(4,.val (.int .i64))],[(1000096,none,KD54)]⟩
def fu64_0 (k m:Nat) (v:sq64_0.V):=F64_0 k m v.1.1 v.1.2.1 v.2.1
def fr64_0 (k:Nat):Frag:=⟨sq64_0,[(.exit 0,⟨[],[(3,.at 1000096 [])],[(1000096,none,KD54)]⟩)],fu64_0 k k⟩
def F64 (k:Nat) (a0:Int):Option TY63 :=
 (F65 k a0).bind fun r1 =>
 (F64_0 k k a0 (0:Int) r1.1.1).bind fun r4 =>
 some ((r4.2.1,()),())
def sp64 (k:Nat):Spec:=⟨[.val (.int .i64)],[.own KD54],fun x=>F64 k x.1⟩
def lim64:Lim:=⟨19,1,false,false,[],[]⟩
def cfg64 (k:Nat):Nat→Option Spec:=cfgL [(65,sp65 k)]
noncomputable def co64_0:Code:=codeAt (bodyOf Try.f64) [.r,.r,.l,.r,.s]
noncomputable def cb64_0:Code:=codeAt (bodyOf Try.f64) [.r,.r,.l,.r,.s,.b]
noncomputable def co64:Code:=codeAt (bodyOf Try.f64) []
theorem cfg64_ok (k:Nat):CfgOK Try.prog (cfg64 k):=cfgL_cons (v65 k) (cfgL_nil)
noncomputable def bo64_0 (k m:Nat) (v:sq64_0.V):=body Try.prog (stepper Try.prog (cfg64 k) lim64) .go cb64_0 (sq64_0.st v) (loopK (fr64_0 k) (fu64_0 k m))
theorem pp64_0 (k m:Nat) (v:sq64_0.V):fu64_0 k (m+1) v=(bo64_0 k m v).eval∧(bo64_0 k m v).left=(bo64_0 k m v).right:=⟨by kernel_rfl,by kernel_rfl⟩
theorem fr64_0_ok (k:Nat):FragOK Try.prog lim64 (fr64_0 k) co64_0 :=
 frag_cast (by kernel_rfl) (loop_ok (cfg64_ok k) (planOK_go _) (fu64_0 k) k (fun _=>rfl) (fun _=>rfl) (pp64_0 k))
def pl64 (k:Nat):Plan:=(.seq .go (.seq .go (.seq (.seq .go (.sub (.frag (fr64_0 k)))) .go)))
noncomputable def bo64 (k:Nat) (x:AT (sp64 k).ps):=fnT Try.prog (cfg64 k) lim64 Try.f64 (bodyOf Try.f64) (pl64 k) (sp64 k) x
theorem vv64 (k:Nat) (x:AT (sp64 k).ps):(sp64 k).impl x=(bo64 k x).eval∧(bo64 k x).left=(bo64 k x).right:=⟨by kernel_rfl,by kernel_rfl⟩
theorem v64 (k:Nat):Callable Try.prog 64∧Valid Try.prog 64 (sp64 k) :=
 fn_of (n:=lim64) (fn:=Try.f64) (p:=(pl64 k)) (cfg64_ok k) (by kernel_rfl) (plan_of (L:=[(fr64_0 k,co64_0)]) (by kernel_rfl) (.cons (fr64_0_ok k) .nil)) (vv64 k)
def F67_0 (k:Nat):Nat→(List (List Int))→(List (List Int))→Int→Int→(List (List Int))→Option TY38
 |0,_,_,_,_,_=>none
 |n+1,t0,t1,t6,t7,e0 =>
  let x8:=(decide (t7<(length t0:Int)))
  bif x8 then
  if 0≤t6∧t6<(length e0:Int) then
  if 0≤t6∧t6<(length t0:Int) then
  let x9:=(getD t0 (toNat t6) ([]:(List Int)))
  if 0≤t7∧t7<(length x9:Int) then
  if 0≤t6∧t6<(length t1:Int) then
  let x10:=(getD t1 (toNat t6) ([]:(List Int)))
  if 0≤t7∧t7<(length x10:Int) then
  let x11:=(minI (getD x9 (toNat t7) (0:Int)) (getD x10 (toNat t7) (0:Int)))
  if 0≤t7∧t7<(length (getD e0 (toNat t6) ([]:(List Int))):Int) then
  let x12:=(List.set e0 (toNat t6) (List.set (getD e0 (toNat t6) ([]:(List Int))) (toNat t7) x11))
  (F67_0 k n t0 t1 t6 (wrap .i64 (t7+(1:Int))) x12).bind some
  else none
  else none
  else none
  else none
  else none
  else none
  else
  some ((t0,t1,t6,()),(e0,()))
def sq67_0:Shape:=⟨[],[(0,.val KD52),(1,.val KD52),(5,.at 1000160 []),(6,.val (.int .i64)),(7,.val (.int .i64))],[(1000160,none,KD54)]⟩
def fu67_0 (k m:Nat) (v:sq67_0.V):=F67_0 k m v.1.1 v.1.2.1 v.1.2.2.1 v.1.2.2.2.1 v.2.1
def fr67_0 (k:Nat):Frag:=⟨sq67_0,[(.exit 2,⟨[],[(0,.val KD52),(1,.val KD52),(5,.at 1000160 []),(6,.val (.int .i64))],[(1000160,none,KD54)]⟩)],fu67_0 k k⟩
def F67_1 (k:Nat):Nat→(List (List Int))→(List (List Int))→Int→(List (List Int))→Option TY60
 |0,_,_,_,_=>none
 |n+1,t0,t1,t6,e0 =>
  let x18:=(decide (t6<(length t0:Int)))
  bif x18 then
  (F67_0 k k t0 t1 t6 (0:Int) e0).bind fun r19 =>
  (F67_1 k n r19.1.1 r19.1.2.1 (wrap .i64 (r19.1.2.2.1+(1:Int))) r19.2.1).bind some
  else
  some ((),(e0,()))
def sq67_1:Shape:=⟨[],[(0,.val KD52),(1,.val KD52),(5,.at 1000160 []),(6,.val (.int .i64))],[(1000160,none,KD54)]⟩
def fu67_1 (k m:Nat) (v:sq67_1.V):=F67_1 k m v.1.1 v.1.2.1 v.1.2.2.1 v.2.1
def fr67_1 (k:Nat):Frag:=⟨sq67_1,[(.exit 0,⟨[],[(5,.at 1000160 [])],[(1000160,none,KD54)]⟩)],fu67_1 k k⟩
def F67 (k:Nat) (a0:(List (List Int))) (a1:(List (List Int))):Option TY63 :=
 (F65 k (length a0:Int)).bind fun r1 =>
 (F67_1 k k a0 a1 (0:Int) r1.1.1).bind fun r24 =>
 some ((r24.2.1,()),())
def sp67 (k:Nat):Spec:=⟨[.val KD52,.val KD52],[.own KD54],fun x=>F67 k x.1 x.2.1⟩
def lim67:Lim:=⟨45,2,false,false,[],[]⟩
def cfg67 (k:Nat):Nat→Option Spec:=cfgL [(65,sp65 k)]
noncomputable def co67_0:Code:=codeAt (bodyOf Try.f67) [.r,.r,.l,.r,.s,.b,.r,.l,.s,.r,.s]
noncomputable def cb67_0:Code:=codeAt (bodyOf Try.f67) [.r,.r,.l,.r,.s,.b,.r,.l,.s,.r,.s,.b]
noncomputable def co67_1:Code:=codeAt (bodyOf Try.f67) [.r,.r,.l,.r,.s]
noncomputable def cb67_1:Code:=codeAt (bodyOf Try.f67) [.r,.r,.l,.r,.s,.b]
noncomputable def co67:Code:=codeAt (bodyOf Try.f67) []
theorem cfg67_ok (k:Nat):CfgOK Try.prog (cfg67 k):=cfgL_cons (v65 k) (cfgL_nil)
noncomputable def bo67_0 (k m:Nat) (v:sq67_0.V):=body Try.prog (stepper Try.prog (cfg67 k) lim67) .go cb67_0 (sq67_0.st v) (loopK (fr67_0 k) (fu67_0 k m))
theorem pp67_0 (k m:Nat) (v:sq67_0.V):fu67_0 k (m+1) v=(bo67_0 k m v).eval∧(bo67_0 k m v).left=(bo67_0 k m v).right:=⟨by kernel_rfl,by kernel_rfl⟩
theorem fr67_0_ok (k:Nat):FragOK Try.prog lim67 (fr67_0 k) co67_0 :=
 frag_cast (by kernel_rfl) (loop_ok (cfg67_ok k) (planOK_go _) (fu67_0 k) k (fun _=>rfl) (fun _=>rfl) (pp67_0 k))
def pl67_1 (k:Nat):Plan:=(.seq .go (.seq (.sub (.seq .go (.sub (.frag (fr67_0 k))))) .go))
noncomputable def bo67_1 (k m:Nat) (v:sq67_1.V):=body Try.prog (stepper Try.prog (cfg67 k) lim67) (pl67_1 k) cb67_1 (sq67_1.st v) (loopK (fr67_1 k) (fu67_1 k m))
theorem pp67_1 (k m:Nat) (v:sq67_1.V):fu67_1 k (m+1) v=(bo67_1 k m v).eval∧(bo67_1 k m v).left=(bo67_1 k m v).right:=⟨by kernel_rfl,by kernel_rfl⟩
theorem fr67_1_ok (k:Nat):FragOK Try.prog lim67 (fr67_1 k) co67_1 :=
 frag_cast (by kernel_rfl) (loop_ok (cfg67_ok k) (plan_of (L:=[(fr67_0 k,co67_0)]) (by kernel_rfl) (.cons (fr67_0_ok k) .nil)) (fu67_1 k) k (fun _=>rfl) (fun _=>rfl) (pp67_1 k))
def pl67 (k:Nat):Plan:=(.seq .go (.seq .go (.seq (.seq .go (.sub (.frag (fr67_1 k)))) .go)))
noncomputable def bo67 (k:Nat) (x:AT (sp67 k).ps):=fnT Try.prog (cfg67 k) lim67 Try.f67 (bodyOf Try.f67) (pl67 k) (sp67 k) x
theorem vv67 (k:Nat) (x:AT (sp67 k).ps):(sp67 k).impl x=(bo67 k x).eval∧(bo67 k x).left=(bo67 k x).right:=⟨by kernel_rfl,by kernel_rfl⟩
theorem v67 (k:Nat):Callable Try.prog 67∧Valid Try.prog 67 (sp67 k) :=
 fn_of (n:=lim67) (fn:=Try.f67) (p:=(pl67 k)) (cfg67_ok k) (by kernel_rfl) (plan_of (L:=[(fr67_1 k,co67_1)]) (by kernel_rfl) (.cons (fr67_1_ok k) .nil)) (vv67 k)
def F68_0 (k:Nat):Nat→(List (List Int))→(List (List Int))→Int→Int→Int→(List (List Int))→Option ((((List (List Int))×(List (List Int))×Int×Int×Unit)×((List (List Int))×Unit)))
 |0,_,_,_,_,_,_=>none
 |n+1,t0,t1,t6,t7,t8,e0 =>
  let x10:=(decide (t8<(length t0:Int)))
  bif x10 then
  if 0≤t6∧t6<(length e0:Int) then
  if 0≤t6∧t6<(length e0:Int) then
  if 0≤t8∧t8<(length (getD e0 (toNat t6) ([]:(List Int))):Int) then
  let x11:=(getD (getD e0 (toNat t6) ([]:(List Int))) (toNat t8) (0:Int))
  if 0≤t6∧t6<(length t0:Int) then
  let x12:=(getD t0 (toNat t6) ([]:(List Int)))
  if 0≤t7∧t7<(length x12:Int) then
  if 0≤t7∧t7<(length t1:Int) then
  let x13:=(getD t1 (toNat t7) ([]:(List Int)))
  if 0≤t8∧t8<(length x13:Int) then
  (F69 k (getD x12 (toNat t7) (0:Int)) (getD x13 (toNat t8) (0:Int))).bind fun r14 =>
  if 0≤t8∧t8<(length (getD e0 (toNat t6) ([]:(List Int))):Int) then
  let x15:=(List.set e0 (toNat t6) (List.set (getD e0 (toNat t6) ([]:(List Int))) (toNat t8) (minI x11 r14.1.1)))
  (F68_0 k n t0 t1 t6 t7 (wrap .i64 (t8+(1:Int))) x15).bind some
  else none
  else none
  else none
  else none
  else none
  else none
  else none
  else none
  else
  some ((t0,t1,t6,t7,()),(e0,()))
def sq68_0:Shape:=⟨[],[(0,.val KD52),(1,.val KD52),(5,.at 1000176 []),(6,.val (.int .i64)),(7,.val (.int .i64)),(8,.val (.int .i64))],[(1000176,none,KD54)]⟩
def fu68_0 (k m:Nat) (v:sq68_0.V):=F68_0 k m v.1.1 v.1.2.1 v.1.2.2.1 v.1.2.2.2.1 v.1.2.2.2.2.1 v.2.1
def fr68_0 (k:Nat):Frag:=⟨sq68_0,[(.exit 4,⟨[],[(0,.val KD52),(1,.val KD52),(5,.at 1000176 []),(6,.val (.int .i64)),(7,.val (.int .i64))],[(1000176,none,KD54)]⟩)],fu68_0 k k⟩
def F68_1 (k:Nat):Nat→(List (List Int))→(List (List Int))→Int→Int→(List (List Int))→Option TY38
 |0,_,_,_,_,_=>none
 |n+1,t0,t1,t6,t7,e0 =>
  let x22:=(decide (t7<(length t0:Int)))
  bif x22 then
  (F68_0 k k t0 t1 t6 t7 t7 e0).bind fun r23 =>
  (F68_1 k n r23.1.1 r23.1.2.1 r23.1.2.2.1 (wrap .i64 (r23.1.2.2.2.1+(1:Int))) r23.2.1).bind some
  else
  some ((t0,t1,t6,()),(e0,()))
def sq68_1:Shape:=⟨[],[(0,.val KD52),(1,.val KD52),(5,.at 1000176 []),(6,.val (.int .i64)),(7,.val (.int .i64))],[(1000176,none,KD54)]⟩
def fu68_1 (k m:Nat) (v:sq68_1.V):=F68_1 k m v.1.1 v.1.2.1 v.1.2.2.1 v.1.2.2.2.1 v.2.1
def fr68_1 (k:Nat):Frag:=⟨sq68_1,[(.exit 2,⟨[],[(0,.val KD52),(1,.val KD52),(5,.at 1000176 []),(6,.val (.int .i64))],[(1000176,none,KD54)]⟩)],fu68_1 k k⟩
def F68_2 (k:Nat):Nat→(List (List Int))→(List (List Int))→Int→(List (List Int))→Option TY60
 |0,_,_,_,_=>none
 |n+1,t0,t1,t6,e0 =>
  let x34:=(decide (t6<(length t0:Int)))
  bif x34 then
  (F68_1 k k t0 t1 t6 t6 e0).bind fun r35 =>
  (F68_2 k n r35.1.1 r35.1.2.1 (wrap .i64 (r35.1.2.2.1+(1:Int))) r35.2.1).bind some
  else
  some ((),(e0,()))
def sq68_2:Shape:=⟨[],[(0,.val KD52),(1,.val KD52),(5,.at 1000176 []),(6,.val (.int .i64))],[(1000176,none,KD54)]⟩
def fu68_2 (k m:Nat) (v:sq68_2.V):=F68_2 k m v.1.1 v.1.2.1 v.1.2.2.1 v.2.1
def fr68_2 (k:Nat):Frag:=⟨sq68_2,[(.exit 0,⟨[],[(5,.at 1000176 [])],[(1000176,none,KD54)]⟩)],fu68_2 k k⟩
def F68 (k:Nat) (a0:(List (List Int))) (a1:(List (List Int))):Option TY63 :=
 (F65 k (length a0:Int)).bind fun r1 =>
 (F68_2 k k a0 a1 (0:Int) r1.1.1).bind fun r40 =>
 some ((r40.2.1,()),())
def sp68 (k:Nat):Spec:=⟨[.val KD52,.val KD52],[.own KD54],fun x=>F68 k x.1 x.2.1⟩
def lim68:Lim:=⟨62,2,false,false,[],[]⟩
def cfg68 (k:Nat):Nat→Option Spec:=cfgL [(65,sp65 k),(69,sp69 k)]
noncomputable def co68_0:Code:=codeAt (bodyOf Try.f68) [.r,.r,.l,.r,.s,.b,.r,.l,.s,.r,.s,.b,.r,.l,.s,.r,.s]
noncomputable def cb68_0:Code:=codeAt (bodyOf Try.f68) [.r,.r,.l,.r,.s,.b,.r,.l,.s,.r,.s,.b,.r,.l,.s,.r,.s,.b]
noncomputable def co68_1:Code:=codeAt (bodyOf Try.f68) [.r,.r,.l,.r,.s,.b,.r,.l,.s,.r,.s]
noncomputable def cb68_1:Code:=codeAt (bodyOf Try.f68) [.r,.r,.l,.r,.s,.b,.r,.l,.s,.r,.s,.b]
noncomputable def co68_2:Code:=codeAt (bodyOf Try.f68) [.r,.r,.l,.r,.s]
noncomputable def cb68_2:Code:=codeAt (bodyOf Try.f68) [.r,.r,.l,.r,.s,.b]
noncomputable def co68:Code:=codeAt (bodyOf Try.f68) []
theorem cfg68_ok (k:Nat):CfgOK Try.prog (cfg68 k):=cfgL_cons (v65 k) (cfgL_cons (v69 k) (cfgL_nil))
noncomputable def bo68_0 (k m:Nat) (v:sq68_0.V):=body Try.prog (stepper Try.prog (cfg68 k) lim68) .go cb68_0 (sq68_0.st v) (loopK (fr68_0 k) (fu68_0 k m))
theorem pp68_0 (k m:Nat) (v:sq68_0.V):fu68_0 k (m+1) v=(bo68_0 k m v).eval∧(bo68_0 k m v).left=(bo68_0 k m v).right:=⟨by kernel_rfl,by kernel_rfl⟩
theorem fr68_0_ok (k:Nat):FragOK Try.prog lim68 (fr68_0 k) co68_0 :=
 frag_cast (by kernel_rfl) (loop_ok (cfg68_ok k) (planOK_go _) (fu68_0 k) k (fun _=>rfl) (fun _=>rfl) (pp68_0 k))
def pl68_1 (k:Nat):Plan:=(.seq .go (.seq (.sub (.seq .go (.sub (.frag (fr68_0 k))))) .go))
noncomputable def bo68_1 (k m:Nat) (v:sq68_1.V):=body Try.prog (stepper Try.prog (cfg68 k) lim68) (pl68_1 k) cb68_1 (sq68_1.st v) (loopK (fr68_1 k) (fu68_1 k m))
theorem pp68_1 (k m:Nat) (v:sq68_1.V):fu68_1 k (m+1) v=(bo68_1 k m v).eval∧(bo68_1 k m v).left=(bo68_1 k m v).right:=⟨by kernel_rfl,by kernel_rfl⟩
theorem fr68_1_ok (k:Nat):FragOK Try.prog lim68 (fr68_1 k) co68_1 :=
 frag_cast (by kernel_rfl) (loop_ok (cfg68_ok k) (plan_of (L:=[(fr68_0 k,co68_0)]) (by kernel_rfl) (.cons (fr68_0_ok k) .nil)) (fu68_1 k) k (fun _=>rfl) (fun _=>rfl) (pp68_1 k))
def pl68_2 (k:Nat):Plan:=(.seq .go (.seq (.sub (.seq .go (.sub (.frag (fr68_1 k))))) .go))
noncomputable def bo68_2 (k m:Nat) (v:sq68_2.V):=body Try.prog (stepper Try.prog (cfg68 k) lim68) (pl68_2 k) cb68_2 (sq68_2.st v) (loopK (fr68_2 k) (fu68_2 k m))
theorem pp68_2 (k m:Nat) (v:sq68_2.V):fu68_2 k (m+1) v=(bo68_2 k m v).eval∧(bo68_2 k m v).left=(bo68_2 k m v).right:=⟨by kernel_rfl,by kernel_rfl⟩
theorem fr68_2_ok (k:Nat):FragOK Try.prog lim68 (fr68_2 k) co68_2 :=
 frag_cast (by kernel_rfl) (loop_ok (cfg68_ok k) (plan_of (L:=[(fr68_1 k,co68_1)]) (by kernel_rfl) (.cons (fr68_1_ok k) .nil)) (fu68_2 k) k (fun _=>rfl) (fun _=>rfl) (pp68_2 k))
def pl68 (k:Nat):Plan:=(.seq .go (.seq .go (.seq (.seq .go (.sub (.frag (fr68_2 k)))) .go)))
noncomputable def bo68 (k:Nat) (x:AT (sp68 k).ps):=fnT Try.prog (cfg68 k) lim68 Try.f68 (bodyOf Try.f68) (pl68 k) (sp68 k) x
theorem vv68 (k:Nat) (x:AT (sp68 k).ps):(sp68 k).impl x=(bo68 k x).eval∧(bo68 k x).left=(bo68 k x).right:=⟨by kernel_rfl,by kernel_rfl⟩
theorem v68 (k:Nat):Callable Try.prog 68∧Valid Try.prog 68 (sp68 k) :=
 fn_of (n:=lim68) (fn:=Try.f68) (p:=(pl68 k)) (cfg68_ok k) (by kernel_rfl) (plan_of (L:=[(fr68_2 k,co68_2)]) (by kernel_rfl) (.cons (fr68_2_ok k) .nil)) (vv68 k)
def rs48 (f48:(TY49→TY13→TY65→(List Int)→Option TY63)):Spec:=⟨[.val KD28,.val KD5,.val KD36,.val KD68],[.own KD54],fun x=>f48 x.1 x.2.1 x.2.2.1 x.2.2.2.1⟩
def F48_0 (k:Nat) (f48:(TY49→TY13→TY65→(List Int)→Option TY63)):Nat→TY65→(List Int)→Int→Int→TY26→TY13→(List (List (List Int)))→Option (((TY65×(List Int)×Int×Unit)×(TY26×TY13×(List (List (List Int)))×Unit)))
 |0,_,_,_,_,_,_,_=>none
 |n+1,t2,t3,t9,t11,c4,c5,e0 =>
  let x2:=(decide (t11<(length c4.2.2.2.2.2.1:Int)))
  bif x2 then
  if 0≤t11∧t11<(length c4.2.2.2.2.2.1:Int) then
  let x3:=(getD c4.2.2.2.2.2.1 (toNat t11) (Tree.mk ((0:Int),((0:Int),((0:Int),((0:Int),(ByteArray.empty,()))))) []))
  (f48 x3 c5 t2 t3).bind fun r4 =>
  if (length e0+length [r4.1.1])*(24*2)≤281474976710656∧length e0+length [r4.1.1]≤9223372036854775807 then
  (F48_0 k f48 n t2 t3 t9 (wrap .i64 (t11+(1:Int))) c4 c5 (e0++[r4.1.1])).bind some
  else none
  else none
  else
  some ((t2,t3,t9,()),(c4,c5,e0,()))
def sq48_0:Shape:=⟨[(10,KD43)],[(2,.val KD36),(3,.val KD68),(4,.ptr 4 []),(5,.ptr 5 []),(9,.val (.int .i64)),(10,.at 2000010 []),(11,.val (.int .i64))],[(4,some 55,KD20),(5,some 29,KD5),(2000010,none,KD43)]⟩
def fu48_0 (k:Nat) (f48:(TY49→TY13→TY65→(List Int)→Option TY63)) (m:Nat) (v:sq48_0.V):=F48_0 k f48 m v.1.1 v.1.2.1 v.1.2.2.1 v.1.2.2.2.1 v.2.1 v.2.2.1 v.2.2.2.1
def fr48_0 (k:Nat) (f48:(TY49→TY13→TY65→(List Int)→Option TY63)):Frag:=⟨sq48_0,[(.exit 0,⟨[(10,KD43)],[(2,.val KD36),(3,.val KD68),(4,.ptr 4 []),(5,.ptr 5 []),(9,.val (.int .i64)),(10,.at 2000010 [])],[(4,some 55,KD20),(5,some 29,KD5),(2000010,none,KD43)]⟩)],fu48_0 k f48 k⟩
def F48_1 (k:Nat) (f48:(TY49→TY13→TY65→(List Int)→Option TY63)):Nat→TY65→(List Int)→Int→Int→TY26→TY13→(List (List Int))→Option TY60
 |0,_,_,_,_,_,_,_=>none
 |n+1,t2,t3,t9,t13,c4,c5,e0 =>
  let x14:=(decide ((wrap .i64 (t13+(1:Int)))<t9))
  bif x14 then
  bif (c4.1==(3:Int)) then
  if 0≤t13∧t13<(length e0:Int) then
  if 0≤(wrap .i64 (t13+(1:Int)))∧(wrap .i64 (t13+(1:Int)))<(length (getD e0 (toNat t13) ([]:(List Int))):Int) then
  let x15:=(toNat (wrap .i64 (t13+(1:Int))))
  let x16:=(List.set e0 (toNat t13) (List.set (getD e0 (toNat t13) ([]:(List Int))) x15 (0:Int)))
  (F48_1 k f48 n t2 t3 t9 (wrap .i64 (t13+(1:Int))) c4 c5 x16).bind some
  else none
  else none
  else
  if 0≤t13∧t13<(length t3:Int) then
  (F66 k c5 c4.2.2.2.2.1).bind fun r17 =>
  if 0≤r17.1.1∧r17.1.1<(length t2:Int) then
  let x18:=(getD t2 (toNat r17.1.1) ([]:TY75))
  (F55 k x18 (getD t3 (toNat t13) (0:Int))).bind fun r19 =>
  bif r19.1.1 then
  if 0≤t13∧t13<(length e0:Int) then
  if 0≤(wrap .i64 (t13+(1:Int)))∧(wrap .i64 (t13+(1:Int)))<(length (getD e0 (toNat t13) ([]:(List Int))):Int) then
  let x20:=(toNat (wrap .i64 (t13+(1:Int))))
  let x21:=(List.set e0 (toNat t13) (List.set (getD e0 (toNat t13) ([]:(List Int))) x20 (0:Int)))
  (F48_1 k f48 n t2 t3 t9 (wrap .i64 (t13+(1:Int))) c4 c5 x21).bind some
  else none
  else none
  else
  (F48_1 k f48 n t2 t3 t9 (wrap .i64 (t13+(1:Int))) c4 c5 e0).bind some
  else none
  else none
  else
  some ((),(e0,()))
def sq48_1:Shape:=⟨[],[(2,.val KD36),(3,.val KD68),(4,.ptr 4 []),(5,.ptr 5 []),(9,.val (.int .i64)),(12,.at 1000864 []),(13,.val (.int .i64))],[(4,some 55,KD20),(5,some 29,KD5),(1000864,none,KD54)]⟩
def fu48_1 (k:Nat) (f48:(TY49→TY13→TY65→(List Int)→Option TY63)) (m:Nat) (v:sq48_1.V):=F48_1 k f48 m v.1.1 v.1.2.1 v.1.2.2.1 v.1.2.2.2.1 v.2.1 v.2.2.1 v.2.2.2.1
def fr48_1 (k:Nat) (f48:(TY49→TY13→TY65→(List Int)→Option TY63)):Frag:=⟨sq48_1,[(.exit 3,⟨[],[(12,.at 1000864 [])],[(1000864,none,KD54)]⟩)],fu48_1 k f48 k⟩
def F48_2 (k:Nat) (f48:(TY49→TY13→TY65→(List Int)→Option TY63)):Nat→Int→Int→Int→TY26→(List (List Int))→(List (List (List Int)))→Option (((Int×Int×Unit)×(TY26×(List (List Int))×(List (List (List Int)))×Unit)))
 |0,_,_,_,_,_,_=>none
 |n+1,t9,t15,t16,c4,e0,e1 =>
  bif (decide (t16<t9)) then
  if 0≤t15∧t15<(length e0:Int) then
  if 0≤(0:Int)∧(0:Int)<(length e1:Int) then
  if 0≤t15∧t15<(length (getD e1 (toNat (0:Int)) ([]:(List (List Int)))):Int) then
  if 0≤t16∧t16<(length (getD (getD e1 (toNat (0:Int)) ([]:(List (List Int)))) (toNat t15) ([]:(List Int))):Int) then
  let x30:=(getD (getD (getD e1 (toNat (0:Int)) ([]:(List (List Int)))) (toNat t15) ([]:(List Int))) (toNat t16) (0:Int))
  (F69 k x30 c4.2.2.2.1).bind fun r31 =>
  if 0≤t16∧t16<(length (getD e0 (toNat t15) ([]:(List Int))):Int) then
  let x32:=(List.set e0 (toNat t15) (List.set (getD e0 (toNat t15) ([]:(List Int))) (toNat t16) r31.1.1))
  (F48_2 k f48 n t9 t15 (wrap .i64 (t16+(1:Int))) c4 x32 e1).bind some
  else none
  else none
  else none
  else none
  else none
  else
  some ((t9,t15,()),(c4,e0,e1,()))
def sq48_2:Shape:=⟨[],[(4,.ptr 4 []),(9,.val (.int .i64)),(10,.at 2000010 []),(14,.at 1001712 []),(15,.val (.int .i64)),(16,.val (.int .i64))],[(4,some 55,KD20),(1001712,none,KD54),(2000010,none,KD43)]⟩
def fu48_2 (k:Nat) (f48:(TY49→TY13→TY65→(List Int)→Option TY63)) (m:Nat) (v:sq48_2.V):=F48_2 k f48 m v.1.1 v.1.2.1 v.1.2.2.1 v.2.1 v.2.2.1 v.2.2.2.1
def fr48_2 (k:Nat) (f48:(TY49→TY13→TY65→(List Int)→Option TY63)):Frag:=⟨sq48_2,[(.exit 7,⟨[],[(4,.ptr 4 []),(9,.val (.int .i64)),(10,.at 2000010 []),(14,.at 1001712 []),(15,.val (.int .i64))],[(4,some 55,KD20),(1001712,none,KD54),(2000010,none,KD43)]⟩)],fu48_2 k f48 k⟩
def F48_3 (k:Nat) (f48:(TY49→TY13→TY65→(List Int)→Option TY63)):Nat→Int→Int→TY26→(List (List Int))→(List (List (List Int)))→Option TY60
 |0,_,_,_,_,_=>none
 |n+1,t9,t15,c4,e0,e1 =>
  bif (decide (t15<t9)) then
  (F48_2 k f48 k t9 t15 t15 c4 e0 e1).bind fun r33 =>
  (F48_3 k f48 n r33.1.1 (wrap .i64 (r33.1.2.1+(1:Int))) r33.2.1 r33.2.2.1 r33.2.2.2.1).bind some
  else
  some ((),(e0,()))
def sq48_3:Shape:=⟨[],[(4,.ptr 4 []),(9,.val (.int .i64)),(10,.at 2000010 []),(14,.at 1001712 []),(15,.val (.int .i64))],[(4,some 55,KD20),(1001712,none,KD54),(2000010,none,KD43)]⟩
def fu48_3 (k:Nat) (f48:(TY49→TY13→TY65→(List Int)→Option TY63)) (m:Nat) (v:sq48_3.V):=F48_3 k f48 m v.1.1 v.1.2.1 v.2.1 v.2.2.1 v.2.2.2.1
def fr48_3 (k:Nat) (f48:(TY49→TY13→TY65→(List Int)→Option TY63)):Frag:=⟨sq48_3,[(.exit 5,⟨[],[(14,.at 1001712 [])],[(1001712,none,KD54)]⟩)],fu48_3 k f48 k⟩
def F48_4 (k:Nat) (f48:(TY49→TY13→TY65→(List Int)→Option TY63)):Nat→Int→Int→Int→(List (List (List Int)))→(List (List Int))→(List (List Int))→Option TY60
 |0,_,_,_,_,_,_=>none
 |n+1,t17,t18,t21,e0,e1,e2 =>
  bif (decide (t21≤t18)) then
  bif (decide (t21≥t17)) then
  (F67 k e1 e2).bind fun r43 =>
  if 0≤(0:Int)∧(0:Int)<(length e0:Int) then
  (F68 k e2 (getD e0 (toNat (0:Int)) ([]:(List (List Int))))).bind fun r44 =>
  (F48_4 k f48 n t17 t18 (wrap .i64 (t21+(1:Int))) e0 r43.1.1 r44.1.1).bind some
  else none
  else
  if 0≤(0:Int)∧(0:Int)<(length e0:Int) then
  (F68 k e2 (getD e0 (toNat (0:Int)) ([]:(List (List Int))))).bind fun r45 =>
  (F48_4 k f48 n t17 t18 (wrap .i64 (t21+(1:Int))) e0 e1 r45.1.1).bind some
  else none
  else
  some ((),(e1,()))
def sq48_4:Shape:=⟨[(19,KD54),(20,KD54)],[(10,.at 2000010 []),(17,.val (.int .i64)),(18,.val (.int .i64)),(19,.at 2000019 []),(20,.at 2000020 []),(21,.val (.int .i64))],[(2000010,none,KD43),(2000019,none,KD54),(2000020,none,KD54)]⟩
def fu48_4 (k:Nat) (f48:(TY49→TY13→TY65→(List Int)→Option TY63)) (m:Nat) (v:sq48_4.V):=F48_4 k f48 m v.1.1 v.1.2.1 v.1.2.2.1 v.2.1 v.2.2.1 v.2.2.2.1
def fr48_4 (k:Nat) (f48:(TY49→TY13→TY65→(List Int)→Option TY63)):Frag:=⟨sq48_4,[(.exit 9,⟨[(19,KD54)],[(19,.at 2000019 [])],[(2000019,none,KD54)]⟩)],fu48_4 k f48 k⟩
def B48 (k:Nat) (f48:(TY49→TY13→TY65→(List Int)→Option TY63)) (a0:TY49) (a1:TY13) (a2:TY65) (a3:(List Int)):Option TY63 :=
 let x1:=(wrap .i64 ((length a3:Int)+(1:Int)))
 (F48_0 k f48 k a2 a3 x1 (0:Int) ((Tree.a a0).1,((Tree.a a0).2.1,((Tree.a a0).2.2.1,((Tree.a a0).2.2.2.1,((Tree.a a0).2.2.2.2.1,((Tree.l a0),())))))) a1 []).bind fun r5 =>
 let y8:=r5.1.2.2.1
 let y9:=r5.2.1
 let y11:=r5.2.2.2.1
 bif (y9.1==(1:Int)) then
 (F64 k y8).bind fun r12 =>
 some ((r12.1.1,()),())
 else
 bif (y9.1==(2:Int)) then
 (F65 k y8).bind fun r13 =>
 (F48_1 k f48 k r5.1.1 r5.1.2.1 y8 (0:Int) y9 r5.2.2.1 r13.1.1).bind fun r22 =>
 some ((r22.2.1,()),())
 else
 bif (y9.1==(3:Int)) then
 (F65 k y8).bind fun r24 =>
 (F48_1 k f48 k r5.1.1 r5.1.2.1 y8 (0:Int) y9 r5.2.2.1 r24.1.1).bind fun r25 =>
 some ((r25.2.1,()),())
 else
 bif (y9.1==(5:Int)) then
 if 0≤(0:Int)∧(0:Int)<(length y11:Int) then
 if 0≤(1:Int)∧(1:Int)<(length y11:Int) then
 (F67 k (getD y11 (toNat (0:Int)) ([]:(List (List Int)))) (getD y11 (toNat (1:Int)) ([]:(List (List Int))))).bind fun r27 =>
 some ((r27.1.1,()),())
 else none
 else none
 else
 bif (y9.1==(4:Int)) then
 if 0≤(0:Int)∧(0:Int)<(length y11:Int) then
 if 0≤(1:Int)∧(1:Int)<(length y11:Int) then
 (F68 k (getD y11 (toNat (0:Int)) ([]:(List (List Int)))) (getD y11 (toNat (1:Int)) ([]:(List (List Int))))).bind fun r28 =>
 some ((r28.1.1,()),())
 else none
 else none
 else
 bif (y9.1==(8:Int)) then
 (F65 k y8).bind fun r29 =>
 (F48_3 k f48 k y8 (0:Int) y9 r29.1.1 y11).bind fun r39 =>
 some ((r39.2.1,()),())
 else
 bif (y9.1==(6:Int)) then
 (F65 k y8).bind fun r41 =>
 (F64 k y8).bind fun r42 =>
 (F48_4 k f48 k (0:Int) y8 (0:Int) y11 r41.1.1 r42.1.1).bind fun r46 =>
 some ((r46.2.1,()),())
 else
 (F65 k y8).bind fun r48 =>
 (F64 k y8).bind fun r49 =>
 (F48_4 k f48 k y9.2.1 y9.2.2.1 (0:Int) y11 r48.1.1 r49.1.1).bind fun r50 =>
 some ((r50.2.1,()),())
def sb48 (k:Nat) (f48:(TY49→TY13→TY65→(List Int)→Option TY63)):Spec:=rs48 (B48 k f48)
def lim48:Lim:=⟨167,4,false,false,[],[]⟩
def cfg48 (k:Nat) (f48:(TY49→TY13→TY65→(List Int)→Option TY63)):Nat→Option Spec:=cfgL [(48,rs48 f48),(55,sp55 k),(64,sp64 k),(65,sp65 k),(66,sp66 k),(67,sp67 k),(68,sp68 k),(69,sp69 k)]
noncomputable def co48_0:Code:=codeAt (bodyOf Try.f48) [.r,.r,.r,.l,.r,.s]
noncomputable def cb48_0:Code:=codeAt (bodyOf Try.f48) [.r,.r,.r,.l,.r,.s,.b]
noncomputable def co48_1:Code:=codeAt (bodyOf Try.f48) [.r,.r,.r,.r,.l,.r,.s,.r,.r,.r,.l,.r,.l,.r,.s]
noncomputable def cb48_1:Code:=codeAt (bodyOf Try.f48) [.r,.r,.r,.r,.l,.r,.s,.r,.r,.r,.l,.r,.l,.r,.s,.b]
noncomputable def co48_2:Code:=codeAt (bodyOf Try.f48) [.r,.r,.r,.r,.l,.r,.s,.r,.r,.r,.r,.r,.r,.r,.r,.r,.l,.r,.l,.r,.s,.b,.r,.l,.s,.r,.s]
noncomputable def cb48_2:Code:=codeAt (bodyOf Try.f48) [.r,.r,.r,.r,.l,.r,.s,.r,.r,.r,.r,.r,.r,.r,.r,.r,.l,.r,.l,.r,.s,.b,.r,.l,.s,.r,.s,.b]
noncomputable def co48_3:Code:=codeAt (bodyOf Try.f48) [.r,.r,.r,.r,.l,.r,.s,.r,.r,.r,.r,.r,.r,.r,.r,.r,.l,.r,.l,.r,.s]
noncomputable def cb48_3:Code:=codeAt (bodyOf Try.f48) [.r,.r,.r,.r,.l,.r,.s,.r,.r,.r,.r,.r,.r,.r,.r,.r,.l,.r,.l,.r,.s,.b]
noncomputable def co48_4:Code:=codeAt (bodyOf Try.f48) [.r,.r,.r,.r,.r,.r,.r,.r,.l,.r,.s]
noncomputable def cb48_4:Code:=codeAt (bodyOf Try.f48) [.r,.r,.r,.r,.r,.r,.r,.r,.l,.r,.s,.b]
noncomputable def co48:Code:=codeAt (bodyOf Try.f48) []
theorem cfg48_ok (k:Nat) (f48:(TY49→TY13→TY65→(List Int)→Option TY63)) (h48:Callable Try.prog 48∧Valid Try.prog 48 (rs48 f48)):CfgOK Try.prog (cfg48 k f48):=cfgL_cons h48 (cfgL_cons (v55 k) (cfgL_cons (v64 k) (cfgL_cons (v65 k) (cfgL_cons (v66 k) (cfgL_cons (v67 k) (cfgL_cons (v68 k) (cfgL_cons (v69 k) (cfgL_nil))))))))
noncomputable def bo48_0 (k:Nat) (f48:(TY49→TY13→TY65→(List Int)→Option TY63)) (m:Nat) (v:sq48_0.V):=body Try.prog (stepper Try.prog (cfg48 k f48) lim48) .go cb48_0 (sq48_0.st v) (loopK (fr48_0 k f48) (fu48_0 k f48 m))
theorem pp48_0 (k:Nat) (f48:(TY49→TY13→TY65→(List Int)→Option TY63)) (m:Nat) (v:sq48_0.V):fu48_0 k f48 (m+1) v=(bo48_0 k f48 m v).eval∧(bo48_0 k f48 m v).left=(bo48_0 k f48 m v).right:=⟨by kernel_rfl,by kernel_rfl⟩
theorem fr48_0_ok (k:Nat) (f48:(TY49→TY13→TY65→(List Int)→Option TY63)) (h48:Callable Try.prog 48∧Valid Try.prog 48 (rs48 f48)):FragOK Try.prog lim48 (fr48_0 k f48) co48_0 :=
 frag_cast (by kernel_rfl) (loop_ok (cfg48_ok k f48 h48) (planOK_go _) (fu48_0 k f48) k (fun _=>rfl) (fun _=>rfl) (pp48_0 k f48))
noncomputable def bo48_1 (k:Nat) (f48:(TY49→TY13→TY65→(List Int)→Option TY63)) (m:Nat) (v:sq48_1.V):=body Try.prog (stepper Try.prog (cfg48 k f48) lim48) .go cb48_1 (sq48_1.st v) (loopK (fr48_1 k f48) (fu48_1 k f48 m))
theorem pp48_1 (k:Nat) (f48:(TY49→TY13→TY65→(List Int)→Option TY63)) (m:Nat) (v:sq48_1.V):fu48_1 k f48 (m+1) v=(bo48_1 k f48 m v).eval∧(bo48_1 k f48 m v).left=(bo48_1 k f48 m v).right:=⟨by kernel_rfl,by kernel_rfl⟩
theorem fr48_1_ok (k:Nat) (f48:(TY49→TY13→TY65→(List Int)→Option TY63)) (h48:Callable Try.prog 48∧Valid Try.prog 48 (rs48 f48)):FragOK Try.prog lim48 (fr48_1 k f48) co48_1 :=
 frag_cast (by kernel_rfl) (loop_ok (cfg48_ok k f48 h48) (planOK_go _) (fu48_1 k f48) k (fun _=>rfl) (fun _=>rfl) (pp48_1 k f48))
noncomputable def bo48_2 (k:Nat) (f48:(TY49→TY13→TY65→(List Int)→Option TY63)) (m:Nat) (v:sq48_2.V):=body Try.prog (stepper Try.prog (cfg48 k f48) lim48) .go cb48_2 (sq48_2.st v) (loopK (fr48_2 k f48) (fu48_2 k f48 m))
theorem pp48_2 (k:Nat) (f48:(TY49→TY13→TY65→(List Int)→Option TY63)) (m:Nat) (v:sq48_2.V):fu48_2 k f48 (m+1) v=(bo48_2 k f48 m v).eval∧(bo48_2 k f48 m v).left=(bo48_2 k f48 m v).right:=⟨by kernel_rfl,by kernel_rfl⟩
theorem fr48_2_ok (k:Nat) (f48:(TY49→TY13→TY65→(List Int)→Option TY63)) (h48:Callable Try.prog 48∧Valid Try.prog 48 (rs48 f48)):FragOK Try.prog lim48 (fr48_2 k f48) co48_2 :=
 frag_cast (by kernel_rfl) (loop_ok (cfg48_ok k f48 h48) (planOK_go _) (fu48_2 k f48) k (fun _=>rfl) (fun _=>rfl) (pp48_2 k f48))
def pl48_3 (k:Nat) (f48:(TY49→TY13→TY65→(List Int)→Option TY63)):Plan:=(.seq .go (.seq (.sub (.seq .go (.sub (.frag (fr48_2 k f48))))) .go))
noncomputable def bo48_3 (k:Nat) (f48:(TY49→TY13→TY65→(List Int)→Option TY63)) (m:Nat) (v:sq48_3.V):=body Try.prog (stepper Try.prog (cfg48 k f48) lim48) (pl48_3 k f48) cb48_3 (sq48_3.st v) (loopK (fr48_3 k f48) (fu48_3 k f48 m))
theorem pp48_3 (k:Nat) (f48:(TY49→TY13→TY65→(List Int)→Option TY63)) (m:Nat) (v:sq48_3.V):fu48_3 k f48 (m+1) v=(bo48_3 k f48 m v).eval∧(bo48_3 k f48 m v).left=(bo48_3 k f48 m v).right:=⟨by kernel_rfl,by kernel_rfl⟩
theorem fr48_3_ok (k:Nat) (f48:(TY49→TY13→TY65→(List Int)→Option TY63)) (h48:Callable Try.prog 48∧Valid Try.prog 48 (rs48 f48)):FragOK Try.prog lim48 (fr48_3 k f48) co48_3 :=
 frag_cast (by kernel_rfl) (loop_ok (cfg48_ok k f48 h48) (plan_of (L:=[(fr48_2 k f48,co48_2)]) (by kernel_rfl) (.cons (fr48_2_ok k f48 h48) .nil)) (fu48_3 k f48) k (fun _=>rfl) (fun _=>rfl) (pp48_3 k f48))
noncomputable def bo48_4 (k:Nat) (f48:(TY49→TY13→TY65→(List Int)→Option TY63)) (m:Nat) (v:sq48_4.V):=body Try.prog (stepper Try.prog (cfg48 k f48) lim48) .go cb48_4 (sq48_4.st v) (loopK (fr48_4 k f48) (fu48_4 k f48 m))
theorem pp48_4 (k:Nat) (f48:(TY49→TY13→TY65→(List Int)→Option TY63)) (m:Nat) (v:sq48_4.V):fu48_4 k f48 (m+1) v=(bo48_4 k f48 m v).eval∧(bo48_4 k f48 m v).left=(bo48_4 k f48 m v).right:=⟨by kernel_rfl,by kernel_rfl⟩
theorem fr48_4_ok (k:Nat) (f48:(TY49→TY13→TY65→(List Int)→Option TY63)) (h48:Callable Try.prog 48∧Valid Try.prog 48 (rs48 f48)):FragOK Try.prog lim48 (fr48_4 k f48) co48_4 :=
 frag_cast (by kernel_rfl) (loop_ok (cfg48_ok k f48 h48) (planOK_go _) (fu48_4 k f48) k (fun _=>rfl) (fun _=>rfl) (pp48_4 k f48))
def pl48 (k:Nat) (f48:(TY49→TY13→TY65→(List Int)→Option TY63)):Plan:=(.seq .go (.seq .go (.seq .go (.seq (.seq .go (.sub (.frag (fr48_0 k f48)))) (.seq (.seq .go (.sub (.seq .go (.seq .go (.seq .go (.seq (.seq .go (.seq (.seq .go (.sub (.frag (fr48_1 k f48)))) .go)) (.seq .go (.seq .go (.seq .go (.seq .go (.seq .go (.seq (.seq .go (.seq (.seq .go (.sub (.frag (fr48_3 k f48)))) .go)) .go)))))))))))) (.seq .go (.seq .go (.seq .go (.seq (.seq .go (.sub (.frag (fr48_4 k f48)))) .go)))))))))
noncomputable def bo48 (k:Nat) (f48:(TY49→TY13→TY65→(List Int)→Option TY63)) (x:AT (sb48 k f48).ps):=fnT Try.prog (cfg48 k f48) lim48 Try.f48 (bodyOf Try.f48) (pl48 k f48) (sb48 k f48) x
theorem vv48 (k:Nat) (f48:(TY49→TY13→TY65→(List Int)→Option TY63)) (x:AT (sb48 k f48).ps):(sb48 k f48).impl x=(bo48 k f48 x).eval∧(bo48 k f48 x).left=(bo48 k f48 x).right:=⟨by kernel_rfl,by kernel_rfl⟩
theorem b48 (k:Nat) (f48:(TY49→TY13→TY65→(List Int)→Option TY63)) (h48:Callable Try.prog 48∧Valid Try.prog 48 (rs48 f48)):Callable Try.prog 48∧Valid Try.prog 48 (sb48 k f48) :=
 fn_of (n:=lim48) (fn:=Try.f48) (p:=(pl48 k f48)) (cfg48_ok k f48 h48) (by kernel_rfl) (plan_of (L:=[(fr48_0 k f48,co48_0),(fr48_1 k f48,co48_1),(fr48_3 k f48,co48_3),(fr48_4 k f48,co48_4)]) (by kernel_rfl) (.cons (fr48_0_ok k f48 h48) (.cons (fr48_1_ok k f48 h48) (.cons (fr48_3_ok k f48 h48) (.cons (fr48_4_ok k f48 h48) .nil))))) (vv48 k f48)
def R48:Nat→(TY49→TY13→TY65→(List Int)→Option TY63)
 |0=>fun _ _ _ _=>none
 |k+1=>B48 k (R48 k)
def F48 (k:Nat) (a0_:TY49) (a1_:TY13) (a2_:TY65) (a3_:(List Int)):Option TY63:=(R48 k) a0_ a1_ a2_ a3_
def sp48 (k:Nat):Spec:=⟨[.val KD28,.val KD5,.val KD36,.val KD68],[.own KD54],fun x=>F48 k x.1 x.2.1 x.2.2.1 x.2.2.2.1⟩
theorem r48 (k:Nat):(Callable Try.prog 48∧Valid Try.prog 48 (rs48 (R48 k))):=by
 induction k with
 |zero=>exact ⟨⟨Try.f48,by kernel_rfl,by kernel_rfl,by kernel_rfl⟩,fun x r h=>by cases (show (none:Option _)=some r from h)⟩
 |succ k ih=>exact b48 k (R48 k) ih
theorem v48 (k:Nat):Callable Try.prog 48∧Valid Try.prog 48 (sp48 k):=(r48 k)
def F24_0 (k:Nat):Nat→(List Int)→Int→Int→(List (List Int))→(List Int)→Option TY69
 |0,_,_,_,_,_=>none
 |n+1,t2,t3,t11,e0,e1 =>
  let x4:=(decide (t11≤(length t2:Int)))
  bif x4 then
  if 0≤t3∧t3<(length e0:Int) then
  if 0≤t11∧t11<(length (getD e0 (toNat t3) ([]:(List Int))):Int) then
  let x5:=(getD (getD e0 (toNat t3) ([]:(List Int))) (toNat t11) (0:Int))
  bif (decide (x5<(1152921504606846976:Int))) then
  let x6:=(List.set (replicate 1 (0:Int)) 0 t11)
  if (length e1+length x6)*(8*2)≤281474976710656∧length e1+length x6≤9223372036854775807 then
  (F24_0 k n t2 t3 (wrap .i64 (t11+(1:Int))) e0 (e1++x6)).bind some
  else none
  else
  (F24_0 k n t2 t3 (wrap .i64 (t11+(1:Int))) e0 e1).bind some
  else none
  else none
  else
  some ((),(e1,()))
def sq24_0:Shape:=⟨[(9,KD71)],[(2,.val KD68),(3,.val (.int .i64)),(9,.at 2000009 []),(10,.at 1000272 []),(11,.val (.int .i64))],[(1000272,none,KD54),(2000009,none,KD71)]⟩
def fu24_0 (k m:Nat) (v:sq24_0.V):=F24_0 k m v.1.1 v.1.2.1 v.1.2.2.1 v.2.1 v.2.2.1
def fr24_0 (k:Nat):Frag:=⟨sq24_0,[(.exit 0,⟨[(9,KD71)],[(9,.at 2000009 [])],[(2000009,none,KD71)]⟩)],fu24_0 k k⟩
def F24 (k:Nat) (a0:TY49) (a1:TY13) (a2:(List Int)) (a3:Int):Option TY73 :=
 let x1:=(Tree.mk ((Tree.a a0).1,((Tree.a a0).2.1,((Tree.a a0).2.2.1,((Tree.a a0).2.2.2.1,((Tree.a a0).2.2.2.2.1,()))))) (Tree.l a0))
 (F29 k a1).bind fun r2 =>
 (F48 k x1 a1 r2.1.1 a2).bind fun r3 =>
 (F24_0 k k a2 a3 a3 r3.1.1 []).bind fun r7 =>
 some ((r7.2.1,()),())
def sp24 (k:Nat):Spec:=⟨[.val KD28,.val KD5,.val KD68,.val (.int .i64)],[.own KD71],fun x=>F24 k x.1 x.2.1 x.2.2.1 x.2.2.2.1⟩
def lim24:Lim:=⟨38,4,false,false,[],[]⟩
def cfg24 (k:Nat):Nat→Option Spec:=cfgL [(29,sp29 k),(48,sp48 k)]
noncomputable def co24_0:Code:=codeAt (bodyOf Try.f24) [.r,.r,.r,.l,.r,.s]
noncomputable def cb24_0:Code:=codeAt (bodyOf Try.f24) [.r,.r,.r,.l,.r,.s,.b]
noncomputable def co24:Code:=codeAt (bodyOf Try.f24) []
theorem cfg24_ok (k:Nat):CfgOK Try.prog (cfg24 k):=cfgL_cons (v29 k) (cfgL_cons (v48 k) (cfgL_nil))
noncomputable def bo24_0 (k m:Nat) (v:sq24_0.V):=body Try.prog (stepper Try.prog (cfg24 k) lim24) .go cb24_0 (sq24_0.st v) (loopK (fr24_0 k) (fu24_0 k m))
theorem pp24_0 (k m:Nat) (v:sq24_0.V):fu24_0 k (m+1) v=(bo24_0 k m v).eval∧(bo24_0 k m v).left=(bo24_0 k m v).right:=⟨by kernel_rfl,by kernel_rfl⟩
theorem fr24_0_ok (k:Nat):FragOK Try.prog lim24 (fr24_0 k) co24_0 :=
 frag_cast (by kernel_rfl) (loop_ok (cfg24_ok k) (planOK_go _) (fu24_0 k) k (fun _=>rfl) (fun _=>rfl) (pp24_0 k))
def pl24 (k:Nat):Plan:=(.seq .go (.seq .go (.seq .go (.seq (.seq .go (.sub (.frag (fr24_0 k)))) .go))))
noncomputable def bo24 (k:Nat) (x:AT (sp24 k).ps):=fnT Try.prog (cfg24 k) lim24 Try.f24 (bodyOf Try.f24) (pl24 k) (sp24 k) x
theorem vv24 (k:Nat) (x:AT (sp24 k).ps):(sp24 k).impl x=(bo24 k x).eval∧(bo24 k x).left=(bo24 k x).right:=⟨by kernel_rfl,by kernel_rfl⟩
theorem v24 (k:Nat):Callable Try.prog 24∧Valid Try.prog 24 (sp24 k) :=
 fn_of (n:=lim24) (fn:=Try.f24) (p:=(pl24 k)) (cfg24_ok k) (by kernel_rfl) (plan_of (L:=[(fr24_0 k,co24_0)]) (by kernel_rfl) (.cons (fr24_0_ok k) .nil)) (vv24 k)
def F4_0 (k:Nat):Nat→Int→Int→Int→Int→Int→Bool→Int→Int→Int→TY24→Int→Bool→TY3→(List (List Bool))→(List Int)→(List Int)→Option (((Int×Int×Int×Int×Bool×Int×Int×Int×TY24×Int×Bool×Unit)×(TY3×(List (List Bool))×(List Int)×(List Int)×Unit))⊕TY78)
 |0,_,_,_,_,_,_,_,_,_,_,_,_,_,_,_,_=>none
 |n+1,t16,t17,t73,t75,t77,t78,t83,t85,t88,t91,t92,t93,c9,e0,e1,e2 =>
  let x26:=(decide (t17<(length c9.1.2.1:Int)))
  bif x26 then
  if 0≤t16∧t16<(length e2:Int) then
  let x27:=(getD e2 (toNat t16) (0:Int))
  if 0≤x27∧x27<(length e0:Int) then
  if 0≤t17∧t17<(length (getD e0 (toNat x27) ([]:(List Bool))):Int) then
  let x28:=(getD (getD e0 (toNat x27) ([]:(List Bool))) (toNat t17) false)
  if 0≤t17∧t17<(length c9.1.2.1:Int) then
  let x29:=(getD c9.1.2.1 (toNat t17) ((0:Int),((0:Int),((Tree.mk ((0:Int),((0:Int),((0:Int),((0:Int),(ByteArray.empty,()))))) []),((Tree.mk ((0:Int),((0:Int),((0:Int),((0:Int),(ByteArray.empty,()))))) []),())))))
  (F24 k x29.2.2.2.1 c9.1 e1 t16).bind fun r30 =>
  let x31:=(decide ((length r30.1.1:Int)>(0:Int)))
  bif (!(x28==x31)) then
  some (.inr ((false,()),()))
  else
  (F4_0 k n t16 (wrap .i64 (t17+(1:Int))) t73 t75 t77 t78 t83 t85 t88 t91 t92 t93 c9 e0 e1 e2).bind some
  else none
  else none
  else none
  else none
  else
  some (.inl ((t16,t73,t75,t77,t78,t83,t85,t88,t91,t92,t93,()),(c9,e0,e1,e2,())))
def sq4_0:Shape:=⟨[],[(9,.ptr 9 []),(12,.at 1000625 []),(14,.at 1000768 []),(15,.at 1000848 []),(16,.val (.int .i64)),(17,.val (.int .i64)),(72,.at 1000848 []),(73,.val (.int .i64)),(75,.val (.int .i64)),(76,.at 1000625 []),(77,.val (.int .i64)),(78,.val .bool),(81,.at 1000625 []),(82,.at 1000848 []),(83,.val (.int .i64)),(85,.val (.int .i64)),(88,.val (.int .i64)),(89,.ptr 9 [.fst]),(90,.ptr 9 [.fst,.snd,.fst]),(91,.val KD10),(92,.val (.int .i64)),(93,.val .bool)],[(9,some 33,KD1),(1000625,none,KD58),(1000768,none,KD71),(1000848,none,KD71)]⟩
def fu4_0 (k m:Nat) (v:sq4_0.V):=F4_0 k m v.1.1 v.1.2.1 v.1.2.2.1 v.1.2.2.2.1 v.1.2.2.2.2.1 v.1.2.2.2.2.2.1 v.1.2.2.2.2.2.2.1 v.1.2.2.2.2.2.2.2.1 v.1.2.2.2.2.2.2.2.2.1 v.1.2.2.2.2.2.2.2.2.2.1 v.1.2.2.2.2.2.2.2.2.2.2.1 v.1.2.2.2.2.2.2.2.2.2.2.2.1 v.2.1 v.2.2.1 v.2.2.2.1 v.2.2.2.2.1
def fr4_0 (k:Nat):Frag:=⟨sq4_0,[(.exit 2,⟨[],[(9,.ptr 9 []),(12,.at 1000625 []),(14,.at 1000768 []),(15,.at 1000848 []),(16,.val (.int .i64)),(72,.at 1000848 []),(73,.val (.int .i64)),(75,.val (.int .i64)),(76,.at 1000625 []),(77,.val (.int .i64)),(78,.val .bool),(81,.at 1000625 []),(82,.at 1000848 []),(83,.val (.int .i64)),(85,.val (.int .i64)),(88,.val (.int .i64)),(89,.ptr 9 [.fst]),(90,.ptr 9 [.fst,.snd,.fst]),(91,.val KD10),(92,.val (.int .i64)),(93,.val .bool)],[(9,some 33,KD1),(1000625,none,KD58),(1000768,none,KD71),(1000848,none,KD71)]⟩),(.ret,⟨[],[(8,.val .bool)],[]⟩)],fu4_0 k k⟩
def F4_1 (k:Nat):Nat→Int→TY3→(List (List Bool))→(List Int)→(List Int)→Option ((Unit×Unit)⊕TY78)
 |0,_,_,_,_,_=>none
 |n+1,t16,c9,e0,e1,e2 =>
  let x50:=(decide (t16≤(length e1:Int)))
  bif x50 then
  if 0≤t16∧t16<(length e2:Int) then
  let x51:=(getD e2 (toNat t16) (0:Int))
  bif (decide (x51<(0:Int))) then
  some (.inr ((false,()),()))
  else
  if 0≤t16∧t16<(length e2:Int) then
  let x52:=(getD e2 (toNat t16) (0:Int))
  let x53:=(decide (x52≥(length e0:Int)))
  bif x53 then
  some (.inr ((false,()),()))
  else
  if 0≤t16∧t16<(length e2:Int) then
  let x54:=(getD e2 (toNat t16) (0:Int))
  if 0≤x54∧x54<(length e0:Int) then
  let x55:=(length (getD e0 (toNat x54) ([]:(List Bool))):Int)
  let x56:=(x55 != (length c9.1.2.1:Int))
  bif x56 then
  some (.inr ((false,()),()))
  else
  (F4_0 k k t16 (0:Int) t16 x52 (length e0:Int) x53 t16 x54 x55 c9.1.2.1 (length c9.1.2.1:Int) x56 c9 e0 e1 e2).bind fun r57 =>
  match r57 with
  |.inl r58 =>
   (F4_1 k n (wrap .i64 (r58.1.1+(1:Int))) r58.2.1 r58.2.2.1 r58.2.2.2.1 r58.2.2.2.2.1).bind some
  |.inr r58 =>
   some (.inr ((r58.1.1,()),()))
  else none
  else none
  else none
  else none
  else
  some (.inl ((),()))
def sq4_1:Shape:=⟨[],[(9,.ptr 9 []),(12,.at 1000625 []),(14,.at 1000768 []),(15,.at 1000848 []),(16,.val (.int .i64))],[(9,some 33,KD1),(1000625,none,KD58),(1000768,none,KD71),(1000848,none,KD71)]⟩
def fu4_1 (k m:Nat) (v:sq4_1.V):=F4_1 k m v.1.1 v.2.1 v.2.2.1 v.2.2.2.1 v.2.2.2.2.1
def fr4_1 (k:Nat):Frag:=⟨sq4_1,[(.exit 0,⟨[],[],[]⟩),(.ret,⟨[],[(8,.val .bool)],[]⟩)],fu4_1 k k⟩
def F4 (k:Nat) (a0:TY64) (a1:(List Int)) (a2:(List Int)) (a3:(List Int)):Option TY78 :=
 (F12 k).bind fun r1 =>
 bif (!r1.1.1) then
 some ((false,()),())
 else
 (F13 k a0).bind fun r2 =>
 bif (!r2.1.1) then
 some ((true,()),())
 else
 (F14 k a0 a1 a2).bind fun r3 =>
 bif (!r3.1.2.1) then
 some ((true,()),())
 else
 (F16 k r3.1.1.2.2.2.2.2.1 r3.1.1.2.2.2.1 r3.1.1.2.2.2.2.2.2.1 (60:Int)).bind fun r8 =>
 bif (r8.1.2.2.1 != (0:Int)) then
 some (((r8.1.2.2.1==(4:Int)),()),())
 else
 (F21 k a3 (7:Int)).bind fun r9 =>
 (F20 k r3.1.1 r9.1.1).bind fun r10 =>
 (F22 k r8.1.1 r10.1.1).bind fun r11 =>
 let x12:=(wrap .i64 ((length r9.1.1:Int)+(1:Int)))
 bif ((length r11.1.1:Int) != x12) then
 some ((false,()),())
 else
 (F4_1 k k (0:Int) r3.1.1 r8.1.2.1 r9.1.1 r11.1.1).bind fun r75 =>
 match r75 with
 |.inl r76 =>
  some ((true,()),())
 |.inr r76 =>
  some ((r76.1.1,()),())
def sp4 (k:Nat):Spec:=⟨[.val KD51,.val KD68,.val KD68,.val KD68],[.val .bool],fun x=>F4 k x.1 x.2.1 x.2.2.1 x.2.2.2.1⟩
def lim4:Lim:=⟨128,4,false,false,[],[]⟩
def cfg4 (k:Nat):Nat→Option Spec:=cfgL [(12,sp12 k),(13,sp13 k),(14,sp14 k),(16,sp16 k),(20,sp20 k),(21,sp21 k),(22,sp22 k),(24,sp24 k)]
noncomputable def co4_0:Code:=codeAt (bodyOf Try.f4) [.r,.r,.r,.r,.r,.r,.r,.r,.r,.r,.l,.r,.s,.b,.r,.l,.s,.r,.r,.s]
noncomputable def cb4_0:Code:=codeAt (bodyOf Try.f4) [.r,.r,.r,.r,.r,.r,.r,.r,.r,.r,.l,.r,.s,.b,.r,.l,.s,.r,.r,.s,.b]
noncomputable def co4_1:Code:=codeAt (bodyOf Try.f4) [.r,.r,.r,.r,.r,.r,.r,.r,.r,.r,.l,.r,.s]
noncomputable def cb4_1:Code:=codeAt (bodyOf Try.f4) [.r,.r,.r,.r,.r,.r,.r,.r,.r,.r,.l,.r,.s,.b]
noncomputable def co4:Code:=codeAt (bodyOf Try.f4) []
theorem cfg4_ok (k:Nat):CfgOK Try.prog (cfg4 k):=cfgL_cons (v12 k) (cfgL_cons (v13 k) (cfgL_cons (v14 k) (cfgL_cons (v16 k) (cfgL_cons (v20 k) (cfgL_cons (v21 k) (cfgL_cons (v22 k) (cfgL_cons (v24 k) (cfgL_nil))))))))
noncomputable def bo4_0 (k m:Nat) (v:sq4_0.V):=body Try.prog (stepper Try.prog (cfg4 k) lim4) .go cb4_0 (sq4_0.st v) (loopK (fr4_0 k) (fu4_0 k m))
theorem pp4_0 (k m:Nat) (v:sq4_0.V):fu4_0 k (m+1) v=(bo4_0 k m v).eval∧(bo4_0 k m v).left=(bo4_0 k m v).right:=⟨by kernel_rfl,by kernel_rfl⟩
theorem fr4_0_ok (k:Nat):FragOK Try.prog lim4 (fr4_0 k) co4_0 :=
 frag_cast (by kernel_rfl) (loop_ok (cfg4_ok k) (planOK_go _) (fu4_0 k) k (fun _=>rfl) (fun _=>rfl) (pp4_0 k))
def pl4_1 (k:Nat):Plan:=(.seq .go (.seq (.sub (.seq .go (.seq .go (.sub (.frag (fr4_0 k)))))) .go))
noncomputable def bo4_1 (k m:Nat) (v:sq4_1.V):=body Try.prog (stepper Try.prog (cfg4 k) lim4) (pl4_1 k) cb4_1 (sq4_1.st v) (loopK (fr4_1 k) (fu4_1 k m))
theorem pp4_1 (k m:Nat) (v:sq4_1.V):fu4_1 k (m+1) v=(bo4_1 k m v).eval∧(bo4_1 k m v).left=(bo4_1 k m v).right:=⟨by kernel_rfl,by kernel_rfl⟩
theorem fr4_1_ok (k:Nat):FragOK Try.prog lim4 (fr4_1 k) co4_1 :=
 frag_cast (by kernel_rfl) (loop_ok (cfg4_ok k) (plan_of (L:=[(fr4_0 k,co4_0)]) (by kernel_rfl) (.cons (fr4_0_ok k) .nil)) (fu4_1 k) k (fun _=>rfl) (fun _=>rfl) (pp4_1 k))
def pl4 (k:Nat):Plan:=(.seq .go (.seq .go (.seq .go (.seq .go (.seq .go (.seq .go (.seq .go (.seq .go (.seq .go (.seq .go (.seq (.seq .go (.sub (.frag (fr4_1 k)))) .go)))))))))))
noncomputable def bo4 (k:Nat) (x:AT (sp4 k).ps):=fnT Try.prog (cfg4 k) lim4 Try.f4 (bodyOf Try.f4) (pl4 k) (sp4 k) x
theorem vv4 (k:Nat) (x:AT (sp4 k).ps):(sp4 k).impl x=(bo4 k x).eval∧(bo4 k x).left=(bo4 k x).right:=⟨by kernel_rfl,by kernel_rfl⟩
theorem v4 (k:Nat):Callable Try.prog 4∧Valid Try.prog 4 (sp4 k) :=
 fn_of (n:=lim4) (fn:=Try.f4) (p:=(pl4 k)) (cfg4_ok k) (by kernel_rfl) (plan_of (L:=[(fr4_1 k,co4_1)]) (by kernel_rfl) (.cons (fr4_1_ok k) .nil)) (vv4 k)
end Go.Proofs.YtibammoednhnoaaE

