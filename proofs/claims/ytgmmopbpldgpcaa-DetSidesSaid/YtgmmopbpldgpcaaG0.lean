/- Functions of the program, as Lean functions, with their contracts; printed by gen.py. Conditions: none. -/
import Derived.Test.YtgmmopbpldgpcaaE36
import Derived.Test.YtgmmopbpldgpcaaProg
set_option linter.unusedVariables false
namespace Go.Proofs.YtgmmopbpldgpcaaE
open Kd
open List (length getD replicate take drop)
open Int (toNat)
open IntKind (wrap)
set_option maxRecDepth 20000
abbrev TY74:Type:=Int×(Int×Unit)
abbrev TY73:Type:=(Int×Unit)×Unit
abbrev TY72:Type:=(Bool×Unit)×Unit
abbrev KD71:Kd:=.sl true 4 .bool none
abbrev TY70:Type:=TY73
abbrev TY69:Type:=(List (List Int))×Unit
abbrev TY68:Type:=List TY74
abbrev TY67:Type:=Tree TY74
abbrev KD66:Kd:=.sl true 5 (.int .u8) none
abbrev TY65:Type:=((List Int)×Unit)×Unit
abbrev KD64:Kd:=.sl true 3 (.int .i64) none
abbrev TY63:Type:=(Unit×((List Int)×Unit))
abbrev KD62:Kd:=.sl false 3 (.int .i64) none
abbrev TY61:Type:=(List Int)×(List Int)×Unit
abbrev TY60:Type:=Option (List (ByteArray×Int))
abbrev TY59:Type:=List TY68
abbrev TY58:Type:=List TY67
abbrev TY57:Type:=List (Int×TY74)
abbrev TY56:Type:=TY68×Unit
abbrev KD55:Kd:=.sl true 71 KD71 none
abbrev KD54:Kd:=.sl false 71 (.sl false 4 .bool none) none
abbrev TY53:Type:=TY56×Unit
abbrev KD52:Kd:=.sl true 23 KD64 none
abbrev TY51:Type:=Tree (Int×(Int×(Int×(ByteArray×Unit))))
abbrev KD50:Kd:=.tl 77 (.pair (.int .i64) (.pair (.int .i64) .unit))
abbrev TY49:Type:=(List (List Int))×((List (List (List Int)))×Unit)
abbrev KD48:Kd:=.tree 77 (.pair (.int .i64) (.pair (.int .i64) .unit))
abbrev TY47:Type:=Tree (Int×(Int×(Int×(Int×(ByteArray×Unit)))))
abbrev KD46:Kd:=.sl true 160 (.pair (.int .i64) (.pair (.int .i64) .unit)) none
abbrev KD45:Kd:=.pair (.int .i64) (.pair (.int .i64) (.pair (.int .i64) .unit))
abbrev KD44:Kd:=.sl false 160 (.pair (.int .i64) (.pair (.int .i64) .unit)) none
abbrev TY43:Type:=TY59×Int×Int×Int×Int×Unit
abbrev TY42:Type:=(TY47×Unit)×Unit
abbrev TY41:Type:=List (ByteArray×(TY51×Unit))
abbrev TY40:Type:=(Int×Unit)×(TY49×Unit)
abbrev TY39:Type:=TY56×(TY59×Unit)
abbrev KD38:Kd:=.sl true 127 KD45 none
abbrev KD37:Kd:=.sl true 130 KD44 none
abbrev KD36:Kd:=.sl false 130 KD44 none
abbrev TY35:Type:=TY41×Unit
abbrev KD34:Kd:=.tree 134 (.pair (.int .i64) (.pair (.int .i64) (.pair (.int .i64) (.pair .str .unit))))
abbrev TY33:Type:=(List Int)×((List Int)×((List Int)×(TY57×(Int×Unit))))
abbrev TY32:Type:=Int×(Int×(Int×(ByteArray×((List TY51)×Unit))))
abbrev TY31:Type:=List TY33
abbrev KD30:Kd:=.tree 65 (.pair (.int .i64) (.pair (.int .i64) (.pair (.int .i64) (.pair (.int .i64) (.pair .str .unit)))))
abbrev TY29:Type:=(TY33×Unit)×Unit
abbrev TY28:Type:=Int×(Int×(Int×(Int×(ByteArray×((List TY47)×Unit)))))
abbrev TY27:Type:=TY33×(List (List Bool))×Unit
abbrev KD26:Kd:=.sl true 136 (.pair .str (.pair KD34 .unit)) none
abbrev TY25:Type:=((Int×Unit)×TY27)
abbrev TY24:Type:=(TY51×Unit)×TY35
abbrev TY23:Type:=List (Int×(Int×(TY47×(TY47×Unit))))
abbrev KD22:Kd:=.pair (.int .i64) (.pair (.int .i64) (.pair (.int .i64) (.pair .str (.pair (.tl 134 (.pair (.int .i64) (.pair (.int .i64) (.pair (.int .i64) (.pair .str .unit))))) .unit))))
abbrev TY21:Type:=TY23×Int×(List (List Bool))×Int×Int×Unit
abbrev TY20:Type:=(TY60×TY69)×(TY31×((List (List Bool))×Unit))
abbrev KD19:Kd:=.pair (.int .i64) (.pair (.int .i64) (.pair (.int .i64) (.pair (.int .i64) (.pair .str (.pair (.tl 65 (.pair (.int .i64) (.pair (.int .i64) (.pair (.int .i64) (.pair (.int .i64) (.pair .str .unit)))))) .unit)))))
abbrev TY18:Type:=Option TY20
abbrev TY17:Type:=(Unit×(TY33×TY33×Unit))
abbrev KD16:Kd:=.pair KD64 (.pair KD64 (.pair KD64 (.pair KD38 (.pair (.int .i64) .unit))))
abbrev KD15:Kd:=.pair KD62 (.pair KD62 (.pair KD62 (.pair (.sl false 127 KD45 none) (.pair (.int .i64) .unit))))
abbrev TY14:Type:=TY33×TY33×TY57×Unit
abbrev TY13:Type:=TY41×(TY23×Unit)
abbrev TY12:Type:=TY33×TY33×(List Bool)×(List Bool)×(List Bool)×Unit
abbrev KD11:Kd:=.sl false 81 KD15 none
abbrev KD10:Kd:=.sl false 67 (.pair (.int .i64) (.pair (.int .i64) (.pair KD30 (.pair KD30 .unit)))) none
abbrev KD9:Kd:=.pair (.pair (.mp true 101 .i64) (.pair (.sl true 108 KD64 none) .unit)) (.pair KD11 (.pair KD54 .unit))
abbrev TY8:Type:=((Int×Unit)×(TY33×TY33×TY33×TY33×Unit))
abbrev KD7:Kd:=.ep (.pair (.pair (.mp false 101 .i64) (.pair (.sl false 108 KD62 none) .unit)) (.pair KD11 (.pair KD54 .unit)))
abbrev KD6:Kd:=.pair KD26 (.pair (.sl true 67 (.pair (.int .i64) (.pair (.int .i64) (.pair KD30 (.pair KD30 .unit)))) none) .unit)
abbrev KD5:Kd:=.pair (.sl false 136 (.pair .str (.pair KD34 .unit)) none) (.pair KD10 .unit)
abbrev TY4:Type:=((TY18×(List Int)×Int×Int×TY31×Int×Int×Unit)×(TY33×(List Int)×Unit))
abbrev TY3:Type:=TY13×((List Int)×((List Int)×((List (List Bool))×(TY31×(TY31×(Int×Unit))))))
abbrev KD2:Kd:=.pair KD6 (.pair KD64 (.pair KD64 (.pair KD55 (.pair (.sl true 81 KD16 none) (.pair (.sl true 81 KD16 none) (.pair (.int .i64) .unit))))))
abbrev KD1:Kd:=.pair KD5 (.pair KD64 (.pair KD64 (.pair KD55 (.pair (.sl true 81 KD15 none) (.pair (.sl true 81 KD15 none) (.pair (.int .i64) .unit))))))
abbrev KD0:Kd:=.pair KD5 (.pair KD62 (.pair KD62 (.pair KD54 (.pair KD11 (.pair KD11 (.pair (.int .i64) .unit))))))
def F50_0 (k:Nat):Nat→Int→TY31→Int→Int→Option TY70
 |0,_,_,_,_=>none
 |n+1,t3,t6,t7,t8 =>
  bif (decide (t8<t7)) then
  if 0≤t8∧t8<(length t6:Int) then
  let x3:=(getD t6 (toNat t8) (([]:(List Int)),(([]:(List Int)),(([]:(List Int)),(([]:TY57),((0:Int),()))))))
  let x4:=(wrap .i64 (t3+(length x3.1:Int)))
  (F50_0 k n x4 t6 t7 (wrap .i64 (t8+(1:Int)))).bind some
  else none
  else
  some ((t3,()),())
def sq50_0:Shape:=⟨[],[(3,.val (.int .i64)),(6,.val KD11),(7,.val (.int .i64)),(8,.val (.int .i64))],[]⟩
def fu50_0 (k m:Nat) (v:sq50_0.V):=F50_0 k m v.1.1 v.1.2.1 v.1.2.2.1 v.1.2.2.2.1
def fr50_0 (k:Nat):Frag:=⟨sq50_0,[(.exit 0,⟨[],[(3,.val (.int .i64))],[]⟩)],fu50_0 k k⟩
def F50 (k:Nat) (a0:TY31):Option TY73 :=
 (F50_0 k k (0:Int) a0 (length a0:Int) (0:Int)).bind fun r5 =>
 some ((r5.1.1,()),())
def sp50 (k:Nat):Spec:=⟨[.val KD11],[.val (.int .i64)],fun x=>F50 k x.1⟩
def lim50:Lim:=⟨19,1,false,false,[],[]⟩
def cfg50 (k:Nat):Nat→Option Spec:=cfgL []
noncomputable def co50_0:Code:=codeAt (bodyOf Try.f50) [.r,.r,.l,.r,.s]
noncomputable def cb50_0:Code:=codeAt (bodyOf Try.f50) [.r,.r,.l,.r,.s,.b]
noncomputable def co50:Code:=codeAt (bodyOf Try.f50) []
theorem cfg50_ok (k:Nat):CfgOK Try.prog (cfg50 k):=cfgL_nil
noncomputable def bo50_0 (k m:Nat) (v:sq50_0.V):=body Try.prog (stepper Try.prog (cfg50 k) lim50) .go cb50_0 (sq50_0.st v) (loopK (fr50_0 k) (fu50_0 k m))
theorem pp50_0 (k m:Nat) (v:sq50_0.V):fu50_0 k (m+1) v=(bo50_0 k m v).eval∧(bo50_0 k m v).left=(bo50_0 k m v).right:=⟨by kernel_rfl,by kernel_rfl⟩
theorem fr50_0_ok (k:Nat):FragOK Try.prog lim50 (fr50_0 k) co50_0 :=
 frag_cast (by kernel_rfl) (loop_ok (cfg50_ok k) (planOK_go _) (fu50_0 k) k (fun _=>rfl) (fun _=>rfl) (pp50_0 k))
def pl50 (k:Nat):Plan:=(.seq .go (.seq .go (.seq (.seq .go (.sub (.frag (fr50_0 k)))) .go)))
noncomputable def bo50 (k:Nat) (x:AT (sp50 k).ps):=fnT Try.prog (cfg50 k) lim50 Try.f50 (bodyOf Try.f50) (pl50 k) (sp50 k) x
theorem vv50 (k:Nat) (x:AT (sp50 k).ps):(sp50 k).impl x=(bo50 k x).eval∧(bo50 k x).left=(bo50 k x).right:=⟨by kernel_rfl,by kernel_rfl⟩
theorem v50 (k:Nat):Callable Try.prog 50∧Valid Try.prog 50 (sp50 k) :=
 fn_of (n:=lim50) (fn:=Try.f50) (p:=(pl50 k)) (cfg50_ok k) (by kernel_rfl) (plan_of (L:=[(fr50_0 k,co50_0)]) (by kernel_rfl) (.cons (fr50_0_ok k) .nil)) (vv50 k)
def F49_0 (k:Nat):Nat→Int→Int→(List Int)→Option TY63
 |0,_,_,_=>none
 |n+1,t8,t9,c6 =>
  bif (decide (t9<t8)) then
  if 0≤t9∧t9<(length c6:Int) then
  let x3:=(List.set c6 (toNat t9) (1152921504606846976:Int))
  (F49_0 k n t8 (wrap .i64 (t9+(1:Int))) x3).bind some
  else none
  else
  some ((),(c6,()))
def sq49_0:Shape:=⟨[],[(3,.at 6 []),(8,.val (.int .i64)),(9,.val (.int .i64))],[(6,none,KD64)]⟩
def fu49_0 (k m:Nat) (v:sq49_0.V):=F49_0 k m v.1.1 v.1.2.1 v.2.1
def fr49_0 (k:Nat):Frag:=⟨sq49_0,[(.exit 0,⟨[],[(3,.at 6 [])],[(6,none,KD64)]⟩)],fu49_0 k k⟩
def F49 (k:Nat) (a0:Int):Option TY65 :=
 if (0≤a0∧a0<a0+1)∧a0≤9223372036854775807∧((8:Nat):Int)*a0≤281474976710656 then
 let x1:=(length (replicate (toNat a0) (0:Int)):Int)
 (F49_0 k k x1 (0:Int) (replicate (toNat a0) (0:Int))).bind fun r4 =>
 some ((r4.2.1,()),())
 else none
def sp49 (k:Nat):Spec:=⟨[.val (.int .i64)],[.own KD64],fun x=>F49 k x.1⟩
def lim49:Lim:=⟨17,1,false,false,[],[]⟩
def cfg49 (k:Nat):Nat→Option Spec:=cfgL []
noncomputable def co49_0:Code:=codeAt (bodyOf Try.f49) [.r,.r,.l,.r,.s]
noncomputable def cb49_0:Code:=codeAt (bodyOf Try.f49) [.r,.r,.l,.r,.s,.b]
noncomputable def co49:Code:=codeAt (bodyOf Try.f49) []
theorem cfg49_ok (k:Nat):CfgOK Try.prog (cfg49 k):=cfgL_nil
noncomputable def bo49_0 (k m:Nat) (v:sq49_0.V):=body Try.prog (stepper Try.prog (cfg49 k) lim49) .go cb49_0 (sq49_0.st v) (loopK (fr49_0 k) (fu49_0 k m))
theorem pp49_0 (k m:Nat) (v:sq49_0.V):fu49_0 k (m+1) v=(bo49_0 k m v).eval∧(bo49_0 k m v).left=(bo49_0 k m v).right:=⟨by kernel_rfl,by kernel_rfl⟩
theorem fr49_0_ok (k:Nat):FragOK Try.prog lim49 (fr49_0 k) co49_0 :=
 frag_cast (by kernel_rfl) (loop_ok (cfg49_ok k) (planOK_go _) (fu49_0 k) k (fun _=>rfl) (fun _=>rfl) (pp49_0 k))
def pl49 (k:Nat):Plan:=(.seq .go (.seq .go (.seq (.seq .go (.sub (.frag (fr49_0 k)))) .go)))
noncomputable def bo49 (k:Nat) (x:AT (sp49 k).ps):=fnT Try.prog (cfg49 k) lim49 Try.f49 (bodyOf Try.f49) (pl49 k) (sp49 k) x
theorem vv49 (k:Nat) (x:AT (sp49 k).ps):(sp49 k).impl x=(bo49 k x).eval∧(bo49 k x).left=(bo49 k x).right:=⟨by kernel_rfl,by kernel_rfl⟩
theorem v49 (k:Nat):Callable Try.prog 49∧Valid Try.prog 49 (sp49 k) :=
 fn_of (n:=lim49) (fn:=Try.f49) (p:=(pl49 k)) (cfg49_ok k) (by kernel_rfl) (plan_of (L:=[(fr49_0 k,co49_0)]) (by kernel_rfl) (.cons (fr49_0_ok k) .nil)) (vv49 k)
def F77_0 (k:Nat):Nat→Int→Int→(List Int)→Int→Int→(List Int)→Option ((((List Int)×Int×Int×Unit)×((List Int)×Unit)))
 |0,_,_,_,_,_,_=>none
 |n+1,t5,t6,t7,t8,t9,e0 =>
  bif (decide (t6≥(0:Int))) then
  if 0≤t6 then
  let x1:=(Int.fdiv t5 (2^(min (toNat t6) (IntKind.bits .i64))))
  let x2:=(List.set (replicate 1 (0:Int)) 0 (wrap .u8 x1))
  if (length e0+length x2)*(1*2)≤281474976710656∧length e0+length x2≤9223372036854775807 then
  (F77_0 k n t5 (wrap .i64 (t6-(8:Int))) t7 t8 t9 (e0++x2)).bind some
  else none
  else none
  else
  some ((t7,t8,t9,()),(e0,()))
def sq77_0:Shape:=⟨[(3,KD66)],[(3,.at 2000003 []),(5,.val (.int .i64)),(6,.val (.int .i64)),(7,.val KD62),(8,.val (.int .i64)),(9,.val (.int .i64))],[(2000003,none,KD66)]⟩
def fu77_0 (k m:Nat) (v:sq77_0.V):=F77_0 k m v.1.1 v.1.2.1 v.1.2.2.1 v.1.2.2.2.1 v.1.2.2.2.2.1 v.2.1
def fr77_0 (k:Nat):Frag:=⟨sq77_0,[(.exit 2,⟨[(3,KD66)],[(3,.at 2000003 []),(7,.val KD62),(8,.val (.int .i64)),(9,.val (.int .i64))],[(2000003,none,KD66)]⟩)],fu77_0 k k⟩
def F77_1 (k:Nat):Nat→(List Int)→Int→Int→(List Int)→Option TY63
 |0,_,_,_,_=>none
 |n+1,t7,t8,t9,e0 =>
  bif (decide (t9<t8)) then
  if 0≤t9∧t9<(length t7:Int) then
  (F77_0 k k (getD t7 (toNat t9) (0:Int)) (56:Int) t7 t8 t9 e0).bind fun r3 =>
  (F77_1 k n r3.1.1 r3.1.2.1 (wrap .i64 (r3.1.2.2.1+(1:Int))) r3.2.1).bind some
  else none
  else
  some ((),(e0,()))
def sq77_1:Shape:=⟨[(3,KD66)],[(3,.at 2000003 []),(7,.val KD62),(8,.val (.int .i64)),(9,.val (.int .i64))],[(2000003,none,KD66)]⟩
def fu77_1 (k m:Nat) (v:sq77_1.V):=F77_1 k m v.1.1 v.1.2.1 v.1.2.2.1 v.2.1
def fr77_1 (k:Nat):Frag:=⟨sq77_1,[(.exit 0,⟨[(3,KD66)],[(3,.at 2000003 [])],[(2000003,none,KD66)]⟩)],fu77_1 k k⟩
def F77 (k:Nat) (a0:(List Int)):Option ((ByteArray×Unit)×Unit) :=
 (F77_1 k k a0 (length a0:Int) (0:Int) []).bind fun r8 =>
 if length r8.2.1≤9223372036854775807 then
 some (((bstr r8.2.1),()),())
 else none
def sp77 (k:Nat):Spec:=⟨[.val KD62],[.val .str],fun x=>F77 k x.1⟩
def lim77:Lim:=⟨27,1,false,false,[],[]⟩
def cfg77 (k:Nat):Nat→Option Spec:=cfgL []
noncomputable def co77_0:Code:=codeAt (bodyOf Try.f77) [.r,.r,.l,.r,.s,.b,.r,.r,.l,.s,.r,.r,.s]
noncomputable def cb77_0:Code:=codeAt (bodyOf Try.f77) [.r,.r,.l,.r,.s,.b,.r,.r,.l,.s,.r,.r,.s,.b]
noncomputable def co77_1:Code:=codeAt (bodyOf Try.f77) [.r,.r,.l,.r,.s]
noncomputable def cb77_1:Code:=codeAt (bodyOf Try.f77) [.r,.r,.l,.r,.s,.b]
noncomputable def co77:Code:=codeAt (bodyOf Try.f77) []
theorem cfg77_ok (k:Nat):CfgOK Try.prog (cfg77 k):=cfgL_nil
noncomputable def bo77_0 (k m:Nat) (v:sq77_0.V):=body Try.prog (stepper Try.prog (cfg77 k) lim77) .go cb77_0 (sq77_0.st v) (loopK (fr77_0 k) (fu77_0 k m))
theorem pp77_0 (k m:Nat) (v:sq77_0.V):fu77_0 k (m+1) v=(bo77_0 k m v).eval∧(bo77_0 k m v).left=(bo77_0 k m v).right:=⟨by kernel_rfl,by kernel_rfl⟩
theorem fr77_0_ok (k:Nat):FragOK Try.prog lim77 (fr77_0 k) co77_0 :=
 frag_cast (by kernel_rfl) (loop_ok (cfg77_ok k) (planOK_go _) (fu77_0 k) k (fun _=>rfl) (fun _=>rfl) (pp77_0 k))
def pl77_1 (k:Nat):Plan:=(.seq .go (.seq .go (.seq (.sub (.seq .go (.seq .go (.sub (.frag (fr77_0 k)))))) .go)))
noncomputable def bo77_1 (k m:Nat) (v:sq77_1.V):=body Try.prog (stepper Try.prog (cfg77 k) lim77) (pl77_1 k) cb77_1 (sq77_1.st v) (loopK (fr77_1 k) (fu77_1 k m))
theorem pp77_1 (k m:Nat) (v:sq77_1.V):fu77_1 k (m+1) v=(bo77_1 k m v).eval∧(bo77_1 k m v).left=(bo77_1 k m v).right:=⟨by kernel_rfl,by kernel_rfl⟩
theorem fr77_1_ok (k:Nat):FragOK Try.prog lim77 (fr77_1 k) co77_1 :=
 frag_cast (by kernel_rfl) (loop_ok (cfg77_ok k) (plan_of (L:=[(fr77_0 k,co77_0)]) (by kernel_rfl) (.cons (fr77_0_ok k) .nil)) (fu77_1 k) k (fun _=>rfl) (fun _=>rfl) (pp77_1 k))
def pl77 (k:Nat):Plan:=(.seq .go (.seq .go (.seq (.seq .go (.sub (.frag (fr77_1 k)))) .go)))
noncomputable def bo77 (k:Nat) (x:AT (sp77 k).ps):=fnT Try.prog (cfg77 k) lim77 Try.f77 (bodyOf Try.f77) (pl77 k) (sp77 k) x
theorem vv77 (k:Nat) (x:AT (sp77 k).ps):(sp77 k).impl x=(bo77 k x).eval∧(bo77 k x).left=(bo77 k x).right:=⟨by kernel_rfl,by kernel_rfl⟩
theorem v77 (k:Nat):Callable Try.prog 77∧Valid Try.prog 77 (sp77 k) :=
 fn_of (n:=lim77) (fn:=Try.f77) (p:=(pl77 k)) (cfg77_ok k) (by kernel_rfl) (plan_of (L:=[(fr77_1 k,co77_1)]) (by kernel_rfl) (.cons (fr77_1_ok k) .nil)) (vv77 k)
def F48 (k:Nat) (a0:TY20) (a1:(List Int)):Option ((Int×Unit)×(TY20×Unit)) :=
 (F77 k a1).bind fun r1 =>
 bif (!(findM (Option.getD a0.1.1 []) r1.1.1).2) then
 if (Option.isSome a0.1.1)=true then
 let x2:=(some (putM (Option.getD a0.1.1 []) r1.1.1 (length a0.1.2.1:Int)))
 if (length a0.1.2.1+length [a1])*(24*2)≤281474976710656∧length a0.1.2.1+length [a1]≤9223372036854775807 then
 some (((length a0.1.2.1:Int),()),(((x2,((a0.1.2.1++[a1]),a0.1.2.2)),a0.2),()))
 else none
 else none
 else
 some (((findM (Option.getD a0.1.1 []) r1.1.1).1,()),(a0,()))
def sp48 (k:Nat):Spec:=⟨[.ptr 106 KD9 [.fst],.own KD64],[.val (.int .i64)],fun x=>F48 k x.1 x.2.1⟩
def lim48:Lim:=⟨43,2,false,false,[],[]⟩
def cfg48 (k:Nat):Nat→Option Spec:=cfgL [(77,sp77 k)]
noncomputable def co48:Code:=codeAt (bodyOf Try.f48) []
theorem cfg48_ok (k:Nat):CfgOK Try.prog (cfg48 k):=cfgL_cons (v77 k) (cfgL_nil)
noncomputable def bo48 (k:Nat) (x:AT (sp48 k).ps):=fnT Try.prog (cfg48 k) lim48 Try.f48 (bodyOf Try.f48) .go (sp48 k) x
theorem vv48 (k:Nat) (x:AT (sp48 k).ps):(sp48 k).impl x=(bo48 k x).eval∧(bo48 k x).left=(bo48 k x).right:=⟨by kernel_rfl,by kernel_rfl⟩
theorem v48 (k:Nat):Callable Try.prog 48∧Valid Try.prog 48 (sp48 k) :=
 fn_of (n:=lim48) (fn:=Try.f48) (p:=.go) (cfg48_ok k) (by kernel_rfl) (planOK_go _) (vv48 k)
def F79 (k:Nat) (a0:Int) (a1:Int):Option TY73 :=
 let x1:=(wrap .i64 ((minI a0 (1152921504606846976:Int))+(minI a1 (1152921504606846976:Int))))
 some (((minI x1 (1152921504606846976:Int)),()),())
def sp79 (k:Nat):Spec:=⟨[.val (.int .i64),.val (.int .i64)],[.val (.int .i64)],fun x=>F79 k x.1 x.2.1⟩
def lim79:Lim:=⟨11,2,false,false,[],[]⟩
def cfg79 (k:Nat):Nat→Option Spec:=cfgL []
noncomputable def co79:Code:=codeAt (bodyOf Try.f79) []
theorem cfg79_ok (k:Nat):CfgOK Try.prog (cfg79 k):=cfgL_nil
noncomputable def bo79 (k:Nat) (x:AT (sp79 k).ps):=fnT Try.prog (cfg79 k) lim79 Try.f79 (bodyOf Try.f79) .go (sp79 k) x
theorem vv79 (k:Nat) (x:AT (sp79 k).ps):(sp79 k).impl x=(bo79 k x).eval∧(bo79 k x).left=(bo79 k x).right:=⟨by kernel_rfl,by kernel_rfl⟩
theorem v79 (k:Nat):Callable Try.prog 79∧Valid Try.prog 79 (sp79 k) :=
 fn_of (n:=lim79) (fn:=Try.f79) (p:=.go) (cfg79_ok k) (by kernel_rfl) (planOK_go _) (vv79 k)
def F78_0 (k:Nat):Nat→Int→(List Int)→Int→Int→Option TY70
 |0,_,_,_,_=>none
 |n+1,t3,t6,t7,t8 =>
  bif (decide (t8<t7)) then
  if 0≤t8∧t8<(length t6:Int) then
  let x2:=(minI t3 (getD t6 (toNat t8) (0:Int)))
  (F78_0 k n x2 t6 t7 (wrap .i64 (t8+(1:Int)))).bind some
  else none
  else
  some ((t3,()),())
def sq78_0:Shape:=⟨[],[(3,.val (.int .i64)),(6,.val KD62),(7,.val (.int .i64)),(8,.val (.int .i64))],[]⟩
def fu78_0 (k m:Nat) (v:sq78_0.V):=F78_0 k m v.1.1 v.1.2.1 v.1.2.2.1 v.1.2.2.2.1
def fr78_0 (k:Nat):Frag:=⟨sq78_0,[(.exit 0,⟨[],[(3,.val (.int .i64))],[]⟩)],fu78_0 k k⟩
def F78 (k:Nat) (a0:(List Int)):Option TY73 :=
 (F78_0 k k (1152921504606846976:Int) a0 (length a0:Int) (0:Int)).bind fun r3 =>
 some ((r3.1.1,()),())
def sp78 (k:Nat):Spec:=⟨[.val KD62],[.val (.int .i64)],fun x=>F78 k x.1⟩
def lim78:Lim:=⟨17,1,false,false,[],[]⟩
def cfg78 (k:Nat):Nat→Option Spec:=cfgL []
noncomputable def co78_0:Code:=codeAt (bodyOf Try.f78) [.r,.r,.l,.r,.s]
noncomputable def cb78_0:Code:=codeAt (bodyOf Try.f78) [.r,.r,.l,.r,.s,.b]
noncomputable def co78:Code:=codeAt (bodyOf Try.f78) []
theorem cfg78_ok (k:Nat):CfgOK Try.prog (cfg78 k):=cfgL_nil
noncomputable def bo78_0 (k m:Nat) (v:sq78_0.V):=body Try.prog (stepper Try.prog (cfg78 k) lim78) .go cb78_0 (sq78_0.st v) (loopK (fr78_0 k) (fu78_0 k m))
theorem pp78_0 (k m:Nat) (v:sq78_0.V):fu78_0 k (m+1) v=(bo78_0 k m v).eval∧(bo78_0 k m v).left=(bo78_0 k m v).right:=⟨by kernel_rfl,by kernel_rfl⟩
theorem fr78_0_ok (k:Nat):FragOK Try.prog lim78 (fr78_0 k) co78_0 :=
 frag_cast (by kernel_rfl) (loop_ok (cfg78_ok k) (planOK_go _) (fu78_0 k) k (fun _=>rfl) (fun _=>rfl) (pp78_0 k))
def pl78 (k:Nat):Plan:=(.seq .go (.seq .go (.seq (.seq .go (.sub (.frag (fr78_0 k)))) .go)))
noncomputable def bo78 (k:Nat) (x:AT (sp78 k).ps):=fnT Try.prog (cfg78 k) lim78 Try.f78 (bodyOf Try.f78) (pl78 k) (sp78 k) x
theorem vv78 (k:Nat) (x:AT (sp78 k).ps):(sp78 k).impl x=(bo78 k x).eval∧(bo78 k x).left=(bo78 k x).right:=⟨by kernel_rfl,by kernel_rfl⟩
theorem v78 (k:Nat):Callable Try.prog 78∧Valid Try.prog 78 (sp78 k) :=
 fn_of (n:=lim78) (fn:=Try.f78) (p:=(pl78 k)) (cfg78_ok k) (by kernel_rfl) (plan_of (L:=[(fr78_0 k,co78_0)]) (by kernel_rfl) (.cons (fr78_0_ok k) .nil)) (vv78 k)
def F80 (k:Nat) (a0:TY18) (a1:TY33) (a2:Int) (a3:Int):Option TY72 :=
 if 0≤a2∧a2<(length a1.1:Int) then
 let x1:=(decide ((getD a1.1 (toNat a2) (0:Int))<(0:Int)))
 bif x1 then
 some ((true,()),())
 else
 if (Option.isSome a0)=true then
 if (Option.isSome a0)=true then
 let x2:=(Option.getD a0 (((none:TY60),(([]:(List (List Int))),())),(([]:TY31),(([]:(List (List Bool))),())))).2.2.1
 let x3:=(decide ((getD a1.1 (toNat a2) (0:Int))<(length x2:Int)))
 bif x3 then
 if (Option.isSome a0)=true then
 if (Option.isSome a0)=true then
 let x4:=(Option.getD a0 (((none:TY60),(([]:(List (List Int))),())),(([]:TY31),(([]:(List (List Bool))),())))).2.2.1
 if 0≤(getD a1.1 (toNat a2) (0:Int))∧(getD a1.1 (toNat a2) (0:Int))<(length x4:Int) then
 let x5:=(getD x4 (toNat (getD a1.1 (toNat a2) (0:Int))) ([]:(List Bool)))
 let x6:=(decide (a3<(length x5:Int)))
 bif x6 then
 if (Option.isSome a0)=true then
 if (Option.isSome a0)=true then
 let x7:=(Option.getD a0 (((none:TY60),(([]:(List (List Int))),())),(([]:TY31),(([]:(List (List Bool))),())))).2.2.1
 if 0≤(getD a1.1 (toNat a2) (0:Int))∧(getD a1.1 (toNat a2) (0:Int))<(length x7:Int) then
 let x8:=(getD x7 (toNat (getD a1.1 (toNat a2) (0:Int))) ([]:(List Bool)))
 if 0≤a3∧a3<(length x8:Int) then
 some (((getD x8 (toNat a3) false),()),())
 else none
 else none
 else none
 else none
 else
 some ((false,()),())
 else none
 else none
 else none
 else
 some ((false,()),())
 else none
 else none
 else none
def sp80 (k:Nat):Spec:=⟨[.val KD7,.val KD15,.val (.int .i64),.val (.int .i64)],[.val .bool],fun x=>F80 k x.1 x.2.1 x.2.2.1 x.2.2.2.1⟩
def lim80:Lim:=⟨50,4,false,false,[],[]⟩
def cfg80 (k:Nat):Nat→Option Spec:=cfgL []
noncomputable def co80:Code:=codeAt (bodyOf Try.f80) []
theorem cfg80_ok (k:Nat):CfgOK Try.prog (cfg80 k):=cfgL_nil
noncomputable def bo80 (k:Nat) (x:AT (sp80 k).ps):=fnT Try.prog (cfg80 k) lim80 Try.f80 (bodyOf Try.f80) .go (sp80 k) x
theorem vv80 (k:Nat) (x:AT (sp80 k).ps):(sp80 k).impl x=(bo80 k x).eval∧(bo80 k x).left=(bo80 k x).right:=⟨by kernel_rfl,by kernel_rfl⟩
theorem v80 (k:Nat):Callable Try.prog 80∧Valid Try.prog 80 (sp80 k) :=
 fn_of (n:=lim80) (fn:=Try.f80) (p:=.go) (cfg80_ok k) (by kernel_rfl) (planOK_go _) (vv80 k)
def F51_0 (k:Nat):Nat→TY18→(List Int)→Int→Int→TY31→Int→Int→TY57→Int→Int→TY33→(List Int)→Option TY4
 |0,_,_,_,_,_,_,_,_,_,_,_,_=>none
 |n+1,t0,t1,t2,t8,t20,t21,t22,t33,t34,t35,c10,e0 =>
  bif (decide (t35<t34)) then
  if 0≤t35∧t35<(length t33:Int) then
  let x12:=(getD t33 (toNat t35) ((0:Int),((0:Int),((0:Int),()))))
  if 0≤(wrap .i64 (t8+x12.2.1))∧(wrap .i64 (t8+x12.2.1))<(length e0:Int) then
  let x13:=(toNat (wrap .i64 (t8+x12.2.1)))
  if 0≤(wrap .i64 (t8+x12.1))∧(wrap .i64 (t8+x12.1))<(length t1:Int) then
  let x14:=(getD t1 (toNat (wrap .i64 (t8+x12.1))) (0:Int))
  (F79 k x14 x12.2.2.1).bind fun r15 =>
  let x16:=(List.set (List.set (replicate 2 (0:Int)) 0 (getD e0 x13 (0:Int))) 1 r15.1.1)
  (F78 k x16).bind fun r17 =>
  if 0≤(wrap .i64 (t8+x12.2.1))∧(wrap .i64 (t8+x12.2.1))<(length e0:Int) then
  let x18:=(toNat (wrap .i64 (t8+x12.2.1)))
  (F51_0 k n t0 t1 t2 t8 t20 t21 t22 t33 t34 (wrap .i64 (t35+(1:Int))) c10 (List.set e0 x18 r17.1.1)).bind some
  else none
  else none
  else none
  else none
  else
  some ((t0,t1,t2,t8,t20,t21,t22,()),(c10,e0,()))
def sq51_0:Shape:=⟨[],[(0,.val KD7),(1,.val KD62),(2,.val (.int .i64)),(7,.at 1000256 []),(8,.val (.int .i64)),(10,.ptr 10 []),(20,.val KD11),(21,.val (.int .i64)),(22,.val (.int .i64)),(33,.val (.sl false 127 KD45 none)),(34,.val (.int .i64)),(35,.val (.int .i64))],[(10,some 81,KD15),(1000256,none,KD64)]⟩
def fu51_0 (k m:Nat) (v:sq51_0.V):=F51_0 k m v.1.1 v.1.2.1 v.1.2.2.1 v.1.2.2.2.1 v.1.2.2.2.2.1 v.1.2.2.2.2.2.1 v.1.2.2.2.2.2.2.1 v.1.2.2.2.2.2.2.2.1 v.1.2.2.2.2.2.2.2.2.1 v.1.2.2.2.2.2.2.2.2.2.1 v.2.1 v.2.2.1
def fr51_0 (k:Nat):Frag:=⟨sq51_0,[(.exit 2,⟨[],[(0,.val KD7),(1,.val KD62),(2,.val (.int .i64)),(7,.at 1000256 []),(8,.val (.int .i64)),(10,.ptr 10 []),(20,.val KD11),(21,.val (.int .i64)),(22,.val (.int .i64))],[(10,some 81,KD15),(1000256,none,KD64)]⟩)],fu51_0 k k⟩
def F51_1 (k:Nat):Nat→TY18→(List Int)→Int→Int→TY31→Int→Int→Int→Int→TY33→(List Int)→Option TY4
 |0,_,_,_,_,_,_,_,_,_,_,_=>none
 |n+1,t0,t1,t2,t8,t20,t21,t22,t67,t68,c10,e0 =>
  bif (decide (t68<t67)) then
  (F80 k t0 c10 t68 t2).bind fun r32 =>
  bif (!r32.1.1) then
  if 0≤(wrap .i64 (t8+t68))∧(wrap .i64 (t8+t68))<(length e0:Int) then
  let x33:=(toNat (wrap .i64 (t8+t68)))
  let x34:=(List.set e0 x33 (1152921504606846976:Int))
  (F51_1 k n t0 t1 t2 t8 t20 t21 t22 t67 (wrap .i64 (t68+(1:Int))) c10 x34).bind some
  else none
  else
  (F51_1 k n t0 t1 t2 t8 t20 t21 t22 t67 (wrap .i64 (t68+(1:Int))) c10 e0).bind some
  else
  some ((t0,t1,t2,t8,t20,t21,t22,()),(c10,e0,()))
def sq51_1:Shape:=⟨[],[(0,.val KD7),(1,.val KD62),(2,.val (.int .i64)),(7,.at 1000256 []),(8,.val (.int .i64)),(10,.ptr 10 []),(20,.val KD11),(21,.val (.int .i64)),(22,.val (.int .i64)),(67,.val (.int .i64)),(68,.val (.int .i64))],[(10,some 81,KD15),(1000256,none,KD64)]⟩
def fu51_1 (k m:Nat) (v:sq51_1.V):=F51_1 k m v.1.1 v.1.2.1 v.1.2.2.1 v.1.2.2.2.1 v.1.2.2.2.2.1 v.1.2.2.2.2.2.1 v.1.2.2.2.2.2.2.1 v.1.2.2.2.2.2.2.2.1 v.1.2.2.2.2.2.2.2.2.1 v.2.1 v.2.2.1
def fr51_1 (k:Nat):Frag:=⟨sq51_1,[(.exit 4,⟨[],[(0,.val KD7),(1,.val KD62),(2,.val (.int .i64)),(7,.at 1000256 []),(8,.val (.int .i64)),(10,.ptr 10 []),(20,.val KD11),(21,.val (.int .i64)),(22,.val (.int .i64))],[(10,some 81,KD15),(1000256,none,KD64)]⟩)],fu51_1 k k⟩
def F51_2 (k:Nat):Nat→TY18→(List Int)→Int→Int→TY31→Int→Int→(List Int)→Option TY63
 |0,_,_,_,_,_,_,_,_=>none
 |n+1,t0,t1,t2,t8,t20,t21,t22,e0 =>
  bif (decide (t22<t21)) then
  if 0≤t22∧t22<(length t20:Int) then
  let x46:=(getD t20 (toNat t22) (([]:(List Int)),(([]:(List Int)),(([]:(List Int)),(([]:TY57),((0:Int),()))))))
  if 0≤t8∧t8≤(length e0:Int)∧(length e0:Int)≤(length e0:Int) then
  let x47:=(toNat (length e0:Int)-toNat t8)
  (F51_0 k k t0 t1 t2 t8 t20 t21 t22 x46.2.2.2.1 (length x46.2.2.2.1:Int) (0:Int) x46 (copyL e0 (toNat t8) x47 x46.2.1)).bind fun r48 =>
  (F51_1 k k r48.1.1 r48.1.2.1 r48.1.2.2.1 r48.1.2.2.2.1 r48.1.2.2.2.2.1 r48.1.2.2.2.2.2.1 r48.1.2.2.2.2.2.2.1 (length r48.2.1.1:Int) (0:Int) r48.2.1 r48.2.2.1).bind fun r58 =>
  let x68:=(wrap .i64 (r58.1.2.2.2.1+(length r58.2.1.1:Int)))
  (F51_2 k n r58.1.1 r58.1.2.1 r58.1.2.2.1 x68 r58.1.2.2.2.2.1 r58.1.2.2.2.2.2.1 (wrap .i64 (r58.1.2.2.2.2.2.2.1+(1:Int))) r58.2.2.1).bind some
  else none
  else none
  else
  some ((),(e0,()))
def sq51_2:Shape:=⟨[],[(0,.val KD7),(1,.val KD62),(2,.val (.int .i64)),(7,.at 1000256 []),(8,.val (.int .i64)),(20,.val KD11),(21,.val (.int .i64)),(22,.val (.int .i64))],[(1000256,none,KD64)]⟩
def fu51_2 (k m:Nat) (v:sq51_2.V):=F51_2 k m v.1.1 v.1.2.1 v.1.2.2.1 v.1.2.2.2.1 v.1.2.2.2.2.1 v.1.2.2.2.2.2.1 v.1.2.2.2.2.2.2.1 v.2.1
def fr51_2 (k:Nat):Frag:=⟨sq51_2,[(.exit 0,⟨[],[(7,.at 1000256 [])],[(1000256,none,KD64)]⟩)],fu51_2 k k⟩
def F51 (k:Nat) (a0:TY18) (a1:(List Int)) (a2:Int):Option TY65 :=
 (F49 k (length a1:Int)).bind fun r1 =>
 if (Option.isSome a0)=true then
 if (Option.isSome a0)=true then
 let x2:=(Option.getD a0 (((none:TY60),(([]:(List (List Int))),())),(([]:TY31),(([]:(List (List Bool))),())))).2.1
 (F51_2 k k a0 a1 a2 (0:Int) x2 (length x2:Int) (0:Int) r1.1.1).bind fun r69 =>
 some ((r69.2.1,()),())
 else none
 else none
def sp51 (k:Nat):Spec:=⟨[.val KD7,.val KD62,.val (.int .i64)],[.own KD64],fun x=>F51 k x.1 x.2.1 x.2.2.1⟩
def lim51:Lim:=⟨90,3,false,false,[],[]⟩
def cfg51 (k:Nat):Nat→Option Spec:=cfgL [(49,sp49 k),(78,sp78 k),(79,sp79 k),(80,sp80 k)]
noncomputable def co51_0:Code:=codeAt (bodyOf Try.f51) [.r,.r,.r,.l,.r,.s,.b,.r,.r,.l,.s,.r,.r,.l,.r,.s]
noncomputable def cb51_0:Code:=codeAt (bodyOf Try.f51) [.r,.r,.r,.l,.r,.s,.b,.r,.r,.l,.s,.r,.r,.l,.r,.s,.b]
noncomputable def co51_1:Code:=codeAt (bodyOf Try.f51) [.r,.r,.r,.l,.r,.s,.b,.r,.r,.l,.s,.r,.r,.r,.l,.r,.s]
noncomputable def cb51_1:Code:=codeAt (bodyOf Try.f51) [.r,.r,.r,.l,.r,.s,.b,.r,.r,.l,.s,.r,.r,.r,.l,.r,.s,.b]
noncomputable def co51_2:Code:=codeAt (bodyOf Try.f51) [.r,.r,.r,.l,.r,.s]
noncomputable def cb51_2:Code:=codeAt (bodyOf Try.f51) [.r,.r,.r,.l,.r,.s,.b]
noncomputable def co51:Code:=codeAt (bodyOf Try.f51) []
theorem cfg51_ok (k:Nat):CfgOK Try.prog (cfg51 k):=cfgL_cons (v49 k) (cfgL_cons (v78 k) (cfgL_cons (v79 k) (cfgL_cons (v80 k) (cfgL_nil))))
noncomputable def bo51_0 (k m:Nat) (v:sq51_0.V):=body Try.prog (stepper Try.prog (cfg51 k) lim51) .go cb51_0 (sq51_0.st v) (loopK (fr51_0 k) (fu51_0 k m))
theorem pp51_0 (k m:Nat) (v:sq51_0.V):fu51_0 k (m+1) v=(bo51_0 k m v).eval∧(bo51_0 k m v).left=(bo51_0 k m v).right:=⟨by kernel_rfl,by kernel_rfl⟩
theorem fr51_0_ok (k:Nat):FragOK Try.prog lim51 (fr51_0 k) co51_0 :=
 frag_cast (by kernel_rfl) (loop_ok (cfg51_ok k) (planOK_go _) (fu51_0 k) k (fun _=>rfl) (fun _=>rfl) (pp51_0 k))
noncomputable def bo51_1 (k m:Nat) (v:sq51_1.V):=body Try.prog (stepper Try.prog (cfg51 k) lim51) .go cb51_1 (sq51_1.st v) (loopK (fr51_1 k) (fu51_1 k m))
theorem pp51_1 (k m:Nat) (v:sq51_1.V):fu51_1 k (m+1) v=(bo51_1 k m v).eval∧(bo51_1 k m v).left=(bo51_1 k m v).right:=⟨by kernel_rfl,by kernel_rfl⟩
theorem fr51_1_ok (k:Nat):FragOK Try.prog lim51 (fr51_1 k) co51_1 :=
 frag_cast (by kernel_rfl) (loop_ok (cfg51_ok k) (planOK_go _) (fu51_1 k) k (fun _=>rfl) (fun _=>rfl) (pp51_1 k))
def pl51_2 (k:Nat):Plan:=(.seq .go (.seq .go (.seq (.sub (.seq .go (.seq .go (.seq (.seq .go (.sub (.frag (fr51_0 k)))) (.seq (.seq .go (.sub (.frag (fr51_1 k)))) .go))))) .go)))
noncomputable def bo51_2 (k m:Nat) (v:sq51_2.V):=body Try.prog (stepper Try.prog (cfg51 k) lim51) (pl51_2 k) cb51_2 (sq51_2.st v) (loopK (fr51_2 k) (fu51_2 k m))
theorem pp51_2 (k m:Nat) (v:sq51_2.V):fu51_2 k (m+1) v=(bo51_2 k m v).eval∧(bo51_2 k m v).left=(bo51_2 k m v).right:=⟨by kernel_rfl,by kernel_rfl⟩
theorem fr51_2_ok (k:Nat):FragOK Try.prog lim51 (fr51_2 k) co51_2 :=
 frag_cast (by kernel_rfl) (loop_ok (cfg51_ok k) (plan_of (L:=[(fr51_0 k,co51_0),(fr51_1 k,co51_1)]) (by kernel_rfl) (.cons (fr51_0_ok k) (.cons (fr51_1_ok k) .nil))) (fu51_2 k) k (fun _=>rfl) (fun _=>rfl) (pp51_2 k))
def pl51 (k:Nat):Plan:=(.seq .go (.seq .go (.seq .go (.seq (.seq .go (.sub (.frag (fr51_2 k)))) .go))))
noncomputable def bo51 (k:Nat) (x:AT (sp51 k).ps):=fnT Try.prog (cfg51 k) lim51 Try.f51 (bodyOf Try.f51) (pl51 k) (sp51 k) x
theorem vv51 (k:Nat) (x:AT (sp51 k).ps):(sp51 k).impl x=(bo51 k x).eval∧(bo51 k x).left=(bo51 k x).right:=⟨by kernel_rfl,by kernel_rfl⟩
theorem v51 (k:Nat):Callable Try.prog 51∧Valid Try.prog 51 (sp51 k) :=
 fn_of (n:=lim51) (fn:=Try.f51) (p:=(pl51 k)) (cfg51_ok k) (by kernel_rfl) (plan_of (L:=[(fr51_2 k,co51_2)]) (by kernel_rfl) (.cons (fr51_2_ok k) .nil)) (vv51 k)
def F52_0 (k:Nat):Nat→(List Int)→Int→TY31→Int→Int→(List Int)→Int→Int→TY33→(List Int)→(List Int)→Option ((((List Int)×Int×TY31×Int×Int×Unit)×(TY33×(List Int)×(List Int)×Unit)))
 |0,_,_,_,_,_,_,_,_,_,_,_=>none
 |n+1,t1,t6,t15,t16,t17,t25,t26,t27,c8,e0,e1 =>
  bif (decide (t27<t26)) then
  if 0≤t27∧t27<(length t25:Int) then
  if 0≤(wrap .i64 (t6+t27))∧(wrap .i64 (t6+t27))<(length t1:Int) then
  let x4:=(getD t1 (toNat (wrap .i64 (t6+t27))) (0:Int))
  (F79 k x4 (getD t25 (toNat t27) (0:Int))).bind fun r5 =>
  let x6:=(List.set (replicate 1 (0:Int)) 0 r5.1.1)
  if (length e1+length x6)*(8*2)≤281474976710656∧length e1+length x6≤9223372036854775807 then
  (F52_0 k n t1 t6 t15 t16 t17 t25 t26 (wrap .i64 (t27+(1:Int))) c8 e0 (e1++x6)).bind some
  else none
  else none
  else none
  else
  some ((t1,t6,t15,t16,t17,()),(c8,e0,e1,()))
def sq52_0:Shape:=⟨[(5,KD64),(9,KD64)],[(1,.val KD62),(5,.at 2000005 []),(6,.val (.int .i64)),(8,.ptr 8 []),(9,.at 2000009 []),(15,.val KD11),(16,.val (.int .i64)),(17,.val (.int .i64)),(25,.val KD62),(26,.val (.int .i64)),(27,.val (.int .i64))],[(8,some 81,KD15),(2000005,none,KD64),(2000009,none,KD64)]⟩
def fu52_0 (k m:Nat) (v:sq52_0.V):=F52_0 k m v.1.1 v.1.2.1 v.1.2.2.1 v.1.2.2.2.1 v.1.2.2.2.2.1 v.1.2.2.2.2.2.1 v.1.2.2.2.2.2.2.1 v.1.2.2.2.2.2.2.2.1 v.2.1 v.2.2.1 v.2.2.2.1
def fr52_0 (k:Nat):Frag:=⟨sq52_0,[(.exit 2,⟨[],[(1,.val KD62),(5,.at 2000005 []),(6,.val (.int .i64)),(8,.ptr 8 []),(9,.at 2000009 []),(15,.val KD11),(16,.val (.int .i64)),(17,.val (.int .i64))],[(8,some 81,KD15),(2000005,none,KD64),(2000009,none,KD64)]⟩)],fu52_0 k k⟩
def F52_1 (k:Nat):Nat→(List Int)→Int→TY31→Int→Int→(List Int)→Option TY63
 |0,_,_,_,_,_,_=>none
 |n+1,t1,t6,t15,t16,t17,e0 =>
  bif (decide (t17<t16)) then
  if 0≤t17∧t17<(length t15:Int) then
  let x2:=(getD t15 (toNat t17) (([]:(List Int)),(([]:(List Int)),(([]:(List Int)),(([]:TY57),((0:Int),()))))))
  let x3:=(List.set (replicate 1 (0:Int)) 0 x2.2.2.2.2.1)
  (F52_0 k k t1 t6 t15 t16 t17 x2.2.2.1 (length x2.2.2.1:Int) (0:Int) x2 e0 x3).bind fun r7 =>
  (F78 k r7.2.2.2.1).bind fun r16 =>
  let x17:=(List.set (replicate 1 (0:Int)) 0 r16.1.1)
  if (length r7.2.2.1+length x17)*(8*2)≤281474976710656∧length r7.2.2.1+length x17≤9223372036854775807 then
  let x18:=(wrap .i64 (r7.1.2.1+(length r7.2.1.1:Int)))
  (F52_1 k n r7.1.1 x18 r7.1.2.2.1 r7.1.2.2.2.1 (wrap .i64 (r7.1.2.2.2.2.1+(1:Int))) (r7.2.2.1++x17)).bind some
  else none
  else none
  else
  some ((),(e0,()))
def sq52_1:Shape:=⟨[(5,KD64)],[(1,.val KD62),(5,.at 2000005 []),(6,.val (.int .i64)),(15,.val KD11),(16,.val (.int .i64)),(17,.val (.int .i64))],[(2000005,none,KD64)]⟩
def fu52_1 (k m:Nat) (v:sq52_1.V):=F52_1 k m v.1.1 v.1.2.1 v.1.2.2.1 v.1.2.2.2.1 v.1.2.2.2.2.1 v.2.1
def fr52_1 (k:Nat):Frag:=⟨sq52_1,[(.exit 0,⟨[(5,KD64)],[(5,.at 2000005 [])],[(2000005,none,KD64)]⟩)],fu52_1 k k⟩
def F52 (k:Nat) (a0:TY18) (a1:(List Int)):Option TY65 :=
 if (Option.isSome a0)=true then
 if (Option.isSome a0)=true then
 let x1:=(Option.getD a0 (((none:TY60),(([]:(List (List Int))),())),(([]:TY31),(([]:(List (List Bool))),())))).2.1
 (F52_1 k k a1 (0:Int) x1 (length x1:Int) (0:Int) []).bind fun r19 =>
 some ((r19.2.1,()),())
 else none
 else none
def sp52 (k:Nat):Spec:=⟨[.val KD7,.val KD62],[.own KD64],fun x=>F52 k x.1 x.2.1⟩
def lim52:Lim:=⟨56,2,false,false,[],[]⟩
def cfg52 (k:Nat):Nat→Option Spec:=cfgL [(78,sp78 k),(79,sp79 k)]
noncomputable def co52_0:Code:=codeAt (bodyOf Try.f52) [.r,.r,.r,.l,.r,.s,.b,.r,.r,.l,.s,.r,.r,.l,.r,.s]
noncomputable def cb52_0:Code:=codeAt (bodyOf Try.f52) [.r,.r,.r,.l,.r,.s,.b,.r,.r,.l,.s,.r,.r,.l,.r,.s,.b]
noncomputable def co52_1:Code:=codeAt (bodyOf Try.f52) [.r,.r,.r,.l,.r,.s]
noncomputable def cb52_1:Code:=codeAt (bodyOf Try.f52) [.r,.r,.r,.l,.r,.s,.b]
noncomputable def co52:Code:=codeAt (bodyOf Try.f52) []
theorem cfg52_ok (k:Nat):CfgOK Try.prog (cfg52 k):=cfgL_cons (v78 k) (cfgL_cons (v79 k) (cfgL_nil))
noncomputable def bo52_0 (k m:Nat) (v:sq52_0.V):=body Try.prog (stepper Try.prog (cfg52 k) lim52) .go cb52_0 (sq52_0.st v) (loopK (fr52_0 k) (fu52_0 k m))
theorem pp52_0 (k m:Nat) (v:sq52_0.V):fu52_0 k (m+1) v=(bo52_0 k m v).eval∧(bo52_0 k m v).left=(bo52_0 k m v).right:=⟨by kernel_rfl,by kernel_rfl⟩
theorem fr52_0_ok (k:Nat):FragOK Try.prog lim52 (fr52_0 k) co52_0 :=
 frag_cast (by kernel_rfl) (loop_ok (cfg52_ok k) (planOK_go _) (fu52_0 k) k (fun _=>rfl) (fun _=>rfl) (pp52_0 k))
def pl52_1 (k:Nat):Plan:=(.seq .go (.seq .go (.seq (.sub (.seq .go (.seq .go (.seq (.seq .go (.sub (.frag (fr52_0 k)))) .go)))) .go)))
noncomputable def bo52_1 (k m:Nat) (v:sq52_1.V):=body Try.prog (stepper Try.prog (cfg52 k) lim52) (pl52_1 k) cb52_1 (sq52_1.st v) (loopK (fr52_1 k) (fu52_1 k m))
theorem pp52_1 (k m:Nat) (v:sq52_1.V):fu52_1 k (m+1) v=(bo52_1 k m v).eval∧(bo52_1 k m v).left=(bo52_1 k m v).right:=⟨by kernel_rfl,by kernel_rfl⟩
theorem fr52_1_ok (k:Nat):FragOK Try.prog lim52 (fr52_1 k) co52_1 :=
 frag_cast (by kernel_rfl) (loop_ok (cfg52_ok k) (plan_of (L:=[(fr52_0 k,co52_0)]) (by kernel_rfl) (.cons (fr52_0_ok k) .nil)) (fu52_1 k) k (fun _=>rfl) (fun _=>rfl) (pp52_1 k))
def pl52 (k:Nat):Plan:=(.seq .go (.seq .go (.seq .go (.seq (.seq .go (.sub (.frag (fr52_1 k)))) .go))))
noncomputable def bo52 (k:Nat) (x:AT (sp52 k).ps):=fnT Try.prog (cfg52 k) lim52 Try.f52 (bodyOf Try.f52) (pl52 k) (sp52 k) x
theorem vv52 (k:Nat) (x:AT (sp52 k).ps):(sp52 k).impl x=(bo52 k x).eval∧(bo52 k x).left=(bo52 k x).right:=⟨by kernel_rfl,by kernel_rfl⟩
theorem v52 (k:Nat):Callable Try.prog 52∧Valid Try.prog 52 (sp52 k) :=
 fn_of (n:=lim52) (fn:=Try.f52) (p:=(pl52 k)) (cfg52_ok k) (by kernel_rfl) (plan_of (L:=[(fr52_1 k,co52_1)]) (by kernel_rfl) (.cons (fr52_1_ok k) .nil)) (vv52 k)
def F63 (k:Nat):Option TY65 :=
 let x1:=(List.set (List.set (List.set (replicate 3 (0:Int)) 0 (1152921504606846976:Int)) 1 (1152921504606846976:Int)) 2 (1152921504606846976:Int))
 some ((x1,()),())
def sp63 (k:Nat):Spec:=⟨[],[.val (.arr 3 (.int .i64))],fun x=>F63 k⟩
def lim63:Lim:=⟨2,0,false,false,[],[]⟩
def cfg63 (k:Nat):Nat→Option Spec:=cfgL []
noncomputable def co63:Code:=codeAt (bodyOf Try.f63) []
theorem cfg63_ok (k:Nat):CfgOK Try.prog (cfg63 k):=cfgL_nil
noncomputable def bo63 (k:Nat) (x:AT (sp63 k).ps):=fnT Try.prog (cfg63 k) lim63 Try.f63 (bodyOf Try.f63) .go (sp63 k) x
theorem vv63 (k:Nat) (x:AT (sp63 k).ps):(sp63 k).impl x=(bo63 k x).eval∧(bo63 k x).left=(bo63 k x).right:=⟨by kernel_rfl,by kernel_rfl⟩
theorem v63 (k:Nat):Callable Try.prog 63∧Valid Try.prog 63 (sp63 k) :=
 fn_of (n:=lim63) (fn:=Try.f63) (p:=.go) (cfg63_ok k) (by kernel_rfl) (planOK_go _) (vv63 k)
def F53_0 (k:Nat):Nat→(List Int)→(List Bool)→TY23→Int→Int→(List Int)→(List Int)→Option ((Unit×TY61))
 |0,_,_,_,_,_,_,_=>none
 |n+1,t1,t2,t11,t12,t13,c6,c7 =>
  bif (decide (t13<t12)) then
  if 0≤t13∧t13<(length t11:Int) then
  let x10:=(getD t11 (toNat t13) ((0:Int),((0:Int),((Tree.mk ((0:Int),((0:Int),((0:Int),((0:Int),(ByteArray.empty,()))))) []),((Tree.mk ((0:Int),((0:Int),((0:Int),((0:Int),(ByteArray.empty,()))))) []),())))))
  let x13:=(decide (t13<(length t2:Int)))
  bif x13 then
  if 0≤t13∧t13<(length t2:Int) then
  bif (getD t2 (toNat t13) false) then
  let x14:=(decide (t13<(length t1:Int)))
  bif x14 then
  bif (decide (x10.1≥(0:Int))) then
  bif (decide (x10.1<(3:Int))) then
  if 0≤x10.1∧x10.1<((3:Nat):Int) then
  if 0≤t13∧t13<(length t1:Int) then
  (F79 k x10.2.1 (getD t1 (toNat t13) (0:Int))).bind fun r15 =>
  let x16:=(List.set (List.set (replicate 2 (0:Int)) 0 (getD c7 (toNat x10.1) (0:Int))) 1 r15.1.1)
  (F78 k x16).bind fun r17 =>
  if 0≤x10.1∧x10.1<((3:Nat):Int) then
  (F53_0 k n t1 t2 t11 t12 (wrap .i64 (t13+(1:Int))) c6 (List.set c7 (toNat x10.1) r17.1.1)).bind some
  else none
  else none
  else none
  else
  (F53_0 k n t1 t2 t11 t12 (wrap .i64 (t13+(1:Int))) c6 c7).bind some
  else
  (F53_0 k n t1 t2 t11 t12 (wrap .i64 (t13+(1:Int))) c6 c7).bind some
  else
  (F53_0 k n t1 t2 t11 t12 (wrap .i64 (t13+(1:Int))) c6 c7).bind some
  else
  (F53_0 k n t1 t2 t11 t12 (wrap .i64 (t13+(1:Int))) c6 c7).bind some
  else none
  else
  (F53_0 k n t1 t2 t11 t12 (wrap .i64 (t13+(1:Int))) c6 c7).bind some
  else none
  else
  some ((),(c6,c7,()))
def sq53_0:Shape:=⟨[],[(1,.val KD62),(2,.val (.sl false 4 .bool none)),(6,.ptr 6 []),(7,.ptr 7 []),(11,.val KD10),(12,.val (.int .i64)),(13,.val (.int .i64))],[(6,some 69,(.arr 3 (.int .i64))),(7,some 69,(.arr 3 (.int .i64)))]⟩
def fu53_0 (k m:Nat) (v:sq53_0.V):=F53_0 k m v.1.1 v.1.2.1 v.1.2.2.1 v.1.2.2.2.1 v.1.2.2.2.2.1 v.2.1 v.2.2.1
def fr53_0 (k:Nat):Frag:=⟨sq53_0,[(.exit 0,⟨[],[(6,.ptr 6 []),(7,.ptr 7 [])],[(6,some 69,(.arr 3 (.int .i64))),(7,some 69,(.arr 3 (.int .i64)))]⟩)],fu53_0 k k⟩
def F53 (k:Nat) (a0:TY23) (a1:(List Int)) (a2:(List Bool)):Option TY65 :=
 (F63 k).bind fun r1 =>
 (F53_0 k k a1 a2 a0 (length a0:Int) (0:Int) (replicate 3 (0:Int)) r1.1.1).bind fun r18 =>
 some ((r18.2.2.1,()),())
def sp53 (k:Nat):Spec:=⟨[.val KD10,.val KD62,.val (.sl false 4 .bool none)],[.val (.arr 3 (.int .i64))],fun x=>F53 k x.1 x.2.1 x.2.2.1⟩
def lim53:Lim:=⟨62,3,false,false,[],[]⟩
def cfg53 (k:Nat):Nat→Option Spec:=cfgL [(63,sp63 k),(78,sp78 k),(79,sp79 k)]
noncomputable def co53_0:Code:=codeAt (bodyOf Try.f53) [.r,.r,.l,.r,.s]
noncomputable def cb53_0:Code:=codeAt (bodyOf Try.f53) [.r,.r,.l,.r,.s,.b]
noncomputable def co53:Code:=codeAt (bodyOf Try.f53) []
theorem cfg53_ok (k:Nat):CfgOK Try.prog (cfg53 k):=cfgL_cons (v63 k) (cfgL_cons (v78 k) (cfgL_cons (v79 k) (cfgL_nil)))
noncomputable def bo53_0 (k m:Nat) (v:sq53_0.V):=body Try.prog (stepper Try.prog (cfg53 k) lim53) .go cb53_0 (sq53_0.st v) (loopK (fr53_0 k) (fu53_0 k m))
theorem pp53_0 (k m:Nat) (v:sq53_0.V):fu53_0 k (m+1) v=(bo53_0 k m v).eval∧(bo53_0 k m v).left=(bo53_0 k m v).right:=⟨by kernel_rfl,by kernel_rfl⟩
theorem fr53_0_ok (k:Nat):FragOK Try.prog lim53 (fr53_0 k) co53_0 :=
 frag_cast (by kernel_rfl) (loop_ok (cfg53_ok k) (planOK_go _) (fu53_0 k) k (fun _=>rfl) (fun _=>rfl) (pp53_0 k))
def pl53 (k:Nat):Plan:=(.seq .go (.seq .go (.seq (.seq .go (.sub (.frag (fr53_0 k)))) .go)))
noncomputable def bo53 (k:Nat) (x:AT (sp53 k).ps):=fnT Try.prog (cfg53 k) lim53 Try.f53 (bodyOf Try.f53) (pl53 k) (sp53 k) x
theorem vv53 (k:Nat) (x:AT (sp53 k).ps):(sp53 k).impl x=(bo53 k x).eval∧(bo53 k x).left=(bo53 k x).right:=⟨by kernel_rfl,by kernel_rfl⟩
theorem v53 (k:Nat):Callable Try.prog 53∧Valid Try.prog 53 (sp53 k) :=
 fn_of (n:=lim53) (fn:=Try.f53) (p:=(pl53 k)) (cfg53_ok k) (by kernel_rfl) (plan_of (L:=[(fr53_0 k,co53_0)]) (by kernel_rfl) (.cons (fr53_0_ok k) .nil)) (vv53 k)
def F54 (k:Nat) (a0:(List Int)):Option TY65 :=
 bif ((length a0:Int)==0) then
 some (([],()),())
 else
 if (length (replicate 0 (0:Int))+length a0)*(8*2)≤281474976710656∧length (replicate 0 (0:Int))+length a0≤9223372036854775807 then
 some ((((replicate 0 (0:Int))++a0),()),())
 else none
def sp54 (k:Nat):Spec:=⟨[.val KD62],[.own KD64],fun x=>F54 k x.1⟩
def lim54:Lim:=⟨8,1,true,false,[],[]⟩
def cfg54 (k:Nat):Nat→Option Spec:=cfgL []
noncomputable def co54:Code:=codeAt (bodyOf Try.f54) []
theorem cfg54_ok (k:Nat):CfgOK Try.prog (cfg54 k):=cfgL_nil
def pl54 (k:Nat):Plan:=.go
noncomputable def bo54 (k:Nat) (x:AT (sp54 k).ps):=fnT Try.prog (cfg54 k) lim54 Try.f54 (bodyOf Try.f54) (pl54 k) (sp54 k) x
theorem ev54 (k:Nat) (x:AT (sp54 k).ps):(sp54 k).impl x=(bo54 k x).eval:=by kernel_rfl
theorem tr54 (k:Nat) (x:AT (sp54 k).ps):(bo54 k x)=(Tr.split ((length x.1:Int)==0) (.both (.split true (.leaf (([],()),())) (.need ((length (replicate 0 (0:Int))+length x.1)*(8*2)≤281474976710656∧length (replicate 0 (0:Int))+length x.1≤9223372036854775807) (.leaf (([]++x.1,()),())))) (.split false (.leaf (([],()),())) (.need ((length (replicate 0 (0:Int))+length x.1)*(8*2)≤281474976710656∧length (replicate 0 (0:Int))+length x.1≤9223372036854775807) (.leaf (([]++x.1,()),()))))) (.split false (.leaf (([],()),())) (.need ((length (replicate 0 (0:Int))+length x.1)*(8*2)≤281474976710656∧length (replicate 0 (0:Int))+length x.1≤9223372036854775807) (.leaf (([]++x.1,()),()))))):=by kernel_rfl
theorem sa54 (k:Nat) (x:AT (sp54 k).ps) (r) (h:(sp54 k).impl x=some r):(bo54 k x).sat (·=r):=sat_of_eq (tr54 k x) (clone_sat (a:=x.1) (p:=(length (replicate 0 (0:Int))+length x.1)*(8*2)≤281474976710656∧length (replicate 0 (0:Int))+length x.1≤9223372036854775807) (fun e=>by rw[e]; simp) h)
theorem v54 (k:Nat):Callable Try.prog 54∧Valid Try.prog 54 (sp54 k) :=
 fn_sat (cfg54_ok k) (f:=54) (fn:=Try.f54) (by kernel_rfl) (c:=bodyOf Try.f54) (by kernel_rfl) (by kernel_rfl) rfl rfl (Nat.le_of_ble_eq_true rfl) (Nat.le_of_ble_eq_true rfl) (p:=pl54 k) (planOK_go _) fun x r h=>sa54 k x r h
def F55 (k:Nat) (a0:(List (List Int))):Option (TY69×Unit) :=
 bif ((length a0:Int)==0) then
 some (([],()),())
 else
 if (length (replicate 0 (replicate 3 (0:Int)))+length a0)*(24*2)≤281474976710656∧length (replicate 0 (replicate 3 (0:Int)))+length a0≤9223372036854775807 then
 some ((((replicate 0 (replicate 3 (0:Int)))++a0),()),())
 else none
def sp55 (k:Nat):Spec:=⟨[.val (.sl false 69 (.arr 3 (.int .i64)) none)],[.own (.sl true 69 (.arr 3 (.int .i64)) none)],fun x=>F55 k x.1⟩
def lim55:Lim:=⟨8,1,true,false,[],[]⟩
def cfg55 (k:Nat):Nat→Option Spec:=cfgL []
noncomputable def co55:Code:=codeAt (bodyOf Try.f55) []
theorem cfg55_ok (k:Nat):CfgOK Try.prog (cfg55 k):=cfgL_nil
def pl55 (k:Nat):Plan:=.go
noncomputable def bo55 (k:Nat) (x:AT (sp55 k).ps):=fnT Try.prog (cfg55 k) lim55 Try.f55 (bodyOf Try.f55) (pl55 k) (sp55 k) x
theorem ev55 (k:Nat) (x:AT (sp55 k).ps):(sp55 k).impl x=(bo55 k x).eval:=by kernel_rfl
theorem tr55 (k:Nat) (x:AT (sp55 k).ps):(bo55 k x)=(Tr.split ((length x.1:Int)==0) (.both (.split true (.leaf (([],()),())) (.need ((length (replicate 0 (replicate 3 (0:Int)))+length x.1)*(24*2)≤281474976710656∧length (replicate 0 (replicate 3 (0:Int)))+length x.1≤9223372036854775807) (.leaf (([]++x.1,()),())))) (.split false (.leaf (([],()),())) (.need ((length (replicate 0 (replicate 3 (0:Int)))+length x.1)*(24*2)≤281474976710656∧length (replicate 0 (replicate 3 (0:Int)))+length x.1≤9223372036854775807) (.leaf (([]++x.1,()),()))))) (.split false (.leaf (([],()),())) (.need ((length (replicate 0 (replicate 3 (0:Int)))+length x.1)*(24*2)≤281474976710656∧length (replicate 0 (replicate 3 (0:Int)))+length x.1≤9223372036854775807) (.leaf (([]++x.1,()),()))))):=by kernel_rfl
theorem sa55 (k:Nat) (x:AT (sp55 k).ps) (r) (h:(sp55 k).impl x=some r):(bo55 k x).sat (·=r):=sat_of_eq (tr55 k x) (clone_sat (a:=x.1) (p:=(length (replicate 0 (replicate 3 (0:Int)))+length x.1)*(24*2)≤281474976710656∧length (replicate 0 (replicate 3 (0:Int)))+length x.1≤9223372036854775807) (fun e=>by rw[e]; simp) h)
theorem v55 (k:Nat):Callable Try.prog 55∧Valid Try.prog 55 (sp55 k) :=
 fn_sat (cfg55_ok k) (f:=55) (fn:=Try.f55) (by kernel_rfl) (c:=bodyOf Try.f55) (by kernel_rfl) (by kernel_rfl) rfl rfl (Nat.le_of_ble_eq_true rfl) (Nat.le_of_ble_eq_true rfl) (p:=pl55 k) (planOK_go _) fun x r h=>sa55 k x r h
def F56 (k:Nat) (a0:(List (List Int))):Option (TY69×Unit) :=
 bif ((length a0:Int)==0) then
 some (([],()),())
 else
 if (length (replicate 0 ([]:(List Int)))+length a0)*(24*2)≤281474976710656∧length (replicate 0 ([]:(List Int)))+length a0≤9223372036854775807 then
 some ((((replicate 0 ([]:(List Int)))++a0),()),())
 else none
def sp56 (k:Nat):Spec:=⟨[.own KD52],[.own KD52],fun x=>F56 k x.1⟩
def lim56:Lim:=⟨8,1,true,false,[],[]⟩
def cfg56 (k:Nat):Nat→Option Spec:=cfgL []
noncomputable def co56:Code:=codeAt (bodyOf Try.f56) []
theorem cfg56_ok (k:Nat):CfgOK Try.prog (cfg56 k):=cfgL_nil
def pl56 (k:Nat):Plan:=.go
noncomputable def bo56 (k:Nat) (x:AT (sp56 k).ps):=fnT Try.prog (cfg56 k) lim56 Try.f56 (bodyOf Try.f56) (pl56 k) (sp56 k) x
theorem ev56 (k:Nat) (x:AT (sp56 k).ps):(sp56 k).impl x=(bo56 k x).eval:=by kernel_rfl
theorem tr56 (k:Nat) (x:AT (sp56 k).ps):(bo56 k x)=(Tr.split ((length x.1:Int)==0) (.both (.split true (.leaf (([],()),())) (.need ((length (replicate 0 ([]:(List Int)))+length x.1)*(24*2)≤281474976710656∧length (replicate 0 ([]:(List Int)))+length x.1≤9223372036854775807) (.leaf (([]++x.1,()),())))) (.split false (.leaf (([],()),())) (.need ((length (replicate 0 ([]:(List Int)))+length x.1)*(24*2)≤281474976710656∧length (replicate 0 ([]:(List Int)))+length x.1≤9223372036854775807) (.leaf (([]++x.1,()),()))))) (.split false (.leaf (([],()),())) (.need ((length (replicate 0 ([]:(List Int)))+length x.1)*(24*2)≤281474976710656∧length (replicate 0 ([]:(List Int)))+length x.1≤9223372036854775807) (.leaf (([]++x.1,()),()))))):=by kernel_rfl
theorem sa56 (k:Nat) (x:AT (sp56 k).ps) (r) (h:(sp56 k).impl x=some r):(bo56 k x).sat (·=r):=sat_of_eq (tr56 k x) (clone_sat (a:=x.1) (p:=(length (replicate 0 ([]:(List Int)))+length x.1)*(24*2)≤281474976710656∧length (replicate 0 ([]:(List Int)))+length x.1≤9223372036854775807) (fun e=>by rw[e]; simp) h)
theorem v56 (k:Nat):Callable Try.prog 56∧Valid Try.prog 56 (sp56 k) :=
 fn_sat (cfg56_ok k) (f:=56) (fn:=Try.f56) (by kernel_rfl) (c:=bodyOf Try.f56) (by kernel_rfl) (by kernel_rfl) rfl rfl (Nat.le_of_ble_eq_true rfl) (Nat.le_of_ble_eq_true rfl) (p:=pl56 k) (planOK_go _) fun x r h=>sa56 k x r h
def F57 (k:Nat) (a0:(List (List (List Int)))):Option (((List (List (List Int)))×Unit)×Unit) :=
 bif ((length a0:Int)==0) then
 some (([],()),())
 else
 if (length (replicate 0 ([]:(List (List Int))))+length a0)*(24*2)≤281474976710656∧length (replicate 0 ([]:(List (List Int))))+length a0≤9223372036854775807 then
 some ((((replicate 0 ([]:(List (List Int))))++a0),()),())
 else none
def sp57 (k:Nat):Spec:=⟨[.own (.sl true 56 (.sl true 69 (.arr 3 (.int .i64)) none) none)],[.own (.sl true 56 (.sl true 69 (.arr 3 (.int .i64)) none) none)],fun x=>F57 k x.1⟩
def lim57:Lim:=⟨8,1,true,false,[],[]⟩
def cfg57 (k:Nat):Nat→Option Spec:=cfgL []
noncomputable def co57:Code:=codeAt (bodyOf Try.f57) []
theorem cfg57_ok (k:Nat):CfgOK Try.prog (cfg57 k):=cfgL_nil
def pl57 (k:Nat):Plan:=.go
noncomputable def bo57 (k:Nat) (x:AT (sp57 k).ps):=fnT Try.prog (cfg57 k) lim57 Try.f57 (bodyOf Try.f57) (pl57 k) (sp57 k) x
theorem ev57 (k:Nat) (x:AT (sp57 k).ps):(sp57 k).impl x=(bo57 k x).eval:=by kernel_rfl
theorem tr57 (k:Nat) (x:AT (sp57 k).ps):(bo57 k x)=(Tr.split ((length x.1:Int)==0) (.both (.split true (.leaf (([],()),())) (.need ((length (replicate 0 ([]:(List (List Int))))+length x.1)*(24*2)≤281474976710656∧length (replicate 0 ([]:(List (List Int))))+length x.1≤9223372036854775807) (.leaf (([]++x.1,()),())))) (.split false (.leaf (([],()),())) (.need ((length (replicate 0 ([]:(List (List Int))))+length x.1)*(24*2)≤281474976710656∧length (replicate 0 ([]:(List (List Int))))+length x.1≤9223372036854775807) (.leaf (([]++x.1,()),()))))) (.split false (.leaf (([],()),())) (.need ((length (replicate 0 ([]:(List (List Int))))+length x.1)*(24*2)≤281474976710656∧length (replicate 0 ([]:(List (List Int))))+length x.1≤9223372036854775807) (.leaf (([]++x.1,()),()))))):=by kernel_rfl
theorem sa57 (k:Nat) (x:AT (sp57 k).ps) (r) (h:(sp57 k).impl x=some r):(bo57 k x).sat (·=r):=sat_of_eq (tr57 k x) (clone_sat (a:=x.1) (p:=(length (replicate 0 ([]:(List (List Int))))+length x.1)*(24*2)≤281474976710656∧length (replicate 0 ([]:(List (List Int))))+length x.1≤9223372036854775807) (fun e=>by rw[e]; simp) h)
theorem v57 (k:Nat):Callable Try.prog 57∧Valid Try.prog 57 (sp57 k) :=
 fn_sat (cfg57_ok k) (f:=57) (fn:=Try.f57) (by kernel_rfl) (c:=bodyOf Try.f57) (by kernel_rfl) (by kernel_rfl) rfl rfl (Nat.le_of_ble_eq_true rfl) (Nat.le_of_ble_eq_true rfl) (p:=pl57 k) (planOK_go _) fun x r h=>sa57 k x r h
def F19_0 (k:Nat):Nat→TY23→Int→(List (List Bool))→Int→Int→Int→Int→TY49→TY49→TY20→(List Int)→Option ((TY21×(TY49×TY49×TY20×(List Int)×Unit))⊕TY40)
 |0,_,_,_,_,_,_,_,_,_,_,_=>none
 |n+1,t0,t3,t4,t5,t16,t58,t59,c12,c15,c30,e0 =>
  bif (decide (t59<t58)) then
  if 0≤t16∧t16<(length c30.1.2.1:Int) then
  (F51 k (some c30) (getD c30.1.2.1 (toNat t16) ([]:(List Int))) t59).bind fun r6 =>
  (F48 k c30 r6.1.1).bind fun r7 =>
  let x8:=(List.set (replicate 1 (0:Int)) 0 r7.1.1)
  if (length e0+length x8)*(8*2)≤281474976710656∧length e0+length x8≤9223372036854775807 then
  let x9:=(decide ((length r7.2.1.1.2.1:Int)>t5))
  bif x9 then
  some (.inr (((4:Int),()),((([]:(List (List Int))),(([]:(List (List (List Int)))),())),())))
  else
  (F19_0 k n t0 t3 t4 t5 t16 t58 (wrap .i64 (t59+(1:Int))) c12 c15 r7.2.1 (e0++x8)).bind some
  else none
  else none
  else
  some (.inl ((t0,t3,t4,t5,t16,()),(c12,c15,c30,e0,())))
def sq19_0:Shape:=⟨[(17,KD64)],[(0,.val KD10),(3,.val (.int .i64)),(4,.val KD54),(5,.val (.int .i64)),(12,.ptr 12 []),(14,.ptr 30 []),(15,.ptr 15 []),(16,.val (.int .i64)),(17,.at 2000017 []),(58,.val (.int .i64)),(59,.val (.int .i64))],[(12,some 45,(.pair KD52 (.pair (.sl true 56 (.sl true 69 (.arr 3 (.int .i64)) none) none) .unit))),(15,some 45,(.pair KD52 (.pair (.sl true 56 (.sl true 69 (.arr 3 (.int .i64)) none) none) .unit))),(30,some 106,KD9),(2000017,none,KD64)]⟩
def fu19_0 (k m:Nat) (v:sq19_0.V):=F19_0 k m v.1.1 v.1.2.1 v.1.2.2.1 v.1.2.2.2.1 v.1.2.2.2.2.1 v.1.2.2.2.2.2.1 v.1.2.2.2.2.2.2.1 v.2.1 v.2.2.1 v.2.2.2.1 v.2.2.2.2.1
def fr19_0 (k:Nat):Frag:=⟨sq19_0,[(.exit 2,⟨[(17,KD64)],[(0,.val KD10),(3,.val (.int .i64)),(4,.val KD54),(5,.val (.int .i64)),(12,.ptr 12 []),(14,.ptr 30 []),(15,.ptr 15 []),(16,.val (.int .i64)),(17,.at 2000017 [])],[(12,some 45,(.pair KD52 (.pair (.sl true 56 (.sl true 69 (.arr 3 (.int .i64)) none) none) .unit))),(15,some 45,(.pair KD52 (.pair (.sl true 56 (.sl true 69 (.arr 3 (.int .i64)) none) none) .unit))),(30,some 106,KD9),(2000017,none,KD64)]⟩),(.ret,⟨[],[(12,.ptr 12 []),(13,.val (.int .i64))],[(12,some 45,(.pair KD52 (.pair (.sl true 56 (.sl true 69 (.arr 3 (.int .i64)) none) none) .unit)))]⟩)],fu19_0 k k⟩
def F19_1 (k:Nat):Nat→TY23→Int→(List (List Bool))→Int→Int→(List (List Bool))→Int→Int→TY49→TY49→TY20→(List Int)→(List Int)→(List (List Int))→Option ((TY21×(TY49×TY49×TY20×(List Int)×(List (List Int))×Unit)))
 |0,_,_,_,_,_,_,_,_,_,_,_,_,_,_=>none
 |n+1,t0,t3,t4,t5,t16,t100,t101,t102,c12,c15,c30,e0,e1,e2 =>
  bif (decide (t102<t101)) then
  if 0≤t102∧t102<(length t100:Int) then
  let x22:=(getD t100 (toNat t102) ([]:(List Bool)))
  (F53 k t0 e0 x22).bind fun r23 =>
  let x24:=(List.set (replicate 1 (replicate 3 (0:Int))) 0 r23.1.1)
  if (length e2+length x24)*(24*2)≤281474976710656∧length e2+length x24≤9223372036854775807 then
  (F19_1 k n t0 t3 t4 t5 t16 t100 t101 (wrap .i64 (t102+(1:Int))) c12 c15 c30 e0 e1 (e2++x24)).bind some
  else none
  else none
  else
  some ((t0,t3,t4,t5,t16,()),(c12,c15,c30,e1,e2,()))
def sq19_1:Shape:=⟨[(20,(.sl true 69 (.arr 3 (.int .i64)) none))],[(0,.val KD10),(3,.val (.int .i64)),(4,.val KD54),(5,.val (.int .i64)),(12,.ptr 12 []),(14,.ptr 30 []),(15,.ptr 15 []),(16,.val (.int .i64)),(17,.at 2000017 []),(19,.at 1001584 []),(20,.at 2000020 []),(100,.val KD54),(101,.val (.int .i64)),(102,.val (.int .i64))],[(12,some 45,(.pair KD52 (.pair (.sl true 56 (.sl true 69 (.arr 3 (.int .i64)) none) none) .unit))),(15,some 45,(.pair KD52 (.pair (.sl true 56 (.sl true 69 (.arr 3 (.int .i64)) none) none) .unit))),(30,some 106,KD9),(1001584,none,KD64),(2000017,none,KD64),(2000020,none,(.sl true 69 (.arr 3 (.int .i64)) none))]⟩
def fu19_1 (k m:Nat) (v:sq19_1.V):=F19_1 k m v.1.1 v.1.2.1 v.1.2.2.1 v.1.2.2.2.1 v.1.2.2.2.2.1 v.1.2.2.2.2.2.1 v.1.2.2.2.2.2.2.1 v.1.2.2.2.2.2.2.2.1 v.2.1 v.2.2.1 v.2.2.2.1 v.2.2.2.2.1 v.2.2.2.2.2.1 v.2.2.2.2.2.2.1
def fr19_1 (k:Nat):Frag:=⟨sq19_1,[(.exit 4,⟨[(20,(.sl true 69 (.arr 3 (.int .i64)) none))],[(0,.val KD10),(3,.val (.int .i64)),(4,.val KD54),(5,.val (.int .i64)),(12,.ptr 12 []),(14,.ptr 30 []),(15,.ptr 15 []),(16,.val (.int .i64)),(17,.at 2000017 []),(20,.at 2000020 [])],[(12,some 45,(.pair KD52 (.pair (.sl true 56 (.sl true 69 (.arr 3 (.int .i64)) none) none) .unit))),(15,some 45,(.pair KD52 (.pair (.sl true 56 (.sl true 69 (.arr 3 (.int .i64)) none) none) .unit))),(30,some 106,KD9),(2000017,none,KD64),(2000020,none,(.sl true 69 (.arr 3 (.int .i64)) none))]⟩)],fu19_1 k k⟩
def F19_2 (k:Nat):Nat→TY23→Int→(List (List Bool))→Int→Int→TY49→TY49→TY20→Option ((Unit×(TY49×TY49×Unit))⊕TY40)
 |0,_,_,_,_,_,_,_,_=>none
 |n+1,t0,t3,t4,t5,t16,c12,c15,c30 =>
  let x4:=(decide (t16<(length c30.1.2.1:Int)))
  bif x4 then
  let x5:=(decide ((length c30.1.2.1:Int)>t5))
  bif x5 then
  some (.inr (((4:Int),()),((([]:(List (List Int))),(([]:(List (List (List Int)))),())),())))
  else
  (F19_0 k k t0 t3 t4 t5 t16 (maxI t3 (0:Int)) (0:Int) c12 c15 c30 []).bind fun r10 =>
  match r10 with
  |.inl r11 =>
   let y16:=r11.1.2.2.2.2.1
   let y19:=r11.2.2.2.1
   if 0≤y16∧y16<(length y19.1.2.1:Int) then
   (F52 k (some y19) (getD y19.1.2.1 (toNat y16) ([]:(List Int)))).bind fun r21 =>
   (F19_1 k k r11.1.1 r11.1.2.1 r11.1.2.2.1 r11.1.2.2.2.1 y16 r11.1.2.2.1 (length r11.1.2.2.1:Int) (0:Int) r11.2.1 r11.2.2.1 y19 r21.1.1 r11.2.2.2.2.1 []).bind fun r25 =>
   let y32:=r25.2.2.1
   (F54 k r25.2.2.2.2.1).bind fun r36 =>
   if (length y32.1+length [r36.1.1])*(24*2)≤281474976710656∧length y32.1+length [r36.1.1]≤9223372036854775807 then
   (F55 k r25.2.2.2.2.2.1).bind fun r37 =>
   if (length y32.2.1+length [r37.1.1])*(24*2)≤281474976710656∧length y32.2.1+length [r37.1.1]≤9223372036854775807 then
   (F19_2 k n r25.1.1 r25.1.2.1 r25.1.2.2.1 r25.1.2.2.2.1 (wrap .i64 (r25.1.2.2.2.2.1+(1:Int))) r25.2.1 ((y32.1++[r36.1.1]),((y32.2.1++[r37.1.1]),y32.2.2)) r25.2.2.2.1).bind some
   else none
   else none
   else none
  |.inr r11 =>
   some (.inr ((r11.1.1,()),(r11.2.1,())))
  else
  some (.inl ((),(c12,c15,())))
def sq19_2:Shape:=⟨[],[(0,.val KD10),(3,.val (.int .i64)),(4,.val KD54),(5,.val (.int .i64)),(12,.ptr 12 []),(14,.ptr 30 []),(15,.ptr 15 []),(16,.val (.int .i64))],[(12,some 45,(.pair KD52 (.pair (.sl true 56 (.sl true 69 (.arr 3 (.int .i64)) none) none) .unit))),(15,some 45,(.pair KD52 (.pair (.sl true 56 (.sl true 69 (.arr 3 (.int .i64)) none) none) .unit))),(30,some 106,KD9)]⟩
def fu19_2 (k m:Nat) (v:sq19_2.V):=F19_2 k m v.1.1 v.1.2.1 v.1.2.2.1 v.1.2.2.2.1 v.1.2.2.2.2.1 v.2.1 v.2.2.1 v.2.2.2.1
def fr19_2 (k:Nat):Frag:=⟨sq19_2,[(.exit 0,⟨[],[(12,.ptr 12 []),(15,.ptr 15 [])],[(12,some 45,(.pair KD52 (.pair (.sl true 56 (.sl true 69 (.arr 3 (.int .i64)) none) none) .unit))),(15,some 45,(.pair KD52 (.pair (.sl true 56 (.sl true 69 (.arr 3 (.int .i64)) none) none) .unit)))]⟩),(.ret,⟨[],[(12,.ptr 12 []),(13,.val (.int .i64))],[(12,some 45,(.pair KD52 (.pair (.sl true 56 (.sl true 69 (.arr 3 (.int .i64)) none) none) .unit)))]⟩)],fu19_2 k k⟩
def F19 (k:Nat) (a0:TY23) (a1:TY31) (a2:(List (List Bool))) (a3:Int) (a4:(List (List Bool))) (a5:Int):Option ((TY49×Int×Unit)×Unit) :=
 (F50 k a1).bind fun r1 =>
 (F49 k r1.1.1).bind fun r2 =>
 (F48 k (((some []:Option (List (ByteArray×Int))),(([]:(List (List Int))),())),(a1,(a2,()))) r2.1.1).bind fun r3 =>
 (F19_2 k k a0 a3 a4 (minI a5 (100000:Int)) (0:Int) (([]:(List (List Int))),(([]:(List (List (List Int)))),())) (([]:(List (List Int))),(([]:(List (List (List Int)))),())) r3.2.1).bind fun r40 =>
 match r40 with
 |.inl r41 =>
  (F56 k r41.2.2.1.1).bind fun r44 =>
  (F57 k r41.2.2.1.2.1).bind fun r45 =>
  some (((r44.1.1,(r45.1.1,())),(0:Int),()),())
 |.inr r41 =>
  some ((r41.2.1,r41.1.1,()),())
def sp19 (k:Nat):Spec:=⟨[.val KD10,.val KD11,.val KD54,.val (.int .i64),.val KD54,.val (.int .i64)],[.own (.pair KD52 (.pair (.sl true 56 (.sl true 69 (.arr 3 (.int .i64)) none) none) .unit)),.val (.int .i64)],fun x=>F19 k x.1 x.2.1 x.2.2.1 x.2.2.2.1 x.2.2.2.2.1 x.2.2.2.2.2.1⟩
def lim19:Lim:=⟨135,6,false,false,[],[]⟩
def cfg19 (k:Nat):Nat→Option Spec:=cfgL [(48,sp48 k),(49,sp49 k),(50,sp50 k),(51,sp51 k),(52,sp52 k),(53,sp53 k),(54,sp54 k),(55,sp55 k),(56,sp56 k),(57,sp57 k)]
noncomputable def co19_0:Code:=codeAt (bodyOf Try.f19) [.r,.r,.r,.r,.r,.l,.r,.s,.b,.r,.l,.s,.r,.r,.l,.r,.s]
noncomputable def cb19_0:Code:=codeAt (bodyOf Try.f19) [.r,.r,.r,.r,.r,.l,.r,.s,.b,.r,.l,.s,.r,.r,.l,.r,.s,.b]
noncomputable def co19_1:Code:=codeAt (bodyOf Try.f19) [.r,.r,.r,.r,.r,.l,.r,.s,.b,.r,.l,.s,.r,.r,.r,.r,.r,.l,.r,.s]
noncomputable def cb19_1:Code:=codeAt (bodyOf Try.f19) [.r,.r,.r,.r,.r,.l,.r,.s,.b,.r,.l,.s,.r,.r,.r,.r,.r,.l,.r,.s,.b]
noncomputable def co19_2:Code:=codeAt (bodyOf Try.f19) [.r,.r,.r,.r,.r,.l,.r,.s]
noncomputable def cb19_2:Code:=codeAt (bodyOf Try.f19) [.r,.r,.r,.r,.r,.l,.r,.s,.b]
noncomputable def co19:Code:=codeAt (bodyOf Try.f19) []
theorem cfg19_ok (k:Nat):CfgOK Try.prog (cfg19 k):=cfgL_cons (v48 k) (cfgL_cons (v49 k) (cfgL_cons (v50 k) (cfgL_cons (v51 k) (cfgL_cons (v52 k) (cfgL_cons (v53 k) (cfgL_cons (v54 k) (cfgL_cons (v55 k) (cfgL_cons (v56 k) (cfgL_cons (v57 k) (cfgL_nil))))))))))
noncomputable def bo19_0 (k m:Nat) (v:sq19_0.V):=body Try.prog (stepper Try.prog (cfg19 k) lim19) .go cb19_0 (sq19_0.st v) (loopK (fr19_0 k) (fu19_0 k m))
theorem pp19_0 (k m:Nat) (v:sq19_0.V):fu19_0 k (m+1) v=(bo19_0 k m v).eval∧(bo19_0 k m v).left=(bo19_0 k m v).right:=⟨by kernel_rfl,by kernel_rfl⟩
theorem fr19_0_ok (k:Nat):FragOK Try.prog lim19 (fr19_0 k) co19_0 :=
 frag_cast (by kernel_rfl) (loop_ok (cfg19_ok k) (planOK_go _) (fu19_0 k) k (fun _=>rfl) (fun _=>rfl) (pp19_0 k))
noncomputable def bo19_1 (k m:Nat) (v:sq19_1.V):=body Try.prog (stepper Try.prog (cfg19 k) lim19) .go cb19_1 (sq19_1.st v) (loopK (fr19_1 k) (fu19_1 k m))
theorem pp19_1 (k m:Nat) (v:sq19_1.V):fu19_1 k (m+1) v=(bo19_1 k m v).eval∧(bo19_1 k m v).left=(bo19_1 k m v).right:=⟨by kernel_rfl,by kernel_rfl⟩
theorem fr19_1_ok (k:Nat):FragOK Try.prog lim19 (fr19_1 k) co19_1 :=
 frag_cast (by kernel_rfl) (loop_ok (cfg19_ok k) (planOK_go _) (fu19_1 k) k (fun _=>rfl) (fun _=>rfl) (pp19_1 k))
def pl19_2 (k:Nat):Plan:=(.seq .go (.seq (.sub (.seq .go (.seq .go (.seq (.seq .go (.sub (.frag (fr19_0 k)))) (.seq .go (.seq .go (.seq (.seq .go (.sub (.frag (fr19_1 k)))) .go))))))) .go))
noncomputable def bo19_2 (k m:Nat) (v:sq19_2.V):=body Try.prog (stepper Try.prog (cfg19 k) lim19) (pl19_2 k) cb19_2 (sq19_2.st v) (loopK (fr19_2 k) (fu19_2 k m))
theorem pp19_2 (k m:Nat) (v:sq19_2.V):fu19_2 k (m+1) v=(bo19_2 k m v).eval∧(bo19_2 k m v).left=(bo19_2 k m v).right:=⟨by kernel_rfl,by kernel_rfl⟩
theorem fr19_2_ok (k:Nat):FragOK Try.prog lim19 (fr19_2 k) co19_2 :=
 frag_cast (by kernel_rfl) (loop_ok (cfg19_ok k) (plan_of (L:=[(fr19_0 k,co19_0),(fr19_1 k,co19_1)]) (by kernel_rfl) (.cons (fr19_0_ok k) (.cons (fr19_1_ok k) .nil))) (fu19_2 k) k (fun _=>rfl) (fun _=>rfl) (pp19_2 k))
def pl19 (k:Nat):Plan:=(.seq .go (.seq .go (.seq .go (.seq .go (.seq .go (.seq (.seq .go (.sub (.frag (fr19_2 k)))) .go))))))
noncomputable def bo19 (k:Nat) (x:AT (sp19 k).ps):=fnT Try.prog (cfg19 k) lim19 Try.f19 (bodyOf Try.f19) (pl19 k) (sp19 k) x
theorem vv19 (k:Nat) (x:AT (sp19 k).ps):(sp19 k).impl x=(bo19 k x).eval∧(bo19 k x).left=(bo19 k x).right:=⟨by kernel_rfl,by kernel_rfl⟩
theorem v19 (k:Nat):Callable Try.prog 19∧Valid Try.prog 19 (sp19 k) :=
 fn_of (n:=lim19) (fn:=Try.f19) (p:=(pl19 k)) (cfg19_ok k) (by kernel_rfl) (plan_of (L:=[(fr19_2 k,co19_2)]) (by kernel_rfl) (.cons (fr19_2_ok k) .nil)) (vv19 k)
def F26_0 (k:Nat):Nat→(List Int)→(List Int)→Int→Int→Int→TY49→(List (List Int))→Option ((Unit×TY69))
 |0,_,_,_,_,_,_,_=>none
 |n+1,t1,t2,t8,t13,t14,c3,e0 =>
  bif (decide (t14<t13)) then
  (F63 k).bind fun r2 =>
  bif (decide (t8≥(0:Int))) then
  let x3:=(decide (t8<(length c3.2.1:Int)))
  bif x3 then
  let x4:=(decide (t14<(length t2:Int)))
  bif x4 then
  if 0≤t14∧t14<(length t2:Int) then
  let x5:=(decide ((getD t2 (toNat t14) (0:Int))≥(0:Int)))
  bif x5 then
  if 0≤t14∧t14<(length t2:Int) then
  if 0≤t8∧t8<(length c3.2.1:Int) then
  let x6:=(getD c3.2.1 (toNat t8) ([]:(List (List Int))))
  let x7:=(decide ((getD t2 (toNat t14) (0:Int))<(length x6:Int)))
  bif x7 then
  if 0≤t8∧t8<(length c3.2.1:Int) then
  let x8:=(getD c3.2.1 (toNat t8) ([]:(List (List Int))))
  if 0≤t14∧t14<(length t2:Int) then
  if 0≤(getD t2 (toNat t14) (0:Int))∧(getD t2 (toNat t14) (0:Int))<(length x8:Int) then
  let x9:=(getD x8 (toNat (getD t2 (toNat t14) (0:Int))) ([]:(List Int)))
  let x10:=(List.set (replicate 1 (replicate 3 (0:Int))) 0 x9)
  if (length e0+length x10)*(24*2)≤281474976710656∧length e0+length x10≤9223372036854775807 then
  let x11:=(decide (t14<(length t1:Int)))
  bif x11 then
  bif (decide (t8≥(0:Int))) then
  let x12:=(decide (t8<(length c3.1:Int)))
  bif x12 then
  if 0≤t14∧t14<(length t1:Int) then
  let x13:=(decide ((getD t1 (toNat t14) (0:Int))≥(0:Int)))
  bif x13 then
  if 0≤t14∧t14<(length t1:Int) then
  if 0≤t8∧t8<(length c3.1:Int) then
  let x14:=(getD c3.1 (toNat t8) ([]:(List Int)))
  let x15:=(decide ((getD t1 (toNat t14) (0:Int))<(length x14:Int)))
  bif x15 then
  if 0≤t8∧t8<(length c3.1:Int) then
  let x16:=(getD c3.1 (toNat t8) ([]:(List Int)))
  if 0≤t14∧t14<(length t1:Int) then
  if 0≤(getD t1 (toNat t14) (0:Int))∧(getD t1 (toNat t14) (0:Int))<(length x16:Int) then
  let x17:=(getD x16 (toNat (getD t1 (toNat t14) (0:Int))) (0:Int))
  (F26_0 k n t1 t2 x17 t13 (wrap .i64 (t14+(1:Int))) c3 (e0++x10)).bind some
  else none
  else none
  else none
  else
  (F26_0 k n t1 t2 t8 t13 (wrap .i64 (t14+(1:Int))) c3 (e0++x10)).bind some
  else none
  else none
  else
  (F26_0 k n t1 t2 t8 t13 (wrap .i64 (t14+(1:Int))) c3 (e0++x10)).bind some
  else none
  else
  (F26_0 k n t1 t2 t8 t13 (wrap .i64 (t14+(1:Int))) c3 (e0++x10)).bind some
  else
  (F26_0 k n t1 t2 t8 t13 (wrap .i64 (t14+(1:Int))) c3 (e0++x10)).bind some
  else
  (F26_0 k n t1 t2 t8 t13 (wrap .i64 (t14+(1:Int))) c3 (e0++x10)).bind some
  else none
  else none
  else none
  else none
  else
  let x18:=(List.set (replicate 1 (replicate 3 (0:Int))) 0 r2.1.1)
  if (length e0+length x18)*(24*2)≤281474976710656∧length e0+length x18≤9223372036854775807 then
  let x19:=(decide (t14<(length t1:Int)))
  bif x19 then
  bif (decide (t8≥(0:Int))) then
  let x20:=(decide (t8<(length c3.1:Int)))
  bif x20 then
  if 0≤t14∧t14<(length t1:Int) then
  let x21:=(decide ((getD t1 (toNat t14) (0:Int))≥(0:Int)))
  bif x21 then
  if 0≤t14∧t14<(length t1:Int) then
  if 0≤t8∧t8<(length c3.1:Int) then
  let x22:=(getD c3.1 (toNat t8) ([]:(List Int)))
  let x23:=(decide ((getD t1 (toNat t14) (0:Int))<(length x22:Int)))
  bif x23 then
  if 0≤t8∧t8<(length c3.1:Int) then
  let x24:=(getD c3.1 (toNat t8) ([]:(List Int)))
  if 0≤t14∧t14<(length t1:Int) then
  if 0≤(getD t1 (toNat t14) (0:Int))∧(getD t1 (toNat t14) (0:Int))<(length x24:Int) then
  let x25:=(getD x24 (toNat (getD t1 (toNat t14) (0:Int))) (0:Int))
  (F26_0 k n t1 t2 x25 t13 (wrap .i64 (t14+(1:Int))) c3 (e0++x18)).bind some
  else none
  else none
  else none
  else
  (F26_0 k n t1 t2 t8 t13 (wrap .i64 (t14+(1:Int))) c3 (e0++x18)).bind some
  else none
  else none
  else
  (F26_0 k n t1 t2 t8 t13 (wrap .i64 (t14+(1:Int))) c3 (e0++x18)).bind some
  else none
  else
  (F26_0 k n t1 t2 t8 t13 (wrap .i64 (t14+(1:Int))) c3 (e0++x18)).bind some
  else
  (F26_0 k n t1 t2 t8 t13 (wrap .i64 (t14+(1:Int))) c3 (e0++x18)).bind some
  else
  (F26_0 k n t1 t2 t8 t13 (wrap .i64 (t14+(1:Int))) c3 (e0++x18)).bind some
  else none
  else none
  else none
  else
  let x26:=(List.set (replicate 1 (replicate 3 (0:Int))) 0 r2.1.1)
  if (length e0+length x26)*(24*2)≤281474976710656∧length e0+length x26≤9223372036854775807 then
  let x27:=(decide (t14<(length t1:Int)))
  bif x27 then
  bif (decide (t8≥(0:Int))) then
  let x28:=(decide (t8<(length c3.1:Int)))
  bif x28 then
  if 0≤t14∧t14<(length t1:Int) then
  let x29:=(decide ((getD t1 (toNat t14) (0:Int))≥(0:Int)))
  bif x29 then
  if 0≤t14∧t14<(length t1:Int) then
  if 0≤t8∧t8<(length c3.1:Int) then
  let x30:=(getD c3.1 (toNat t8) ([]:(List Int)))
  let x31:=(decide ((getD t1 (toNat t14) (0:Int))<(length x30:Int)))
  bif x31 then
  if 0≤t8∧t8<(length c3.1:Int) then
  let x32:=(getD c3.1 (toNat t8) ([]:(List Int)))
  if 0≤t14∧t14<(length t1:Int) then
  if 0≤(getD t1 (toNat t14) (0:Int))∧(getD t1 (toNat t14) (0:Int))<(length x32:Int) then
  let x33:=(getD x32 (toNat (getD t1 (toNat t14) (0:Int))) (0:Int))
  (F26_0 k n t1 t2 x33 t13 (wrap .i64 (t14+(1:Int))) c3 (e0++x26)).bind some
  else none
  else none
  else none
  else
  (F26_0 k n t1 t2 t8 t13 (wrap .i64 (t14+(1:Int))) c3 (e0++x26)).bind some
  else none
  else none
  else
  (F26_0 k n t1 t2 t8 t13 (wrap .i64 (t14+(1:Int))) c3 (e0++x26)).bind some
  else none
  else
  (F26_0 k n t1 t2 t8 t13 (wrap .i64 (t14+(1:Int))) c3 (e0++x26)).bind some
  else
  (F26_0 k n t1 t2 t8 t13 (wrap .i64 (t14+(1:Int))) c3 (e0++x26)).bind some
  else
  (F26_0 k n t1 t2 t8 t13 (wrap .i64 (t14+(1:Int))) c3 (e0++x26)).bind some
  else none
  else none
  else
  let x34:=(List.set (replicate 1 (replicate 3 (0:Int))) 0 r2.1.1)
  if (length e0+length x34)*(24*2)≤281474976710656∧length e0+length x34≤9223372036854775807 then
  let x35:=(decide (t14<(length t1:Int)))
  bif x35 then
  bif (decide (t8≥(0:Int))) then
  let x36:=(decide (t8<(length c3.1:Int)))
  bif x36 then
  if 0≤t14∧t14<(length t1:Int) then
  let x37:=(decide ((getD t1 (toNat t14) (0:Int))≥(0:Int)))
  bif x37 then
  if 0≤t14∧t14<(length t1:Int) then
  if 0≤t8∧t8<(length c3.1:Int) then
  let x38:=(getD c3.1 (toNat t8) ([]:(List Int)))
  let x39:=(decide ((getD t1 (toNat t14) (0:Int))<(length x38:Int)))
  bif x39 then
  if 0≤t8∧t8<(length c3.1:Int) then
  let x40:=(getD c3.1 (toNat t8) ([]:(List Int)))
  if 0≤t14∧t14<(length t1:Int) then
  if 0≤(getD t1 (toNat t14) (0:Int))∧(getD t1 (toNat t14) (0:Int))<(length x40:Int) then
  let x41:=(getD x40 (toNat (getD t1 (toNat t14) (0:Int))) (0:Int))
  (F26_0 k n t1 t2 x41 t13 (wrap .i64 (t14+(1:Int))) c3 (e0++x34)).bind some
  else none
  else none
  else none
  else
  (F26_0 k n t1 t2 t8 t13 (wrap .i64 (t14+(1:Int))) c3 (e0++x34)).bind some
  else none
  else none
  else
  (F26_0 k n t1 t2 t8 t13 (wrap .i64 (t14+(1:Int))) c3 (e0++x34)).bind some
  else none
  else
  (F26_0 k n t1 t2 t8 t13 (wrap .i64 (t14+(1:Int))) c3 (e0++x34)).bind some
  else
  (F26_0 k n t1 t2 t8 t13 (wrap .i64 (t14+(1:Int))) c3 (e0++x34)).bind some
  else
  (F26_0 k n t1 t2 t8 t13 (wrap .i64 (t14+(1:Int))) c3 (e0++x34)).bind some
  else none
  else
  let x42:=(List.set (replicate 1 (replicate 3 (0:Int))) 0 r2.1.1)
  if (length e0+length x42)*(24*2)≤281474976710656∧length e0+length x42≤9223372036854775807 then
  let x43:=(decide (t14<(length t1:Int)))
  bif x43 then
  bif (decide (t8≥(0:Int))) then
  let x44:=(decide (t8<(length c3.1:Int)))
  bif x44 then
  if 0≤t14∧t14<(length t1:Int) then
  let x45:=(decide ((getD t1 (toNat t14) (0:Int))≥(0:Int)))
  bif x45 then
  if 0≤t14∧t14<(length t1:Int) then
  if 0≤t8∧t8<(length c3.1:Int) then
  let x46:=(getD c3.1 (toNat t8) ([]:(List Int)))
  let x47:=(decide ((getD t1 (toNat t14) (0:Int))<(length x46:Int)))
  bif x47 then
  if 0≤t8∧t8<(length c3.1:Int) then
  let x48:=(getD c3.1 (toNat t8) ([]:(List Int)))
  if 0≤t14∧t14<(length t1:Int) then
  if 0≤(getD t1 (toNat t14) (0:Int))∧(getD t1 (toNat t14) (0:Int))<(length x48:Int) then
  let x49:=(getD x48 (toNat (getD t1 (toNat t14) (0:Int))) (0:Int))
  (F26_0 k n t1 t2 x49 t13 (wrap .i64 (t14+(1:Int))) c3 (e0++x42)).bind some
  else none
  else none
  else none
  else
  (F26_0 k n t1 t2 t8 t13 (wrap .i64 (t14+(1:Int))) c3 (e0++x42)).bind some
  else none
  else none
  else
  (F26_0 k n t1 t2 t8 t13 (wrap .i64 (t14+(1:Int))) c3 (e0++x42)).bind some
  else none
  else
  (F26_0 k n t1 t2 t8 t13 (wrap .i64 (t14+(1:Int))) c3 (e0++x42)).bind some
  else
  (F26_0 k n t1 t2 t8 t13 (wrap .i64 (t14+(1:Int))) c3 (e0++x42)).bind some
  else
  (F26_0 k n t1 t2 t8 t13 (wrap .i64 (t14+(1:Int))) c3 (e0++x42)).bind some
  else none
  else
  let x50:=(List.set (replicate 1 (replicate 3 (0:Int))) 0 r2.1.1)
  if (length e0+length x50)*(24*2)≤281474976710656∧length e0+length x50≤9223372036854775807 then
  let x51:=(decide (t14<(length t1:Int)))
  bif x51 then
  bif (decide (t8≥(0:Int))) then
  let x52:=(decide (t8<(length c3.1:Int)))
  bif x52 then
  if 0≤t14∧t14<(length t1:Int) then
  let x53:=(decide ((getD t1 (toNat t14) (0:Int))≥(0:Int)))
  bif x53 then
  if 0≤t14∧t14<(length t1:Int) then
  if 0≤t8∧t8<(length c3.1:Int) then
  let x54:=(getD c3.1 (toNat t8) ([]:(List Int)))
  let x55:=(decide ((getD t1 (toNat t14) (0:Int))<(length x54:Int)))
  bif x55 then
  if 0≤t8∧t8<(length c3.1:Int) then
  let x56:=(getD c3.1 (toNat t8) ([]:(List Int)))
  if 0≤t14∧t14<(length t1:Int) then
  if 0≤(getD t1 (toNat t14) (0:Int))∧(getD t1 (toNat t14) (0:Int))<(length x56:Int) then
  let x57:=(getD x56 (toNat (getD t1 (toNat t14) (0:Int))) (0:Int))
  (F26_0 k n t1 t2 x57 t13 (wrap .i64 (t14+(1:Int))) c3 (e0++x50)).bind some
  else none
  else none
  else none
  else
  (F26_0 k n t1 t2 t8 t13 (wrap .i64 (t14+(1:Int))) c3 (e0++x50)).bind some
  else none
  else none
  else
  (F26_0 k n t1 t2 t8 t13 (wrap .i64 (t14+(1:Int))) c3 (e0++x50)).bind some
  else none
  else
  (F26_0 k n t1 t2 t8 t13 (wrap .i64 (t14+(1:Int))) c3 (e0++x50)).bind some
  else
  (F26_0 k n t1 t2 t8 t13 (wrap .i64 (t14+(1:Int))) c3 (e0++x50)).bind some
  else
  (F26_0 k n t1 t2 t8 t13 (wrap .i64 (t14+(1:Int))) c3 (e0++x50)).bind some
  else none
  else
  some ((),(e0,()))
def sq26_0:Shape:=⟨[(7,(.sl true 69 (.arr 3 (.int .i64)) none))],[(1,.val KD62),(2,.val KD62),(3,.ptr 3 []),(7,.at 2000007 []),(8,.val (.int .i64)),(13,.val (.int .i64)),(14,.val (.int .i64))],[(3,some 45,(.pair (.sl false 23 KD62 none) (.pair (.sl false 56 (.sl false 69 (.arr 3 (.int .i64)) none) none) .unit))),(2000007,none,(.sl true 69 (.arr 3 (.int .i64)) none))]⟩
def fu26_0 (k m:Nat) (v:sq26_0.V):=F26_0 k m v.1.1 v.1.2.1 v.1.2.2.1 v.1.2.2.2.1 v.1.2.2.2.2.1 v.2.1 v.2.2.1
def fr26_0 (k:Nat):Frag:=⟨sq26_0,[(.exit 0,⟨[(7,(.sl true 69 (.arr 3 (.int .i64)) none))],[(7,.at 2000007 [])],[(2000007,none,(.sl true 69 (.arr 3 (.int .i64)) none))]⟩)],fu26_0 k k⟩
def F26 (k:Nat) (a0:TY49) (a1:(List Int)) (a2:(List Int)):Option (TY69×Unit) :=
 let x1:=(wrap .i64 ((length a1:Int)+(1:Int)))
 (F26_0 k k a1 a2 (0:Int) x1 (0:Int) a0 []).bind fun r58 =>
 (F55 k r58.2.1).bind fun r60 =>
 some ((r60.1.1,()),())
def sp26 (k:Nat):Spec:=⟨[.val (.pair (.sl false 23 KD62 none) (.pair (.sl false 56 (.sl false 69 (.arr 3 (.int .i64)) none) none) .unit)),.val KD62,.val KD62],[.own (.sl true 69 (.arr 3 (.int .i64)) none)],fun x=>F26 k x.1 x.2.1 x.2.2.1⟩
def lim26:Lim:=⟨117,3,false,false,[],[]⟩
def cfg26 (k:Nat):Nat→Option Spec:=cfgL [(55,sp55 k),(63,sp63 k)]
noncomputable def co26_0:Code:=codeAt (bodyOf Try.f26) [.r,.r,.r,.l,.r,.s]
noncomputable def cb26_0:Code:=codeAt (bodyOf Try.f26) [.r,.r,.r,.l,.r,.s,.b]
noncomputable def co26:Code:=codeAt (bodyOf Try.f26) []
theorem cfg26_ok (k:Nat):CfgOK Try.prog (cfg26 k):=cfgL_cons (v55 k) (cfgL_cons (v63 k) (cfgL_nil))
noncomputable def bo26_0 (k m:Nat) (v:sq26_0.V):=body Try.prog (stepper Try.prog (cfg26 k) lim26) .go cb26_0 (sq26_0.st v) (loopK (fr26_0 k) (fu26_0 k m))
theorem pp26_0 (k m:Nat) (v:sq26_0.V):fu26_0 k (m+1) v=(bo26_0 k m v).eval∧(bo26_0 k m v).left=(bo26_0 k m v).right:=⟨by kernel_rfl,by kernel_rfl⟩
theorem fr26_0_ok (k:Nat):FragOK Try.prog lim26 (fr26_0 k) co26_0 :=
 frag_cast (by kernel_rfl) (loop_ok (cfg26_ok k) (planOK_go _) (fu26_0 k) k (fun _=>rfl) (fun _=>rfl) (pp26_0 k))
def pl26 (k:Nat):Plan:=(.seq .go (.seq .go (.seq .go (.seq (.seq .go (.sub (.frag (fr26_0 k)))) .go))))
noncomputable def bo26 (k:Nat) (x:AT (sp26 k).ps):=fnT Try.prog (cfg26 k) lim26 Try.f26 (bodyOf Try.f26) (pl26 k) (sp26 k) x
theorem vv26 (k:Nat) (x:AT (sp26 k).ps):(sp26 k).impl x=(bo26 k x).eval∧(bo26 k x).left=(bo26 k x).right:=⟨by kernel_rfl,by kernel_rfl⟩
theorem v26 (k:Nat):Callable Try.prog 26∧Valid Try.prog 26 (sp26 k) :=
 fn_of (n:=lim26) (fn:=Try.f26) (p:=(pl26 k)) (cfg26_ok k) (by kernel_rfl) (plan_of (L:=[(fr26_0 k,co26_0)]) (by kernel_rfl) (.cons (fr26_0_ok k) .nil)) (vv26 k)
def F30 (k:Nat):Option TY65 :=
 let x1:=(List.set (List.set (List.set (replicate 3 (0:Int)) 0 (1152921504606846976:Int)) 1 (1152921504606846976:Int)) 2 (1152921504606846976:Int))
 some ((x1,()),())
def sp30 (k:Nat):Spec:=⟨[],[.val (.arr 3 (.int .i64))],fun x=>F30 k⟩
def lim30:Lim:=⟨2,0,false,false,[],[]⟩
def cfg30 (k:Nat):Nat→Option Spec:=cfgL []
noncomputable def co30:Code:=codeAt (bodyOf Try.f30) []
theorem cfg30_ok (k:Nat):CfgOK Try.prog (cfg30 k):=cfgL_nil
noncomputable def bo30 (k:Nat) (x:AT (sp30 k).ps):=fnT Try.prog (cfg30 k) lim30 Try.f30 (bodyOf Try.f30) .go (sp30 k) x
theorem vv30 (k:Nat) (x:AT (sp30 k).ps):(sp30 k).impl x=(bo30 k x).eval∧(bo30 k x).left=(bo30 k x).right:=⟨by kernel_rfl,by kernel_rfl⟩
theorem v30 (k:Nat):Callable Try.prog 30∧Valid Try.prog 30 (sp30 k) :=
 fn_of (n:=lim30) (fn:=Try.f30) (p:=.go) (cfg30_ok k) (by kernel_rfl) (planOK_go _) (vv30 k)
def F13 (k:Nat):Option TY72 :=
 (F19 k [] [] [] (1:Int) [(replicate 0 false)] (1:Int)).bind fun r1 =>
 (F19 k [] [] [] (1:Int) [(replicate 0 false)] (0:Int)).bind fun r2 =>
 let x3:=(List.set (replicate 1 (0:Int)) 0 (0:Int))
 let x4:=(List.set (List.set (replicate 2 (0:Int)) 0 (0:Int)) 1 (0:Int))
 (F26 k r1.1.1 x3 x4).bind fun r5 =>
 bif (r1.1.2.1==(0:Int)) then
 let x6:=((length r1.1.1.1:Int)==(1:Int))
 bif x6 then
 let x7:=((length r1.1.1.2.1:Int)==(1:Int))
 bif x7 then
 if 0≤(0:Int)∧(0:Int)<(length r1.1.1.2.1:Int) then
 let x8:=(length (getD r1.1.1.2.1 (toNat (0:Int)) ([]:(List (List Int)))):Int)
 bif (x8==(1:Int)) then
 bif (r2.1.2.1==(4:Int)) then
 let x9:=((length r5.1.1:Int)==(2:Int))
 bif x9 then
 if 0≤(1:Int)∧(1:Int)<(length r5.1.1:Int) then
 let x10:=(getD r5.1.1 (toNat (1:Int)) ([]:(List Int)))
 (F30 k).bind fun r11 =>
 some (((x10==r11.1.1),()),())
 else none
 else
 some ((false,()),())
 else
 some ((false,()),())
 else
 some ((false,()),())
 else none
 else
 some ((false,()),())
 else
 some ((false,()),())
 else
 some ((false,()),())
def sp13 (k:Nat):Spec:=⟨[],[.val .bool],fun x=>F13 k⟩
def lim13:Lim:=⟨60,0,false,false,[],[]⟩
def cfg13 (k:Nat):Nat→Option Spec:=cfgL [(19,sp19 k),(26,sp26 k),(30,sp30 k)]
noncomputable def co13:Code:=codeAt (bodyOf Try.f13) []
theorem cfg13_ok (k:Nat):CfgOK Try.prog (cfg13 k):=cfgL_cons (v19 k) (cfgL_cons (v26 k) (cfgL_cons (v30 k) (cfgL_nil)))
noncomputable def bo13 (k:Nat) (x:AT (sp13 k).ps):=fnT Try.prog (cfg13 k) lim13 Try.f13 (bodyOf Try.f13) .go (sp13 k) x
theorem vv13 (k:Nat) (x:AT (sp13 k).ps):(sp13 k).impl x=(bo13 k x).eval∧(bo13 k x).left=(bo13 k x).right:=⟨by kernel_rfl,by kernel_rfl⟩
theorem v13 (k:Nat):Callable Try.prog 13∧Valid Try.prog 13 (sp13 k) :=
 fn_of (n:=lim13) (fn:=Try.f13) (p:=.go) (cfg13_ok k) (by kernel_rfl) (planOK_go _) (vv13 k)
def rs35 (f35:(TY58→Int→Option TY73)):Spec:=⟨[.val KD50,.val (.int .i64)],[.val (.int .i64)],fun x=>f35 x.1 x.2.1⟩
def F35_0 (k:Nat) (f35:(TY58→Int→Option TY73)):Nat→TY58→Int→Int→Int→Option TY70
 |0,_,_,_,_=>none
 |n+1,t0,t1,t5,t6 =>
  let x5:=(decide (t6<(length t0:Int)))
  bif x5 then
  bif (decide (t5≤(30:Int))) then
  if 0≤t6∧t6<(length t0:Int) then
  let x6:=(getD t0 (toNat t6) (Tree.mk ((0:Int),((0:Int),())) []))
  (f35 (Tree.l x6) (wrap .i64 (t1+(1:Int)))).bind fun r7 =>
  let x8:=(wrap .i64 ((wrap .i64 (t5+(1:Int)))+r7.1.1))
  (F35_0 k f35 n t0 t1 x8 (wrap .i64 (t6+(1:Int)))).bind some
  else none
  else
  some ((t5,()),())
  else
  some ((t5,()),())
def sq35_0:Shape:=⟨[],[(0,.val KD50),(1,.val (.int .i64)),(5,.val (.int .i64)),(6,.val (.int .i64))],[]⟩
def fu35_0 (k:Nat) (f35:(TY58→Int→Option TY73)) (m:Nat) (v:sq35_0.V):=F35_0 k f35 m v.1.1 v.1.2.1 v.1.2.2.1 v.1.2.2.2.1
def fr35_0 (k:Nat) (f35:(TY58→Int→Option TY73)):Frag:=⟨sq35_0,[(.exit 0,⟨[],[(5,.val (.int .i64))],[]⟩)],fu35_0 k f35 k⟩
def B35 (k:Nat) (f35:(TY58→Int→Option TY73)) (a0:TY58) (a1:Int):Option TY73 :=
 bif (decide (a1>(5:Int))) then
 some (((1000:Int),()),())
 else
 (F35_0 k f35 k a0 a1 (0:Int) (0:Int)).bind fun r9 =>
 some ((r9.1.1,()),())
def sb35 (k:Nat) (f35:(TY58→Int→Option TY73)):Spec:=rs35 (B35 k f35)
def lim35:Lim:=⟨31,2,false,false,[],[]⟩
def cfg35 (k:Nat) (f35:(TY58→Int→Option TY73)):Nat→Option Spec:=cfgL [(35,rs35 f35)]
noncomputable def co35_0:Code:=codeAt (bodyOf Try.f35) [.r,.r,.r,.l,.r,.s]
noncomputable def cb35_0:Code:=codeAt (bodyOf Try.f35) [.r,.r,.r,.l,.r,.s,.b]
noncomputable def co35:Code:=codeAt (bodyOf Try.f35) []
theorem cfg35_ok (k:Nat) (f35:(TY58→Int→Option TY73)) (h35:Callable Try.prog 35∧Valid Try.prog 35 (rs35 f35)):CfgOK Try.prog (cfg35 k f35):=cfgL_cons h35 (cfgL_nil)
noncomputable def bo35_0 (k:Nat) (f35:(TY58→Int→Option TY73)) (m:Nat) (v:sq35_0.V):=body Try.prog (stepper Try.prog (cfg35 k f35) lim35) .go cb35_0 (sq35_0.st v) (loopK (fr35_0 k f35) (fu35_0 k f35 m))
theorem pp35_0 (k:Nat) (f35:(TY58→Int→Option TY73)) (m:Nat) (v:sq35_0.V):fu35_0 k f35 (m+1) v=(bo35_0 k f35 m v).eval∧(bo35_0 k f35 m v).left=(bo35_0 k f35 m v).right:=⟨by kernel_rfl,by kernel_rfl⟩
theorem fr35_0_ok (k:Nat) (f35:(TY58→Int→Option TY73)) (h35:Callable Try.prog 35∧Valid Try.prog 35 (rs35 f35)):FragOK Try.prog lim35 (fr35_0 k f35) co35_0 :=
 frag_cast (by kernel_rfl) (loop_ok (cfg35_ok k f35 h35) (planOK_go _) (fu35_0 k f35) k (fun _=>rfl) (fun _=>rfl) (pp35_0 k f35))
def pl35 (k:Nat) (f35:(TY58→Int→Option TY73)):Plan:=(.seq .go (.seq .go (.seq .go (.seq (.seq .go (.sub (.frag (fr35_0 k f35)))) .go))))
noncomputable def bo35 (k:Nat) (f35:(TY58→Int→Option TY73)) (x:AT (sb35 k f35).ps):=fnT Try.prog (cfg35 k f35) lim35 Try.f35 (bodyOf Try.f35) (pl35 k f35) (sb35 k f35) x
theorem vv35 (k:Nat) (f35:(TY58→Int→Option TY73)) (x:AT (sb35 k f35).ps):(sb35 k f35).impl x=(bo35 k f35 x).eval∧(bo35 k f35 x).left=(bo35 k f35 x).right:=⟨by kernel_rfl,by kernel_rfl⟩
theorem b35 (k:Nat) (f35:(TY58→Int→Option TY73)) (h35:Callable Try.prog 35∧Valid Try.prog 35 (rs35 f35)):Callable Try.prog 35∧Valid Try.prog 35 (sb35 k f35) :=
 fn_of (n:=lim35) (fn:=Try.f35) (p:=(pl35 k f35)) (cfg35_ok k f35 h35) (by kernel_rfl) (plan_of (L:=[(fr35_0 k f35,co35_0)]) (by kernel_rfl) (.cons (fr35_0_ok k f35 h35) .nil)) (vv35 k f35)
def R35:Nat→(TY58→Int→Option TY73)
 |0=>fun _ _=>none
 |k+1=>B35 k (R35 k)
def F35 (k:Nat) (a0_:TY58) (a1_:Int):Option TY73:=(R35 k) a0_ a1_
def sp35 (k:Nat):Spec:=⟨[.val KD50,.val (.int .i64)],[.val (.int .i64)],fun x=>F35 k x.1 x.2.1⟩
theorem r35 (k:Nat):(Callable Try.prog 35∧Valid Try.prog 35 (rs35 (R35 k))):=by
 induction k with
 |zero=>exact ⟨⟨Try.f35,by kernel_rfl,by kernel_rfl,by kernel_rfl⟩,fun x r h=>by cases (show (none:Option _)=some r from h)⟩
 |succ k ih=>exact b35 k (R35 k) ih
theorem v35 (k:Nat):Callable Try.prog 35∧Valid Try.prog 35 (sp35 k):=(r35 k)
def F14 (k:Nat) (a0:TY58):Option TY72 :=
 (F35 k a0 (0:Int)).bind fun r1 =>
 some (((decide (r1.1.1≤(30:Int))),()),())
def sp14 (k:Nat):Spec:=⟨[.val KD50],[.val .bool],fun x=>F14 k x.1⟩
def lim14:Lim:=⟨6,1,false,false,[],[]⟩
def cfg14 (k:Nat):Nat→Option Spec:=cfgL [(35,sp35 k)]
noncomputable def co14:Code:=codeAt (bodyOf Try.f14) []
theorem cfg14_ok (k:Nat):CfgOK Try.prog (cfg14 k):=cfgL_cons (v35 k) (cfgL_nil)
noncomputable def bo14 (k:Nat) (x:AT (sp14 k).ps):=fnT Try.prog (cfg14 k) lim14 Try.f14 (bodyOf Try.f14) .go (sp14 k) x
theorem vv14 (k:Nat) (x:AT (sp14 k).ps):(sp14 k).impl x=(bo14 k x).eval∧(bo14 k x).left=(bo14 k x).right:=⟨by kernel_rfl,by kernel_rfl⟩
theorem v14 (k:Nat):Callable Try.prog 14∧Valid Try.prog 14 (sp14 k) :=
 fn_of (n:=lim14) (fn:=Try.f14) (p:=.go) (cfg14_ok k) (by kernel_rfl) (planOK_go _) (vv14 k)
def F18 (k:Nat) (a0:Int) (a1:Int):Option TY73 :=
 if a1≠0 then
 bif (decide ((Int.tmod a0 a1)<(0:Int))) then
 some (((wrap .i64 ((Int.tmod a0 a1)+a1)),()),())
 else
 some (((Int.tmod a0 a1),()),())
 else none
def sp18 (k:Nat):Spec:=⟨[.val (.int .i64),.val (.int .i64)],[.val (.int .i64)],fun x=>F18 k x.1 x.2.1⟩
def lim18:Lim:=⟨15,2,false,false,[],[]⟩
def cfg18 (k:Nat):Nat→Option Spec:=cfgL []
noncomputable def co18:Code:=codeAt (bodyOf Try.f18) []
theorem cfg18_ok (k:Nat):CfgOK Try.prog (cfg18 k):=cfgL_nil
noncomputable def bo18 (k:Nat) (x:AT (sp18 k).ps):=fnT Try.prog (cfg18 k) lim18 Try.f18 (bodyOf Try.f18) .go (sp18 k) x
theorem vv18 (k:Nat) (x:AT (sp18 k).ps):(sp18 k).impl x=(bo18 k x).eval∧(bo18 k x).left=(bo18 k x).right:=⟨by kernel_rfl,by kernel_rfl⟩
theorem v18 (k:Nat):Callable Try.prog 18∧Valid Try.prog 18 (sp18 k) :=
 fn_of (n:=lim18) (fn:=Try.f18) (p:=.go) (cfg18_ok k) (by kernel_rfl) (planOK_go _) (vv18 k)
def F86 (k:Nat) (a0:Int) (a1:Int):Option ((TY51×Unit)×Unit) :=
 let x6:=(Tree.a (Tree.mk ((0:Int),((0:Int),((0:Int),(ByteArray.empty,())))) [])).2.2.2.1
 let x7:=(Tree.l (Tree.mk ((0:Int),((0:Int),((0:Int),(ByteArray.empty,())))) []))
 let x8:=(Tree.mk ((1:Int),(a0,(a1,(x6,())))) x7)
 some ((x8,()),())
def sp86 (k:Nat):Spec:=⟨[.val (.int .i64),.val (.int .i64)],[.val KD34],fun x=>F86 k x.1 x.2.1⟩
def lim86:Lim:=⟨8,2,false,false,[],[]⟩
def cfg86 (k:Nat):Nat→Option Spec:=cfgL []
noncomputable def co86:Code:=codeAt (bodyOf Try.f86) []
theorem cfg86_ok (k:Nat):CfgOK Try.prog (cfg86 k):=cfgL_nil
noncomputable def bo86 (k:Nat) (x:AT (sp86 k).ps):=fnT Try.prog (cfg86 k) lim86 Try.f86 (bodyOf Try.f86) .go (sp86 k) x
theorem vv86 (k:Nat) (x:AT (sp86 k).ps):(sp86 k).impl x=(bo86 k x).eval∧(bo86 k x).left=(bo86 k x).right:=⟨by kernel_rfl,by kernel_rfl⟩
theorem v86 (k:Nat):Callable Try.prog 86∧Valid Try.prog 86 (sp86 k) :=
 fn_of (n:=lim86) (fn:=Try.f86) (p:=.go) (cfg86_ok k) (by kernel_rfl) (planOK_go _) (vv86 k)
def F87 (k:Nat):Option (((List ByteArray)×Unit)×Unit) :=
 let x1:=(List.set (List.set (List.set (List.set (List.set (List.set (replicate 6 ByteArray.empty) 0 (⟨#[97]⟩:ByteArray)) 1 (⟨#[118]⟩:ByteArray)) 2 (⟨#[100]⟩:ByteArray)) 3 (⟨#[115]⟩:ByteArray)) 4 (⟨#[119,49]⟩:ByteArray)) 5 (⟨#[111,116,104,101,114]⟩:ByteArray))
 some ((x1,()),())
def sp87 (k:Nat):Spec:=⟨[],[.own (.sl true 9 .str none)],fun x=>F87 k⟩
def lim87:Lim:=⟨2,0,false,false,[],[]⟩
def cfg87 (k:Nat):Nat→Option Spec:=cfgL []
noncomputable def co87:Code:=codeAt (bodyOf Try.f87) []
theorem cfg87_ok (k:Nat):CfgOK Try.prog (cfg87 k):=cfgL_nil
noncomputable def bo87 (k:Nat) (x:AT (sp87 k).ps):=fnT Try.prog (cfg87 k) lim87 Try.f87 (bodyOf Try.f87) .go (sp87 k) x
theorem vv87 (k:Nat) (x:AT (sp87 k).ps):(sp87 k).impl x=(bo87 k x).eval∧(bo87 k x).left=(bo87 k x).right:=⟨by kernel_rfl,by kernel_rfl⟩
theorem v87 (k:Nat):Callable Try.prog 87∧Valid Try.prog 87 (sp87 k) :=
 fn_of (n:=lim87) (fn:=Try.f87) (p:=.go) (cfg87_ok k) (by kernel_rfl) (planOK_go _) (vv87 k)
def F67 (k:Nat) (a0:Int) (a1:Int):Option TY73 :=
 if a1≠0 then
 bif (decide ((Int.tmod a0 a1)<(0:Int))) then
 some (((wrap .i64 ((Int.tmod a0 a1)+a1)),()),())
 else
 some (((Int.tmod a0 a1),()),())
 else none
def sp67 (k:Nat):Spec:=⟨[.val (.int .i64),.val (.int .i64)],[.val (.int .i64)],fun x=>F67 k x.1 x.2.1⟩
def lim67:Lim:=⟨15,2,false,false,[],[]⟩
def cfg67 (k:Nat):Nat→Option Spec:=cfgL []
noncomputable def co67:Code:=codeAt (bodyOf Try.f67) []
theorem cfg67_ok (k:Nat):CfgOK Try.prog (cfg67 k):=cfgL_nil
noncomputable def bo67 (k:Nat) (x:AT (sp67 k).ps):=fnT Try.prog (cfg67 k) lim67 Try.f67 (bodyOf Try.f67) .go (sp67 k) x
theorem vv67 (k:Nat) (x:AT (sp67 k).ps):(sp67 k).impl x=(bo67 k x).eval∧(bo67 k x).left=(bo67 k x).right:=⟨by kernel_rfl,by kernel_rfl⟩
theorem v67 (k:Nat):Callable Try.prog 67∧Valid Try.prog 67 (sp67 k) :=
 fn_of (n:=lim67) (fn:=Try.f67) (p:=.go) (cfg67_ok k) (by kernel_rfl) (planOK_go _) (vv67 k)
def rs88 (f88:(Int→TY41→Int→Option TY24)):Spec:=⟨[.val (.int .i64),.mut KD26,.val (.int .i64)],[.val KD34],fun x=>f88 x.1 x.2.1 x.2.2.1⟩
def B88 (k:Nat) (f88:(Int→TY41→Int→Option TY24)) (a0:Int) (a1:TY41) (a2:Int):Option TY24 :=
 (F67 k a0 (16:Int)).bind fun r6 =>
 bif (decide (r6.1.1<(5:Int))) then
 (F67 k (wrap .i64 (Int.tdiv a0 (16:Int))) (50:Int)).bind fun r7 =>
 let x8:=(Int.tmod (wrap .i64 (Int.tdiv a0 (16:Int))) (5:Int))
 let x9:=(wrap .i64 ((wrap .i64 (r7.1.1+(40:Int)))+x8))
 let x10:=(Tree.a (Tree.mk ((0:Int),((0:Int),((0:Int),(ByteArray.empty,())))) [])).2.2.2.1
 let x11:=(Tree.l (Tree.mk ((0:Int),((0:Int),((0:Int),(ByteArray.empty,())))) []))
 let x12:=(Tree.mk ((1:Int),((wrap .i64 (r7.1.1+(40:Int))),(x9,(x10,())))) x11)
 some ((x12,()),(a1,()))
 else
 bif (decide (a2>(3:Int))) then
 (F67 k (wrap .i64 (Int.tdiv a0 (16:Int))) (50:Int)).bind fun r13 =>
 let x14:=(Int.tmod (wrap .i64 (Int.tdiv a0 (16:Int))) (5:Int))
 let x15:=(wrap .i64 ((wrap .i64 (r13.1.1+(40:Int)))+x14))
 let x16:=(Tree.a (Tree.mk ((0:Int),((0:Int),((0:Int),(ByteArray.empty,())))) [])).2.2.2.1
 let x17:=(Tree.l (Tree.mk ((0:Int),((0:Int),((0:Int),(ByteArray.empty,())))) []))
 let x18:=(Tree.mk ((1:Int),((wrap .i64 (r13.1.1+(40:Int))),(x15,(x16,())))) x17)
 some ((x18,()),(a1,()))
 else
 bif (decide (r6.1.1<(6:Int))) then
 (F67 k (wrap .i64 (Int.tdiv a0 (16:Int))) (1114112:Int)).bind fun r19 =>
 let x20:=(Int.tmod (wrap .i64 (Int.tdiv a0 (16:Int))) (9:Int))
 let x21:=(minI (wrap .i64 (r19.1.1+x20)) (1114111:Int))
 let x22:=(Tree.a (Tree.mk ((0:Int),((0:Int),((0:Int),(ByteArray.empty,())))) [])).2.2.2.1
 let x23:=(Tree.l (Tree.mk ((0:Int),((0:Int),((0:Int),(ByteArray.empty,())))) []))
 let x24:=(Tree.mk ((1:Int),(r19.1.1,(x21,(x22,())))) x23)
 some ((x24,()),(a1,()))
 else
 bif (decide (r6.1.1<(8:Int))) then
 let x25:=(decide ((length a1:Int)>(0:Int)))
 bif x25 then
 (F67 k (wrap .i64 (Int.tdiv a0 (16:Int))) (length a1:Int)).bind fun r26 =>
 if 0≤r26.1.1∧r26.1.1<(length a1:Int) then
 let x27:=(getD a1 (toNat r26.1.1) (ByteArray.empty,((Tree.mk ((0:Int),((0:Int),((0:Int),(ByteArray.empty,())))) []),()))).1
 let x28:=(Tree.a (Tree.mk ((0:Int),((0:Int),((0:Int),(ByteArray.empty,())))) [])).2.1
 let x29:=(Tree.a (Tree.mk ((0:Int),((0:Int),((0:Int),(ByteArray.empty,())))) [])).2.2.1
 let x30:=(Tree.l (Tree.mk ((0:Int),((0:Int),((0:Int),(ByteArray.empty,())))) []))
 let x31:=(Tree.mk ((2:Int),(x28,(x29,(x27,())))) x30)
 some ((x31,()),(a1,()))
 else none
 else
 bif (decide (r6.1.1<(9:Int))) then
 let x32:=(Tree.a (Tree.mk ((0:Int),((0:Int),((0:Int),(ByteArray.empty,())))) [])).2.1
 let x33:=(Tree.a (Tree.mk ((0:Int),((0:Int),((0:Int),(ByteArray.empty,())))) [])).2.2.1
 let x34:=(Tree.a (Tree.mk ((0:Int),((0:Int),((0:Int),(ByteArray.empty,())))) [])).2.2.2.1
 let x35:=(Tree.l (Tree.mk ((0:Int),((0:Int),((0:Int),(ByteArray.empty,())))) []))
 let x36:=(Tree.mk ((3:Int),(x32,(x33,(x34,())))) x35)
 some ((x36,()),(a1,()))
 else
 bif (decide (r6.1.1<(10:Int))) then
 (f88 (wrap .i64 (Int.tdiv a0 (16:Int))) a1 (wrap .i64 (a2+(1:Int)))).bind fun r37 =>
 let x38:=(List.set (replicate 1 (Tree.mk ((0:Int),((0:Int),((0:Int),(ByteArray.empty,())))) [])) 0 r37.1.1)
 let x39:=(Tree.a (Tree.mk ((0:Int),((0:Int),((0:Int),(ByteArray.empty,())))) [])).2.1
 let x40:=(Tree.a (Tree.mk ((0:Int),((0:Int),((0:Int),(ByteArray.empty,())))) [])).2.2.1
 let x41:=(Tree.a (Tree.mk ((0:Int),((0:Int),((0:Int),(ByteArray.empty,())))) [])).2.2.2.1
 let x42:=(Tree.mk ((4:Int),(x39,(x40,(x41,())))) x38)
 some ((x42,()),(r37.2.1,()))
 else
 let x43:=(Int.tmod (wrap .i64 (Int.tdiv a0 (16:Int))) (3:Int))
 let x44:=(wrap .i64 (Int.tdiv (wrap .i64 (Int.tdiv a0 (16:Int))) (3:Int)))
 (f88 x44 a1 (wrap .i64 (a2+(1:Int)))).bind fun r45 =>
 let x46:=(wrap .i64 (Int.tdiv (wrap .i64 (Int.tdiv a0 (16:Int))) (48:Int)))
 (f88 x46 r45.2.1 (wrap .i64 (a2+(1:Int)))).bind fun r47 =>
 let x48:=(List.set (List.set (replicate 2 (Tree.mk ((0:Int),((0:Int),((0:Int),(ByteArray.empty,())))) [])) 0 r45.1.1) 1 r47.1.1)
 let x49:=(Tree.a (Tree.mk ((0:Int),((0:Int),((0:Int),(ByteArray.empty,())))) [])).2.1
 let x50:=(Tree.a (Tree.mk ((0:Int),((0:Int),((0:Int),(ByteArray.empty,())))) [])).2.2.1
 let x51:=(Tree.a (Tree.mk ((0:Int),((0:Int),((0:Int),(ByteArray.empty,())))) [])).2.2.2.1
 let x52:=(Tree.mk ((wrap .i64 ((5:Int)+x43)),(x49,(x50,(x51,())))) x48)
 some ((x52,()),(r47.2.1,()))
 else
 bif (decide (r6.1.1<(9:Int))) then
 let x53:=(Tree.a (Tree.mk ((0:Int),((0:Int),((0:Int),(ByteArray.empty,())))) [])).2.1
 let x54:=(Tree.a (Tree.mk ((0:Int),((0:Int),((0:Int),(ByteArray.empty,())))) [])).2.2.1
 let x55:=(Tree.a (Tree.mk ((0:Int),((0:Int),((0:Int),(ByteArray.empty,())))) [])).2.2.2.1
 let x56:=(Tree.l (Tree.mk ((0:Int),((0:Int),((0:Int),(ByteArray.empty,())))) []))
 let x57:=(Tree.mk ((3:Int),(x53,(x54,(x55,())))) x56)
 some ((x57,()),(a1,()))
 else
 bif (decide (r6.1.1<(10:Int))) then
 (f88 (wrap .i64 (Int.tdiv a0 (16:Int))) a1 (wrap .i64 (a2+(1:Int)))).bind fun r58 =>
 let x59:=(List.set (replicate 1 (Tree.mk ((0:Int),((0:Int),((0:Int),(ByteArray.empty,())))) [])) 0 r58.1.1)
 let x60:=(Tree.a (Tree.mk ((0:Int),((0:Int),((0:Int),(ByteArray.empty,())))) [])).2.1
 let x61:=(Tree.a (Tree.mk ((0:Int),((0:Int),((0:Int),(ByteArray.empty,())))) [])).2.2.1
 let x62:=(Tree.a (Tree.mk ((0:Int),((0:Int),((0:Int),(ByteArray.empty,())))) [])).2.2.2.1
 let x63:=(Tree.mk ((4:Int),(x60,(x61,(x62,())))) x59)
 some ((x63,()),(r58.2.1,()))
 else
 let x64:=(Int.tmod (wrap .i64 (Int.tdiv a0 (16:Int))) (3:Int))
 let x65:=(wrap .i64 (Int.tdiv (wrap .i64 (Int.tdiv a0 (16:Int))) (3:Int)))
 (f88 x65 a1 (wrap .i64 (a2+(1:Int)))).bind fun r66 =>
 let x67:=(wrap .i64 (Int.tdiv (wrap .i64 (Int.tdiv a0 (16:Int))) (48:Int)))
 (f88 x67 r66.2.1 (wrap .i64 (a2+(1:Int)))).bind fun r68 =>
 let x69:=(List.set (List.set (replicate 2 (Tree.mk ((0:Int),((0:Int),((0:Int),(ByteArray.empty,())))) [])) 0 r66.1.1) 1 r68.1.1)
 let x70:=(Tree.a (Tree.mk ((0:Int),((0:Int),((0:Int),(ByteArray.empty,())))) [])).2.1
 let x71:=(Tree.a (Tree.mk ((0:Int),((0:Int),((0:Int),(ByteArray.empty,())))) [])).2.2.1
 let x72:=(Tree.a (Tree.mk ((0:Int),((0:Int),((0:Int),(ByteArray.empty,())))) [])).2.2.2.1
 let x73:=(Tree.mk ((wrap .i64 ((5:Int)+x64)),(x70,(x71,(x72,())))) x69)
 some ((x73,()),(r68.2.1,()))
def sb88 (k:Nat) (f88:(Int→TY41→Int→Option TY24)):Spec:=rs88 (B88 k f88)
def lim88:Lim:=⟨91,3,false,false,[],[]⟩
def cfg88 (k:Nat) (f88:(Int→TY41→Int→Option TY24)):Nat→Option Spec:=cfgL [(67,sp67 k),(88,rs88 f88)]
noncomputable def co88:Code:=codeAt (bodyOf Try.f88) []
theorem cfg88_ok (k:Nat) (f88:(Int→TY41→Int→Option TY24)) (h88:Callable Try.prog 88∧Valid Try.prog 88 (rs88 f88)):CfgOK Try.prog (cfg88 k f88):=cfgL_cons (v67 k) (cfgL_cons h88 (cfgL_nil))
noncomputable def bo88 (k:Nat) (f88:(Int→TY41→Int→Option TY24)) (x:AT (sb88 k f88).ps):=fnT Try.prog (cfg88 k f88) lim88 Try.f88 (bodyOf Try.f88) .go (sb88 k f88) x
theorem vv88 (k:Nat) (f88:(Int→TY41→Int→Option TY24)) (x:AT (sb88 k f88).ps):(sb88 k f88).impl x=(bo88 k f88 x).eval∧(bo88 k f88 x).left=(bo88 k f88 x).right:=⟨by kernel_rfl,by kernel_rfl⟩
theorem b88 (k:Nat) (f88:(Int→TY41→Int→Option TY24)) (h88:Callable Try.prog 88∧Valid Try.prog 88 (rs88 f88)):Callable Try.prog 88∧Valid Try.prog 88 (sb88 k f88) :=
 fn_of (n:=lim88) (fn:=Try.f88) (p:=.go) (cfg88_ok k f88 h88) (by kernel_rfl) (planOK_go _) (vv88 k f88)
def R88:Nat→(Int→TY41→Int→Option TY24)
 |0=>fun _ _ _=>none
 |k+1=>B88 k (R88 k)
def F88 (k:Nat) (a0_:Int) (a1_:TY41) (a2_:Int):Option TY24:=(R88 k) a0_ a1_ a2_
def sp88 (k:Nat):Spec:=⟨[.val (.int .i64),.mut KD26,.val (.int .i64)],[.val KD34],fun x=>F88 k x.1 x.2.1 x.2.2.1⟩
theorem r88 (k:Nat):(Callable Try.prog 88∧Valid Try.prog 88 (rs88 (R88 k))):=by
 induction k with
 |zero=>exact ⟨⟨Try.f88,by kernel_rfl,by kernel_rfl,by kernel_rfl⟩,fun x r h=>by cases (show (none:Option _)=some r from h)⟩
 |succ k ih=>exact b88 k (R88 k) ih
theorem v88 (k:Nat):Callable Try.prog 88∧Valid Try.prog 88 (sp88 k):=(r88 k)
def F66_0 (k:Nat):Nat→(List Int)→Int→TY41→Option ((Unit×TY35))
 |0,_,_,_=>none
 |n+1,t0,t4,e0 =>
  let x23:=(decide (t4<(length t0:Int)))
  bif x23 then
  bif (decide (t4<(2:Int))) then
  if 0≤t4∧t4<(length t0:Int) then
  (F87 k).bind fun r24 =>
  if 0≤(wrap .i64 ((4:Int)+t4))∧(wrap .i64 ((4:Int)+t4))<(length r24.1.1:Int) then
  let x25:=(toNat (wrap .i64 ((4:Int)+t4)))
  (F67 k (getD t0 (toNat t4) (0:Int)) (1099511627776:Int)).bind fun r26 =>
  (F88 k r26.1.1 e0 (0:Int)).bind fun r27 =>
  let x28:=(List.set (replicate 1 (ByteArray.empty,((Tree.mk ((0:Int),((0:Int),((0:Int),(ByteArray.empty,())))) []),()))) 0 ((getD r24.1.1 x25 ByteArray.empty),(r27.1.1,())))
  if (length r27.2.1+length x28)*(80*2)≤281474976710656∧length r27.2.1+length x28≤9223372036854775807 then
  (F66_0 k n t0 (wrap .i64 (t4+(1:Int))) (r27.2.1++x28)).bind some
  else none
  else none
  else none
  else
  some ((),(e0,()))
  else
  some ((),(e0,()))
def sq66_0:Shape:=⟨[(3,KD26)],[(0,.val KD62),(3,.at 2000003 []),(4,.val (.int .i64))],[(2000003,none,KD26)]⟩
def fu66_0 (k m:Nat) (v:sq66_0.V):=F66_0 k m v.1.1 v.1.2.1 v.2.1
def fr66_0 (k:Nat):Frag:=⟨sq66_0,[(.exit 0,⟨[(3,KD26)],[(3,.at 2000003 [])],[(2000003,none,KD26)]⟩)],fu66_0 k k⟩
def F66 (k:Nat) (a0:(List Int)):Option (TY35×Unit) :=
 (F86 k (97:Int) (97:Int)).bind fun r1 =>
 (F86 k (97:Int) (99:Int)).bind fun r2 =>
 (F86 k (48:Int) (57:Int)).bind fun r3 =>
 (F86 k (19968:Int) (20223:Int)).bind fun r4 =>
 let x5:=(List.set (List.set (replicate 2 (Tree.mk ((0:Int),((0:Int),((0:Int),(ByteArray.empty,())))) [])) 0 r3.1.1) 1 r4.1.1)
 let x6:=(Tree.a (Tree.mk ((0:Int),((0:Int),((0:Int),(ByteArray.empty,())))) [])).2.1
 let x7:=(Tree.a (Tree.mk ((0:Int),((0:Int),((0:Int),(ByteArray.empty,())))) [])).2.2.1
 let x8:=(Tree.a (Tree.mk ((0:Int),((0:Int),((0:Int),(ByteArray.empty,())))) [])).2.2.2.1
 let x9:=(Tree.mk ((5:Int),(x6,(x7,(x8,())))) x5)
 let x10:=(Tree.a (Tree.mk ((0:Int),((0:Int),((0:Int),(ByteArray.empty,())))) [])).2.1
 let x11:=(Tree.a (Tree.mk ((0:Int),((0:Int),((0:Int),(ByteArray.empty,())))) [])).2.2.1
 let x12:=(Tree.a (Tree.mk ((0:Int),((0:Int),((0:Int),(ByteArray.empty,())))) [])).2.2.2.1
 let x13:=(Tree.l (Tree.mk ((0:Int),((0:Int),((0:Int),(ByteArray.empty,())))) []))
 let x14:=(Tree.a (Tree.mk ((0:Int),((0:Int),((0:Int),(ByteArray.empty,())))) [])).2.1
 let x15:=(Tree.a (Tree.mk ((0:Int),((0:Int),((0:Int),(ByteArray.empty,())))) [])).2.2.1
 let x16:=(Tree.l (Tree.mk ((0:Int),((0:Int),((0:Int),(ByteArray.empty,())))) []))
 let x17:=(List.set (List.set (replicate 2 (Tree.mk ((0:Int),((0:Int),((0:Int),(ByteArray.empty,())))) [])) 0 (Tree.mk ((3:Int),(x10,(x11,(x12,())))) x13)) 1 (Tree.mk ((2:Int),(x14,(x15,((⟨#[118]⟩:ByteArray),())))) x16))
 let x18:=(Tree.a (Tree.mk ((0:Int),((0:Int),((0:Int),(ByteArray.empty,())))) [])).2.1
 let x19:=(Tree.a (Tree.mk ((0:Int),((0:Int),((0:Int),(ByteArray.empty,())))) [])).2.2.1
 let x20:=(Tree.a (Tree.mk ((0:Int),((0:Int),((0:Int),(ByteArray.empty,())))) [])).2.2.2.1
 let x21:=(Tree.mk ((7:Int),(x18,(x19,(x20,())))) x17)
 let x22:=(List.set (List.set (List.set (List.set (replicate 4 (ByteArray.empty,((Tree.mk ((0:Int),((0:Int),((0:Int),(ByteArray.empty,())))) []),()))) 0 ((⟨#[97]⟩:ByteArray),(r1.1.1,()))) 1 ((⟨#[118]⟩:ByteArray),(r2.1.1,()))) 2 ((⟨#[100]⟩:ByteArray),(x9,()))) 3 ((⟨#[115]⟩:ByteArray),(x21,())))
 (F66_0 k k a0 (0:Int) x22).bind fun r29 =>
 some ((r29.2.1,()),())
def sp66 (k:Nat):Spec:=⟨[.val KD62],[.own KD26],fun x=>F66 k x.1⟩
def lim66:Lim:=⟨47,1,false,true,[],[]⟩
def cfg66 (k:Nat):Nat→Option Spec:=cfgL [(67,sp67 k),(86,sp86 k),(87,sp87 k),(88,sp88 k)]
noncomputable def co66_0:Code:=codeAt (bodyOf Try.f66) [.r,.r,.l,.r,.s]
noncomputable def cb66_0:Code:=codeAt (bodyOf Try.f66) [.r,.r,.l,.r,.s,.b]
noncomputable def co66:Code:=codeAt (bodyOf Try.f66) []
theorem cfg66_ok (k:Nat):CfgOK Try.prog (cfg66 k):=cfgL_cons (v67 k) (cfgL_cons (v86 k) (cfgL_cons (v87 k) (cfgL_cons (v88 k) (cfgL_nil))))
noncomputable def bo66_0 (k m:Nat) (v:sq66_0.V):=body Try.prog (stepper Try.prog (cfg66 k) lim66) .go cb66_0 (sq66_0.st v) (loopK (fr66_0 k) (fu66_0 k m))
theorem pp66_0 (k m:Nat) (v:sq66_0.V):fu66_0 k (m+1) v=(bo66_0 k m v).eval∧(bo66_0 k m v).left=(bo66_0 k m v).right:=⟨by kernel_rfl,by kernel_rfl⟩
theorem fr66_0_ok (k:Nat):FragOK Try.prog lim66 (fr66_0 k) co66_0 :=
 frag_cast (by kernel_rfl) (loop_ok (cfg66_ok k) (planOK_go _) (fu66_0 k) k (fun _=>rfl) (fun _=>rfl) (pp66_0 k))
def pl66 (k:Nat):Plan:=(.seq .go (.seq .go (.seq (.seq .go (.sub (.frag (fr66_0 k)))) .go)))
noncomputable def bo66 (k:Nat) (x:AT (sp66 k).ps):=fnT Try.prog (cfg66 k) lim66 Try.f66 (bodyOf Try.f66) (pl66 k) (sp66 k) x
theorem vv66 (k:Nat) (x:AT (sp66 k).ps):(sp66 k).impl x=(bo66 k x).eval∧(bo66 k x).left=(bo66 k x).right:=⟨by kernel_rfl,by kernel_rfl⟩
theorem v66 (k:Nat):Callable Try.prog 66∧Valid Try.prog 66 (sp66 k) :=
 fn_of (n:=lim66) (fn:=Try.f66) (p:=(pl66 k)) (cfg66_ok k) (by kernel_rfl) (plan_of (L:=[(fr66_0 k,co66_0)]) (by kernel_rfl) (.cons (fr66_0_ok k) .nil)) (vv66 k)
def rs68 (f68:(TY67→Bool→Option TY42)):Spec:=⟨[.val KD48,.val .bool],[.val KD30],fun x=>f68 x.1 x.2.1⟩
def rs89 (f89:(TY67→Int→Bool→Option TY42)):Spec:=⟨[.val KD48,.val (.int .i64),.val .bool],[.val KD30],fun x=>f89 x.1 x.2.1 x.2.2.1⟩
def B68 (k:Nat) (f68:(TY67→Bool→Option TY42)) (f89:(TY67→Int→Bool→Option TY42)) (a0:TY67) (a1:Bool):Option TY42 :=
 (F67 k (Tree.a a0).1 (20:Int)).bind fun r7 =>
 bif (decide (r7.1.1<(1:Int))) then
 let x8:=(Tree.a (Tree.mk ((0:Int),((0:Int),((0:Int),((0:Int),(ByteArray.empty,()))))) [])).2.1
 let x9:=(Tree.a (Tree.mk ((0:Int),((0:Int),((0:Int),((0:Int),(ByteArray.empty,()))))) [])).2.2.1
 let x10:=(Tree.a (Tree.mk ((0:Int),((0:Int),((0:Int),((0:Int),(ByteArray.empty,()))))) [])).2.2.2.1
 let x11:=(Tree.a (Tree.mk ((0:Int),((0:Int),((0:Int),((0:Int),(ByteArray.empty,()))))) [])).2.2.2.2.1
 let x12:=(Tree.l (Tree.mk ((0:Int),((0:Int),((0:Int),((0:Int),(ByteArray.empty,()))))) []))
 let x13:=(Tree.mk ((1:Int),(x8,(x9,(x10,(x11,()))))) x12)
 some ((x13,()),())
 else
 bif (decide (r7.1.1<(6:Int))) then
 (F87 k).bind fun r14 =>
 (F67 k (Tree.a a0).2.1 (4:Int)).bind fun r15 =>
 if 0≤r15.1.1∧r15.1.1<(length r14.1.1:Int) then
 let x16:=(getD r14.1.1 (toNat r15.1.1) ByteArray.empty)
 let x17:=(Tree.a (Tree.mk ((0:Int),((0:Int),((0:Int),((0:Int),(ByteArray.empty,()))))) [])).2.1
 let x18:=(Tree.a (Tree.mk ((0:Int),((0:Int),((0:Int),((0:Int),(ByteArray.empty,()))))) [])).2.2.1
 let x19:=(Tree.a (Tree.mk ((0:Int),((0:Int),((0:Int),((0:Int),(ByteArray.empty,()))))) [])).2.2.2.1
 let x20:=(Tree.l (Tree.mk ((0:Int),((0:Int),((0:Int),((0:Int),(ByteArray.empty,()))))) []))
 let x21:=(Tree.mk ((2:Int),(x17,(x18,(x19,(x16,()))))) x20)
 some ((x21,()),())
 else none
 else
 bif (decide (r7.1.1<(8:Int))) then
 let x22:=(Tree.a (Tree.mk ((0:Int),((0:Int),((0:Int),((0:Int),(ByteArray.empty,()))))) [])).2.1
 let x23:=(Tree.a (Tree.mk ((0:Int),((0:Int),((0:Int),((0:Int),(ByteArray.empty,()))))) [])).2.2.1
 let x24:=(Tree.a (Tree.mk ((0:Int),((0:Int),((0:Int),((0:Int),(ByteArray.empty,()))))) [])).2.2.2.1
 let x25:=(Tree.a (Tree.mk ((0:Int),((0:Int),((0:Int),((0:Int),(ByteArray.empty,()))))) [])).2.2.2.2.1
 let x26:=(Tree.l (Tree.mk ((0:Int),((0:Int),((0:Int),((0:Int),(ByteArray.empty,()))))) []))
 let x27:=(Tree.mk ((3:Int),(x22,(x23,(x24,(x25,()))))) x26)
 some ((x27,()),())
 else
 bif (decide (r7.1.1<(13:Int))) then
 let x28:=(Tree.mk ((Tree.a a0).1,((Tree.a a0).2.1,())) (Tree.l a0))
 let x29:=(Tree.mk ((Tree.a a0).1,((Tree.a a0).2.1,())) (Tree.l a0))
 (f89 x28 (0:Int) a1).bind fun r30 =>
 (f89 x29 (1:Int) a1).bind fun r31 =>
 let x32:=(List.set (List.set (replicate 2 (Tree.mk ((0:Int),((0:Int),((0:Int),((0:Int),(ByteArray.empty,()))))) [])) 0 r30.1.1) 1 r31.1.1)
 let x33:=(Tree.a (Tree.mk ((0:Int),((0:Int),((0:Int),((0:Int),(ByteArray.empty,()))))) [])).2.1
 let x34:=(Tree.a (Tree.mk ((0:Int),((0:Int),((0:Int),((0:Int),(ByteArray.empty,()))))) [])).2.2.1
 let x35:=(Tree.a (Tree.mk ((0:Int),((0:Int),((0:Int),((0:Int),(ByteArray.empty,()))))) [])).2.2.2.1
 let x36:=(Tree.a (Tree.mk ((0:Int),((0:Int),((0:Int),((0:Int),(ByteArray.empty,()))))) [])).2.2.2.2.1
 let x37:=(Tree.mk ((4:Int),(x33,(x34,(x35,(x36,()))))) x32)
 some ((x37,()),())
 else
 bif (decide (r7.1.1<(15:Int))) then
 let x38:=(Tree.mk ((Tree.a a0).1,((Tree.a a0).2.1,())) (Tree.l a0))
 let x39:=(Tree.mk ((Tree.a a0).1,((Tree.a a0).2.1,())) (Tree.l a0))
 (f89 x38 (0:Int) a1).bind fun r40 =>
 (f89 x39 (1:Int) a1).bind fun r41 =>
 let x42:=(List.set (List.set (replicate 2 (Tree.mk ((0:Int),((0:Int),((0:Int),((0:Int),(ByteArray.empty,()))))) [])) 0 r40.1.1) 1 r41.1.1)
 let x43:=(Tree.a (Tree.mk ((0:Int),((0:Int),((0:Int),((0:Int),(ByteArray.empty,()))))) [])).2.1
 let x44:=(Tree.a (Tree.mk ((0:Int),((0:Int),((0:Int),((0:Int),(ByteArray.empty,()))))) [])).2.2.1
 let x45:=(Tree.a (Tree.mk ((0:Int),((0:Int),((0:Int),((0:Int),(ByteArray.empty,()))))) [])).2.2.2.1
 let x46:=(Tree.a (Tree.mk ((0:Int),((0:Int),((0:Int),((0:Int),(ByteArray.empty,()))))) [])).2.2.2.2.1
 let x47:=(Tree.mk ((5:Int),(x43,(x44,(x45,(x46,()))))) x42)
 some ((x47,()),())
 else
 bif (decide (r7.1.1<(16:Int))) then
 let x48:=(Tree.mk ((Tree.a a0).1,((Tree.a a0).2.1,())) (Tree.l a0))
 (f89 x48 (0:Int) a1).bind fun r49 =>
 let x50:=(List.set (replicate 1 (Tree.mk ((0:Int),((0:Int),((0:Int),((0:Int),(ByteArray.empty,()))))) [])) 0 r49.1.1)
 let x51:=(Tree.a (Tree.mk ((0:Int),((0:Int),((0:Int),((0:Int),(ByteArray.empty,()))))) [])).2.1
 let x52:=(Tree.a (Tree.mk ((0:Int),((0:Int),((0:Int),((0:Int),(ByteArray.empty,()))))) [])).2.2.1
 let x53:=(Tree.a (Tree.mk ((0:Int),((0:Int),((0:Int),((0:Int),(ByteArray.empty,()))))) [])).2.2.2.1
 let x54:=(Tree.a (Tree.mk ((0:Int),((0:Int),((0:Int),((0:Int),(ByteArray.empty,()))))) [])).2.2.2.2.1
 let x55:=(Tree.mk ((6:Int),(x51,(x52,(x53,(x54,()))))) x50)
 some ((x55,()),())
 else
 bif (decide (r7.1.1<(18:Int))) then
 (F67 k (Tree.a a0).2.1 (3:Int)).bind fun r56 =>
 let x57:=(Tree.mk ((Tree.a a0).1,((Tree.a a0).2.1,())) (Tree.l a0))
 let x58:=(wrap .i64 (Int.tdiv (Tree.a a0).2.1 (3:Int)))
 (f89 x57 (0:Int) a1).bind fun r59 =>
 let x60:=(List.set (replicate 1 (Tree.mk ((0:Int),((0:Int),((0:Int),((0:Int),(ByteArray.empty,()))))) [])) 0 r59.1.1)
 (F67 k x58 (3:Int)).bind fun r61 =>
 let x62:=(Tree.a (Tree.mk ((0:Int),((0:Int),((0:Int),((0:Int),(ByteArray.empty,()))))) [])).2.2.2.1
 let x63:=(Tree.a (Tree.mk ((0:Int),((0:Int),((0:Int),((0:Int),(ByteArray.empty,()))))) [])).2.2.2.2.1
 let x64:=(Tree.mk ((7:Int),(r56.1.1,((wrap .i64 (r56.1.1+r61.1.1)),(x62,(x63,()))))) x60)
 some ((x64,()),())
 else
 bif a1 then
 let x65:=(Tree.mk ((Tree.a a0).1,((Tree.a a0).2.1,())) (Tree.l a0))
 (f89 x65 (0:Int) a1).bind fun r66 =>
 some ((r66.1.1,()),())
 else
 let x67:=(Tree.mk ((Tree.a a0).1,((Tree.a a0).2.1,())) (Tree.l a0))
 (f89 x67 (0:Int) a1).bind fun r68 =>
 let x69:=(List.set (replicate 1 (Tree.mk ((0:Int),((0:Int),((0:Int),((0:Int),(ByteArray.empty,()))))) [])) 0 r68.1.1)
 (F67 k (Tree.a a0).2.1 (7:Int)).bind fun r70 =>
 let x71:=(Tree.a (Tree.mk ((0:Int),((0:Int),((0:Int),((0:Int),(ByteArray.empty,()))))) [])).2.1
 let x72:=(Tree.a (Tree.mk ((0:Int),((0:Int),((0:Int),((0:Int),(ByteArray.empty,()))))) [])).2.2.1
 let x73:=(Tree.a (Tree.mk ((0:Int),((0:Int),((0:Int),((0:Int),(ByteArray.empty,()))))) [])).2.2.2.2.1
 let x74:=(Tree.mk ((8:Int),(x71,(x72,(r70.1.1,(x73,()))))) x69)
 some ((x74,()),())
def sb68 (k:Nat) (f68:(TY67→Bool→Option TY42)) (f89:(TY67→Int→Bool→Option TY42)):Spec:=rs68 (B68 k f68 f89)
def lim68:Lim:=⟨88,2,false,false,[],[]⟩
def cfg68 (k:Nat) (f68:(TY67→Bool→Option TY42)) (f89:(TY67→Int→Bool→Option TY42)):Nat→Option Spec:=cfgL [(67,sp67 k),(87,sp87 k),(89,rs89 f89)]
noncomputable def co68:Code:=codeAt (bodyOf Try.f68) []
theorem cfg68_ok (k:Nat) (f68:(TY67→Bool→Option TY42)) (f89:(TY67→Int→Bool→Option TY42)) (h68:Callable Try.prog 68∧Valid Try.prog 68 (rs68 f68)) (h89:Callable Try.prog 89∧Valid Try.prog 89 (rs89 f89)):CfgOK Try.prog (cfg68 k f68 f89):=cfgL_cons (v67 k) (cfgL_cons (v87 k) (cfgL_cons h89 (cfgL_nil)))
noncomputable def bo68 (k:Nat) (f68:(TY67→Bool→Option TY42)) (f89:(TY67→Int→Bool→Option TY42)) (x:AT (sb68 k f68 f89).ps):=fnT Try.prog (cfg68 k f68 f89) lim68 Try.f68 (bodyOf Try.f68) .go (sb68 k f68 f89) x
theorem vv68 (k:Nat) (f68:(TY67→Bool→Option TY42)) (f89:(TY67→Int→Bool→Option TY42)) (x:AT (sb68 k f68 f89).ps):(sb68 k f68 f89).impl x=(bo68 k f68 f89 x).eval∧(bo68 k f68 f89 x).left=(bo68 k f68 f89 x).right:=⟨by kernel_rfl,by kernel_rfl⟩
theorem b68 (k:Nat) (f68:(TY67→Bool→Option TY42)) (f89:(TY67→Int→Bool→Option TY42)) (h68:Callable Try.prog 68∧Valid Try.prog 68 (rs68 f68)) (h89:Callable Try.prog 89∧Valid Try.prog 89 (rs89 f89)):Callable Try.prog 68∧Valid Try.prog 68 (sb68 k f68 f89) :=
 fn_of (n:=lim68) (fn:=Try.f68) (p:=.go) (cfg68_ok k f68 f89 h68 h89) (by kernel_rfl) (planOK_go _) (vv68 k f68 f89)
def B89 (k:Nat) (f68:(TY67→Bool→Option TY42)) (f89:(TY67→Int→Bool→Option TY42)) (a0:TY67) (a1:Int) (a2:Bool):Option TY42 :=
 let x7:=(decide (a1<(length (Tree.l a0):Int)))
 bif x7 then
 if 0≤a1∧a1<(length (Tree.l a0):Int) then
 let x8:=(getD (Tree.l a0) (toNat a1) (Tree.mk ((0:Int),((0:Int),())) []))
 (f68 x8 a2).bind fun r9 =>
 some ((r9.1.1,()),())
 else none
 else
 (F87 k).bind fun r10 =>
 (F67 k (wrap .i64 ((Tree.a a0).2.1+a1)) (4:Int)).bind fun r11 =>
 if 0≤r11.1.1∧r11.1.1<(length r10.1.1:Int) then
 let x12:=(getD r10.1.1 (toNat r11.1.1) ByteArray.empty)
 let x13:=(Tree.a (Tree.mk ((0:Int),((0:Int),((0:Int),((0:Int),(ByteArray.empty,()))))) [])).2.1
 let x14:=(Tree.a (Tree.mk ((0:Int),((0:Int),((0:Int),((0:Int),(ByteArray.empty,()))))) [])).2.2.1
 let x15:=(Tree.a (Tree.mk ((0:Int),((0:Int),((0:Int),((0:Int),(ByteArray.empty,()))))) [])).2.2.2.1
 let x16:=(Tree.l (Tree.mk ((0:Int),((0:Int),((0:Int),((0:Int),(ByteArray.empty,()))))) []))
 let x17:=(Tree.mk ((2:Int),(x13,(x14,(x15,(x12,()))))) x16)
 some ((x17,()),())
 else none
def sb89 (k:Nat) (f68:(TY67→Bool→Option TY42)) (f89:(TY67→Int→Bool→Option TY42)):Spec:=rs89 (B89 k f68 f89)
def lim89:Lim:=⟨28,3,false,false,[],[]⟩
def cfg89 (k:Nat) (f68:(TY67→Bool→Option TY42)) (f89:(TY67→Int→Bool→Option TY42)):Nat→Option Spec:=cfgL [(67,sp67 k),(68,rs68 f68),(87,sp87 k)]
noncomputable def co89:Code:=codeAt (bodyOf Try.f89) []
theorem cfg89_ok (k:Nat) (f68:(TY67→Bool→Option TY42)) (f89:(TY67→Int→Bool→Option TY42)) (h68:Callable Try.prog 68∧Valid Try.prog 68 (rs68 f68)) (h89:Callable Try.prog 89∧Valid Try.prog 89 (rs89 f89)):CfgOK Try.prog (cfg89 k f68 f89):=cfgL_cons (v67 k) (cfgL_cons h68 (cfgL_cons (v87 k) (cfgL_nil)))
noncomputable def bo89 (k:Nat) (f68:(TY67→Bool→Option TY42)) (f89:(TY67→Int→Bool→Option TY42)) (x:AT (sb89 k f68 f89).ps):=fnT Try.prog (cfg89 k f68 f89) lim89 Try.f89 (bodyOf Try.f89) .go (sb89 k f68 f89) x
theorem vv89 (k:Nat) (f68:(TY67→Bool→Option TY42)) (f89:(TY67→Int→Bool→Option TY42)) (x:AT (sb89 k f68 f89).ps):(sb89 k f68 f89).impl x=(bo89 k f68 f89 x).eval∧(bo89 k f68 f89 x).left=(bo89 k f68 f89 x).right:=⟨by kernel_rfl,by kernel_rfl⟩
theorem b89 (k:Nat) (f68:(TY67→Bool→Option TY42)) (f89:(TY67→Int→Bool→Option TY42)) (h68:Callable Try.prog 68∧Valid Try.prog 68 (rs68 f68)) (h89:Callable Try.prog 89∧Valid Try.prog 89 (rs89 f89)):Callable Try.prog 89∧Valid Try.prog 89 (sb89 k f68 f89) :=
 fn_of (n:=lim89) (fn:=Try.f89) (p:=.go) (cfg89_ok k f68 f89 h68 h89) (by kernel_rfl) (planOK_go _) (vv89 k f68 f89)
def R68:Nat→(TY67→Bool→Option TY42)×(TY67→Int→Bool→Option TY42)
 |0=>(fun _ _=>none,fun _ _ _=>none)
 |k+1=>(B68 k (R68 k).1 (R68 k).2,B89 k (R68 k).1 (R68 k).2)
def F68 (k:Nat) (a0_:TY67) (a1_:Bool):Option TY42:=(R68 k).1 a0_ a1_
def sp68 (k:Nat):Spec:=⟨[.val KD48,.val .bool],[.val KD30],fun x=>F68 k x.1 x.2.1⟩
def F89 (k:Nat) (a0_:TY67) (a1_:Int) (a2_:Bool):Option TY42:=(R68 k).2 a0_ a1_ a2_
def sp89 (k:Nat):Spec:=⟨[.val KD48,.val (.int .i64),.val .bool],[.val KD30],fun x=>F89 k x.1 x.2.1 x.2.2.1⟩
theorem r68 (k:Nat):(Callable Try.prog 68∧Valid Try.prog 68 (rs68 (R68 k).1))∧(Callable Try.prog 89∧Valid Try.prog 89 (rs89 (R68 k).2)):=by
 induction k with
 |zero=>exact ⟨⟨⟨Try.f68,by kernel_rfl,by kernel_rfl,by kernel_rfl⟩,fun x r h=>by cases (show (none:Option _)=some r from h)⟩,⟨⟨Try.f89,by kernel_rfl,by kernel_rfl,by kernel_rfl⟩,fun x r h=>by cases (show (none:Option _)=some r from h)⟩⟩
 |succ k ih=>exact ⟨b68 k (R68 k).1 (R68 k).2 ih.1 ih.2,b89 k (R68 k).1 (R68 k).2 ih.1 ih.2⟩
theorem v68 (k:Nat):Callable Try.prog 68∧Valid Try.prog 68 (sp68 k):=(r68 k).1
theorem v89 (k:Nat):Callable Try.prog 89∧Valid Try.prog 89 (sp89 k):=(r68 k).2
def F36_0 (k:Nat):Nat→TY58→(List Int)→Int→TY13→TY13→Option ((Unit×(TY13×TY13×Unit)))
 |0,_,_,_,_,_=>none
 |n+1,t0,t1,t8,c6,c7 =>
  let x23:=(decide ((wrap .i64 (t8+(1:Int)))<(length t0:Int)))
  bif x23 then
  bif (decide (t8<(8:Int))) then
  let x24:=(decide ((wrap .i64 (Int.tdiv t8 (2:Int)))<(length t1:Int)))
  bif x24 then
  if 0≤(wrap .i64 (Int.tdiv t8 (2:Int)))∧(wrap .i64 (Int.tdiv t8 (2:Int)))<(length t1:Int) then
  let x25:=(getD t1 (toNat (wrap .i64 (Int.tdiv t8 (2:Int)))) (0:Int))
  (F67 k x25 (1073741824:Int)).bind fun r26 =>
  let x27:=(wrap .i64 (Int.tdiv r26.1.1 (3:Int)))
  if 0≤t8∧t8<(length t0:Int) then
  let x28:=(getD t0 (toNat t8) (Tree.mk ((0:Int),((0:Int),())) []))
  if 0≤(wrap .i64 (t8+(1:Int)))∧(wrap .i64 (t8+(1:Int)))<(length t0:Int) then
  let x29:=(getD t0 (toNat (wrap .i64 (t8+(1:Int)))) (Tree.mk ((0:Int),((0:Int),())) []))
  (F68 k x28 false).bind fun r30 =>
  (F68 k x29 true).bind fun r31 =>
  let x32:=(List.set (replicate 1 ((0:Int),((0:Int),((Tree.mk ((0:Int),((0:Int),((0:Int),((0:Int),(ByteArray.empty,()))))) []),((Tree.mk ((0:Int),((0:Int),((0:Int),((0:Int),(ByteArray.empty,()))))) []),()))))) 0 ((Int.tmod r26.1.1 (3:Int)),((Int.tmod x27 (20:Int)),(r30.1.1,(r31.1.1,())))))
  if (length c7.2.1+length x32)*(160*2)≤281474976710656∧length c7.2.1+length x32≤9223372036854775807 then
  (F36_0 k n t0 t1 (wrap .i64 (t8+(2:Int))) c6 (c7.1,((c7.2.1++x32),c7.2.2))).bind some
  else none
  else none
  else none
  else none
  else
  let x33:=(Int.tmod (wrap .i64 (Int.tdiv t8 (3:Int))) (20:Int))
  if 0≤t8∧t8<(length t0:Int) then
  let x34:=(getD t0 (toNat t8) (Tree.mk ((0:Int),((0:Int),())) []))
  if 0≤(wrap .i64 (t8+(1:Int)))∧(wrap .i64 (t8+(1:Int)))<(length t0:Int) then
  let x35:=(getD t0 (toNat (wrap .i64 (t8+(1:Int)))) (Tree.mk ((0:Int),((0:Int),())) []))
  (F68 k x34 false).bind fun r36 =>
  (F68 k x35 true).bind fun r37 =>
  let x38:=(List.set (replicate 1 ((0:Int),((0:Int),((Tree.mk ((0:Int),((0:Int),((0:Int),((0:Int),(ByteArray.empty,()))))) []),((Tree.mk ((0:Int),((0:Int),((0:Int),((0:Int),(ByteArray.empty,()))))) []),()))))) 0 ((Int.tmod t8 (3:Int)),(x33,(r36.1.1,(r37.1.1,())))))
  if (length c7.2.1+length x38)*(160*2)≤281474976710656∧length c7.2.1+length x38≤9223372036854775807 then
  (F36_0 k n t0 t1 (wrap .i64 (t8+(2:Int))) c6 (c7.1,((c7.2.1++x38),c7.2.2))).bind some
  else none
  else none
  else none
  else
  some ((),(c6,c7,()))
  else
  some ((),(c6,c7,()))
def sq36_0:Shape:=⟨[],[(0,.val KD50),(1,.val KD62),(6,.ptr 6 []),(7,.ptr 7 []),(8,.val (.int .i64))],[(6,some 29,KD6),(7,some 29,KD6)]⟩
def fu36_0 (k m:Nat) (v:sq36_0.V):=F36_0 k m v.1.1 v.1.2.1 v.1.2.2.1 v.2.1 v.2.2.1
def fr36_0 (k:Nat):Frag:=⟨sq36_0,[(.exit 0,⟨[],[(6,.ptr 6 []),(7,.ptr 7 [])],[(6,some 29,KD6),(7,some 29,KD6)]⟩)],fu36_0 k k⟩
def F36 (k:Nat) (a0:TY58) (a1:(List Int)) (a2:(List Int)):Option ((TY13×Unit)×Unit) :=
 let x1:=([]:TY41)
 let x2:=([]:TY23)
 (F66 k a2).bind fun r3 =>
 let x4:=([]:TY23)
 (F36_0 k k a0 a1 (0:Int) (x1,(x2,())) (r3.1.1,(x4,()))).bind fun r39 =>
 some ((r39.2.2.1,()),())
def sp36 (k:Nat):Spec:=⟨[.val KD50,.val KD62,.val KD62],[.own KD6],fun x=>F36 k x.1 x.2.1 x.2.2.1⟩
def lim36:Lim:=⟨59,3,false,false,[],[]⟩
def cfg36 (k:Nat):Nat→Option Spec:=cfgL [(66,sp66 k),(67,sp67 k),(68,sp68 k)]
noncomputable def co36_0:Code:=codeAt (bodyOf Try.f36) [.r,.r,.l,.r,.s]
noncomputable def cb36_0:Code:=codeAt (bodyOf Try.f36) [.r,.r,.l,.r,.s,.b]
noncomputable def co36:Code:=codeAt (bodyOf Try.f36) []
theorem cfg36_ok (k:Nat):CfgOK Try.prog (cfg36 k):=cfgL_cons (v66 k) (cfgL_cons (v67 k) (cfgL_cons (v68 k) (cfgL_nil)))
noncomputable def bo36_0 (k m:Nat) (v:sq36_0.V):=body Try.prog (stepper Try.prog (cfg36 k) lim36) .go cb36_0 (sq36_0.st v) (loopK (fr36_0 k) (fu36_0 k m))
theorem pp36_0 (k m:Nat) (v:sq36_0.V):fu36_0 k (m+1) v=(bo36_0 k m v).eval∧(bo36_0 k m v).left=(bo36_0 k m v).right:=⟨by kernel_rfl,by kernel_rfl⟩
theorem fr36_0_ok (k:Nat):FragOK Try.prog lim36 (fr36_0 k) co36_0 :=
 frag_cast (by kernel_rfl) (loop_ok (cfg36_ok k) (planOK_go _) (fu36_0 k) k (fun _=>rfl) (fun _=>rfl) (pp36_0 k))
def pl36 (k:Nat):Plan:=(.seq .go (.seq .go (.seq (.seq .go (.sub (.frag (fr36_0 k)))) .go)))
noncomputable def bo36 (k:Nat) (x:AT (sp36 k).ps):=fnT Try.prog (cfg36 k) lim36 Try.f36 (bodyOf Try.f36) (pl36 k) (sp36 k) x
theorem vv36 (k:Nat) (x:AT (sp36 k).ps):(sp36 k).impl x=(bo36 k x).eval∧(bo36 k x).left=(bo36 k x).right:=⟨by kernel_rfl,by kernel_rfl⟩
theorem v36 (k:Nat):Callable Try.prog 36∧Valid Try.prog 36 (sp36 k) :=
 fn_of (n:=lim36) (fn:=Try.f36) (p:=(pl36 k)) (cfg36_ok k) (by kernel_rfl) (plan_of (L:=[(fr36_0 k,co36_0)]) (by kernel_rfl) (.cons (fr36_0_ok k) .nil)) (vv36 k)
def F100_0 (k:Nat):Nat→TY68→Int→Int→TY74→TY68→Option (((TY68×Int×Int×Unit)×(TY74×TY68×Unit)))
 |0,_,_,_,_,_=>none
 |n+1,t0,t4,t6,c5,e0 =>
  bif (decide (t6>(0:Int))) then
  if 0≤(wrap .i64 (t6-(1:Int)))∧(wrap .i64 (t6-(1:Int)))<(length e0:Int) then
  let x5:=(toNat (wrap .i64 (t6-(1:Int))))
  let x6:=(getD e0 x5 ((0:Int),((0:Int),()))).1
  bif (decide (c5.1<x6)) then
  (F100_0 k n t0 t4 (wrap .i64 (t6-(1:Int))) c5 e0).bind some
  else
  some ((t0,t4,t6,()),(c5,e0,()))
  else none
  else
  some ((t0,t4,t6,()),(c5,e0,()))
def sq100_0:Shape:=⟨[(3,KD46)],[(0,.val KD44),(3,.at 2000003 []),(4,.val (.int .i64)),(5,.ptr 5 []),(6,.val (.int .i64))],[(5,some 160,(.pair (.int .i64) (.pair (.int .i64) .unit))),(2000003,none,KD46)]⟩
def fu100_0 (k m:Nat) (v:sq100_0.V):=F100_0 k m v.1.1 v.1.2.1 v.1.2.2.1 v.2.1 v.2.2.1
def fr100_0 (k:Nat):Frag:=⟨sq100_0,[(.exit 2,⟨[],[(0,.val KD44),(3,.at 2000003 []),(4,.val (.int .i64)),(5,.ptr 5 []),(6,.val (.int .i64))],[(5,some 160,(.pair (.int .i64) (.pair (.int .i64) .unit))),(2000003,none,KD46)]⟩)],fu100_0 k k⟩
def F100_1 (k:Nat):Nat→TY68→Int→TY68→Option ((Unit×TY56))
 |0,_,_,_=>none
 |n+1,t0,t4,e0 =>
  let x1:=(decide (t4<(length t0:Int)))
  bif x1 then
  if 0≤t4∧t4<(length t0:Int) then
  let x2:=(getD t0 (toNat t4) ((0:Int),((0:Int),())))
  if 0≤t4∧t4<(length t0:Int) then
  let x3:=(getD t0 (toNat t4) ((0:Int),((0:Int),())))
  let x4:=(decide ((maxI x2.1 (0:Int))>(minI x3.2.1 (1114111:Int))))
  bif x4 then
  (F100_1 k n t0 (wrap .i64 (t4+(1:Int))) e0).bind some
  else
  (F100_0 k k t0 t4 (length e0:Int) ((maxI x2.1 (0:Int)),((minI x3.2.1 (1114111:Int)),())) e0).bind fun r7 =>
  let y10:=r7.1.2.2.1
  let y12:=r7.2.2.1
  if 0≤(0:Int)∧(0:Int)≤y10∧y10≤(length y12:Int) then
  let x13:=(toNat y10-toNat (0:Int))
  if 0≤y10∧y10≤(length y12:Int)∧(length y12:Int)≤(length y12:Int) then
  let x14:=(toNat (length y12:Int)-toNat y10)
  let x15:=(replicate 0 ((0:Int),((0:Int),())))
  if (length x15+length (take x13 (drop (toNat (0:Int)) y12)))*(16*2)≤281474976710656∧length x15+length (take x13 (drop (toNat (0:Int)) y12))≤9223372036854775807 then
  let x16:=(x15++(take x13 (drop (toNat (0:Int)) y12)))
  let x17:=(List.set (replicate 1 ((0:Int),((0:Int),()))) 0 r7.2.1)
  if (length x16+length x17)*(16*2)≤281474976710656∧length x16+length x17≤9223372036854775807 then
  if (length (x16++x17)+length (take x14 (drop (toNat y10) y12)))*(16*2)≤281474976710656∧length (x16++x17)+length (take x14 (drop (toNat y10) y12))≤9223372036854775807 then
  let x18:=((x16++x17)++(take x14 (drop (toNat y10) y12)))
  (F100_1 k n r7.1.1 (wrap .i64 (r7.1.2.1+(1:Int))) x18).bind some
  else none
  else none
  else none
  else none
  else none
  else none
  else none
  else
  some ((),(e0,()))
def sq100_1:Shape:=⟨[(3,KD46)],[(0,.val KD44),(3,.at 2000003 []),(4,.val (.int .i64))],[(2000003,none,KD46)]⟩
def fu100_1 (k m:Nat) (v:sq100_1.V):=F100_1 k m v.1.1 v.1.2.1 v.2.1
def fr100_1 (k:Nat):Frag:=⟨sq100_1,[(.exit 0,⟨[(3,KD46)],[(3,.at 2000003 [])],[(2000003,none,KD46)]⟩)],fu100_1 k k⟩
def F100 (k:Nat) (a0:TY68):Option TY53 :=
 (F100_1 k k a0 (0:Int) []).bind fun r19 =>
 some ((r19.2.1,()),())
def sp100 (k:Nat):Spec:=⟨[.val KD44],[.own KD46],fun x=>F100 k x.1⟩
def lim100:Lim:=⟨61,1,false,false,[],[]⟩
def cfg100 (k:Nat):Nat→Option Spec:=cfgL []
noncomputable def co100_0:Code:=codeAt (bodyOf Try.f100) [.r,.r,.l,.r,.s,.b,.r,.l,.s,.r,.r,.r,.l,.s]
noncomputable def cb100_0:Code:=codeAt (bodyOf Try.f100) [.r,.r,.l,.r,.s,.b,.r,.l,.s,.r,.r,.r,.l,.s,.b]
noncomputable def co100_1:Code:=codeAt (bodyOf Try.f100) [.r,.r,.l,.r,.s]
noncomputable def cb100_1:Code:=codeAt (bodyOf Try.f100) [.r,.r,.l,.r,.s,.b]
noncomputable def co100:Code:=codeAt (bodyOf Try.f100) []
theorem cfg100_ok (k:Nat):CfgOK Try.prog (cfg100 k):=cfgL_nil
noncomputable def bo100_0 (k m:Nat) (v:sq100_0.V):=body Try.prog (stepper Try.prog (cfg100 k) lim100) .go cb100_0 (sq100_0.st v) (loopK (fr100_0 k) (fu100_0 k m))
theorem pp100_0 (k m:Nat) (v:sq100_0.V):fu100_0 k (m+1) v=(bo100_0 k m v).eval∧(bo100_0 k m v).left=(bo100_0 k m v).right:=⟨by kernel_rfl,by kernel_rfl⟩
theorem fr100_0_ok (k:Nat):FragOK Try.prog lim100 (fr100_0 k) co100_0 :=
 frag_cast (by kernel_rfl) (loop_ok (cfg100_ok k) (planOK_go _) (fu100_0 k) k (fun _=>rfl) (fun _=>rfl) (pp100_0 k))
def pl100_1 (k:Nat):Plan:=(.seq .go (.seq (.sub (.seq .go (.seq .go (.seq .go (.seq (.sub (.frag (fr100_0 k))) .go))))) .go))
noncomputable def bo100_1 (k m:Nat) (v:sq100_1.V):=body Try.prog (stepper Try.prog (cfg100 k) lim100) (pl100_1 k) cb100_1 (sq100_1.st v) (loopK (fr100_1 k) (fu100_1 k m))
theorem pp100_1 (k m:Nat) (v:sq100_1.V):fu100_1 k (m+1) v=(bo100_1 k m v).eval∧(bo100_1 k m v).left=(bo100_1 k m v).right:=⟨by kernel_rfl,by kernel_rfl⟩
theorem fr100_1_ok (k:Nat):FragOK Try.prog lim100 (fr100_1 k) co100_1 :=
 frag_cast (by kernel_rfl) (loop_ok (cfg100_ok k) (plan_of (L:=[(fr100_0 k,co100_0)]) (by kernel_rfl) (.cons (fr100_0_ok k) .nil)) (fu100_1 k) k (fun _=>rfl) (fun _=>rfl) (pp100_1 k))
def pl100 (k:Nat):Plan:=(.seq .go (.seq .go (.seq (.seq .go (.sub (.frag (fr100_1 k)))) .go)))
noncomputable def bo100 (k:Nat) (x:AT (sp100 k).ps):=fnT Try.prog (cfg100 k) lim100 Try.f100 (bodyOf Try.f100) (pl100 k) (sp100 k) x
theorem vv100 (k:Nat) (x:AT (sp100 k).ps):(sp100 k).impl x=(bo100 k x).eval∧(bo100 k x).left=(bo100 k x).right:=⟨by kernel_rfl,by kernel_rfl⟩
theorem v100 (k:Nat):Callable Try.prog 100∧Valid Try.prog 100 (sp100 k) :=
 fn_of (n:=lim100) (fn:=Try.f100) (p:=(pl100 k)) (cfg100_ok k) (by kernel_rfl) (plan_of (L:=[(fr100_1 k,co100_1)]) (by kernel_rfl) (.cons (fr100_1_ok k) .nil)) (vv100 k)
def F90_0 (k:Nat):Nat→Int→TY68→TY68→Option ((Unit×TY56))
 |0,_,_,_=>none
 |n+1,t5,e0,e1 =>
  let x2:=(decide (t5<(length e0:Int)))
  bif x2 then
  let x3:=(wrap .i64 ((length e1:Int)-(1:Int)))
  bif (decide (x3≥(0:Int))) then
  if 0≤t5∧t5<(length e0:Int) then
  let x4:=(getD e0 (toNat t5) ((0:Int),((0:Int),()))).1
  if 0≤x3∧x3<(length e1:Int) then
  let x5:=(getD e1 (toNat x3) ((0:Int),((0:Int),()))).2.1
  let x6:=(decide (x4≤(wrap .i64 (x5+(1:Int)))))
  bif x6 then
  if 0≤x3∧x3<(length e1:Int) then
  let x7:=(getD e1 (toNat x3) ((0:Int),((0:Int),()))).2.1
  if 0≤t5∧t5<(length e0:Int) then
  let x8:=(getD e0 (toNat t5) ((0:Int),((0:Int),()))).2.1
  if 0≤x3∧x3<(length e1:Int) then
  let x9:=(List.set e1 (toNat x3) ((getD e1 (toNat x3) ((0:Int),((0:Int),()))).1,((maxI x7 x8),(getD e1 (toNat x3) ((0:Int),((0:Int),()))).2.2)))
  (F90_0 k n (wrap .i64 (t5+(1:Int))) e0 x9).bind some
  else none
  else none
  else none
  else
  if 0≤t5∧t5<(length e0:Int) then
  let x10:=(getD e0 (toNat t5) ((0:Int),((0:Int),())))
  let x11:=(List.set (replicate 1 ((0:Int),((0:Int),()))) 0 x10)
  if (length e1+length x11)*(16*2)≤281474976710656∧length e1+length x11≤9223372036854775807 then
  (F90_0 k n (wrap .i64 (t5+(1:Int))) e0 (e1++x11)).bind some
  else none
  else none
  else none
  else none
  else
  if 0≤t5∧t5<(length e0:Int) then
  let x12:=(getD e0 (toNat t5) ((0:Int),((0:Int),())))
  let x13:=(List.set (replicate 1 ((0:Int),((0:Int),()))) 0 x12)
  if (length e1+length x13)*(16*2)≤281474976710656∧length e1+length x13≤9223372036854775807 then
  (F90_0 k n (wrap .i64 (t5+(1:Int))) e0 (e1++x13)).bind some
  else none
  else none
  else
  some ((),(e1,()))
def sq90_0:Shape:=⟨[(3,KD46)],[(3,.at 2000003 []),(4,.at 1000128 []),(5,.val (.int .i64))],[(1000128,none,KD46),(2000003,none,KD46)]⟩
def fu90_0 (k m:Nat) (v:sq90_0.V):=F90_0 k m v.1.1 v.2.1 v.2.2.1
def fr90_0 (k:Nat):Frag:=⟨sq90_0,[(.exit 0,⟨[(3,KD46)],[(3,.at 2000003 [])],[(2000003,none,KD46)]⟩)],fu90_0 k k⟩
def F90 (k:Nat) (a0:TY68):Option TY53 :=
 (F100 k a0).bind fun r1 =>
 (F90_0 k k (0:Int) r1.1.1 []).bind fun r14 =>
 some ((r14.2.1,()),())
def sp90 (k:Nat):Spec:=⟨[.val KD44],[.own KD46],fun x=>F90 k x.1⟩
def lim90:Lim:=⟨57,1,false,false,[],[]⟩
def cfg90 (k:Nat):Nat→Option Spec:=cfgL [(100,sp100 k)]
noncomputable def co90_0:Code:=codeAt (bodyOf Try.f90) [.r,.r,.r,.l,.r,.s]
noncomputable def cb90_0:Code:=codeAt (bodyOf Try.f90) [.r,.r,.r,.l,.r,.s,.b]
noncomputable def co90:Code:=codeAt (bodyOf Try.f90) []
theorem cfg90_ok (k:Nat):CfgOK Try.prog (cfg90 k):=cfgL_cons (v100 k) (cfgL_nil)
noncomputable def bo90_0 (k m:Nat) (v:sq90_0.V):=body Try.prog (stepper Try.prog (cfg90 k) lim90) .go cb90_0 (sq90_0.st v) (loopK (fr90_0 k) (fu90_0 k m))
theorem pp90_0 (k m:Nat) (v:sq90_0.V):fu90_0 k (m+1) v=(bo90_0 k m v).eval∧(bo90_0 k m v).left=(bo90_0 k m v).right:=⟨by kernel_rfl,by kernel_rfl⟩
theorem fr90_0_ok (k:Nat):FragOK Try.prog lim90 (fr90_0 k) co90_0 :=
 frag_cast (by kernel_rfl) (loop_ok (cfg90_ok k) (planOK_go _) (fu90_0 k) k (fun _=>rfl) (fun _=>rfl) (pp90_0 k))
def pl90 (k:Nat):Plan:=(.seq .go (.seq .go (.seq .go (.seq (.seq .go (.sub (.frag (fr90_0 k)))) .go))))
noncomputable def bo90 (k:Nat) (x:AT (sp90 k).ps):=fnT Try.prog (cfg90 k) lim90 Try.f90 (bodyOf Try.f90) (pl90 k) (sp90 k) x
theorem vv90 (k:Nat) (x:AT (sp90 k).ps):(sp90 k).impl x=(bo90 k x).eval∧(bo90 k x).left=(bo90 k x).right:=⟨by kernel_rfl,by kernel_rfl⟩
theorem v90 (k:Nat):Callable Try.prog 90∧Valid Try.prog 90 (sp90 k) :=
 fn_of (n:=lim90) (fn:=Try.f90) (p:=(pl90 k)) (cfg90_ok k) (by kernel_rfl) (plan_of (L:=[(fr90_0 k,co90_0)]) (by kernel_rfl) (.cons (fr90_0_ok k) .nil)) (vv90 k)
def F83_0 (k:Nat):Nat→ByteArray→Int→TY13→Option ((Unit×Unit)⊕TY73)
 |0,_,_,_=>none
 |n+1,t1,t5,c2 =>
  let x4:=(decide (t5<(length c2.1:Int)))
  bif x4 then
  if 0≤t5∧t5<(length c2.1:Int) then
  let x5:=(getD c2.1 (toNat t5) (ByteArray.empty,((Tree.mk ((0:Int),((0:Int),((0:Int),(ByteArray.empty,())))) []),())))
  let x6:=(ByteArray.toList x5.1==ByteArray.toList t1)
  bif x6 then
  some (.inr ((t5,()),()))
  else
  (F83_0 k n t1 (wrap .i64 (t5+(1:Int))) c2).bind some
  else none
  else
  some (.inl ((),()))
def sq83_0:Shape:=⟨[],[(1,.val .str),(2,.ptr 2 []),(5,.val (.int .i64))],[(2,some 29,KD5)]⟩
def fu83_0 (k m:Nat) (v:sq83_0.V):=F83_0 k m v.1.1 v.1.2.1 v.2.1
def fr83_0 (k:Nat):Frag:=⟨sq83_0,[(.exit 0,⟨[],[],[]⟩),(.ret,⟨[],[(4,.val (.int .i64))],[]⟩)],fu83_0 k k⟩
def F83 (k:Nat) (a0:TY13) (a1:ByteArray):Option TY73 :=
 (F83_0 k k a1 (0:Int) a0).bind fun r7 =>
 match r7 with
 |.inl r8 =>
  some (((-1:Int),()),())
 |.inr r8 =>
  some ((r8.1.1,()),())
def sp83 (k:Nat):Spec:=⟨[.val KD5,.val .str],[.val (.int .i64)],fun x=>F83 k x.1 x.2.1⟩
def lim83:Lim:=⟨22,2,false,false,[],[]⟩
def cfg83 (k:Nat):Nat→Option Spec:=cfgL []
noncomputable def co83_0:Code:=codeAt (bodyOf Try.f83) [.r,.l,.r,.s]
noncomputable def cb83_0:Code:=codeAt (bodyOf Try.f83) [.r,.l,.r,.s,.b]
noncomputable def co83:Code:=codeAt (bodyOf Try.f83) []
theorem cfg83_ok (k:Nat):CfgOK Try.prog (cfg83 k):=cfgL_nil
noncomputable def bo83_0 (k m:Nat) (v:sq83_0.V):=body Try.prog (stepper Try.prog (cfg83 k) lim83) .go cb83_0 (sq83_0.st v) (loopK (fr83_0 k) (fu83_0 k m))
theorem pp83_0 (k m:Nat) (v:sq83_0.V):fu83_0 k (m+1) v=(bo83_0 k m v).eval∧(bo83_0 k m v).left=(bo83_0 k m v).right:=⟨by kernel_rfl,by kernel_rfl⟩
theorem fr83_0_ok (k:Nat):FragOK Try.prog lim83 (fr83_0 k) co83_0 :=
 frag_cast (by kernel_rfl) (loop_ok (cfg83_ok k) (planOK_go _) (fu83_0 k) k (fun _=>rfl) (fun _=>rfl) (pp83_0 k))
def pl83 (k:Nat):Plan:=(.seq .go (.seq (.seq .go (.sub (.frag (fr83_0 k)))) .go))
noncomputable def bo83 (k:Nat) (x:AT (sp83 k).ps):=fnT Try.prog (cfg83 k) lim83 Try.f83 (bodyOf Try.f83) (pl83 k) (sp83 k) x
theorem vv83 (k:Nat) (x:AT (sp83 k).ps):(sp83 k).impl x=(bo83 k x).eval∧(bo83 k x).left=(bo83 k x).right:=⟨by kernel_rfl,by kernel_rfl⟩
theorem v83 (k:Nat):Callable Try.prog 83∧Valid Try.prog 83 (sp83 k) :=
 fn_of (n:=lim83) (fn:=Try.f83) (p:=(pl83 k)) (cfg83_ok k) (by kernel_rfl) (plan_of (L:=[(fr83_0 k,co83_0)]) (by kernel_rfl) (.cons (fr83_0_ok k) .nil)) (vv83 k)
def F91_0 (k:Nat):Nat→TY68→Int→Int→TY68→Option (((Int×Unit)×TY56))
 |0,_,_,_,_=>none
 |n+1,t0,t4,t5,e0 =>
  let x1:=(decide (t5<(length t0:Int)))
  bif x1 then
  if 0≤t5∧t5<(length t0:Int) then
  let x2:=(getD t0 (toNat t5) ((0:Int),((0:Int),())))
  let x3:=(List.set (replicate 1 ((0:Int),((0:Int),()))) 0 (t4,((wrap .i64 (x2.1-(1:Int))),())))
  if (length e0+length x3)*(16*2)≤281474976710656∧length e0+length x3≤9223372036854775807 then
  if 0≤t5∧t5<(length t0:Int) then
  let x4:=(getD t0 (toNat t5) ((0:Int),((0:Int),())))
  (F91_0 k n t0 (wrap .i64 (x4.2.1+(1:Int))) (wrap .i64 (t5+(1:Int))) (e0++x3)).bind some
  else none
  else none
  else none
  else
  some ((t4,()),(e0,()))
def sq91_0:Shape:=⟨[(3,KD46)],[(0,.val KD44),(3,.at 2000003 []),(4,.val (.int .i64)),(5,.val (.int .i64))],[(2000003,none,KD46)]⟩
def fu91_0 (k m:Nat) (v:sq91_0.V):=F91_0 k m v.1.1 v.1.2.1 v.1.2.2.1 v.2.1
def fr91_0 (k:Nat):Frag:=⟨sq91_0,[(.exit 0,⟨[(3,KD46)],[(3,.at 2000003 []),(4,.val (.int .i64))],[(2000003,none,KD46)]⟩)],fu91_0 k k⟩
def F91 (k:Nat) (a0:TY68):Option TY53 :=
 (F91_0 k k a0 (0:Int) (0:Int) []).bind fun r5 =>
 let x8:=(List.set (replicate 1 ((0:Int),((0:Int),()))) 0 (r5.1.1,((1114111:Int),())))
 if (length r5.2.1+length x8)*(16*2)≤281474976710656∧length r5.2.1+length x8≤9223372036854775807 then
 (F90 k (r5.2.1++x8)).bind fun r9 =>
 some ((r9.1.1,()),())
 else none
def sp91 (k:Nat):Spec:=⟨[.val KD44],[.own KD46],fun x=>F91 k x.1⟩
def lim91:Lim:=⟨35,1,false,false,[],[]⟩
def cfg91 (k:Nat):Nat→Option Spec:=cfgL [(90,sp90 k)]
noncomputable def co91_0:Code:=codeAt (bodyOf Try.f91) [.r,.r,.r,.l,.r,.s]
noncomputable def cb91_0:Code:=codeAt (bodyOf Try.f91) [.r,.r,.r,.l,.r,.s,.b]
noncomputable def co91:Code:=codeAt (bodyOf Try.f91) []
theorem cfg91_ok (k:Nat):CfgOK Try.prog (cfg91 k):=cfgL_cons (v90 k) (cfgL_nil)
noncomputable def bo91_0 (k m:Nat) (v:sq91_0.V):=body Try.prog (stepper Try.prog (cfg91 k) lim91) .go cb91_0 (sq91_0.st v) (loopK (fr91_0 k) (fu91_0 k m))
theorem pp91_0 (k m:Nat) (v:sq91_0.V):fu91_0 k (m+1) v=(bo91_0 k m v).eval∧(bo91_0 k m v).left=(bo91_0 k m v).right:=⟨by kernel_rfl,by kernel_rfl⟩
theorem fr91_0_ok (k:Nat):FragOK Try.prog lim91 (fr91_0 k) co91_0 :=
 frag_cast (by kernel_rfl) (loop_ok (cfg91_ok k) (planOK_go _) (fu91_0 k) k (fun _=>rfl) (fun _=>rfl) (pp91_0 k))
def pl91 (k:Nat):Plan:=(.seq .go (.seq .go (.seq .go (.seq (.seq .go (.sub (.frag (fr91_0 k)))) .go))))
noncomputable def bo91 (k:Nat) (x:AT (sp91 k).ps):=fnT Try.prog (cfg91 k) lim91 Try.f91 (bodyOf Try.f91) (pl91 k) (sp91 k) x
theorem vv91 (k:Nat) (x:AT (sp91 k).ps):(sp91 k).impl x=(bo91 k x).eval∧(bo91 k x).left=(bo91 k x).right:=⟨by kernel_rfl,by kernel_rfl⟩
theorem v91 (k:Nat):Callable Try.prog 91∧Valid Try.prog 91 (sp91 k) :=
 fn_of (n:=lim91) (fn:=Try.f91) (p:=(pl91 k)) (cfg91_ok k) (by kernel_rfl) (plan_of (L:=[(fr91_0 k,co91_0)]) (by kernel_rfl) (.cons (fr91_0_ok k) .nil)) (vv91 k)
def F92 (k:Nat) (a0:TY68) (a1:TY68):Option TY53 :=
 let x1:=(replicate 0 ((0:Int),((0:Int),())))
 if (length x1+length a0)*(16*2)≤281474976710656∧length x1+length a0≤9223372036854775807 then
 if (length (x1++a0)+length a1)*(16*2)≤281474976710656∧length (x1++a0)+length a1≤9223372036854775807 then
 (F90 k ((x1++a0)++a1)).bind fun r2 =>
 some ((r2.1.1,()),())
 else none
 else none
def sp92 (k:Nat):Spec:=⟨[.val KD44,.val KD44],[.own KD46],fun x=>F92 k x.1 x.2.1⟩
def lim92:Lim:=⟨11,2,false,false,[],[]⟩
def cfg92 (k:Nat):Nat→Option Spec:=cfgL [(90,sp90 k)]
noncomputable def co92:Code:=codeAt (bodyOf Try.f92) []
theorem cfg92_ok (k:Nat):CfgOK Try.prog (cfg92 k):=cfgL_cons (v90 k) (cfgL_nil)
noncomputable def bo92 (k:Nat) (x:AT (sp92 k).ps):=fnT Try.prog (cfg92 k) lim92 Try.f92 (bodyOf Try.f92) .go (sp92 k) x
theorem vv92 (k:Nat) (x:AT (sp92 k).ps):(sp92 k).impl x=(bo92 k x).eval∧(bo92 k x).left=(bo92 k x).right:=⟨by kernel_rfl,by kernel_rfl⟩
theorem v92 (k:Nat):Callable Try.prog 92∧Valid Try.prog 92 (sp92 k) :=
 fn_of (n:=lim92) (fn:=Try.f92) (p:=.go) (cfg92_ok k) (by kernel_rfl) (planOK_go _) (vv92 k)
def F93 (k:Nat) (a0:TY68) (a1:TY68):Option TY53 :=
 (F91 k a0).bind fun r1 =>
 (F91 k a1).bind fun r2 =>
 (F92 k r1.1.1 r2.1.1).bind fun r3 =>
 (F91 k r3.1.1).bind fun r4 =>
 some ((r4.1.1,()),())
def sp93 (k:Nat):Spec:=⟨[.val KD44,.val KD44],[.own KD46],fun x=>F93 k x.1 x.2.1⟩
def lim93:Lim:=⟨11,2,false,false,[],[]⟩
def cfg93 (k:Nat):Nat→Option Spec:=cfgL [(91,sp91 k),(92,sp92 k)]
noncomputable def co93:Code:=codeAt (bodyOf Try.f93) []
theorem cfg93_ok (k:Nat):CfgOK Try.prog (cfg93 k):=cfgL_cons (v91 k) (cfgL_cons (v92 k) (cfgL_nil))
noncomputable def bo93 (k:Nat) (x:AT (sp93 k).ps):=fnT Try.prog (cfg93 k) lim93 Try.f93 (bodyOf Try.f93) .go (sp93 k) x
theorem vv93 (k:Nat) (x:AT (sp93 k).ps):(sp93 k).impl x=(bo93 k x).eval∧(bo93 k x).left=(bo93 k x).right:=⟨by kernel_rfl,by kernel_rfl⟩
theorem v93 (k:Nat):Callable Try.prog 93∧Valid Try.prog 93 (sp93 k) :=
 fn_of (n:=lim93) (fn:=Try.f93) (p:=.go) (cfg93_ok k) (by kernel_rfl) (planOK_go _) (vv93 k)
def F94 (k:Nat) (a0:TY68) (a1:TY68):Option TY53 :=
 (F91 k a1).bind fun r1 =>
 (F93 k a0 r1.1.1).bind fun r2 =>
 some ((r2.1.1,()),())
def sp94 (k:Nat):Spec:=⟨[.val KD44,.val KD44],[.own KD46],fun x=>F94 k x.1 x.2.1⟩
def lim94:Lim:=⟨9,2,false,false,[],[]⟩
def cfg94 (k:Nat):Nat→Option Spec:=cfgL [(91,sp91 k),(93,sp93 k)]
noncomputable def co94:Code:=codeAt (bodyOf Try.f94) []
theorem cfg94_ok (k:Nat):CfgOK Try.prog (cfg94 k):=cfgL_cons (v91 k) (cfgL_cons (v93 k) (cfgL_nil))
noncomputable def bo94 (k:Nat) (x:AT (sp94 k).ps):=fnT Try.prog (cfg94 k) lim94 Try.f94 (bodyOf Try.f94) .go (sp94 k) x
theorem vv94 (k:Nat) (x:AT (sp94 k).ps):(sp94 k).impl x=(bo94 k x).eval∧(bo94 k x).left=(bo94 k x).right:=⟨by kernel_rfl,by kernel_rfl⟩
theorem v94 (k:Nat):Callable Try.prog 94∧Valid Try.prog 94 (sp94 k) :=
 fn_of (n:=lim94) (fn:=Try.f94) (p:=.go) (cfg94_ok k) (by kernel_rfl) (planOK_go _) (vv94 k)
def rs69 (f69:(TY51→TY13→TY59→Option TY39)):Spec:=⟨[.val KD34,.val KD5,.mut KD37],[.val KD44],fun x=>f69 x.1 x.2.1 x.2.2.1⟩
def F69_0 (k:Nat) (f69:(TY51→TY13→TY59→Option TY39)):Nat→Int→TY59→TY32→TY13→TY59→Option ((Unit×(TY59×TY32×TY13×TY59×Unit)))
 |0,_,_,_,_,_=>none
 |n+1,t8,c2,c3,c4,e0 =>
  let x1:=(decide (t8<(length c3.2.2.2.2.1:Int)))
  bif x1 then
  if 0≤t8∧t8<(length c3.2.2.2.2.1:Int) then
  let x2:=(getD c3.2.2.2.2.1 (toNat t8) (Tree.mk ((0:Int),((0:Int),((0:Int),(ByteArray.empty,())))) []))
  (f69 x2 c4 c2).bind fun r3 =>
  let x4:=(List.set (replicate 1 ([]:TY68)) 0 r3.1.1)
  if (length e0+length x4)*(24*2)≤281474976710656∧length e0+length x4≤9223372036854775807 then
  (F69_0 k f69 n (wrap .i64 (t8+(1:Int))) r3.2.1 c3 c4 (e0++x4)).bind some
  else none
  else none
  else
  some ((),(c2,c3,c4,e0,()))
def sq69_0:Shape:=⟨[(7,KD37)],[(2,.at 2 []),(3,.ptr 3 []),(4,.ptr 4 []),(7,.at 2000007 []),(8,.val (.int .i64))],[(2,none,KD37),(3,some 134,KD22),(4,some 29,KD5),(2000007,none,KD37)]⟩
def fu69_0 (k:Nat) (f69:(TY51→TY13→TY59→Option TY39)) (m:Nat) (v:sq69_0.V):=F69_0 k f69 m v.1.1 v.2.1 v.2.2.1 v.2.2.2.1 v.2.2.2.2.1
def fr69_0 (k:Nat) (f69:(TY51→TY13→TY59→Option TY39)):Frag:=⟨sq69_0,[(.exit 0,⟨[(7,KD37)],[(2,.at 2 []),(3,.ptr 3 []),(4,.ptr 4 []),(7,.at 2000007 [])],[(2,none,KD37),(3,some 134,KD22),(4,some 29,KD5),(2000007,none,KD37)]⟩)],fu69_0 k f69 k⟩
def B69 (k:Nat) (f69:(TY51→TY13→TY59→Option TY39)) (a0:TY51) (a1:TY13) (a2:TY59):Option TY39 :=
 (F69_0 k f69 k (0:Int) a2 ((Tree.a a0).1,((Tree.a a0).2.1,((Tree.a a0).2.2.1,((Tree.a a0).2.2.2.1,((Tree.l a0),()))))) a1 []).bind fun r5 =>
 let y6:=r5.2.1
 let y7:=r5.2.2.1
 let y9:=r5.2.2.2.2.1
 bif (y7.1==(1:Int)) then
 let x10:=(List.set (replicate 1 ((0:Int),((0:Int),()))) 0 (y7.2.1,(y7.2.2.1,())))
 (F90 k x10).bind fun r11 =>
 some ((r11.1.1,()),(y6,()))
 else
 bif (y7.1==(2:Int)) then
 (F83 k r5.2.2.2.1 y7.2.2.2.1).bind fun r12 =>
 if 0≤r12.1.1∧r12.1.1<(length y6:Int) then
 let x13:=(getD y6 (toNat r12.1.1) ([]:TY68))
 some ((x13,()),(y6,()))
 else none
 else
 bif (y7.1==(3:Int)) then
 (F91 k []).bind fun r14 =>
 some ((r14.1.1,()),(y6,()))
 else
 bif (y7.1==(4:Int)) then
 if 0≤(0:Int)∧(0:Int)<(length y9:Int) then
 let x15:=(getD y9 (toNat (0:Int)) ([]:TY68))
 (F91 k x15).bind fun r16 =>
 some ((r16.1.1,()),(y6,()))
 else none
 else
 bif (y7.1==(5:Int)) then
 if 0≤(0:Int)∧(0:Int)<(length y9:Int) then
 let x17:=(getD y9 (toNat (0:Int)) ([]:TY68))
 if 0≤(1:Int)∧(1:Int)<(length y9:Int) then
 let x18:=(getD y9 (toNat (1:Int)) ([]:TY68))
 (F92 k x17 x18).bind fun r19 =>
 some ((r19.1.1,()),(y6,()))
 else none
 else none
 else
 bif (y7.1==(6:Int)) then
 if 0≤(0:Int)∧(0:Int)<(length y9:Int) then
 let x20:=(getD y9 (toNat (0:Int)) ([]:TY68))
 if 0≤(1:Int)∧(1:Int)<(length y9:Int) then
 let x21:=(getD y9 (toNat (1:Int)) ([]:TY68))
 (F93 k x20 x21).bind fun r22 =>
 some ((r22.1.1,()),(y6,()))
 else none
 else none
 else
 if 0≤(0:Int)∧(0:Int)<(length y9:Int) then
 let x23:=(getD y9 (toNat (0:Int)) ([]:TY68))
 if 0≤(1:Int)∧(1:Int)<(length y9:Int) then
 let x24:=(getD y9 (toNat (1:Int)) ([]:TY68))
 (F94 k x23 x24).bind fun r25 =>
 some ((r25.1.1,()),(y6,()))
 else none
 else none
def sb69 (k:Nat) (f69:(TY51→TY13→TY59→Option TY39)):Spec:=rs69 (B69 k f69)
def lim69:Lim:=⟨81,3,false,false,[37,49,55,64,73,80],[]⟩
def cfg69 (k:Nat) (f69:(TY51→TY13→TY59→Option TY39)):Nat→Option Spec:=cfgL [(69,rs69 f69),(83,sp83 k),(90,sp90 k),(91,sp91 k),(92,sp92 k),(93,sp93 k),(94,sp94 k)]
noncomputable def co69_0:Code:=codeAt (bodyOf Try.f69) [.r,.r,.l,.r,.s]
noncomputable def cb69_0:Code:=codeAt (bodyOf Try.f69) [.r,.r,.l,.r,.s,.b]
noncomputable def co69:Code:=codeAt (bodyOf Try.f69) []
theorem cfg69_ok (k:Nat) (f69:(TY51→TY13→TY59→Option TY39)) (h69:Callable Try.prog 69∧Valid Try.prog 69 (rs69 f69)):CfgOK Try.prog (cfg69 k f69):=cfgL_cons h69 (cfgL_cons (v83 k) (cfgL_cons (v90 k) (cfgL_cons (v91 k) (cfgL_cons (v92 k) (cfgL_cons (v93 k) (cfgL_cons (v94 k) (cfgL_nil)))))))
noncomputable def bo69_0 (k:Nat) (f69:(TY51→TY13→TY59→Option TY39)) (m:Nat) (v:sq69_0.V):=body Try.prog (stepper Try.prog (cfg69 k f69) lim69) .go cb69_0 (sq69_0.st v) (loopK (fr69_0 k f69) (fu69_0 k f69 m))
theorem pp69_0 (k:Nat) (f69:(TY51→TY13→TY59→Option TY39)) (m:Nat) (v:sq69_0.V):fu69_0 k f69 (m+1) v=(bo69_0 k f69 m v).eval∧(bo69_0 k f69 m v).left=(bo69_0 k f69 m v).right:=⟨by kernel_rfl,by kernel_rfl⟩
theorem fr69_0_ok (k:Nat) (f69:(TY51→TY13→TY59→Option TY39)) (h69:Callable Try.prog 69∧Valid Try.prog 69 (rs69 f69)):FragOK Try.prog lim69 (fr69_0 k f69) co69_0 :=
 frag_cast (by kernel_rfl) (loop_ok (cfg69_ok k f69 h69) (planOK_go _) (fu69_0 k f69) k (fun _=>rfl) (fun _=>rfl) (pp69_0 k f69))
def pl69 (k:Nat) (f69:(TY51→TY13→TY59→Option TY39)):Plan:=(.seq .go (.seq .go (.seq (.seq .go (.sub (.frag (fr69_0 k f69)))) .go)))
noncomputable def bo69 (k:Nat) (f69:(TY51→TY13→TY59→Option TY39)) (x:AT (sb69 k f69).ps):=fnT Try.prog (cfg69 k f69) lim69 Try.f69 (bodyOf Try.f69) (pl69 k f69) (sb69 k f69) x
theorem vv69 (k:Nat) (f69:(TY51→TY13→TY59→Option TY39)) (x:AT (sb69 k f69).ps):(sb69 k f69).impl x=(bo69 k f69 x).eval∧(bo69 k f69 x).left=(bo69 k f69 x).right:=⟨by kernel_rfl,by kernel_rfl⟩
theorem b69 (k:Nat) (f69:(TY51→TY13→TY59→Option TY39)) (h69:Callable Try.prog 69∧Valid Try.prog 69 (rs69 f69)):Callable Try.prog 69∧Valid Try.prog 69 (sb69 k f69) :=
 fn_of (n:=lim69) (fn:=Try.f69) (p:=(pl69 k f69)) (cfg69_ok k f69 h69) (by kernel_rfl) (plan_of (L:=[(fr69_0 k f69,co69_0)]) (by kernel_rfl) (.cons (fr69_0_ok k f69 h69) .nil)) (vv69 k f69)
def R69:Nat→(TY51→TY13→TY59→Option TY39)
 |0=>fun _ _ _=>none
 |k+1=>B69 k (R69 k)
def F69 (k:Nat) (a0_:TY51) (a1_:TY13) (a2_:TY59):Option TY39:=(R69 k) a0_ a1_ a2_
def sp69 (k:Nat):Spec:=⟨[.val KD34,.val KD5,.mut KD37],[.val KD44],fun x=>F69 k x.1 x.2.1 x.2.2.1⟩
theorem r69 (k:Nat):(Callable Try.prog 69∧Valid Try.prog 69 (rs69 (R69 k))):=by
 induction k with
 |zero=>exact ⟨⟨Try.f69,by kernel_rfl,by kernel_rfl,by kernel_rfl⟩,fun x r h=>by cases (show (none:Option _)=some r from h)⟩
 |succ k ih=>exact b69 k (R69 k) ih
theorem v69 (k:Nat):Callable Try.prog 69∧Valid Try.prog 69 (sp69 k):=(r69 k)
def F37_0 (k:Nat):Nat→Int→TY13→TY59→Option ((Unit×(TY59×Unit)))
 |0,_,_,_=>none
 |n+1,t4,c1,e0 =>
  let x1:=(decide (t4<(length c1.1:Int)))
  bif x1 then
  if 0≤t4∧t4<(length c1.1:Int) then
  let x2:=(getD c1.1 (toNat t4) (ByteArray.empty,((Tree.mk ((0:Int),((0:Int),((0:Int),(ByteArray.empty,())))) []),())))
  (F69 k x2.2.1 c1 e0).bind fun r3 =>
  let x4:=(List.set (replicate 1 ([]:TY68)) 0 r3.1.1)
  if (length r3.2.1+length x4)*(24*2)≤281474976710656∧length r3.2.1+length x4≤9223372036854775807 then
  (F37_0 k n (wrap .i64 (t4+(1:Int))) c1 (r3.2.1++x4)).bind some
  else none
  else none
  else
  some ((),(e0,()))
def sq37_0:Shape:=⟨[(3,KD37)],[(1,.ptr 1 []),(3,.at 2000003 []),(4,.val (.int .i64))],[(1,some 29,KD5),(2000003,none,KD37)]⟩
def fu37_0 (k m:Nat) (v:sq37_0.V):=F37_0 k m v.1.1 v.2.1 v.2.2.1
def fr37_0 (k:Nat):Frag:=⟨sq37_0,[(.exit 0,⟨[(3,KD37)],[(3,.at 2000003 [])],[(2000003,none,KD37)]⟩)],fu37_0 k k⟩
def F37 (k:Nat) (a0:TY13):Option ((TY59×Unit)×Unit) :=
 (F37_0 k k (0:Int) a0 []).bind fun r5 =>
 some ((r5.2.1,()),())
def sp37 (k:Nat):Spec:=⟨[.val KD5],[.own KD37],fun x=>F37 k x.1⟩
def lim37:Lim:=⟨25,1,false,false,[],[]⟩
def cfg37 (k:Nat):Nat→Option Spec:=cfgL [(69,sp69 k)]
noncomputable def co37_0:Code:=codeAt (bodyOf Try.f37) [.r,.r,.l,.r,.s]
noncomputable def cb37_0:Code:=codeAt (bodyOf Try.f37) [.r,.r,.l,.r,.s,.b]
noncomputable def co37:Code:=codeAt (bodyOf Try.f37) []
theorem cfg37_ok (k:Nat):CfgOK Try.prog (cfg37 k):=cfgL_cons (v69 k) (cfgL_nil)
noncomputable def bo37_0 (k m:Nat) (v:sq37_0.V):=body Try.prog (stepper Try.prog (cfg37 k) lim37) .go cb37_0 (sq37_0.st v) (loopK (fr37_0 k) (fu37_0 k m))
theorem pp37_0 (k m:Nat) (v:sq37_0.V):fu37_0 k (m+1) v=(bo37_0 k m v).eval∧(bo37_0 k m v).left=(bo37_0 k m v).right:=⟨by kernel_rfl,by kernel_rfl⟩
theorem fr37_0_ok (k:Nat):FragOK Try.prog lim37 (fr37_0 k) co37_0 :=
 frag_cast (by kernel_rfl) (loop_ok (cfg37_ok k) (planOK_go _) (fu37_0 k) k (fun _=>rfl) (fun _=>rfl) (pp37_0 k))
def pl37 (k:Nat):Plan:=(.seq .go (.seq .go (.seq (.seq .go (.sub (.frag (fr37_0 k)))) .go)))
noncomputable def bo37 (k:Nat) (x:AT (sp37 k).ps):=fnT Try.prog (cfg37 k) lim37 Try.f37 (bodyOf Try.f37) (pl37 k) (sp37 k) x
theorem vv37 (k:Nat) (x:AT (sp37 k).ps):(sp37 k).impl x=(bo37 k x).eval∧(bo37 k x).left=(bo37 k x).right:=⟨by kernel_rfl,by kernel_rfl⟩
theorem v37 (k:Nat):Callable Try.prog 37∧Valid Try.prog 37 (sp37 k) :=
 fn_of (n:=lim37) (fn:=Try.f37) (p:=(pl37 k)) (cfg37_ok k) (by kernel_rfl) (plan_of (L:=[(fr37_0 k,co37_0)]) (by kernel_rfl) (.cons (fr37_0_ok k) .nil)) (vv37 k)
def F70_0 (k:Nat):Nat→TY59→Int→Int→Int→Int→(List Int)→(List Int)→Option ((TY43×TY61))
 |0,_,_,_,_,_,_,_=>none
 |n+1,t0,t4,t5,t7,t8,c42,e0 =>
  bif (decide (t8>(0:Int))) then
  if 0≤t7∧t7<(length c42:Int) then
  if 0≤(wrap .i64 (t8-(1:Int)))∧(wrap .i64 (t8-(1:Int)))<(length e0:Int) then
  let x10:=(toNat (wrap .i64 (t8-(1:Int))))
  let x11:=(decide ((getD c42 (toNat t7) (0:Int))<(getD e0 x10 (0:Int))))
  bif x11 then
  (F70_0 k n t0 t4 t5 t7 (wrap .i64 (t8-(1:Int))) c42 e0).bind some
  else
  some ((t0,t4,t5,t7,t8,()),(c42,e0,()))
  else none
  else none
  else
  some ((t0,t4,t5,t7,t8,()),(c42,e0,()))
def sq70_0:Shape:=⟨[(3,KD64)],[(0,.val KD36),(3,.at 2000003 []),(4,.val (.int .i64)),(5,.val (.int .i64)),(6,.at 42 []),(7,.val (.int .i64)),(8,.val (.int .i64))],[(42,none,KD64),(2000003,none,KD64)]⟩
def fu70_0 (k m:Nat) (v:sq70_0.V):=F70_0 k m v.1.1 v.1.2.1 v.1.2.2.1 v.1.2.2.2.1 v.1.2.2.2.2.1 v.2.1 v.2.2.1
def fr70_0 (k:Nat):Frag:=⟨sq70_0,[(.exit 6,⟨[],[(0,.val KD36),(3,.at 2000003 []),(4,.val (.int .i64)),(5,.val (.int .i64)),(6,.at 42 []),(7,.val (.int .i64)),(8,.val (.int .i64))],[(42,none,KD64),(2000003,none,KD64)]⟩)],fu70_0 k k⟩
def F70_1 (k:Nat):Nat→TY59→Int→Int→Int→(List Int)→(List Int)→Option (((TY59×Int×Int×Unit)×((List Int)×Unit)))
 |0,_,_,_,_,_,_=>none
 |n+1,t0,t4,t5,t7,c42,e0 =>
  bif (decide (t7<(2:Int))) then
  (F70_0 k k t0 t4 t5 t7 (length e0:Int) c42 e0).bind fun r12 =>
  let y14:=r12.1.2.1
  let y15:=r12.1.2.2.1
  let y16:=r12.1.2.2.2.1
  let y17:=r12.1.2.2.2.2.1
  let y18:=r12.2.1
  let y19:=r12.2.2.1
  if 0≤y16∧y16<(length y18:Int) then
  let x20:=(decide ((getD y18 (toNat y16) (0:Int))≤(1114111:Int)))
  bif x20 then
  bif (y17==(0:Int)) then
  if 0≤(0:Int)∧(0:Int)≤y17∧y17≤(length y19:Int) then
  let x21:=(toNat y17-toNat (0:Int))
  if 0≤y16∧y16<(length y18:Int) then
  if 0≤y17∧y17≤(length y19:Int)∧(length y19:Int)≤(length y19:Int) then
  let x22:=(toNat (length y19:Int)-toNat y17)
  if (length (replicate 0 (0:Int))+length (take x21 (drop (toNat (0:Int)) y19)))*(8*2)≤281474976710656∧length (replicate 0 (0:Int))+length (take x21 (drop (toNat (0:Int)) y19))≤9223372036854775807 then
  let x23:=((replicate 0 (0:Int))++(take x21 (drop (toNat (0:Int)) y19)))
  let x24:=(List.set (replicate 1 (0:Int)) 0 (getD y18 (toNat y16) (0:Int)))
  if (length x23+length x24)*(8*2)≤281474976710656∧length x23+length x24≤9223372036854775807 then
  if (length (x23++x24)+length (take x22 (drop (toNat y17) y19)))*(8*2)≤281474976710656∧length (x23++x24)+length (take x22 (drop (toNat y17) y19))≤9223372036854775807 then
  let x25:=((x23++x24)++(take x22 (drop (toNat y17) y19)))
  (F70_1 k n r12.1.1 y14 y15 (wrap .i64 (y16+(1:Int))) y18 x25).bind some
  else none
  else none
  else none
  else none
  else none
  else none
  else
  if 0≤(wrap .i64 (y17-(1:Int)))∧(wrap .i64 (y17-(1:Int)))<(length y19:Int) then
  let x26:=(toNat (wrap .i64 (y17-(1:Int))))
  if 0≤y16∧y16<(length y18:Int) then
  let x27:=((getD y19 x26 (0:Int)) != (getD y18 (toNat y16) (0:Int)))
  bif x27 then
  if 0≤(0:Int)∧(0:Int)≤y17∧y17≤(length y19:Int) then
  let x28:=(toNat y17-toNat (0:Int))
  if 0≤y16∧y16<(length y18:Int) then
  if 0≤y17∧y17≤(length y19:Int)∧(length y19:Int)≤(length y19:Int) then
  let x29:=(toNat (length y19:Int)-toNat y17)
  if (length (replicate 0 (0:Int))+length (take x28 (drop (toNat (0:Int)) y19)))*(8*2)≤281474976710656∧length (replicate 0 (0:Int))+length (take x28 (drop (toNat (0:Int)) y19))≤9223372036854775807 then
  let x30:=((replicate 0 (0:Int))++(take x28 (drop (toNat (0:Int)) y19)))
  let x31:=(List.set (replicate 1 (0:Int)) 0 (getD y18 (toNat y16) (0:Int)))
  if (length x30+length x31)*(8*2)≤281474976710656∧length x30+length x31≤9223372036854775807 then
  if (length (x30++x31)+length (take x29 (drop (toNat y17) y19)))*(8*2)≤281474976710656∧length (x30++x31)+length (take x29 (drop (toNat y17) y19))≤9223372036854775807 then
  let x32:=((x30++x31)++(take x29 (drop (toNat y17) y19)))
  (F70_1 k n r12.1.1 y14 y15 (wrap .i64 (y16+(1:Int))) y18 x32).bind some
  else none
  else none
  else none
  else none
  else none
  else none
  else
  (F70_1 k n r12.1.1 y14 y15 (wrap .i64 (y16+(1:Int))) y18 y19).bind some
  else none
  else none
  else
  (F70_1 k n r12.1.1 y14 y15 (wrap .i64 (y16+(1:Int))) y18 y19).bind some
  else none
  else
  some ((t0,t4,t5,()),(e0,()))
def sq70_1:Shape:=⟨[(3,KD64)],[(0,.val KD36),(3,.at 2000003 []),(4,.val (.int .i64)),(5,.val (.int .i64)),(6,.at 42 []),(7,.val (.int .i64))],[(42,none,KD64),(2000003,none,KD64)]⟩
def fu70_1 (k m:Nat) (v:sq70_1.V):=F70_1 k m v.1.1 v.1.2.1 v.1.2.2.1 v.1.2.2.2.1 v.2.1 v.2.2.1
def fr70_1 (k:Nat):Frag:=⟨sq70_1,[(.exit 4,⟨[(3,KD64)],[(0,.val KD36),(3,.at 2000003 []),(4,.val (.int .i64)),(5,.val (.int .i64))],[(2000003,none,KD64)]⟩)],fu70_1 k k⟩
def F70_2 (k:Nat):Nat→TY59→Int→Int→(List Int)→Option (((TY59×Int×Unit)×((List Int)×Unit)))
 |0,_,_,_,_=>none
 |n+1,t0,t4,t5,e0 =>
  if 0≤t4∧t4<(length t0:Int) then
  let x3:=(getD t0 (toNat t4) ([]:TY68))
  let x4:=(decide (t5<(length x3:Int)))
  bif x4 then
  if 0≤t4∧t4<(length t0:Int) then
  let x5:=(getD t0 (toNat t4) ([]:TY68))
  if 0≤t5∧t5<(length x5:Int) then
  let x6:=(getD x5 (toNat t5) ((0:Int),((0:Int),())))
  if 0≤t4∧t4<(length t0:Int) then
  let x7:=(getD t0 (toNat t4) ([]:TY68))
  if 0≤t5∧t5<(length x7:Int) then
  let x8:=(getD x7 (toNat t5) ((0:Int),((0:Int),())))
  let x9:=(List.set (List.set (replicate 2 (0:Int)) 0 x6.1) 1 (wrap .i64 (x8.2.1+(1:Int))))
  (F70_1 k k t0 t4 t5 (0:Int) x9 e0).bind fun r33 =>
  (F70_2 k n r33.1.1 r33.1.2.1 (wrap .i64 (r33.1.2.2.1+(1:Int))) r33.2.1).bind some
  else none
  else none
  else none
  else none
  else
  some ((t0,t4,()),(e0,()))
  else none
def sq70_2:Shape:=⟨[(3,KD64)],[(0,.val KD36),(3,.at 2000003 []),(4,.val (.int .i64)),(5,.val (.int .i64))],[(2000003,none,KD64)]⟩
def fu70_2 (k m:Nat) (v:sq70_2.V):=F70_2 k m v.1.1 v.1.2.1 v.1.2.2.1 v.2.1
def fr70_2 (k:Nat):Frag:=⟨sq70_2,[(.exit 2,⟨[(3,KD64)],[(0,.val KD36),(3,.at 2000003 []),(4,.val (.int .i64))],[(2000003,none,KD64)]⟩)],fu70_2 k k⟩
def F70_3 (k:Nat):Nat→TY59→Int→(List Int)→Option TY63
 |0,_,_,_=>none
 |n+1,t0,t4,e0 =>
  let x2:=(decide (t4<(length t0:Int)))
  bif x2 then
  (F70_2 k k t0 t4 (0:Int) e0).bind fun r38 =>
  (F70_3 k n r38.1.1 (wrap .i64 (r38.1.2.1+(1:Int))) r38.2.1).bind some
  else
  some ((),(e0,()))
def sq70_3:Shape:=⟨[(3,KD64)],[(0,.val KD36),(3,.at 2000003 []),(4,.val (.int .i64))],[(2000003,none,KD64)]⟩
def fu70_3 (k m:Nat) (v:sq70_3.V):=F70_3 k m v.1.1 v.1.2.1 v.2.1
def fr70_3 (k:Nat):Frag:=⟨sq70_3,[(.exit 0,⟨[(3,KD64)],[(3,.at 2000003 [])],[(2000003,none,KD64)]⟩)],fu70_3 k k⟩
def F70 (k:Nat) (a0:TY59):Option TY65 :=
 let x1:=(List.set (replicate 1 (0:Int)) 0 (0:Int))
 (F70_3 k k a0 (0:Int) x1).bind fun r42 =>
 some ((r42.2.1,()),())
def sp70 (k:Nat):Spec:=⟨[.val KD36],[.own KD64],fun x=>F70 k x.1⟩
def lim70:Lim:=⟨102,1,false,true,[],[]⟩
def cfg70 (k:Nat):Nat→Option Spec:=cfgL []
noncomputable def co70_0:Code:=codeAt (bodyOf Try.f70) [.r,.r,.l,.r,.s,.b,.r,.l,.s,.r,.s,.b,.r,.l,.s,.r,.r,.s,.b,.r,.l,.s,.r,.l,.s]
noncomputable def cb70_0:Code:=codeAt (bodyOf Try.f70) [.r,.r,.l,.r,.s,.b,.r,.l,.s,.r,.s,.b,.r,.l,.s,.r,.r,.s,.b,.r,.l,.s,.r,.l,.s,.b]
noncomputable def co70_1:Code:=codeAt (bodyOf Try.f70) [.r,.r,.l,.r,.s,.b,.r,.l,.s,.r,.s,.b,.r,.l,.s,.r,.r,.s]
noncomputable def cb70_1:Code:=codeAt (bodyOf Try.f70) [.r,.r,.l,.r,.s,.b,.r,.l,.s,.r,.s,.b,.r,.l,.s,.r,.r,.s,.b]
noncomputable def co70_2:Code:=codeAt (bodyOf Try.f70) [.r,.r,.l,.r,.s,.b,.r,.l,.s,.r,.s]
noncomputable def cb70_2:Code:=codeAt (bodyOf Try.f70) [.r,.r,.l,.r,.s,.b,.r,.l,.s,.r,.s,.b]
noncomputable def co70_3:Code:=codeAt (bodyOf Try.f70) [.r,.r,.l,.r,.s]
noncomputable def cb70_3:Code:=codeAt (bodyOf Try.f70) [.r,.r,.l,.r,.s,.b]
noncomputable def co70:Code:=codeAt (bodyOf Try.f70) []
theorem cfg70_ok (k:Nat):CfgOK Try.prog (cfg70 k):=cfgL_nil
noncomputable def bo70_0 (k m:Nat) (v:sq70_0.V):=body Try.prog (stepper Try.prog (cfg70 k) lim70) .go cb70_0 (sq70_0.st v) (loopK (fr70_0 k) (fu70_0 k m))
theorem pp70_0 (k m:Nat) (v:sq70_0.V):fu70_0 k (m+1) v=(bo70_0 k m v).eval∧(bo70_0 k m v).left=(bo70_0 k m v).right:=⟨by kernel_rfl,by kernel_rfl⟩
theorem fr70_0_ok (k:Nat):FragOK Try.prog lim70 (fr70_0 k) co70_0 :=
 frag_cast (by kernel_rfl) (loop_ok (cfg70_ok k) (planOK_go _) (fu70_0 k) k (fun _=>rfl) (fun _=>rfl) (pp70_0 k))
def pl70_1 (k:Nat):Plan:=(.seq .go (.seq (.sub (.seq .go (.seq (.sub (.frag (fr70_0 k))) .go))) .go))
noncomputable def bo70_1 (k m:Nat) (v:sq70_1.V):=body Try.prog (stepper Try.prog (cfg70 k) lim70) (pl70_1 k) cb70_1 (sq70_1.st v) (loopK (fr70_1 k) (fu70_1 k m))
theorem pp70_1 (k m:Nat) (v:sq70_1.V):fu70_1 k (m+1) v=(bo70_1 k m v).eval∧(bo70_1 k m v).left=(bo70_1 k m v).right:=⟨by kernel_rfl,by kernel_rfl⟩
theorem fr70_1_ok (k:Nat):FragOK Try.prog lim70 (fr70_1 k) co70_1 :=
 frag_cast (by kernel_rfl) (loop_ok (cfg70_ok k) (plan_of (L:=[(fr70_0 k,co70_0)]) (by kernel_rfl) (.cons (fr70_0_ok k) .nil)) (fu70_1 k) k (fun _=>rfl) (fun _=>rfl) (pp70_1 k))
def pl70_2 (k:Nat):Plan:=(.seq .go (.seq (.sub (.seq .go (.seq .go (.sub (.frag (fr70_1 k)))))) .go))
noncomputable def bo70_2 (k m:Nat) (v:sq70_2.V):=body Try.prog (stepper Try.prog (cfg70 k) lim70) (pl70_2 k) cb70_2 (sq70_2.st v) (loopK (fr70_2 k) (fu70_2 k m))
theorem pp70_2 (k m:Nat) (v:sq70_2.V):fu70_2 k (m+1) v=(bo70_2 k m v).eval∧(bo70_2 k m v).left=(bo70_2 k m v).right:=⟨by kernel_rfl,by kernel_rfl⟩
theorem fr70_2_ok (k:Nat):FragOK Try.prog lim70 (fr70_2 k) co70_2 :=
 frag_cast (by kernel_rfl) (loop_ok (cfg70_ok k) (plan_of (L:=[(fr70_1 k,co70_1)]) (by kernel_rfl) (.cons (fr70_1_ok k) .nil)) (fu70_2 k) k (fun _=>rfl) (fun _=>rfl) (pp70_2 k))
def pl70_3 (k:Nat):Plan:=(.seq .go (.seq (.sub (.seq .go (.sub (.frag (fr70_2 k))))) .go))
noncomputable def bo70_3 (k m:Nat) (v:sq70_3.V):=body Try.prog (stepper Try.prog (cfg70 k) lim70) (pl70_3 k) cb70_3 (sq70_3.st v) (loopK (fr70_3 k) (fu70_3 k m))
theorem pp70_3 (k m:Nat) (v:sq70_3.V):fu70_3 k (m+1) v=(bo70_3 k m v).eval∧(bo70_3 k m v).left=(bo70_3 k m v).right:=⟨by kernel_rfl,by kernel_rfl⟩
theorem fr70_3_ok (k:Nat):FragOK Try.prog lim70 (fr70_3 k) co70_3 :=
 frag_cast (by kernel_rfl) (loop_ok (cfg70_ok k) (plan_of (L:=[(fr70_2 k,co70_2)]) (by kernel_rfl) (.cons (fr70_2_ok k) .nil)) (fu70_3 k) k (fun _=>rfl) (fun _=>rfl) (pp70_3 k))
def pl70 (k:Nat):Plan:=(.seq .go (.seq .go (.seq (.seq .go (.sub (.frag (fr70_3 k)))) .go)))
noncomputable def bo70 (k:Nat) (x:AT (sp70 k).ps):=fnT Try.prog (cfg70 k) lim70 Try.f70 (bodyOf Try.f70) (pl70 k) (sp70 k) x
theorem vv70 (k:Nat) (x:AT (sp70 k).ps):(sp70 k).impl x=(bo70 k x).eval∧(bo70 k x).left=(bo70 k x).right:=⟨by kernel_rfl,by kernel_rfl⟩
theorem v70 (k:Nat):Callable Try.prog 70∧Valid Try.prog 70 (sp70 k) :=
 fn_of (n:=lim70) (fn:=Try.f70) (p:=(pl70 k)) (cfg70_ok k) (by kernel_rfl) (plan_of (L:=[(fr70_3 k,co70_3)]) (by kernel_rfl) (.cons (fr70_3_ok k) .nil)) (vv70 k)
def F72_0 (k:Nat):Nat→TY68→Int→Int→Option ((Unit×Unit)⊕TY72)
 |0,_,_,_=>none
 |n+1,t0,t1,t5 =>
  let x4:=(decide (t5<(length t0:Int)))
  bif x4 then
  if 0≤t5∧t5<(length t0:Int) then
  let x5:=(getD t0 (toNat t5) ((0:Int),((0:Int),())))
  bif (decide (t1≥x5.1)) then
  if 0≤t5∧t5<(length t0:Int) then
  let x6:=(getD t0 (toNat t5) ((0:Int),((0:Int),())))
  bif (decide (t1≤x6.2.1)) then
  some (.inr ((true,()),()))
  else
  (F72_0 k n t0 t1 (wrap .i64 (t5+(1:Int)))).bind some
  else none
  else
  (F72_0 k n t0 t1 (wrap .i64 (t5+(1:Int)))).bind some
  else none
  else
  some (.inl ((),()))
def sq72_0:Shape:=⟨[],[(0,.val KD44),(1,.val (.int .i64)),(5,.val (.int .i64))],[]⟩
def fu72_0 (k m:Nat) (v:sq72_0.V):=F72_0 k m v.1.1 v.1.2.1 v.1.2.2.1
def fr72_0 (k:Nat):Frag:=⟨sq72_0,[(.exit 0,⟨[],[],[]⟩),(.ret,⟨[],[(4,.val .bool)],[]⟩)],fu72_0 k k⟩
def F72 (k:Nat) (a0:TY68) (a1:Int):Option TY72 :=
 (F72_0 k k a0 a1 (0:Int)).bind fun r7 =>
 match r7 with
 |.inl r8 =>
  some ((false,()),())
 |.inr r8 =>
  some ((r8.1.1,()),())
def sp72 (k:Nat):Spec:=⟨[.val KD44,.val (.int .i64)],[.val .bool],fun x=>F72 k x.1 x.2.1⟩
def lim72:Lim:=⟨28,2,false,false,[],[]⟩
def cfg72 (k:Nat):Nat→Option Spec:=cfgL []
noncomputable def co72_0:Code:=codeAt (bodyOf Try.f72) [.r,.l,.r,.s]
noncomputable def cb72_0:Code:=codeAt (bodyOf Try.f72) [.r,.l,.r,.s,.b]
noncomputable def co72:Code:=codeAt (bodyOf Try.f72) []
theorem cfg72_ok (k:Nat):CfgOK Try.prog (cfg72 k):=cfgL_nil
noncomputable def bo72_0 (k m:Nat) (v:sq72_0.V):=body Try.prog (stepper Try.prog (cfg72 k) lim72) .go cb72_0 (sq72_0.st v) (loopK (fr72_0 k) (fu72_0 k m))
theorem pp72_0 (k m:Nat) (v:sq72_0.V):fu72_0 k (m+1) v=(bo72_0 k m v).eval∧(bo72_0 k m v).left=(bo72_0 k m v).right:=⟨by kernel_rfl,by kernel_rfl⟩
theorem fr72_0_ok (k:Nat):FragOK Try.prog lim72 (fr72_0 k) co72_0 :=
 frag_cast (by kernel_rfl) (loop_ok (cfg72_ok k) (planOK_go _) (fu72_0 k) k (fun _=>rfl) (fun _=>rfl) (pp72_0 k))
def pl72 (k:Nat):Plan:=(.seq .go (.seq (.seq .go (.sub (.frag (fr72_0 k)))) .go))
noncomputable def bo72 (k:Nat) (x:AT (sp72 k).ps):=fnT Try.prog (cfg72 k) lim72 Try.f72 (bodyOf Try.f72) (pl72 k) (sp72 k) x
theorem vv72 (k:Nat) (x:AT (sp72 k).ps):(sp72 k).impl x=(bo72 k x).eval∧(bo72 k x).left=(bo72 k x).right:=⟨by kernel_rfl,by kernel_rfl⟩
theorem v72 (k:Nat):Callable Try.prog 72∧Valid Try.prog 72 (sp72 k) :=
 fn_of (n:=lim72) (fn:=Try.f72) (p:=(pl72 k)) (cfg72_ok k) (by kernel_rfl) (plan_of (L:=[(fr72_0 k,co72_0)]) (by kernel_rfl) (.cons (fr72_0_ok k) .nil)) (vv72 k)
def F71_0 (k:Nat):Nat→TY59→Int→Int→Int→Option TY70
 |0,_,_,_,_=>none
 |n+1,t0,t1,t5,t6 =>
  let x5:=(decide (t6<(length t0:Int)))
  bif x5 then
  if 0≤t6∧t6<(length t0:Int) then
  let x6:=(getD t0 (toNat t6) ([]:TY68))
  (F72 k x6 t1).bind fun r7 =>
  bif r7.1.1 then
  let x8:=(wrap .i64 ((wrap .i64 ((2:Int)*t5))+(1:Int)))
  (F71_0 k n t0 t1 x8 (wrap .i64 (t6+(1:Int)))).bind some
  else
  (F71_0 k n t0 t1 (wrap .i64 ((2:Int)*t5)) (wrap .i64 (t6+(1:Int)))).bind some
  else none
  else
  some ((t5,()),())
def sq71_0:Shape:=⟨[],[(0,.val KD36),(1,.val (.int .i64)),(5,.val (.int .i64)),(6,.val (.int .i64))],[]⟩
def fu71_0 (k m:Nat) (v:sq71_0.V):=F71_0 k m v.1.1 v.1.2.1 v.1.2.2.1 v.1.2.2.2.1
def fr71_0 (k:Nat):Frag:=⟨sq71_0,[(.exit 0,⟨[],[(5,.val (.int .i64))],[]⟩)],fu71_0 k k⟩
def F71 (k:Nat) (a0:TY59) (a1:Int):Option TY73 :=
 (F71_0 k k a0 a1 (0:Int) (0:Int)).bind fun r9 =>
 some ((r9.1.1,()),())
def sp71 (k:Nat):Spec:=⟨[.val KD36,.val (.int .i64)],[.val (.int .i64)],fun x=>F71 k x.1 x.2.1⟩
def lim71:Lim:=⟨24,2,false,false,[],[]⟩
def cfg71 (k:Nat):Nat→Option Spec:=cfgL [(72,sp72 k)]
noncomputable def co71_0:Code:=codeAt (bodyOf Try.f71) [.r,.r,.l,.r,.s]
noncomputable def cb71_0:Code:=codeAt (bodyOf Try.f71) [.r,.r,.l,.r,.s,.b]
noncomputable def co71:Code:=codeAt (bodyOf Try.f71) []
theorem cfg71_ok (k:Nat):CfgOK Try.prog (cfg71 k):=cfgL_cons (v72 k) (cfgL_nil)
noncomputable def bo71_0 (k m:Nat) (v:sq71_0.V):=body Try.prog (stepper Try.prog (cfg71 k) lim71) .go cb71_0 (sq71_0.st v) (loopK (fr71_0 k) (fu71_0 k m))
theorem pp71_0 (k m:Nat) (v:sq71_0.V):fu71_0 k (m+1) v=(bo71_0 k m v).eval∧(bo71_0 k m v).left=(bo71_0 k m v).right:=⟨by kernel_rfl,by kernel_rfl⟩
theorem fr71_0_ok (k:Nat):FragOK Try.prog lim71 (fr71_0 k) co71_0 :=
 frag_cast (by kernel_rfl) (loop_ok (cfg71_ok k) (planOK_go _) (fu71_0 k) k (fun _=>rfl) (fun _=>rfl) (pp71_0 k))
def pl71 (k:Nat):Plan:=(.seq .go (.seq .go (.seq (.seq .go (.sub (.frag (fr71_0 k)))) .go)))
noncomputable def bo71 (k:Nat) (x:AT (sp71 k).ps):=fnT Try.prog (cfg71 k) lim71 Try.f71 (bodyOf Try.f71) (pl71 k) (sp71 k) x
theorem vv71 (k:Nat) (x:AT (sp71 k).ps):(sp71 k).impl x=(bo71 k x).eval∧(bo71 k x).left=(bo71 k x).right:=⟨by kernel_rfl,by kernel_rfl⟩
theorem v71 (k:Nat):Callable Try.prog 71∧Valid Try.prog 71 (sp71 k) :=
 fn_of (n:=lim71) (fn:=Try.f71) (p:=(pl71 k)) (cfg71_ok k) (by kernel_rfl) (plan_of (L:=[(fr71_0 k,co71_0)]) (by kernel_rfl) (.cons (fr71_0_ok k) .nil)) (vv71 k)
def F38_0 (k:Nat):Nat→TY59→Int→Int→Int→Int→(List Int)→(List Int)→(List Int)→(List Int)→Option ((TY43×((List Int)×(List Int)×(List Int)×(List Int)×Unit)))
 |0,_,_,_,_,_,_,_,_,_=>none
 |n+1,t0,t8,t9,t10,t11,e0,e1,e2,e3 =>
  let x5:=(decide (t11<(length e3:Int)))
  bif x5 then
  if 0≤t11∧t11<(length e3:Int) then
  let x6:=(getD e3 (toNat t11) (0:Int))
  bif (x6 != t10) then
  (F38_0 k n t0 t8 t9 t10 (wrap .i64 (t11+(1:Int))) e0 e1 e2 e3).bind some
  else
  some ((t0,t8,t9,t10,t11,()),(e0,e1,e2,e3,()))
  else none
  else
  some ((t0,t8,t9,t10,t11,()),(e0,e1,e2,e3,()))
def sq38_0:Shape:=⟨[(4,KD64),(5,KD64),(6,KD64)],[(0,.val KD36),(4,.at 2000004 []),(5,.at 2000005 []),(6,.at 2000006 []),(7,.at 1000208 []),(8,.val (.int .i64)),(9,.val (.int .i64)),(10,.val (.int .i64)),(11,.val (.int .i64))],[(1000208,none,KD64),(2000004,none,KD64),(2000005,none,KD64),(2000006,none,KD64)]⟩
def fu38_0 (k m:Nat) (v:sq38_0.V):=F38_0 k m v.1.1 v.1.2.1 v.1.2.2.1 v.1.2.2.2.1 v.1.2.2.2.2.1 v.2.1 v.2.2.1 v.2.2.2.1 v.2.2.2.2.1
def fr38_0 (k:Nat):Frag:=⟨sq38_0,[(.exit 2,⟨[],[(0,.val KD36),(4,.at 2000004 []),(5,.at 2000005 []),(6,.at 2000006 []),(7,.at 1000208 []),(8,.val (.int .i64)),(9,.val (.int .i64)),(10,.val (.int .i64)),(11,.val (.int .i64))],[(1000208,none,KD64),(2000004,none,KD64),(2000005,none,KD64),(2000006,none,KD64)]⟩)],fu38_0 k k⟩
def F38_1 (k:Nat):Nat→TY59→Int→Int→(List Int)→(List Int)→(List Int)→(List Int)→Option ((Unit×TY61))
 |0,_,_,_,_,_,_,_=>none
 |n+1,t0,t8,t9,e0,e1,e2,e3 =>
  let x2:=(decide (t9<(length e0:Int)))
  bif x2 then
  if 0≤t9∧t9<(length e0:Int) then
  let x3:=(getD e0 (toNat t9) (0:Int))
  (F71 k t0 x3).bind fun r4 =>
  bif (r4.1.1==t8) then
  (F38_1 k n t0 t8 (wrap .i64 (t9+(1:Int))) e0 e1 e2 e3).bind some
  else
  (F38_0 k k t0 r4.1.1 t9 r4.1.1 (0:Int) e0 e1 e2 e3).bind fun r7 =>
  let y10:=r7.1.2.2.1
  let y12:=r7.1.2.2.2.2.1
  let y14:=r7.2.2.1
  let y15:=r7.2.2.2.1
  let y16:=r7.2.2.2.2.1
  bif (y12==(length y16:Int)) then
  let x17:=(List.set (replicate 1 (0:Int)) 0 r7.1.2.2.2.1)
  if (length y16+length x17)*(8*2)≤281474976710656∧length y16+length x17≤9223372036854775807 then
  if 0≤y10∧y10<(length r7.2.1:Int) then
  let x18:=(List.set (replicate 1 (0:Int)) 0 (getD r7.2.1 (toNat y10) (0:Int)))
  if (length y14+length x18)*(8*2)≤281474976710656∧length y14+length x18≤9223372036854775807 then
  let x19:=(List.set (replicate 1 (0:Int)) 0 y12)
  if (length y15+length x19)*(8*2)≤281474976710656∧length y15+length x19≤9223372036854775807 then
  (F38_1 k n r7.1.1 r7.1.2.1 (wrap .i64 (y10+(1:Int))) r7.2.1 (y14++x18) (y15++x19) (y16++x17)).bind some
  else none
  else none
  else none
  else none
  else
  if 0≤y10∧y10<(length r7.2.1:Int) then
  let x20:=(List.set (replicate 1 (0:Int)) 0 (getD r7.2.1 (toNat y10) (0:Int)))
  if (length y14+length x20)*(8*2)≤281474976710656∧length y14+length x20≤9223372036854775807 then
  let x21:=(List.set (replicate 1 (0:Int)) 0 y12)
  if (length y15+length x21)*(8*2)≤281474976710656∧length y15+length x21≤9223372036854775807 then
  (F38_1 k n r7.1.1 r7.1.2.1 (wrap .i64 (y10+(1:Int))) r7.2.1 (y14++x20) (y15++x21) y16).bind some
  else none
  else none
  else none
  else none
  else
  some ((),(e1,e2,()))
def sq38_1:Shape:=⟨[(4,KD64),(5,KD64),(6,KD64)],[(0,.val KD36),(4,.at 2000004 []),(5,.at 2000005 []),(6,.at 2000006 []),(7,.at 1000208 []),(8,.val (.int .i64)),(9,.val (.int .i64))],[(1000208,none,KD64),(2000004,none,KD64),(2000005,none,KD64),(2000006,none,KD64)]⟩
def fu38_1 (k m:Nat) (v:sq38_1.V):=F38_1 k m v.1.1 v.1.2.1 v.1.2.2.1 v.2.1 v.2.2.1 v.2.2.2.1 v.2.2.2.2.1
def fr38_1 (k:Nat):Frag:=⟨sq38_1,[(.exit 0,⟨[(4,KD64),(5,KD64)],[(4,.at 2000004 []),(5,.at 2000005 [])],[(2000004,none,KD64),(2000005,none,KD64)]⟩)],fu38_1 k k⟩
def F38 (k:Nat) (a0:TY59):Option (TY61×Unit) :=
 (F70 k a0).bind fun r1 =>
 (F38_1 k k a0 (-1:Int) (0:Int) r1.1.1 [] [] []).bind fun r22 =>
 some ((r22.2.1,r22.2.2.1,()),())
def sp38 (k:Nat):Spec:=⟨[.val KD36],[.own KD64,.own KD64],fun x=>F38 k x.1⟩
def lim38:Lim:=⟨65,1,false,false,[],[]⟩
def cfg38 (k:Nat):Nat→Option Spec:=cfgL [(70,sp70 k),(71,sp71 k)]
noncomputable def co38_0:Code:=codeAt (bodyOf Try.f38) [.r,.r,.r,.r,.l,.r,.s,.b,.r,.l,.s,.r,.r,.r,.r,.l,.s]
noncomputable def cb38_0:Code:=codeAt (bodyOf Try.f38) [.r,.r,.r,.r,.l,.r,.s,.b,.r,.l,.s,.r,.r,.r,.r,.l,.s,.b]
noncomputable def co38_1:Code:=codeAt (bodyOf Try.f38) [.r,.r,.r,.r,.l,.r,.s]
noncomputable def cb38_1:Code:=codeAt (bodyOf Try.f38) [.r,.r,.r,.r,.l,.r,.s,.b]
noncomputable def co38:Code:=codeAt (bodyOf Try.f38) []
theorem cfg38_ok (k:Nat):CfgOK Try.prog (cfg38 k):=cfgL_cons (v70 k) (cfgL_cons (v71 k) (cfgL_nil))
noncomputable def bo38_0 (k m:Nat) (v:sq38_0.V):=body Try.prog (stepper Try.prog (cfg38 k) lim38) .go cb38_0 (sq38_0.st v) (loopK (fr38_0 k) (fu38_0 k m))
theorem pp38_0 (k m:Nat) (v:sq38_0.V):fu38_0 k (m+1) v=(bo38_0 k m v).eval∧(bo38_0 k m v).left=(bo38_0 k m v).right:=⟨by kernel_rfl,by kernel_rfl⟩
theorem fr38_0_ok (k:Nat):FragOK Try.prog lim38 (fr38_0 k) co38_0 :=
 frag_cast (by kernel_rfl) (loop_ok (cfg38_ok k) (planOK_go _) (fu38_0 k) k (fun _=>rfl) (fun _=>rfl) (pp38_0 k))
def pl38_1 (k:Nat):Plan:=(.seq .go (.seq (.sub (.seq .go (.seq .go (.seq .go (.seq .go (.seq (.sub (.frag (fr38_0 k))) .go)))))) .go))
noncomputable def bo38_1 (k m:Nat) (v:sq38_1.V):=body Try.prog (stepper Try.prog (cfg38 k) lim38) (pl38_1 k) cb38_1 (sq38_1.st v) (loopK (fr38_1 k) (fu38_1 k m))
theorem pp38_1 (k m:Nat) (v:sq38_1.V):fu38_1 k (m+1) v=(bo38_1 k m v).eval∧(bo38_1 k m v).left=(bo38_1 k m v).right:=⟨by kernel_rfl,by kernel_rfl⟩
theorem fr38_1_ok (k:Nat):FragOK Try.prog lim38 (fr38_1 k) co38_1 :=
 frag_cast (by kernel_rfl) (loop_ok (cfg38_ok k) (plan_of (L:=[(fr38_0 k,co38_0)]) (by kernel_rfl) (.cons (fr38_0_ok k) .nil)) (fu38_1 k) k (fun _=>rfl) (fun _=>rfl) (pp38_1 k))
def pl38 (k:Nat):Plan:=(.seq .go (.seq .go (.seq .go (.seq .go (.seq (.seq .go (.sub (.frag (fr38_1 k)))) .go)))))
noncomputable def bo38 (k:Nat) (x:AT (sp38 k).ps):=fnT Try.prog (cfg38 k) lim38 Try.f38 (bodyOf Try.f38) (pl38 k) (sp38 k) x
theorem vv38 (k:Nat) (x:AT (sp38 k).ps):(sp38 k).impl x=(bo38 k x).eval∧(bo38 k x).left=(bo38 k x).right:=⟨by kernel_rfl,by kernel_rfl⟩
theorem v38 (k:Nat):Callable Try.prog 38∧Valid Try.prog 38 (sp38 k) :=
 fn_of (n:=lim38) (fn:=Try.f38) (p:=(pl38 k)) (cfg38_ok k) (by kernel_rfl) (plan_of (L:=[(fr38_1 k,co38_1)]) (by kernel_rfl) (.cons (fr38_1_ok k) .nil)) (vv38 k)
def F40_0 (k:Nat):Nat→(List Int)→Int→Int→Option TY70
 |0,_,_,_=>none
 |n+1,t0,t3,t4 =>
  let x3:=(decide (t4<(length t0:Int)))
  bif x3 then
  if 0≤t4∧t4<(length t0:Int) then
  let x4:=(wrap .i64 ((getD t0 (toNat t4) (0:Int))+(1:Int)))
  (F40_0 k n t0 (maxI t3 x4) (wrap .i64 (t4+(1:Int)))).bind some
  else none
  else
  some ((t3,()),())
def sq40_0:Shape:=⟨[],[(0,.val KD62),(3,.val (.int .i64)),(4,.val (.int .i64))],[]⟩
def fu40_0 (k m:Nat) (v:sq40_0.V):=F40_0 k m v.1.1 v.1.2.1 v.1.2.2.1
def fr40_0 (k:Nat):Frag:=⟨sq40_0,[(.exit 0,⟨[],[(3,.val (.int .i64))],[]⟩)],fu40_0 k k⟩
def F40 (k:Nat) (a0:(List Int)):Option TY73 :=
 (F40_0 k k a0 (0:Int) (0:Int)).bind fun r5 =>
 some ((r5.1.1,()),())
def sp40 (k:Nat):Spec:=⟨[.val KD62],[.val (.int .i64)],fun x=>F40 k x.1⟩
def lim40:Lim:=⟨19,1,false,false,[],[]⟩
def cfg40 (k:Nat):Nat→Option Spec:=cfgL []
noncomputable def co40_0:Code:=codeAt (bodyOf Try.f40) [.r,.r,.l,.r,.s]
noncomputable def cb40_0:Code:=codeAt (bodyOf Try.f40) [.r,.r,.l,.r,.s,.b]
noncomputable def co40:Code:=codeAt (bodyOf Try.f40) []
theorem cfg40_ok (k:Nat):CfgOK Try.prog (cfg40 k):=cfgL_nil
noncomputable def bo40_0 (k m:Nat) (v:sq40_0.V):=body Try.prog (stepper Try.prog (cfg40 k) lim40) .go cb40_0 (sq40_0.st v) (loopK (fr40_0 k) (fu40_0 k m))
theorem pp40_0 (k m:Nat) (v:sq40_0.V):fu40_0 k (m+1) v=(bo40_0 k m v).eval∧(bo40_0 k m v).left=(bo40_0 k m v).right:=⟨by kernel_rfl,by kernel_rfl⟩
theorem fr40_0_ok (k:Nat):FragOK Try.prog lim40 (fr40_0 k) co40_0 :=
 frag_cast (by kernel_rfl) (loop_ok (cfg40_ok k) (planOK_go _) (fu40_0 k) k (fun _=>rfl) (fun _=>rfl) (pp40_0 k))
def pl40 (k:Nat):Plan:=(.seq .go (.seq .go (.seq (.seq .go (.sub (.frag (fr40_0 k)))) .go)))
noncomputable def bo40 (k:Nat) (x:AT (sp40 k).ps):=fnT Try.prog (cfg40 k) lim40 Try.f40 (bodyOf Try.f40) (pl40 k) (sp40 k) x
theorem vv40 (k:Nat) (x:AT (sp40 k).ps):(sp40 k).impl x=(bo40 k x).eval∧(bo40 k x).left=(bo40 k x).right:=⟨by kernel_rfl,by kernel_rfl⟩
theorem v40 (k:Nat):Callable Try.prog 40∧Valid Try.prog 40 (sp40 k) :=
 fn_of (n:=lim40) (fn:=Try.f40) (p:=(pl40 k)) (cfg40_ok k) (by kernel_rfl) (plan_of (L:=[(fr40_0 k,co40_0)]) (by kernel_rfl) (.cons (fr40_0_ok k) .nil)) (vv40 k)
def F39_0 (k:Nat):Nat→TY59→(List Int)→(List Int)→Int→Int→(List Bool)→(List (List Bool))→Option (((TY59×(List Int)×(List Int)×Int×Unit)×((List Bool)×(List (List Bool))×Unit)))
 |0,_,_,_,_,_,_,_=>none
 |n+1,t0,t1,t2,t8,t10,c19,e0 =>
  let x3:=(decide (t10<(length t1:Int)))
  bif x3 then
  if 0≤t10∧t10<(length t2:Int) then
  if 0≤t8∧t8<(length t0:Int) then
  let x4:=(getD t0 (toNat t8) ([]:TY68))
  if 0≤t10∧t10<(length t1:Int) then
  (F72 k x4 (getD t1 (toNat t10) (0:Int))).bind fun r5 =>
  if 0≤(getD t2 (toNat t10) (0:Int))∧(getD t2 (toNat t10) (0:Int))<(length c19:Int) then
  let x6:=(toNat (getD t2 (toNat t10) (0:Int)))
  (F39_0 k n t0 t1 t2 t8 (wrap .i64 (t10+(1:Int))) (List.set c19 x6 r5.1.1) e0).bind some
  else none
  else none
  else none
  else none
  else
  some ((t0,t1,t2,t8,()),(c19,e0,()))
def sq39_0:Shape:=⟨[(7,KD55)],[(0,.val KD36),(1,.val KD62),(2,.val KD62),(7,.at 2000007 []),(8,.val (.int .i64)),(9,.at 19 []),(10,.val (.int .i64))],[(19,none,KD71),(2000007,none,KD55)]⟩
def fu39_0 (k m:Nat) (v:sq39_0.V):=F39_0 k m v.1.1 v.1.2.1 v.1.2.2.1 v.1.2.2.2.1 v.1.2.2.2.2.1 v.2.1 v.2.2.1
def fr39_0 (k:Nat):Frag:=⟨sq39_0,[(.exit 2,⟨[],[(0,.val KD36),(1,.val KD62),(2,.val KD62),(7,.at 2000007 []),(8,.val (.int .i64)),(9,.at 19 [])],[(19,none,KD71),(2000007,none,KD55)]⟩)],fu39_0 k k⟩
def F39_1 (k:Nat):Nat→TY59→(List Int)→(List Int)→Int→(List (List Bool))→Option ((Unit×((List (List Bool))×Unit)))
 |0,_,_,_,_,_=>none
 |n+1,t0,t1,t2,t8,e0 =>
  let x1:=(decide (t8<(length t0:Int)))
  bif x1 then
  (F40 k t2).bind fun r2 =>
  if (0≤r2.1.1∧r2.1.1<r2.1.1+1)∧r2.1.1≤9223372036854775807∧((1:Nat):Int)*r2.1.1≤281474976710656 then
  (F39_0 k k t0 t1 t2 t8 (0:Int) (replicate (toNat r2.1.1) false) e0).bind fun r7 =>
  if (length r7.2.2.1+length [r7.2.1])*(24*2)≤281474976710656∧length r7.2.2.1+length [r7.2.1]≤9223372036854775807 then
  (F39_1 k n r7.1.1 r7.1.2.1 r7.1.2.2.1 (wrap .i64 (r7.1.2.2.2.1+(1:Int))) (r7.2.2.1++[r7.2.1])).bind some
  else none
  else none
  else
  some ((),(e0,()))
def sq39_1:Shape:=⟨[(7,KD55)],[(0,.val KD36),(1,.val KD62),(2,.val KD62),(7,.at 2000007 []),(8,.val (.int .i64))],[(2000007,none,KD55)]⟩
def fu39_1 (k m:Nat) (v:sq39_1.V):=F39_1 k m v.1.1 v.1.2.1 v.1.2.2.1 v.1.2.2.2.1 v.2.1
def fr39_1 (k:Nat):Frag:=⟨sq39_1,[(.exit 0,⟨[(7,KD55)],[(7,.at 2000007 [])],[(2000007,none,KD55)]⟩)],fu39_1 k k⟩
def F39 (k:Nat) (a0:TY59) (a1:(List Int)) (a2:(List Int)):Option (((List (List Bool))×Unit)×Unit) :=
 (F39_1 k k a0 a1 a2 (0:Int) []).bind fun r14 =>
 some ((r14.2.1,()),())
def sp39 (k:Nat):Spec:=⟨[.val KD36,.val KD62,.val KD62],[.own KD55],fun x=>F39 k x.1 x.2.1 x.2.2.1⟩
def lim39:Lim:=⟨46,3,false,false,[],[]⟩
def cfg39 (k:Nat):Nat→Option Spec:=cfgL [(40,sp40 k),(72,sp72 k)]
noncomputable def co39_0:Code:=codeAt (bodyOf Try.f39) [.r,.r,.l,.r,.s,.b,.r,.l,.s,.r,.l,.r,.s]
noncomputable def cb39_0:Code:=codeAt (bodyOf Try.f39) [.r,.r,.l,.r,.s,.b,.r,.l,.s,.r,.l,.r,.s,.b]
noncomputable def co39_1:Code:=codeAt (bodyOf Try.f39) [.r,.r,.l,.r,.s]
noncomputable def cb39_1:Code:=codeAt (bodyOf Try.f39) [.r,.r,.l,.r,.s,.b]
noncomputable def co39:Code:=codeAt (bodyOf Try.f39) []
theorem cfg39_ok (k:Nat):CfgOK Try.prog (cfg39 k):=cfgL_cons (v40 k) (cfgL_cons (v72 k) (cfgL_nil))
noncomputable def bo39_0 (k m:Nat) (v:sq39_0.V):=body Try.prog (stepper Try.prog (cfg39 k) lim39) .go cb39_0 (sq39_0.st v) (loopK (fr39_0 k) (fu39_0 k m))
theorem pp39_0 (k m:Nat) (v:sq39_0.V):fu39_0 k (m+1) v=(bo39_0 k m v).eval∧(bo39_0 k m v).left=(bo39_0 k m v).right:=⟨by kernel_rfl,by kernel_rfl⟩
theorem fr39_0_ok (k:Nat):FragOK Try.prog lim39 (fr39_0 k) co39_0 :=
 frag_cast (by kernel_rfl) (loop_ok (cfg39_ok k) (planOK_go _) (fu39_0 k) k (fun _=>rfl) (fun _=>rfl) (pp39_0 k))
def pl39_1 (k:Nat):Plan:=(.seq .go (.seq (.sub (.seq .go (.seq (.seq .go (.sub (.frag (fr39_0 k)))) .go))) .go))
noncomputable def bo39_1 (k m:Nat) (v:sq39_1.V):=body Try.prog (stepper Try.prog (cfg39 k) lim39) (pl39_1 k) cb39_1 (sq39_1.st v) (loopK (fr39_1 k) (fu39_1 k m))
theorem pp39_1 (k m:Nat) (v:sq39_1.V):fu39_1 k (m+1) v=(bo39_1 k m v).eval∧(bo39_1 k m v).left=(bo39_1 k m v).right:=⟨by kernel_rfl,by kernel_rfl⟩
theorem fr39_1_ok (k:Nat):FragOK Try.prog lim39 (fr39_1 k) co39_1 :=
 frag_cast (by kernel_rfl) (loop_ok (cfg39_ok k) (plan_of (L:=[(fr39_0 k,co39_0)]) (by kernel_rfl) (.cons (fr39_0_ok k) .nil)) (fu39_1 k) k (fun _=>rfl) (fun _=>rfl) (pp39_1 k))
def pl39 (k:Nat):Plan:=(.seq .go (.seq .go (.seq (.seq .go (.sub (.frag (fr39_1 k)))) .go)))
noncomputable def bo39 (k:Nat) (x:AT (sp39 k).ps):=fnT Try.prog (cfg39 k) lim39 Try.f39 (bodyOf Try.f39) (pl39 k) (sp39 k) x
theorem vv39 (k:Nat) (x:AT (sp39 k).ps):(sp39 k).impl x=(bo39 k x).eval∧(bo39 k x).left=(bo39 k x).right:=⟨by kernel_rfl,by kernel_rfl⟩
theorem v39 (k:Nat):Callable Try.prog 39∧Valid Try.prog 39 (sp39 k) :=
 fn_of (n:=lim39) (fn:=Try.f39) (p:=(pl39 k)) (cfg39_ok k) (by kernel_rfl) (plan_of (L:=[(fr39_1 k,co39_1)]) (by kernel_rfl) (.cons (fr39_1_ok k) .nil)) (vv39 k)
def rs73 (f73:(TY47→Option TY73)):Spec:=⟨[.val KD30],[.val (.int .i64)],fun x=>f73 x.1⟩
def F73_0 (k:Nat) (f73:(TY47→Option TY73)):Nat→Int→Int→TY28→Option (((Int×Unit)×(TY28×Unit)))
 |0,_,_,_=>none
 |n+1,t3,t4,c1 =>
  let x5:=(decide (t4<(length c1.2.2.2.2.2.1:Int)))
  bif x5 then
  if 0≤t4∧t4<(length c1.2.2.2.2.2.1:Int) then
  let x6:=(getD c1.2.2.2.2.2.1 (toNat t4) (Tree.mk ((0:Int),((0:Int),((0:Int),((0:Int),(ByteArray.empty,()))))) []))
  (f73 x6).bind fun r7 =>
  let x8:=(minI (wrap .i64 (t3+r7.1.1)) (1000000000:Int))
  (F73_0 k f73 n x8 (wrap .i64 (t4+(1:Int))) c1).bind some
  else none
  else
  some ((t3,()),(c1,()))
def sq73_0:Shape:=⟨[],[(1,.ptr 1 []),(3,.val (.int .i64)),(4,.val (.int .i64))],[(1,some 65,KD19)]⟩
def fu73_0 (k:Nat) (f73:(TY47→Option TY73)) (m:Nat) (v:sq73_0.V):=F73_0 k f73 m v.1.1 v.1.2.1 v.2.1
def fr73_0 (k:Nat) (f73:(TY47→Option TY73)):Frag:=⟨sq73_0,[(.exit 1,⟨[],[(1,.ptr 1 []),(3,.val (.int .i64))],[(1,some 65,KD19)]⟩)],fu73_0 k f73 k⟩
def B73 (k:Nat) (f73:(TY47→Option TY73)) (a0:TY47):Option TY73 :=
 bif ((Tree.a a0).1==(1:Int)) then
 some (((0:Int),()),())
 else
 bif ((Tree.a a0).1==(2:Int)) then
 some (((1:Int),()),())
 else
 bif ((Tree.a a0).1==(3:Int)) then
 some (((1:Int),()),())
 else
 (F73_0 k f73 k (0:Int) (0:Int) ((Tree.a a0).1,((Tree.a a0).2.1,((Tree.a a0).2.2.1,((Tree.a a0).2.2.2.1,((Tree.a a0).2.2.2.2.1,((Tree.l a0),()))))))).bind fun r9 =>
 bif (r9.2.1.1==(7:Int)) then
 let x12:=(minI (wrap .i64 (r9.1.1*r9.2.1.2.2.1)) (1000000000:Int))
 some ((x12,()),())
 else
 some ((r9.1.1,()),())
def sb73 (k:Nat) (f73:(TY47→Option TY73)):Spec:=rs73 (B73 k f73)
def lim73:Lim:=⟨37,1,false,false,[],[]⟩
def cfg73 (k:Nat) (f73:(TY47→Option TY73)):Nat→Option Spec:=cfgL [(73,rs73 f73)]
noncomputable def co73_0:Code:=codeAt (bodyOf Try.f73) [.r,.r,.r,.l,.r,.s]
noncomputable def cb73_0:Code:=codeAt (bodyOf Try.f73) [.r,.r,.r,.l,.r,.s,.b]
noncomputable def co73:Code:=codeAt (bodyOf Try.f73) []
theorem cfg73_ok (k:Nat) (f73:(TY47→Option TY73)) (h73:Callable Try.prog 73∧Valid Try.prog 73 (rs73 f73)):CfgOK Try.prog (cfg73 k f73):=cfgL_cons h73 (cfgL_nil)
noncomputable def bo73_0 (k:Nat) (f73:(TY47→Option TY73)) (m:Nat) (v:sq73_0.V):=body Try.prog (stepper Try.prog (cfg73 k f73) lim73) .go cb73_0 (sq73_0.st v) (loopK (fr73_0 k f73) (fu73_0 k f73 m))
theorem pp73_0 (k:Nat) (f73:(TY47→Option TY73)) (m:Nat) (v:sq73_0.V):fu73_0 k f73 (m+1) v=(bo73_0 k f73 m v).eval∧(bo73_0 k f73 m v).left=(bo73_0 k f73 m v).right:=⟨by kernel_rfl,by kernel_rfl⟩
theorem fr73_0_ok (k:Nat) (f73:(TY47→Option TY73)) (h73:Callable Try.prog 73∧Valid Try.prog 73 (rs73 f73)):FragOK Try.prog lim73 (fr73_0 k f73) co73_0 :=
 frag_cast (by kernel_rfl) (loop_ok (cfg73_ok k f73 h73) (planOK_go _) (fu73_0 k f73) k (fun _=>rfl) (fun _=>rfl) (pp73_0 k f73))
def pl73 (k:Nat) (f73:(TY47→Option TY73)):Plan:=(.seq .go (.seq .go (.seq .go (.seq (.seq .go (.sub (.frag (fr73_0 k f73)))) .go))))
noncomputable def bo73 (k:Nat) (f73:(TY47→Option TY73)) (x:AT (sb73 k f73).ps):=fnT Try.prog (cfg73 k f73) lim73 Try.f73 (bodyOf Try.f73) (pl73 k f73) (sb73 k f73) x
theorem vv73 (k:Nat) (f73:(TY47→Option TY73)) (x:AT (sb73 k f73).ps):(sb73 k f73).impl x=(bo73 k f73 x).eval∧(bo73 k f73 x).left=(bo73 k f73 x).right:=⟨by kernel_rfl,by kernel_rfl⟩
theorem b73 (k:Nat) (f73:(TY47→Option TY73)) (h73:Callable Try.prog 73∧Valid Try.prog 73 (rs73 f73)):Callable Try.prog 73∧Valid Try.prog 73 (sb73 k f73) :=
 fn_of (n:=lim73) (fn:=Try.f73) (p:=(pl73 k f73)) (cfg73_ok k f73 h73) (by kernel_rfl) (plan_of (L:=[(fr73_0 k f73,co73_0)]) (by kernel_rfl) (.cons (fr73_0_ok k f73 h73) .nil)) (vv73 k f73)
def R73:Nat→(TY47→Option TY73)
 |0=>fun _=>none
 |k+1=>B73 k (R73 k)
def F73 (k:Nat) (a0_:TY47):Option TY73:=(R73 k) a0_
def sp73 (k:Nat):Spec:=⟨[.val KD30],[.val (.int .i64)],fun x=>F73 k x.1⟩
theorem r73 (k:Nat):(Callable Try.prog 73∧Valid Try.prog 73 (rs73 (R73 k))):=by
 induction k with
 |zero=>exact ⟨⟨Try.f73,by kernel_rfl,by kernel_rfl,by kernel_rfl⟩,fun x r h=>by cases (show (none:Option _)=some r from h)⟩
 |succ k ih=>exact b73 k (R73 k) ih
theorem v73 (k:Nat):Callable Try.prog 73∧Valid Try.prog 73 (sp73 k):=(r73 k)
def F96_0 (k:Nat):Nat→Int→Int→TY33→TY33→Option TY17
 |0,_,_,_,_=>none
 |n+1,t0,t4,c2,c3 =>
  bif (decide (t4<t0)) then
  let x4:=(List.set (replicate 1 (0:Int)) 0 (0:Int))
  if (length c3.1+length x4)*(8*2)≤281474976710656∧length c3.1+length x4≤9223372036854775807 then
  let x5:=(List.set (replicate 1 (0:Int)) 0 (1152921504606846976:Int))
  if (length c3.2.1+length x5)*(8*2)≤281474976710656∧length c3.2.1+length x5≤9223372036854775807 then
  let x6:=(List.set (replicate 1 (0:Int)) 0 (1152921504606846976:Int))
  if (length c3.2.2.1+length x6)*(8*2)≤281474976710656∧length c3.2.2.1+length x6≤9223372036854775807 then
  (F96_0 k n t0 (wrap .i64 (t4+(1:Int))) c2 ((c3.1++x4),((c3.2.1++x5),((c3.2.2.1++x6),c3.2.2.2)))).bind some
  else none
  else none
  else none
  else
  some ((),(c2,c3,()))
def sq96_0:Shape:=⟨[],[(0,.val (.int .i64)),(2,.ptr 2 []),(3,.ptr 3 []),(4,.val (.int .i64))],[(2,some 81,KD16),(3,some 81,KD16)]⟩
def fu96_0 (k m:Nat) (v:sq96_0.V):=F96_0 k m v.1.1 v.1.2.1 v.2.1 v.2.2.1
def fr96_0 (k:Nat):Frag:=⟨sq96_0,[(.exit 0,⟨[],[(2,.ptr 2 []),(3,.ptr 3 [])],[(2,some 81,KD16),(3,some 81,KD16)]⟩)],fu96_0 k k⟩
def F96 (k:Nat) (a0:Int):Option TY29 :=
 (F96_0 k k a0 (0:Int) (([]:(List Int)),(([]:(List Int)),(([]:(List Int)),(([]:TY57),((0:Int),()))))) (([]:(List Int)),(([]:(List Int)),(([]:(List Int)),(([]:TY57),((1152921504606846976:Int),())))))).bind fun r7 =>
 some ((r7.2.2.1,()),())
def sp96 (k:Nat):Spec:=⟨[.val (.int .i64)],[.own KD16],fun x=>F96 k x.1⟩
def lim96:Lim:=⟨27,1,false,false,[],[]⟩
def cfg96 (k:Nat):Nat→Option Spec:=cfgL []
noncomputable def co96_0:Code:=codeAt (bodyOf Try.f96) [.r,.r,.l,.r,.s]
noncomputable def cb96_0:Code:=codeAt (bodyOf Try.f96) [.r,.r,.l,.r,.s,.b]
noncomputable def co96:Code:=codeAt (bodyOf Try.f96) []
theorem cfg96_ok (k:Nat):CfgOK Try.prog (cfg96 k):=cfgL_nil
noncomputable def bo96_0 (k m:Nat) (v:sq96_0.V):=body Try.prog (stepper Try.prog (cfg96 k) lim96) .go cb96_0 (sq96_0.st v) (loopK (fr96_0 k) (fu96_0 k m))
theorem pp96_0 (k m:Nat) (v:sq96_0.V):fu96_0 k (m+1) v=(bo96_0 k m v).eval∧(bo96_0 k m v).left=(bo96_0 k m v).right:=⟨by kernel_rfl,by kernel_rfl⟩
theorem fr96_0_ok (k:Nat):FragOK Try.prog lim96 (fr96_0 k) co96_0 :=
 frag_cast (by kernel_rfl) (loop_ok (cfg96_ok k) (planOK_go _) (fu96_0 k) k (fun _=>rfl) (fun _=>rfl) (pp96_0 k))
def pl96 (k:Nat):Plan:=(.seq .go (.seq .go (.seq (.seq .go (.sub (.frag (fr96_0 k)))) .go)))
noncomputable def bo96 (k:Nat) (x:AT (sp96 k).ps):=fnT Try.prog (cfg96 k) lim96 Try.f96 (bodyOf Try.f96) (pl96 k) (sp96 k) x
theorem vv96 (k:Nat) (x:AT (sp96 k).ps):(sp96 k).impl x=(bo96 k x).eval∧(bo96 k x).left=(bo96 k x).right:=⟨by kernel_rfl,by kernel_rfl⟩
theorem v96 (k:Nat):Callable Try.prog 96∧Valid Try.prog 96 (sp96 k) :=
 fn_of (n:=lim96) (fn:=Try.f96) (p:=(pl96 k)) (cfg96_ok k) (by kernel_rfl) (plan_of (L:=[(fr96_0 k,co96_0)]) (by kernel_rfl) (.cons (fr96_0_ok k) .nil)) (vv96 k)
def F95 (k:Nat):Option TY29 :=
 (F96 k (0:Int)).bind fun r1 =>
 some (((r1.1.1.1,(r1.1.1.2.1,(r1.1.1.2.2.1,(r1.1.1.2.2.2.1,((0:Int),r1.1.1.2.2.2.2.2))))),()),())
def sp95 (k:Nat):Spec:=⟨[],[.own KD16],fun x=>F95 k⟩
def lim95:Lim:=⟨5,0,false,false,[],[]⟩
def cfg95 (k:Nat):Nat→Option Spec:=cfgL [(96,sp96 k)]
noncomputable def co95:Code:=codeAt (bodyOf Try.f95) []
theorem cfg95_ok (k:Nat):CfgOK Try.prog (cfg95 k):=cfgL_cons (v96 k) (cfgL_nil)
noncomputable def bo95 (k:Nat) (x:AT (sp95 k).ps):=fnT Try.prog (cfg95 k) lim95 Try.f95 (bodyOf Try.f95) .go (sp95 k) x
theorem vv95 (k:Nat) (x:AT (sp95 k).ps):(sp95 k).impl x=(bo95 k x).eval∧(bo95 k x).left=(bo95 k x).right:=⟨by kernel_rfl,by kernel_rfl⟩
theorem v95 (k:Nat):Callable Try.prog 95∧Valid Try.prog 95 (sp95 k) :=
 fn_of (n:=lim95) (fn:=Try.f95) (p:=.go) (cfg95_ok k) (by kernel_rfl) (planOK_go _) (vv95 k)
def F101_0 (k:Nat):Nat→Int→Int→TY33→TY33→TY33→TY33→Option TY8
 |0,_,_,_,_,_,_=>none
 |n+1,t5,t7,c2,c3,c4,c6 =>
  bif (decide (t7<t5)) then
  if 0≤t7∧t7<(length c2.1:Int) then
  if 0≤t7∧t7<(length c6.1:Int) then
  let x4:=(List.set c6.1 (toNat t7) (getD c2.1 (toNat t7) (0:Int)))
  (F101_0 k n t5 (wrap .i64 (t7+(1:Int))) c2 c3 c4 (x4,c6.2)).bind some
  else none
  else none
  else
  some ((t5,()),(c2,c3,c4,c6,()))
def sq101_0:Shape:=⟨[],[(2,.ptr 2 []),(3,.ptr 3 []),(4,.ptr 4 []),(5,.val (.int .i64)),(6,.ptr 6 []),(7,.val (.int .i64))],[(2,some 81,KD15),(3,some 81,KD15),(4,some 81,KD16),(6,some 81,KD16)]⟩
def fu101_0 (k m:Nat) (v:sq101_0.V):=F101_0 k m v.1.1 v.1.2.1 v.2.1 v.2.2.1 v.2.2.2.1 v.2.2.2.2.1
def fr101_0 (k:Nat):Frag:=⟨sq101_0,[(.exit 0,⟨[],[(2,.ptr 2 []),(3,.ptr 3 []),(4,.ptr 4 []),(5,.val (.int .i64)),(6,.ptr 6 [])],[(2,some 81,KD15),(3,some 81,KD15),(4,some 81,KD16),(6,some 81,KD16)]⟩)],fu101_0 k k⟩
def F101_1 (k:Nat):Nat→Int→Int→TY33→TY33→TY33→TY33→Option TY8
 |0,_,_,_,_,_,_=>none
 |n+1,t5,t8,c2,c3,c4,c6 =>
  let x14:=(decide (t8<(length c3.1:Int)))
  bif x14 then
  if 0≤t8∧t8<(length c3.1:Int) then
  if 0≤(wrap .i64 (t5+t8))∧(wrap .i64 (t5+t8))<(length c6.1:Int) then
  let x15:=(toNat (wrap .i64 (t5+t8)))
  let x16:=(List.set c6.1 x15 (getD c3.1 (toNat t8) (0:Int)))
  (F101_1 k n t5 (wrap .i64 (t8+(1:Int))) c2 c3 c4 (x16,c6.2)).bind some
  else none
  else none
  else
  some ((t5,()),(c2,c3,c4,c6,()))
def sq101_1:Shape:=⟨[],[(2,.ptr 2 []),(3,.ptr 3 []),(4,.ptr 4 []),(5,.val (.int .i64)),(6,.ptr 6 []),(8,.val (.int .i64))],[(2,some 81,KD15),(3,some 81,KD15),(4,some 81,KD16),(6,some 81,KD16)]⟩
def fu101_1 (k m:Nat) (v:sq101_1.V):=F101_1 k m v.1.1 v.1.2.1 v.2.1 v.2.2.1 v.2.2.2.1 v.2.2.2.2.1
def fr101_1 (k:Nat):Frag:=⟨sq101_1,[(.exit 2,⟨[],[(2,.ptr 2 []),(3,.ptr 3 []),(4,.ptr 4 []),(5,.val (.int .i64)),(6,.ptr 6 [])],[(2,some 81,KD15),(3,some 81,KD15),(4,some 81,KD16),(6,some 81,KD16)]⟩)],fu101_1 k k⟩
def F101_2 (k:Nat):Nat→Int→Int→TY33→TY33→TY33→Option TY17
 |0,_,_,_,_,_=>none
 |n+1,t5,t9,c3,c4,c6 =>
  let x28:=(decide (t9<(length c3.2.2.2.1:Int)))
  bif x28 then
  if 0≤t9∧t9<(length c3.2.2.2.1:Int) then
  let x29:=(getD c3.2.2.2.1 (toNat t9) ((0:Int),((0:Int),((0:Int),()))))
  if 0≤t9∧t9<(length c3.2.2.2.1:Int) then
  let x30:=(getD c3.2.2.2.1 (toNat t9) ((0:Int),((0:Int),((0:Int),()))))
  if 0≤t9∧t9<(length c3.2.2.2.1:Int) then
  let x31:=(getD c3.2.2.2.1 (toNat t9) ((0:Int),((0:Int),((0:Int),()))))
  let x32:=(List.set (replicate 1 ((0:Int),((0:Int),((0:Int),())))) 0 ((wrap .i64 (x29.1+t5)),((wrap .i64 (x30.2.1+t5)),(x31.2.2.1,()))))
  if (length c6.2.2.2.1+length x32)*(24*2)≤281474976710656∧length c6.2.2.2.1+length x32≤9223372036854775807 then
  (F101_2 k n t5 (wrap .i64 (t9+(1:Int))) c3 c4 (c6.1,(c6.2.1,(c6.2.2.1,((c6.2.2.2.1++x32),c6.2.2.2.2))))).bind some
  else none
  else none
  else none
  else none
  else
  some ((),(c4,c6,()))
def sq101_2:Shape:=⟨[],[(3,.ptr 3 []),(4,.ptr 4 []),(5,.val (.int .i64)),(6,.ptr 6 []),(9,.val (.int .i64))],[(3,some 81,KD15),(4,some 81,KD16),(6,some 81,KD16)]⟩
def fu101_2 (k m:Nat) (v:sq101_2.V):=F101_2 k m v.1.1 v.1.2.1 v.2.1 v.2.2.1 v.2.2.2.1
def fr101_2 (k:Nat):Frag:=⟨sq101_2,[(.exit 4,⟨[],[(4,.ptr 4 []),(6,.ptr 6 [])],[(4,some 81,KD16),(6,some 81,KD16)]⟩)],fu101_2 k k⟩
def F101 (k:Nat) (a0:TY33) (a1:TY33):Option TY29 :=
 let x1:=(wrap .i64 ((length a0.1:Int)+(length a1.1:Int)))
 (F96 k x1).bind fun r2 =>
 (F101_0 k k (length a0.1:Int) (0:Int) a0 a1 (([]:(List Int)),(([]:(List Int)),(([]:(List Int)),(([]:TY57),((0:Int),()))))) r2.1.1).bind fun r5 =>
 (F101_1 k k r5.1.1 (0:Int) r5.2.1 r5.2.2.1 r5.2.2.2.1 r5.2.2.2.2.1).bind fun r17 =>
 let y22:=r17.2.2.2.2.1
 if (length y22.2.2.2.1+length r17.2.1.2.2.2.1)*(24*2)≤281474976710656∧length y22.2.2.2.1+length r17.2.1.2.2.2.1≤9223372036854775807 then
 (F101_2 k k r17.1.1 (0:Int) r17.2.2.1 r17.2.2.2.1 (y22.1,(y22.2.1,(y22.2.2.1,((y22.2.2.2.1++r17.2.1.2.2.2.1),y22.2.2.2.2))))).bind fun r33 =>
 some ((r33.2.2.1,()),())
 else none
def sp101 (k:Nat):Spec:=⟨[.val KD15,.val KD15],[.own KD16],fun x=>F101 k x.1 x.2.1⟩
def lim101:Lim:=⟨93,2,false,false,[],[]⟩
def cfg101 (k:Nat):Nat→Option Spec:=cfgL [(96,sp96 k)]
noncomputable def co101_0:Code:=codeAt (bodyOf Try.f101) [.r,.r,.r,.l,.r,.s]
noncomputable def cb101_0:Code:=codeAt (bodyOf Try.f101) [.r,.r,.r,.l,.r,.s,.b]
noncomputable def co101_1:Code:=codeAt (bodyOf Try.f101) [.r,.r,.r,.r,.l,.r,.s]
noncomputable def cb101_1:Code:=codeAt (bodyOf Try.f101) [.r,.r,.r,.r,.l,.r,.s,.b]
noncomputable def co101_2:Code:=codeAt (bodyOf Try.f101) [.r,.r,.r,.r,.r,.r,.l,.r,.s]
noncomputable def cb101_2:Code:=codeAt (bodyOf Try.f101) [.r,.r,.r,.r,.r,.r,.l,.r,.s,.b]
noncomputable def co101:Code:=codeAt (bodyOf Try.f101) []
theorem cfg101_ok (k:Nat):CfgOK Try.prog (cfg101 k):=cfgL_cons (v96 k) (cfgL_nil)
noncomputable def bo101_0 (k m:Nat) (v:sq101_0.V):=body Try.prog (stepper Try.prog (cfg101 k) lim101) .go cb101_0 (sq101_0.st v) (loopK (fr101_0 k) (fu101_0 k m))
theorem pp101_0 (k m:Nat) (v:sq101_0.V):fu101_0 k (m+1) v=(bo101_0 k m v).eval∧(bo101_0 k m v).left=(bo101_0 k m v).right:=⟨by kernel_rfl,by kernel_rfl⟩
theorem fr101_0_ok (k:Nat):FragOK Try.prog lim101 (fr101_0 k) co101_0 :=
 frag_cast (by kernel_rfl) (loop_ok (cfg101_ok k) (planOK_go _) (fu101_0 k) k (fun _=>rfl) (fun _=>rfl) (pp101_0 k))
noncomputable def bo101_1 (k m:Nat) (v:sq101_1.V):=body Try.prog (stepper Try.prog (cfg101 k) lim101) .go cb101_1 (sq101_1.st v) (loopK (fr101_1 k) (fu101_1 k m))
theorem pp101_1 (k m:Nat) (v:sq101_1.V):fu101_1 k (m+1) v=(bo101_1 k m v).eval∧(bo101_1 k m v).left=(bo101_1 k m v).right:=⟨by kernel_rfl,by kernel_rfl⟩
theorem fr101_1_ok (k:Nat):FragOK Try.prog lim101 (fr101_1 k) co101_1 :=
 frag_cast (by kernel_rfl) (loop_ok (cfg101_ok k) (planOK_go _) (fu101_1 k) k (fun _=>rfl) (fun _=>rfl) (pp101_1 k))
noncomputable def bo101_2 (k m:Nat) (v:sq101_2.V):=body Try.prog (stepper Try.prog (cfg101 k) lim101) .go cb101_2 (sq101_2.st v) (loopK (fr101_2 k) (fu101_2 k m))
theorem pp101_2 (k m:Nat) (v:sq101_2.V):fu101_2 k (m+1) v=(bo101_2 k m v).eval∧(bo101_2 k m v).left=(bo101_2 k m v).right:=⟨by kernel_rfl,by kernel_rfl⟩
theorem fr101_2_ok (k:Nat):FragOK Try.prog lim101 (fr101_2 k) co101_2 :=
 frag_cast (by kernel_rfl) (loop_ok (cfg101_ok k) (planOK_go _) (fu101_2 k) k (fun _=>rfl) (fun _=>rfl) (pp101_2 k))
def pl101 (k:Nat):Plan:=(.seq .go (.seq .go (.seq .go (.seq (.seq .go (.sub (.frag (fr101_0 k)))) (.seq (.seq .go (.sub (.frag (fr101_1 k)))) (.seq .go (.seq (.seq .go (.sub (.frag (fr101_2 k)))) .go)))))))
noncomputable def bo101 (k:Nat) (x:AT (sp101 k).ps):=fnT Try.prog (cfg101 k) lim101 Try.f101 (bodyOf Try.f101) (pl101 k) (sp101 k) x
theorem vv101 (k:Nat) (x:AT (sp101 k).ps):(sp101 k).impl x=(bo101 k x).eval∧(bo101 k x).left=(bo101 k x).right:=⟨by kernel_rfl,by kernel_rfl⟩
theorem v101 (k:Nat):Callable Try.prog 101∧Valid Try.prog 101 (sp101 k) :=
 fn_of (n:=lim101) (fn:=Try.f101) (p:=(pl101 k)) (cfg101_ok k) (by kernel_rfl) (plan_of (L:=[(fr101_0 k,co101_0),(fr101_1 k,co101_1),(fr101_2 k,co101_2)]) (by kernel_rfl) (.cons (fr101_0_ok k) (.cons (fr101_1_ok k) (.cons (fr101_2_ok k) .nil)))) (vv101 k)
def F34 (k:Nat) (a0:Int) (a1:Int):Option TY73 :=
 let x1:=(minI (wrap .i64 (a0+a1)) (1152921504606846976:Int))
 some ((x1,()),())
def sp34 (k:Nat):Spec:=⟨[.val (.int .i64),.val (.int .i64)],[.val (.int .i64)],fun x=>F34 k x.1 x.2.1⟩
def lim34:Lim:=⟨9,2,false,false,[],[]⟩
def cfg34 (k:Nat):Nat→Option Spec:=cfgL []
noncomputable def co34:Code:=codeAt (bodyOf Try.f34) []
theorem cfg34_ok (k:Nat):CfgOK Try.prog (cfg34 k):=cfgL_nil
noncomputable def bo34 (k:Nat) (x:AT (sp34 k).ps):=fnT Try.prog (cfg34 k) lim34 Try.f34 (bodyOf Try.f34) .go (sp34 k) x
theorem vv34 (k:Nat) (x:AT (sp34 k).ps):(sp34 k).impl x=(bo34 k x).eval∧(bo34 k x).left=(bo34 k x).right:=⟨by kernel_rfl,by kernel_rfl⟩
theorem v34 (k:Nat):Callable Try.prog 34∧Valid Try.prog 34 (sp34 k) :=
 fn_of (n:=lim34) (fn:=Try.f34) (p:=.go) (cfg34_ok k) (by kernel_rfl) (planOK_go _) (vv34 k)
def F102_0 (k:Nat):Nat→Int→TY57→(Int×TY74)→Option (((Int×Unit)×(TY57×(Int×TY74)×Unit)))
 |0,_,_,_=>none
 |n+1,t5,c0,c3 =>
  let x6:=(decide (t5<(length c0:Int)))
  bif x6 then
  if 0≤t5∧t5<(length c0:Int) then
  let x7:=(getD c0 (toNat t5) ((0:Int),((0:Int),((0:Int),())))).1
  bif (decide (x7<c3.1)) then
  (F102_0 k n (wrap .i64 (t5+(1:Int))) c0 c3).bind some
  else
  if 0≤t5∧t5<(length c0:Int) then
  let x8:=(getD c0 (toNat t5) ((0:Int),((0:Int),((0:Int),())))).1
  bif (x8==c3.1) then
  if 0≤t5∧t5<(length c0:Int) then
  let x9:=(getD c0 (toNat t5) ((0:Int),((0:Int),((0:Int),())))).2.1
  bif (decide (x9<c3.2.1)) then
  (F102_0 k n (wrap .i64 (t5+(1:Int))) c0 c3).bind some
  else
  some ((t5,()),(c0,c3,()))
  else none
  else
  some ((t5,()),(c0,c3,()))
  else none
  else none
  else
  some ((t5,()),(c0,c3,()))
def sq102_0:Shape:=⟨[],[(0,.at 0 []),(3,.ptr 3 []),(5,.val (.int .i64))],[(0,none,KD38),(3,some 127,KD45)]⟩
def fu102_0 (k m:Nat) (v:sq102_0.V):=F102_0 k m v.1.1 v.2.1 v.2.2.1
def fr102_0 (k:Nat):Frag:=⟨sq102_0,[(.exit 0,⟨[],[(0,.at 0 []),(3,.ptr 3 []),(5,.val (.int .i64))],[(0,none,KD38),(3,some 127,KD45)]⟩)],fu102_0 k k⟩
def F102 (k:Nat) (a0:TY57) (a1:(Int×TY74)):Option ((TY57×Unit)×Unit) :=
 let x1:=(decide (a1.2.2.1≥(1152921504606846976:Int)))
 bif x1 then
 some ((a0,()),())
 else
 (F102_0 k k (0:Int) a0 a1).bind fun r10 =>
 let y11:=r10.1.1
 let y12:=r10.2.1
 let y13:=r10.2.2.1
 let x14:=(decide (y11<(length y12:Int)))
 bif x14 then
 if 0≤y11∧y11<(length y12:Int) then
 let x15:=(getD y12 (toNat y11) ((0:Int),((0:Int),((0:Int),())))).1
 bif (x15==y13.1) then
 if 0≤y11∧y11<(length y12:Int) then
 let x16:=(getD y12 (toNat y11) ((0:Int),((0:Int),((0:Int),())))).2.1
 bif (x16==y13.2.1) then
 let x17:=(replicate 0 ((0:Int),((0:Int),((0:Int),()))))
 if (length x17+length y12)*(24*2)≤281474976710656∧length x17+length y12≤9223372036854775807 then
 if 0≤y11∧y11<(length (x17++y12):Int) then
 let x18:=(getD (x17++y12) (toNat y11) ((0:Int),((0:Int),((0:Int),())))).2.2.1
 if 0≤y11∧y11<(length (x17++y12):Int) then
 let x19:=(List.set (x17++y12) (toNat y11) ((getD (x17++y12) (toNat y11) ((0:Int),((0:Int),((0:Int),())))).1,((getD (x17++y12) (toNat y11) ((0:Int),((0:Int),((0:Int),())))).2.1,((minI x18 y13.2.2.1),(getD (x17++y12) (toNat y11) ((0:Int),((0:Int),((0:Int),())))).2.2.2))))
 some ((x19,()),())
 else none
 else none
 else none
 else
 if 0≤(0:Int)∧(0:Int)≤y11∧y11≤(length y12:Int) then
 let x20:=(toNat y11-toNat (0:Int))
 if 0≤y11∧y11≤(length y12:Int)∧(length y12:Int)≤(length y12:Int) then
 let x21:=(toNat (length y12:Int)-toNat y11)
 let x22:=(replicate 0 ((0:Int),((0:Int),((0:Int),()))))
 if (length x22+length (take x20 (drop (toNat (0:Int)) y12)))*(24*2)≤281474976710656∧length x22+length (take x20 (drop (toNat (0:Int)) y12))≤9223372036854775807 then
 let x23:=(x22++(take x20 (drop (toNat (0:Int)) y12)))
 let x24:=(List.set (replicate 1 ((0:Int),((0:Int),((0:Int),())))) 0 y13)
 if (length x23+length x24)*(24*2)≤281474976710656∧length x23+length x24≤9223372036854775807 then
 if (length (x23++x24)+length (take x21 (drop (toNat y11) y12)))*(24*2)≤281474976710656∧length (x23++x24)+length (take x21 (drop (toNat y11) y12))≤9223372036854775807 then
 let x25:=((x23++x24)++(take x21 (drop (toNat y11) y12)))
 some ((x25,()),())
 else none
 else none
 else none
 else none
 else none
 else none
 else
 if 0≤(0:Int)∧(0:Int)≤y11∧y11≤(length y12:Int) then
 let x26:=(toNat y11-toNat (0:Int))
 if 0≤y11∧y11≤(length y12:Int)∧(length y12:Int)≤(length y12:Int) then
 let x27:=(toNat (length y12:Int)-toNat y11)
 let x28:=(replicate 0 ((0:Int),((0:Int),((0:Int),()))))
 if (length x28+length (take x26 (drop (toNat (0:Int)) y12)))*(24*2)≤281474976710656∧length x28+length (take x26 (drop (toNat (0:Int)) y12))≤9223372036854775807 then
 let x29:=(x28++(take x26 (drop (toNat (0:Int)) y12)))
 let x30:=(List.set (replicate 1 ((0:Int),((0:Int),((0:Int),())))) 0 y13)
 if (length x29+length x30)*(24*2)≤281474976710656∧length x29+length x30≤9223372036854775807 then
 if (length (x29++x30)+length (take x27 (drop (toNat y11) y12)))*(24*2)≤281474976710656∧length (x29++x30)+length (take x27 (drop (toNat y11) y12))≤9223372036854775807 then
 let x31:=((x29++x30)++(take x27 (drop (toNat y11) y12)))
 some ((x31,()),())
 else none
 else none
 else none
 else none
 else none
 else none
 else
 if 0≤(0:Int)∧(0:Int)≤y11∧y11≤(length y12:Int) then
 let x32:=(toNat y11-toNat (0:Int))
 if 0≤y11∧y11≤(length y12:Int)∧(length y12:Int)≤(length y12:Int) then
 let x33:=(toNat (length y12:Int)-toNat y11)
 let x34:=(replicate 0 ((0:Int),((0:Int),((0:Int),()))))
 if (length x34+length (take x32 (drop (toNat (0:Int)) y12)))*(24*2)≤281474976710656∧length x34+length (take x32 (drop (toNat (0:Int)) y12))≤9223372036854775807 then
 let x35:=(x34++(take x32 (drop (toNat (0:Int)) y12)))
 let x36:=(List.set (replicate 1 ((0:Int),((0:Int),((0:Int),())))) 0 y13)
 if (length x35+length x36)*(24*2)≤281474976710656∧length x35+length x36≤9223372036854775807 then
 if (length (x35++x36)+length (take x33 (drop (toNat y11) y12)))*(24*2)≤281474976710656∧length (x35++x36)+length (take x33 (drop (toNat y11) y12))≤9223372036854775807 then
 let x37:=((x35++x36)++(take x33 (drop (toNat y11) y12)))
 some ((x37,()),())
 else none
 else none
 else none
 else none
 else none
def sp102 (k:Nat):Spec:=⟨[.own KD38,.val KD45],[.own KD38],fun x=>F102 k x.1 x.2.1⟩
def lim102:Lim:=⟨99,2,false,false,[],[]⟩
def cfg102 (k:Nat):Nat→Option Spec:=cfgL []
noncomputable def co102_0:Code:=codeAt (bodyOf Try.f102) [.r,.r,.r,.l,.s]
noncomputable def cb102_0:Code:=codeAt (bodyOf Try.f102) [.r,.r,.r,.l,.s,.b]
noncomputable def co102:Code:=codeAt (bodyOf Try.f102) []
theorem cfg102_ok (k:Nat):CfgOK Try.prog (cfg102 k):=cfgL_nil
noncomputable def bo102_0 (k m:Nat) (v:sq102_0.V):=body Try.prog (stepper Try.prog (cfg102 k) lim102) .go cb102_0 (sq102_0.st v) (loopK (fr102_0 k) (fu102_0 k m))
theorem pp102_0 (k m:Nat) (v:sq102_0.V):fu102_0 k (m+1) v=(bo102_0 k m v).eval∧(bo102_0 k m v).left=(bo102_0 k m v).right:=⟨by kernel_rfl,by kernel_rfl⟩
theorem fr102_0_ok (k:Nat):FragOK Try.prog lim102 (fr102_0 k) co102_0 :=
 frag_cast (by kernel_rfl) (loop_ok (cfg102_ok k) (planOK_go _) (fu102_0 k) k (fun _=>rfl) (fun _=>rfl) (pp102_0 k))
def pl102 (k:Nat):Plan:=(.seq .go (.seq .go (.seq .go (.seq (.sub (.frag (fr102_0 k))) .go))))
noncomputable def bo102 (k:Nat) (x:AT (sp102 k).ps):=fnT Try.prog (cfg102 k) lim102 Try.f102 (bodyOf Try.f102) (pl102 k) (sp102 k) x
theorem vv102 (k:Nat) (x:AT (sp102 k).ps):(sp102 k).impl x=(bo102 k x).eval∧(bo102 k x).left=(bo102 k x).right:=⟨by kernel_rfl,by kernel_rfl⟩
theorem v102 (k:Nat):Callable Try.prog 102∧Valid Try.prog 102 (sp102 k) :=
 fn_of (n:=lim102) (fn:=Try.f102) (p:=(pl102 k)) (cfg102_ok k) (by kernel_rfl) (plan_of (L:=[(fr102_0 k,co102_0)]) (by kernel_rfl) (.cons (fr102_0_ok k) .nil)) (vv102 k)
end Go.Proofs.YtgmmopbpldgpcaaE

