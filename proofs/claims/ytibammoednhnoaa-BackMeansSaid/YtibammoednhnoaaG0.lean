/- Functions of the program, as Lean functions, with their contracts; printed by gen.py. Conditions: none. -/
import Derived.Test.YtibammoednhnoaaE36
import Derived.Test.YtibammoednhnoaaProg
set_option linter.unusedVariables false
namespace Go.Proofs.YtibammoednhnoaaE
open Kd
open List (length getD replicate take drop)
open Int (toNat)
open IntKind (wrap)
set_option maxRecDepth 20000
abbrev TY80:Type:=Int×(Int×Unit)
abbrev TY79:Type:=(Int×Unit)×Unit
abbrev TY78:Type:=(Bool×Unit)×Unit
abbrev KD77:Kd:=.sl true 4 .bool none
abbrev TY76:Type:=List (ByteArray×Int)
abbrev TY75:Type:=List TY80
abbrev TY74:Type:=Tree TY80
abbrev TY73:Type:=((List Int)×Unit)×Unit
abbrev KD72:Kd:=.sl true 5 (.int .u8) none
abbrev KD71:Kd:=.sl true 3 (.int .i64) none
abbrev KD70:Kd:=.sl false 5 (.int .u8) none
abbrev TY69:Type:=(Unit×((List Int)×Unit))
abbrev KD68:Kd:=.sl false 3 (.int .i64) none
abbrev KD67:Kd:=.pair (.mp true 82 .i64) .unit
abbrev TY66:Type:=Option TY76
abbrev TY65:Type:=List TY75
abbrev TY64:Type:=List TY74
abbrev TY63:Type:=((List (List Int))×Unit)×Unit
abbrev TY62:Type:=List (Int×TY80)
abbrev TY61:Type:=TY75×Unit
abbrev TY60:Type:=(Unit×((List (List Int))×Unit))
abbrev TY59:Type:=(List (List Int))×((List Int)×Unit)
abbrev KD58:Kd:=.sl true 51 KD77 none
abbrev TY57:Type:=TY66×Unit
abbrev KD56:Kd:=.sl false 51 (.sl false 4 .bool none) none
abbrev TY55:Type:=TY61×Unit
abbrev KD54:Kd:=.sl true 23 KD71 none
abbrev TY53:Type:=Tree (Int×(Int×(Int×(ByteArray×Unit))))
abbrev KD52:Kd:=.sl false 23 KD68 none
abbrev KD51:Kd:=.tl 108 (.pair (.int .i64) (.pair (.int .i64) .unit))
abbrev KD50:Kd:=.tree 108 (.pair (.int .i64) (.pair (.int .i64) .unit))
abbrev TY49:Type:=Tree (Int×(Int×(Int×(Int×(ByteArray×Unit)))))
abbrev KD48:Kd:=.sl true 140 (.pair (.int .i64) (.pair (.int .i64) .unit)) none
abbrev KD47:Kd:=.pair (.int .i64) (.pair (.int .i64) (.pair (.int .i64) .unit))
abbrev KD46:Kd:=.sl false 140 (.pair (.int .i64) (.pair (.int .i64) .unit)) none
abbrev TY45:Type:=TY65×Int×Int×Int×Int×Unit
abbrev TY44:Type:=(Int×Unit)×(TY59×Unit)
abbrev KD43:Kd:=.sl true 105 KD54 none
abbrev TY42:Type:=(TY49×Unit)×Unit
abbrev TY41:Type:=List (ByteArray×(TY53×Unit))
abbrev KD40:Kd:=.sl true 67 KD47 none
abbrev TY39:Type:=TY61×(TY65×Unit)
abbrev TY38:Type:=(((List (List Int))×(List (List Int))×Int×Unit)×((List (List Int))×Unit))
abbrev KD37:Kd:=.sl true 111 KD46 none
abbrev KD36:Kd:=.sl false 111 KD46 none
abbrev TY35:Type:=TY41×Unit
abbrev KD34:Kd:=.tree 115 (.pair (.int .i64) (.pair (.int .i64) (.pair (.int .i64) (.pair .str .unit))))
abbrev TY33:Type:=(List Int)×((List Int)×((List Int)×(TY62×(Int×Unit))))
abbrev KD32:Kd:=.pair KD54 (.pair KD71 .unit)
abbrev TY31:Type:=Int×(Int×(Int×(ByteArray×((List TY53)×Unit))))
abbrev KD30:Kd:=.pair KD52 (.pair KD68 .unit)
abbrev TY29:Type:=List TY33
abbrev KD28:Kd:=.tree 55 (.pair (.int .i64) (.pair (.int .i64) (.pair (.int .i64) (.pair (.int .i64) (.pair .str .unit)))))
abbrev TY27:Type:=(TY33×Unit)×Unit
abbrev TY26:Type:=Int×(Int×(Int×(Int×(ByteArray×((List TY49)×Unit)))))
abbrev KD25:Kd:=.sl true 117 (.pair .str (.pair KD34 .unit)) none
abbrev TY24:Type:=List (Int×(Int×(TY49×(TY49×Unit))))
abbrev TY23:Type:=(TY53×Unit)×TY35
abbrev KD22:Kd:=.pair (.int .i64) (.pair (.int .i64) (.pair (.int .i64) (.pair .str (.pair (.tl 115 (.pair (.int .i64) (.pair (.int .i64) (.pair (.int .i64) (.pair .str .unit))))) .unit))))
abbrev TY21:Type:=TY57×(TY29×((List (List Bool))×((List (List Int))×Unit)))
abbrev KD20:Kd:=.pair (.int .i64) (.pair (.int .i64) (.pair (.int .i64) (.pair (.int .i64) (.pair .str (.pair (.tl 55 (.pair (.int .i64) (.pair (.int .i64) (.pair (.int .i64) (.pair (.int .i64) (.pair .str .unit)))))) .unit)))))
abbrev TY19:Type:=Option TY21
abbrev TY18:Type:=TY21×Unit
abbrev TY17:Type:=(Unit×(TY33×TY33×Unit))
abbrev KD16:Kd:=.pair KD71 (.pair KD71 (.pair KD71 (.pair KD40 (.pair (.int .i64) .unit))))
abbrev KD15:Kd:=.pair KD68 (.pair KD68 (.pair KD68 (.pair (.sl false 67 KD47 none) (.pair (.int .i64) .unit))))
abbrev TY14:Type:=TY33×TY33×TY62×Unit
abbrev TY13:Type:=TY41×(TY24×Unit)
abbrev TY12:Type:=TY33×TY33×(List Bool)×(List Bool)×(List Bool)×Unit
abbrev KD11:Kd:=.sl false 65 KD15 none
abbrev KD10:Kd:=.sl false 57 (.pair (.int .i64) (.pair (.int .i64) (.pair KD28 (.pair KD28 .unit)))) none
abbrev KD9:Kd:=.pair KD67 (.pair KD11 (.pair KD56 (.pair (.sl true 90 KD72 none) .unit)))
abbrev TY8:Type:=((Int×Unit)×(TY33×TY33×TY33×TY33×Unit))
abbrev KD7:Kd:=.ep (.pair (.pair (.mp false 82 .i64) .unit) (.pair KD11 (.pair KD56 (.pair (.sl false 90 KD70 none) .unit))))
abbrev KD6:Kd:=.pair KD25 (.pair (.sl true 57 (.pair (.int .i64) (.pair (.int .i64) (.pair KD28 (.pair KD28 .unit)))) none) .unit)
abbrev KD5:Kd:=.pair (.sl false 117 (.pair .str (.pair KD34 .unit)) none) (.pair KD10 .unit)
abbrev TY4:Type:=(((List Int)×Int×TY29×Int×Int×Unit)×(TY19×Int×TY33×(List Int)×Unit))
abbrev TY3:Type:=TY13×((List Int)×((List Int)×((List (List Bool))×(TY29×(TY29×(Int×Unit))))))
abbrev KD2:Kd:=.pair KD6 (.pair KD71 (.pair KD71 (.pair KD58 (.pair (.sl true 65 KD16 none) (.pair (.sl true 65 KD16 none) (.pair (.int .i64) .unit))))))
abbrev KD1:Kd:=.pair KD5 (.pair KD71 (.pair KD71 (.pair KD58 (.pair (.sl true 65 KD15 none) (.pair (.sl true 65 KD15 none) (.pair (.int .i64) .unit))))))
abbrev KD0:Kd:=.pair KD5 (.pair KD68 (.pair KD68 (.pair KD56 (.pair KD11 (.pair KD11 (.pair (.int .i64) .unit))))))
def F59 (k:Nat) (a0:(List Int)):Option ((ByteArray×Unit)×Unit) :=
 if length a0≤9223372036854775807 then
 some (((bstr a0),()),())
 else none
def sp59 (k:Nat):Spec:=⟨[.val KD70],[.val .str],fun x=>F59 k x.1⟩
def lim59:Lim:=⟨5,1,false,false,[],[]⟩
def cfg59 (k:Nat):Nat→Option Spec:=cfgL []
noncomputable def co59:Code:=codeAt (bodyOf Try.f59) []
theorem cfg59_ok (k:Nat):CfgOK Try.prog (cfg59 k):=cfgL_nil
noncomputable def bo59 (k:Nat) (x:AT (sp59 k).ps):=fnT Try.prog (cfg59 k) lim59 Try.f59 (bodyOf Try.f59) .go (sp59 k) x
theorem vv59 (k:Nat) (x:AT (sp59 k).ps):(sp59 k).impl x=(bo59 k x).eval∧(bo59 k x).left=(bo59 k x).right:=⟨by kernel_rfl,by kernel_rfl⟩
theorem v59 (k:Nat):Callable Try.prog 59∧Valid Try.prog 59 (sp59 k) :=
 fn_of (n:=lim59) (fn:=Try.f59) (p:=.go) (cfg59_ok k) (by kernel_rfl) (planOK_go _) (vv59 k)
def F1038 (k:Nat) (a0:TY21) (a1:ByteArray):Option ((Int×Bool×Unit)×TY18) :=
 bif (!(Option.isSome a0.1.1)) then
 let x1:=(findM (Option.getD (some []:Option TY76) []) a1).1
 let x2:=(findM (Option.getD (some []:Option TY76) []) a1).2
 bif (!x2) then
 if (length (Option.getD (some []:Option TY76) []):Int)≤9223372036854775807 then
 let x3:=(length (Option.getD (some []:Option TY76) []):Int)
 if (Option.isSome (some []:Option TY76))=true then
 let x4:=(some (putM (Option.getD (some []:Option TY76) []) a1 x3))
 some ((x3,(!x2),()),(((x4,a0.1.2),a0.2),()))
 else none
 else none
 else
 some ((x1,(!x2),()),((((some []:Option TY76),a0.1.2),a0.2),()))
 else
 bif (!(findM (Option.getD a0.1.1 []) a1).2) then
 if (length (Option.getD a0.1.1 []):Int)≤9223372036854775807 then
 let x5:=(length (Option.getD a0.1.1 []):Int)
 if (Option.isSome a0.1.1)=true then
 some ((x5,(!(findM (Option.getD a0.1.1 []) a1).2),()),((((some (putM (Option.getD a0.1.1 []) a1 x5)),a0.1.2),a0.2),()))
 else none
 else none
 else
 some (((findM (Option.getD a0.1.1 []) a1).1,(!(findM (Option.getD a0.1.1 []) a1).2),()),(a0,()))
def sp1038 (k:Nat):Spec:=⟨[.ptr 87 KD9 [.fst],.val .str],[.val (.int .i64),.val .bool],fun x=>F1038 k x.1 x.2.1⟩
def lim1038:Lim:=⟨42,2,false,false,[],[]⟩
def cfg1038 (k:Nat):Nat→Option Spec:=cfgL []
noncomputable def co1038:Code:=codeAt (bodyOf Try.f38) []
theorem cfg1038_ok (k:Nat):CfgOK Try.prog (cfg1038 k):=cfgL_nil
noncomputable def bo1038 (k:Nat) (x:AT (sp1038 k).ps):=fnT Try.prog (cfg1038 k) lim1038 Try.f38 (bodyOf Try.f38) .go (sp1038 k) x
theorem vv1038 (k:Nat) (x:AT (sp1038 k).ps):(sp1038 k).impl x=(bo1038 k x).eval∧(bo1038 k x).left=(bo1038 k x).right:=⟨by kernel_rfl,by kernel_rfl⟩
theorem v1038 (k:Nat):Callable Try.prog 38∧Valid Try.prog 38 (sp1038 k) :=
 fn_of (n:=lim1038) (fn:=Try.f38) (p:=.go) (cfg1038_ok k) (by kernel_rfl) (planOK_go _) (vv1038 k)
def F35 (k:Nat) (a0:TY21) (a1:(List Int)):Option ((Int×Unit)×TY18) :=
 (F59 k a1).bind fun r1 =>
 (F1038 k a0 r1.1.1).bind fun r2 =>
 bif r2.1.2.1 then
 if (length r2.2.1.2.2.2.1+length [a1])*(24*2)≤281474976710656∧length r2.2.1.2.2.2.1+length [a1]≤9223372036854775807 then
 some ((r2.1.1,()),((r2.2.1.1,(r2.2.1.2.1,(r2.2.1.2.2.1,((r2.2.1.2.2.2.1++[a1]),r2.2.1.2.2.2.2)))),()))
 else none
 else
 some ((r2.1.1,()),(r2.2.1,()))
def sp35 (k:Nat):Spec:=⟨[.ptr 87 KD9 [],.own KD72],[.val (.int .i64)],fun x=>F35 k x.1 x.2.1⟩
def lim35:Lim:=⟨28,2,false,false,[],[]⟩
def cfg35 (k:Nat):Nat→Option Spec:=cfgL [(59,sp59 k),(38,sp1038 k)]
noncomputable def co35:Code:=codeAt (bodyOf Try.f35) []
theorem cfg35_ok (k:Nat):CfgOK Try.prog (cfg35 k):=cfgL_cons (v59 k) (cfgL_cons (v1038 k) (cfgL_nil))
noncomputable def bo35 (k:Nat) (x:AT (sp35 k).ps):=fnT Try.prog (cfg35 k) lim35 Try.f35 (bodyOf Try.f35) .go (sp35 k) x
theorem vv35 (k:Nat) (x:AT (sp35 k).ps):(sp35 k).impl x=(bo35 k x).eval∧(bo35 k x).left=(bo35 k x).right:=⟨by kernel_rfl,by kernel_rfl⟩
theorem v35 (k:Nat):Callable Try.prog 35∧Valid Try.prog 35 (sp35 k) :=
 fn_of (n:=lim35) (fn:=Try.f35) (p:=.go) (cfg35_ok k) (by kernel_rfl) (planOK_go _) (vv35 k)
def F61 (k:Nat) (a0:TY19) (a1:TY33) (a2:Int) (a3:Int):Option TY78 :=
 if 0≤a2∧a2<(length a1.1:Int) then
 let x1:=(decide ((getD a1.1 (toNat a2) (0:Int))<(0:Int)))
 bif x1 then
 some ((true,()),())
 else
 if (Option.isSome a0)=true then
 if (Option.isSome a0)=true then
 let x2:=(Option.getD a0 (((none:TY66),()),(([]:TY29),(([]:(List (List Bool))),(([]:(List (List Int))),()))))).2.2.1
 let x3:=(decide ((getD a1.1 (toNat a2) (0:Int))<(length x2:Int)))
 bif x3 then
 if (Option.isSome a0)=true then
 if (Option.isSome a0)=true then
 let x4:=(Option.getD a0 (((none:TY66),()),(([]:TY29),(([]:(List (List Bool))),(([]:(List (List Int))),()))))).2.2.1
 if 0≤(getD a1.1 (toNat a2) (0:Int))∧(getD a1.1 (toNat a2) (0:Int))<(length x4:Int) then
 let x5:=(getD x4 (toNat (getD a1.1 (toNat a2) (0:Int))) ([]:(List Bool)))
 let x6:=(decide (a3<(length x5:Int)))
 bif x6 then
 if (Option.isSome a0)=true then
 if (Option.isSome a0)=true then
 let x7:=(Option.getD a0 (((none:TY66),()),(([]:TY29),(([]:(List (List Bool))),(([]:(List (List Int))),()))))).2.2.1
 if 0≤(getD a1.1 (toNat a2) (0:Int))∧(getD a1.1 (toNat a2) (0:Int))<(length x7:Int) then
 let x8:=(getD x7 (toNat (getD a1.1 (toNat a2) (0:Int))) ([]:(List Bool)))
 if 0≤a3∧a3<(length x8:Int) then
 some (((getD x8 (toNat a3) false),()),())
 else none
 else none
 else none
 else none
 else
 some ((false,()),())
 else none
 else none
 else none
 else
 some ((false,()),())
 else none
 else none
 else none
def sp61 (k:Nat):Spec:=⟨[.val KD7,.val KD15,.val (.int .i64),.val (.int .i64)],[.val .bool],fun x=>F61 k x.1 x.2.1 x.2.2.1 x.2.2.2.1⟩
def lim61:Lim:=⟨50,4,false,false,[],[]⟩
def cfg61 (k:Nat):Nat→Option Spec:=cfgL []
noncomputable def co61:Code:=codeAt (bodyOf Try.f61) []
theorem cfg61_ok (k:Nat):CfgOK Try.prog (cfg61 k):=cfgL_nil
noncomputable def bo61 (k:Nat) (x:AT (sp61 k).ps):=fnT Try.prog (cfg61 k) lim61 Try.f61 (bodyOf Try.f61) .go (sp61 k) x
theorem vv61 (k:Nat) (x:AT (sp61 k).ps):(sp61 k).impl x=(bo61 k x).eval∧(bo61 k x).left=(bo61 k x).right:=⟨by kernel_rfl,by kernel_rfl⟩
theorem v61 (k:Nat):Callable Try.prog 61∧Valid Try.prog 61 (sp61 k) :=
 fn_of (n:=lim61) (fn:=Try.f61) (p:=.go) (cfg61_ok k) (by kernel_rfl) (planOK_go _) (vv61 k)
def F60 (k:Nat) (a0:Int) (a1:TY19) (a2:TY33) (a3:Int):Option ((Bool×Unit)×(TY19×TY33×Int×Unit)) :=
 (F61 k a1 a2 a0 a3).bind fun r1 =>
 some ((r1.1.1,()),(a1,a2,a3,()))
def sp60 (k:Nat):Spec:=⟨[.val (.int .i64),.ptr 81 KD7 [],.ptr 65 KD15 [],.ptr 3 (.int .i64) []],[.val .bool],fun x=>F60 k x.1 x.2.1 x.2.2.1 x.2.2.2.1⟩
def lim60:Lim:=⟨11,4,false,false,[],[]⟩
def cfg60 (k:Nat):Nat→Option Spec:=cfgL [(61,sp61 k)]
noncomputable def co60:Code:=codeAt (bodyOf Try.f60) []
theorem cfg60_ok (k:Nat):CfgOK Try.prog (cfg60 k):=cfgL_cons (v61 k) (cfgL_nil)
noncomputable def bo60 (k:Nat) (x:AT (sp60 k).ps):=fnT Try.prog (cfg60 k) lim60 Try.f60 (bodyOf Try.f60) .go (sp60 k) x
theorem vv60 (k:Nat) (x:AT (sp60 k).ps):(sp60 k).impl x=(bo60 k x).eval∧(bo60 k x).left=(bo60 k x).right:=⟨by kernel_rfl,by kernel_rfl⟩
theorem v60 (k:Nat):Callable Try.prog 60∧Valid Try.prog 60 (sp60 k) :=
 fn_of (n:=lim60) (fn:=Try.f60) (p:=.go) (cfg60_ok k) (by kernel_rfl) (planOK_go _) (vv60 k)
def F36_0 (k:Nat):Nat→(List Int)→Int→TY29→Int→Int→Int→Int→TY19→Int→TY33→(List Int)→Option TY4
 |0,_,_,_,_,_,_,_,_,_,_,_=>none
 |n+1,t1,t8,t21,t22,t23,t30,t31,c3,c5,c10,c17 =>
  bif (decide (t31<t30)) then
  if 0≤t31∧t31<(length c10.2.2.1:Int) then
  let x7:=(getD c10.2.2.1 (toNat t31) (0:Int))
  bif (decide (x7<(1152921504606846976:Int))) then
  (F60 k t31 c3 c10 c5).bind fun r8 =>
  bif r8.1.1 then
  if 0≤(wrap .i64 (t8+t31))∧(wrap .i64 (t8+t31))<(length c17:Int) then
  let x9:=(toNat (wrap .i64 (t8+t31)))
  (F36_0 k n t1 t8 t21 t22 t23 t30 (wrap .i64 (t31+(1:Int))) r8.2.1 r8.2.2.2.1 r8.2.2.1 (List.set c17 x9 (1:Int))).bind some
  else none
  else
  (F36_0 k n t1 t8 t21 t22 t23 t30 (wrap .i64 (t31+(1:Int))) r8.2.1 r8.2.2.2.1 r8.2.2.1 c17).bind some
  else
  (F36_0 k n t1 t8 t21 t22 t23 t30 (wrap .i64 (t31+(1:Int))) c3 c5 c10 c17).bind some
  else none
  else
  some ((t1,t8,t21,t22,t23,()),(c3,c5,c10,c17,()))
def sq36_0:Shape:=⟨[],[(1,.val KD70),(3,.ptr 3 []),(5,.ptr 5 []),(7,.at 17 []),(8,.val (.int .i64)),(10,.ptr 10 []),(11,.clo 60 [3,10,5]),(21,.val KD11),(22,.val (.int .i64)),(23,.val (.int .i64)),(30,.val (.int .i64)),(31,.val (.int .i64))],[(3,some 81,KD7),(5,some 3,(.int .i64)),(10,some 65,KD15),(17,none,KD72)]⟩
def fu36_0 (k m:Nat) (v:sq36_0.V):=F36_0 k m v.1.1 v.1.2.1 v.1.2.2.1 v.1.2.2.2.1 v.1.2.2.2.2.1 v.1.2.2.2.2.2.1 v.1.2.2.2.2.2.2.1 v.2.1 v.2.2.1 v.2.2.2.1 v.2.2.2.2.1
def fr36_0 (k:Nat):Frag:=⟨sq36_0,[(.exit 2,⟨[],[(1,.val KD70),(3,.ptr 3 []),(5,.ptr 5 []),(7,.at 17 []),(8,.val (.int .i64)),(10,.ptr 10 []),(11,.clo 60 [3,10,5]),(21,.val KD11),(22,.val (.int .i64)),(23,.val (.int .i64))],[(3,some 81,KD7),(5,some 3,(.int .i64)),(10,some 65,KD15),(17,none,KD72)]⟩)],fu36_0 k k⟩
def F36_1 (k:Nat):Nat→(List Int)→Int→TY29→Int→Int→TY62→Int→Int→TY19→Int→TY33→(List Int)→Option TY4
 |0,_,_,_,_,_,_,_,_,_,_,_,_=>none
 |n+1,t1,t8,t21,t22,t23,t52,t53,t54,c3,c5,c10,c17 =>
  bif (decide (t54<t53)) then
  if 0≤t54∧t54<(length t52:Int) then
  let x24:=(getD t52 (toNat t54) ((0:Int),((0:Int),((0:Int),()))))
  if 0≤(wrap .i64 (t8+x24.2.1))∧(wrap .i64 (t8+x24.2.1))<(length t1:Int) then
  let x25:=(getD t1 (toNat (wrap .i64 (t8+x24.2.1))) (0:Int))
  bif (x25==(1:Int)) then
  (F60 k x24.1 c3 c10 c5).bind fun r26 =>
  bif r26.1.1 then
  if 0≤(wrap .i64 (t8+x24.1))∧(wrap .i64 (t8+x24.1))<(length c17:Int) then
  let x27:=(toNat (wrap .i64 (t8+x24.1)))
  (F36_1 k n t1 t8 t21 t22 t23 t52 t53 (wrap .i64 (t54+(1:Int))) r26.2.1 r26.2.2.2.1 r26.2.2.1 (List.set c17 x27 (1:Int))).bind some
  else none
  else
  (F36_1 k n t1 t8 t21 t22 t23 t52 t53 (wrap .i64 (t54+(1:Int))) r26.2.1 r26.2.2.2.1 r26.2.2.1 c17).bind some
  else
  (F36_1 k n t1 t8 t21 t22 t23 t52 t53 (wrap .i64 (t54+(1:Int))) c3 c5 c10 c17).bind some
  else none
  else none
  else
  some ((t1,t8,t21,t22,t23,()),(c3,c5,c10,c17,()))
def sq36_1:Shape:=⟨[],[(1,.val KD70),(3,.ptr 3 []),(5,.ptr 5 []),(7,.at 17 []),(8,.val (.int .i64)),(10,.ptr 10 []),(11,.clo 60 [3,10,5]),(21,.val KD11),(22,.val (.int .i64)),(23,.val (.int .i64)),(52,.val (.sl false 67 KD47 none)),(53,.val (.int .i64)),(54,.val (.int .i64))],[(3,some 81,KD7),(5,some 3,(.int .i64)),(10,some 65,KD15),(17,none,KD72)]⟩
def fu36_1 (k m:Nat) (v:sq36_1.V):=F36_1 k m v.1.1 v.1.2.1 v.1.2.2.1 v.1.2.2.2.1 v.1.2.2.2.2.1 v.1.2.2.2.2.2.1 v.1.2.2.2.2.2.2.1 v.1.2.2.2.2.2.2.2.1 v.2.1 v.2.2.1 v.2.2.2.1 v.2.2.2.2.1
def fr36_1 (k:Nat):Frag:=⟨sq36_1,[(.exit 4,⟨[],[(1,.val KD70),(3,.ptr 3 []),(5,.ptr 5 []),(7,.at 17 []),(8,.val (.int .i64)),(10,.ptr 10 []),(21,.val KD11),(22,.val (.int .i64)),(23,.val (.int .i64))],[(3,some 81,KD7),(5,some 3,(.int .i64)),(10,some 65,KD15),(17,none,KD72)]⟩)],fu36_1 k k⟩
def F36_2 (k:Nat):Nat→(List Int)→Int→TY29→Int→Int→TY19→Int→(List Int)→Option TY69
 |0,_,_,_,_,_,_,_,_=>none
 |n+1,t1,t8,t21,t22,t23,c3,c5,c17 =>
  bif (decide (t23<t22)) then
  if 0≤t23∧t23<(length t21:Int) then
  let x39:=(getD t21 (toNat t23) (([]:(List Int)),(([]:(List Int)),(([]:(List Int)),(([]:TY62),((0:Int),()))))))
  (F36_0 k k t1 t8 t21 t22 t23 (length x39.1:Int) (0:Int) c3 c5 x39 c17).bind fun r40 =>
  (F36_1 k k r40.1.1 r40.1.2.1 r40.1.2.2.1 r40.1.2.2.2.1 r40.1.2.2.2.2.1 r40.2.2.2.1.2.2.2.1 (length r40.2.2.2.1.2.2.2.1:Int) (0:Int) r40.2.1 r40.2.2.1 r40.2.2.2.1 r40.2.2.2.2.1).bind fun r50 =>
  let x60:=(wrap .i64 (r50.1.2.1+(length r50.2.2.2.1.1:Int)))
  (F36_2 k n r50.1.1 x60 r50.1.2.2.1 r50.1.2.2.2.1 (wrap .i64 (r50.1.2.2.2.2.1+(1:Int))) r50.2.1 r50.2.2.1 r50.2.2.2.2.1).bind some
  else none
  else
  some ((),(c17,()))
def sq36_2:Shape:=⟨[],[(1,.val KD70),(3,.ptr 3 []),(5,.ptr 5 []),(7,.at 17 []),(8,.val (.int .i64)),(21,.val KD11),(22,.val (.int .i64)),(23,.val (.int .i64))],[(3,some 81,KD7),(5,some 3,(.int .i64)),(17,none,KD72)]⟩
def fu36_2 (k m:Nat) (v:sq36_2.V):=F36_2 k m v.1.1 v.1.2.1 v.1.2.2.1 v.1.2.2.2.1 v.1.2.2.2.2.1 v.2.1 v.2.2.1 v.2.2.2.1
def fr36_2 (k:Nat):Frag:=⟨sq36_2,[(.exit 0,⟨[],[(7,.at 17 [])],[(17,none,KD72)]⟩)],fu36_2 k k⟩
def F36 (k:Nat) (a0:TY19) (a1:(List Int)) (a2:Int):Option TY73 :=
 if (0≤(length a1:Int)∧(length a1:Int)<(length a1:Int)+1)∧(length a1:Int)≤9223372036854775807∧((1:Nat):Int)*(length a1:Int)≤281474976710656 then
 let x1:=(replicate (toNat (length a1:Int)) (0:Int))
 if (Option.isSome a0)=true then
 if (Option.isSome a0)=true then
 let x2:=(Option.getD a0 (((none:TY66),()),(([]:TY29),(([]:(List (List Bool))),(([]:(List (List Int))),()))))).2.1
 (F36_2 k k a1 (0:Int) x2 (length x2:Int) (0:Int) a0 a2 x1).bind fun r61 =>
 some ((r61.2.1,()),())
 else none
 else none
 else none
def sp36 (k:Nat):Spec:=⟨[.val KD7,.val KD70,.val (.int .i64)],[.own KD72],fun x=>F36 k x.1 x.2.1 x.2.2.1⟩
def lim36:Lim:=⟨86,3,false,false,[],[]⟩
def cfg36 (k:Nat):Nat→Option Spec:=cfgL [(60,sp60 k)]
noncomputable def co36_0:Code:=codeAt (bodyOf Try.f36) [.r,.r,.r,.l,.r,.s,.b,.r,.r,.l,.s,.r,.r,.l,.r,.s]
noncomputable def cb36_0:Code:=codeAt (bodyOf Try.f36) [.r,.r,.r,.l,.r,.s,.b,.r,.r,.l,.s,.r,.r,.l,.r,.s,.b]
noncomputable def co36_1:Code:=codeAt (bodyOf Try.f36) [.r,.r,.r,.l,.r,.s,.b,.r,.r,.l,.s,.r,.r,.r,.l,.r,.s]
noncomputable def cb36_1:Code:=codeAt (bodyOf Try.f36) [.r,.r,.r,.l,.r,.s,.b,.r,.r,.l,.s,.r,.r,.r,.l,.r,.s,.b]
noncomputable def co36_2:Code:=codeAt (bodyOf Try.f36) [.r,.r,.r,.l,.r,.s]
noncomputable def cb36_2:Code:=codeAt (bodyOf Try.f36) [.r,.r,.r,.l,.r,.s,.b]
noncomputable def co36:Code:=codeAt (bodyOf Try.f36) []
theorem cfg36_ok (k:Nat):CfgOK Try.prog (cfg36 k):=cfgL_cons (v60 k) (cfgL_nil)
noncomputable def bo36_0 (k m:Nat) (v:sq36_0.V):=body Try.prog (stepper Try.prog (cfg36 k) lim36) .go cb36_0 (sq36_0.st v) (loopK (fr36_0 k) (fu36_0 k m))
theorem pp36_0 (k m:Nat) (v:sq36_0.V):fu36_0 k (m+1) v=(bo36_0 k m v).eval∧(bo36_0 k m v).left=(bo36_0 k m v).right:=⟨by kernel_rfl,by kernel_rfl⟩
theorem fr36_0_ok (k:Nat):FragOK Try.prog lim36 (fr36_0 k) co36_0 :=
 frag_cast (by kernel_rfl) (loop_ok (cfg36_ok k) (planOK_go _) (fu36_0 k) k (fun _=>rfl) (fun _=>rfl) (pp36_0 k))
noncomputable def bo36_1 (k m:Nat) (v:sq36_1.V):=body Try.prog (stepper Try.prog (cfg36 k) lim36) .go cb36_1 (sq36_1.st v) (loopK (fr36_1 k) (fu36_1 k m))
theorem pp36_1 (k m:Nat) (v:sq36_1.V):fu36_1 k (m+1) v=(bo36_1 k m v).eval∧(bo36_1 k m v).left=(bo36_1 k m v).right:=⟨by kernel_rfl,by kernel_rfl⟩
theorem fr36_1_ok (k:Nat):FragOK Try.prog lim36 (fr36_1 k) co36_1 :=
 frag_cast (by kernel_rfl) (loop_ok (cfg36_ok k) (planOK_go _) (fu36_1 k) k (fun _=>rfl) (fun _=>rfl) (pp36_1 k))
def pl36_2 (k:Nat):Plan:=(.seq .go (.seq .go (.seq (.sub (.seq .go (.seq .go (.seq (.seq .go (.sub (.frag (fr36_0 k)))) (.seq (.seq .go (.sub (.frag (fr36_1 k)))) .go))))) .go)))
noncomputable def bo36_2 (k m:Nat) (v:sq36_2.V):=body Try.prog (stepper Try.prog (cfg36 k) lim36) (pl36_2 k) cb36_2 (sq36_2.st v) (loopK (fr36_2 k) (fu36_2 k m))
theorem pp36_2 (k m:Nat) (v:sq36_2.V):fu36_2 k (m+1) v=(bo36_2 k m v).eval∧(bo36_2 k m v).left=(bo36_2 k m v).right:=⟨by kernel_rfl,by kernel_rfl⟩
theorem fr36_2_ok (k:Nat):FragOK Try.prog lim36 (fr36_2 k) co36_2 :=
 frag_cast (by kernel_rfl) (loop_ok (cfg36_ok k) (plan_of (L:=[(fr36_0 k,co36_0),(fr36_1 k,co36_1)]) (by kernel_rfl) (.cons (fr36_0_ok k) (.cons (fr36_1_ok k) .nil))) (fu36_2 k) k (fun _=>rfl) (fun _=>rfl) (pp36_2 k))
def pl36 (k:Nat):Plan:=(.seq .go (.seq .go (.seq .go (.seq (.seq .go (.sub (.frag (fr36_2 k)))) .go))))
noncomputable def bo36 (k:Nat) (x:AT (sp36 k).ps):=fnT Try.prog (cfg36 k) lim36 Try.f36 (bodyOf Try.f36) (pl36 k) (sp36 k) x
theorem vv36 (k:Nat) (x:AT (sp36 k).ps):(sp36 k).impl x=(bo36 k x).eval∧(bo36 k x).left=(bo36 k x).right:=⟨by kernel_rfl,by kernel_rfl⟩
theorem v36 (k:Nat):Callable Try.prog 36∧Valid Try.prog 36 (sp36 k) :=
 fn_of (n:=lim36) (fn:=Try.f36) (p:=(pl36 k)) (cfg36_ok k) (by kernel_rfl) (plan_of (L:=[(fr36_2 k,co36_2)]) (by kernel_rfl) (.cons (fr36_2_ok k) .nil)) (vv36 k)
def F62 (k:Nat) (a0:(List Bool)):Option (((List Bool)×Unit)×Unit) :=
 bif ((length a0:Int)==0) then
 some (([],()),())
 else
 if (length (replicate 0 false)+length a0)*(1*2)≤281474976710656∧length (replicate 0 false)+length a0≤9223372036854775807 then
 some ((((replicate 0 false)++a0),()),())
 else none
def sp62 (k:Nat):Spec:=⟨[.val (.sl false 4 .bool none)],[.own KD77],fun x=>F62 k x.1⟩
def lim62:Lim:=⟨8,1,true,false,[],[]⟩
def cfg62 (k:Nat):Nat→Option Spec:=cfgL []
noncomputable def co62:Code:=codeAt (bodyOf Try.f62) []
theorem cfg62_ok (k:Nat):CfgOK Try.prog (cfg62 k):=cfgL_nil
def pl62 (k:Nat):Plan:=.go
noncomputable def bo62 (k:Nat) (x:AT (sp62 k).ps):=fnT Try.prog (cfg62 k) lim62 Try.f62 (bodyOf Try.f62) (pl62 k) (sp62 k) x
theorem ev62 (k:Nat) (x:AT (sp62 k).ps):(sp62 k).impl x=(bo62 k x).eval:=by kernel_rfl
theorem tr62 (k:Nat) (x:AT (sp62 k).ps):(bo62 k x)=(Tr.split ((length x.1:Int)==0) (.both (.split true (.leaf (([],()),())) (.need ((length (replicate 0 false)+length x.1)*(1*2)≤281474976710656∧length (replicate 0 false)+length x.1≤9223372036854775807) (.leaf (([]++x.1,()),())))) (.split false (.leaf (([],()),())) (.need ((length (replicate 0 false)+length x.1)*(1*2)≤281474976710656∧length (replicate 0 false)+length x.1≤9223372036854775807) (.leaf (([]++x.1,()),()))))) (.split false (.leaf (([],()),())) (.need ((length (replicate 0 false)+length x.1)*(1*2)≤281474976710656∧length (replicate 0 false)+length x.1≤9223372036854775807) (.leaf (([]++x.1,()),()))))):=by kernel_rfl
theorem sa62 (k:Nat) (x:AT (sp62 k).ps) (r) (h:(sp62 k).impl x=some r):(bo62 k x).sat (·=r):=sat_of_eq (tr62 k x) (clone_sat (a:=x.1) (p:=(length (replicate 0 false)+length x.1)*(1*2)≤281474976710656∧length (replicate 0 false)+length x.1≤9223372036854775807) (fun e=>by rw[e]; simp) h)
theorem v62 (k:Nat):Callable Try.prog 62∧Valid Try.prog 62 (sp62 k) :=
 fn_sat (cfg62_ok k) (f:=62) (fn:=Try.f62) (by kernel_rfl) (c:=bodyOf Try.f62) (by kernel_rfl) (by kernel_rfl) rfl rfl (Nat.le_of_ble_eq_true rfl) (Nat.le_of_ble_eq_true rfl) (p:=pl62 k) (planOK_go _) fun x r h=>sa62 k x r h
def F37_0 (k:Nat):Nat→(List Int)→Int→Bool→TY29→Int→Int→(List Int)→Int→Int→TY33→(List Bool)→Option ((((List Int)×Int×Bool×TY29×Int×Int×Unit)×(TY33×(List Bool)×Unit)))
 |0,_,_,_,_,_,_,_,_,_,_,_=>none
 |n+1,t1,t6,t9,t15,t16,t17,t25,t26,t27,c8,e0 =>
  bif (decide (t27<t26)) then
  if 0≤t27∧t27<(length t25:Int) then
  bif t9 then
  (F37_0 k n t1 t6 true t15 t16 t17 t25 t26 (wrap .i64 (t27+(1:Int))) c8 e0).bind some
  else
  let x4:=(decide ((getD t25 (toNat t27) (0:Int))<(1152921504606846976:Int)))
  bif x4 then
  if 0≤(wrap .i64 (t6+t27))∧(wrap .i64 (t6+t27))<(length t1:Int) then
  let x5:=(getD t1 (toNat (wrap .i64 (t6+t27))) (0:Int))
  (F37_0 k n t1 t6 (x5==(1:Int)) t15 t16 t17 t25 t26 (wrap .i64 (t27+(1:Int))) c8 e0).bind some
  else none
  else
  (F37_0 k n t1 t6 false t15 t16 t17 t25 t26 (wrap .i64 (t27+(1:Int))) c8 e0).bind some
  else none
  else
  some ((t1,t6,t9,t15,t16,t17,()),(c8,e0,()))
def sq37_0:Shape:=⟨[(5,KD77)],[(1,.val KD70),(5,.at 2000005 []),(6,.val (.int .i64)),(8,.ptr 8 []),(9,.val .bool),(15,.val KD11),(16,.val (.int .i64)),(17,.val (.int .i64)),(25,.val KD68),(26,.val (.int .i64)),(27,.val (.int .i64))],[(8,some 65,KD15),(2000005,none,KD77)]⟩
def fu37_0 (k m:Nat) (v:sq37_0.V):=F37_0 k m v.1.1 v.1.2.1 v.1.2.2.1 v.1.2.2.2.1 v.1.2.2.2.2.1 v.1.2.2.2.2.2.1 v.1.2.2.2.2.2.2.1 v.1.2.2.2.2.2.2.2.1 v.1.2.2.2.2.2.2.2.2.1 v.2.1 v.2.2.1
def fr37_0 (k:Nat):Frag:=⟨sq37_0,[(.exit 2,⟨[],[(1,.val KD70),(5,.at 2000005 []),(6,.val (.int .i64)),(8,.ptr 8 []),(9,.val .bool),(15,.val KD11),(16,.val (.int .i64)),(17,.val (.int .i64))],[(8,some 65,KD15),(2000005,none,KD77)]⟩)],fu37_0 k k⟩
def F37_1 (k:Nat):Nat→(List Int)→Int→TY29→Int→Int→(List Bool)→Option ((Unit×((List Bool)×Unit)))
 |0,_,_,_,_,_,_=>none
 |n+1,t1,t6,t15,t16,t17,e0 =>
  bif (decide (t17<t16)) then
  if 0≤t17∧t17<(length t15:Int) then
  let x2:=(getD t15 (toNat t17) (([]:(List Int)),(([]:(List Int)),(([]:(List Int)),(([]:TY62),((0:Int),()))))))
  let x3:=(decide (x2.2.2.2.2.1<(1152921504606846976:Int)))
  (F37_0 k k t1 t6 x3 t15 t16 t17 x2.2.1 (length x2.2.1:Int) (0:Int) x2 e0).bind fun r6 =>
  let y9:=r6.1.2.2.1
  if (length r6.2.2.1+length (List.set (replicate 1 false) 0 y9))*(1*2)≤281474976710656∧length r6.2.2.1+length (List.set (replicate 1 false) 0 y9)≤9223372036854775807 then
  let x15:=(r6.2.2.1++(List.set (replicate 1 false) 0 y9))
  let x16:=(wrap .i64 (r6.1.2.1+(length r6.2.1.1:Int)))
  (F37_1 k n r6.1.1 x16 r6.1.2.2.2.1 r6.1.2.2.2.2.1 (wrap .i64 (r6.1.2.2.2.2.2.1+(1:Int))) x15).bind some
  else none
  else none
  else
  some ((),(e0,()))
def sq37_1:Shape:=⟨[(5,KD77)],[(1,.val KD70),(5,.at 2000005 []),(6,.val (.int .i64)),(15,.val KD11),(16,.val (.int .i64)),(17,.val (.int .i64))],[(2000005,none,KD77)]⟩
def fu37_1 (k m:Nat) (v:sq37_1.V):=F37_1 k m v.1.1 v.1.2.1 v.1.2.2.1 v.1.2.2.2.1 v.1.2.2.2.2.1 v.2.1
def fr37_1 (k:Nat):Frag:=⟨sq37_1,[(.exit 0,⟨[(5,KD77)],[(5,.at 2000005 [])],[(2000005,none,KD77)]⟩)],fu37_1 k k⟩
def F37 (k:Nat) (a0:TY19) (a1:(List Int)):Option (((List Bool)×Unit)×Unit) :=
 if (Option.isSome a0)=true then
 if (Option.isSome a0)=true then
 let x1:=(Option.getD a0 (((none:TY66),()),(([]:TY29),(([]:(List (List Bool))),(([]:(List (List Int))),()))))).2.1
 (F37_1 k k a1 (0:Int) x1 (length x1:Int) (0:Int) []).bind fun r17 =>
 (F62 k r17.2.1).bind fun r19 =>
 some ((r19.1.1,()),())
 else none
 else none
def sp37 (k:Nat):Spec:=⟨[.val KD7,.val KD70],[.own KD77],fun x=>F37 k x.1 x.2.1⟩
def lim37:Lim:=⟨59,2,false,false,[],[]⟩
def cfg37 (k:Nat):Nat→Option Spec:=cfgL [(62,sp62 k)]
noncomputable def co37_0:Code:=codeAt (bodyOf Try.f37) [.r,.r,.r,.l,.r,.s,.b,.r,.r,.l,.s,.r,.r,.l,.r,.s]
noncomputable def cb37_0:Code:=codeAt (bodyOf Try.f37) [.r,.r,.r,.l,.r,.s,.b,.r,.r,.l,.s,.r,.r,.l,.r,.s,.b]
noncomputable def co37_1:Code:=codeAt (bodyOf Try.f37) [.r,.r,.r,.l,.r,.s]
noncomputable def cb37_1:Code:=codeAt (bodyOf Try.f37) [.r,.r,.r,.l,.r,.s,.b]
noncomputable def co37:Code:=codeAt (bodyOf Try.f37) []
theorem cfg37_ok (k:Nat):CfgOK Try.prog (cfg37 k):=cfgL_cons (v62 k) (cfgL_nil)
noncomputable def bo37_0 (k m:Nat) (v:sq37_0.V):=body Try.prog (stepper Try.prog (cfg37 k) lim37) .go cb37_0 (sq37_0.st v) (loopK (fr37_0 k) (fu37_0 k m))
theorem pp37_0 (k m:Nat) (v:sq37_0.V):fu37_0 k (m+1) v=(bo37_0 k m v).eval∧(bo37_0 k m v).left=(bo37_0 k m v).right:=⟨by kernel_rfl,by kernel_rfl⟩
theorem fr37_0_ok (k:Nat):FragOK Try.prog lim37 (fr37_0 k) co37_0 :=
 frag_cast (by kernel_rfl) (loop_ok (cfg37_ok k) (planOK_go _) (fu37_0 k) k (fun _=>rfl) (fun _=>rfl) (pp37_0 k))
def pl37_1 (k:Nat):Plan:=(.seq .go (.seq .go (.seq (.sub (.seq .go (.seq .go (.seq (.seq .go (.sub (.frag (fr37_0 k)))) .go)))) .go)))
noncomputable def bo37_1 (k m:Nat) (v:sq37_1.V):=body Try.prog (stepper Try.prog (cfg37 k) lim37) (pl37_1 k) cb37_1 (sq37_1.st v) (loopK (fr37_1 k) (fu37_1 k m))
theorem pp37_1 (k m:Nat) (v:sq37_1.V):fu37_1 k (m+1) v=(bo37_1 k m v).eval∧(bo37_1 k m v).left=(bo37_1 k m v).right:=⟨by kernel_rfl,by kernel_rfl⟩
theorem fr37_1_ok (k:Nat):FragOK Try.prog lim37 (fr37_1 k) co37_1 :=
 frag_cast (by kernel_rfl) (loop_ok (cfg37_ok k) (plan_of (L:=[(fr37_0 k,co37_0)]) (by kernel_rfl) (.cons (fr37_0_ok k) .nil)) (fu37_1 k) k (fun _=>rfl) (fun _=>rfl) (pp37_1 k))
def pl37 (k:Nat):Plan:=(.seq .go (.seq .go (.seq .go (.seq (.seq .go (.sub (.frag (fr37_1 k)))) .go))))
noncomputable def bo37 (k:Nat) (x:AT (sp37 k).ps):=fnT Try.prog (cfg37 k) lim37 Try.f37 (bodyOf Try.f37) (pl37 k) (sp37 k) x
theorem vv37 (k:Nat) (x:AT (sp37 k).ps):(sp37 k).impl x=(bo37 k x).eval∧(bo37 k x).left=(bo37 k x).right:=⟨by kernel_rfl,by kernel_rfl⟩
theorem v37 (k:Nat):Callable Try.prog 37∧Valid Try.prog 37 (sp37 k) :=
 fn_of (n:=lim37) (fn:=Try.f37) (p:=(pl37 k)) (cfg37_ok k) (by kernel_rfl) (plan_of (L:=[(fr37_1 k,co37_1)]) (by kernel_rfl) (.cons (fr37_1_ok k) .nil)) (vv37 k)
def F39_0 (k:Nat):Nat→(List (List Bool))→Int→Int→(List Bool)→Int→Int→(List Int)→Option ((((List (List Bool))×Int×Int×Unit)×((List Int)×Unit)))
 |0,_,_,_,_,_,_,_=>none
 |n+1,t8,t9,t10,t14,t15,t16,e0 =>
  bif (decide (t16<t15)) then
  if 0≤t16∧t16<(length t14:Int) then
  bif (getD t14 (toNat t16) false) then
  let x2:=(List.set (replicate 1 (0:Int)) 0 (1:Int))
  if (length e0+length x2)*(1*2)≤281474976710656∧length e0+length x2≤9223372036854775807 then
  (F39_0 k n t8 t9 t10 t14 t15 (wrap .i64 (t16+(1:Int))) (e0++x2)).bind some
  else none
  else
  let x3:=(List.set (replicate 1 (0:Int)) 0 (0:Int))
  if (length e0+length x3)*(1*2)≤281474976710656∧length e0+length x3≤9223372036854775807 then
  (F39_0 k n t8 t9 t10 t14 t15 (wrap .i64 (t16+(1:Int))) (e0++x3)).bind some
  else none
  else none
  else
  some ((t8,t9,t10,()),(e0,()))
def sq39_0:Shape:=⟨[(3,KD72)],[(3,.at 2000003 []),(8,.val KD56),(9,.val (.int .i64)),(10,.val (.int .i64)),(14,.val (.sl false 4 .bool none)),(15,.val (.int .i64)),(16,.val (.int .i64))],[(2000003,none,KD72)]⟩
def fu39_0 (k m:Nat) (v:sq39_0.V):=F39_0 k m v.1.1 v.1.2.1 v.1.2.2.1 v.1.2.2.2.1 v.1.2.2.2.2.1 v.1.2.2.2.2.2.1 v.2.1
def fr39_0 (k:Nat):Frag:=⟨sq39_0,[(.exit 2,⟨[(3,KD72)],[(3,.at 2000003 []),(8,.val KD56),(9,.val (.int .i64)),(10,.val (.int .i64))],[(2000003,none,KD72)]⟩)],fu39_0 k k⟩
def F39_1 (k:Nat):Nat→(List (List Bool))→Int→Int→(List Int)→Option TY69
 |0,_,_,_,_=>none
 |n+1,t8,t9,t10,e0 =>
  bif (decide (t10<t9)) then
  if 0≤t10∧t10<(length t8:Int) then
  let x1:=(getD t8 (toNat t10) ([]:(List Bool)))
  (F39_0 k k t8 t9 t10 x1 (length x1:Int) (0:Int) e0).bind fun r4 =>
  (F39_1 k n r4.1.1 r4.1.2.1 (wrap .i64 (r4.1.2.2.1+(1:Int))) r4.2.1).bind some
  else none
  else
  some ((),(e0,()))
def sq39_1:Shape:=⟨[(3,KD72)],[(3,.at 2000003 []),(8,.val KD56),(9,.val (.int .i64)),(10,.val (.int .i64))],[(2000003,none,KD72)]⟩
def fu39_1 (k m:Nat) (v:sq39_1.V):=F39_1 k m v.1.1 v.1.2.1 v.1.2.2.1 v.2.1
def fr39_1 (k:Nat):Frag:=⟨sq39_1,[(.exit 0,⟨[(3,KD72)],[(3,.at 2000003 [])],[(2000003,none,KD72)]⟩)],fu39_1 k k⟩
def F39 (k:Nat) (a0:(List (List Bool))):Option ((ByteArray×Unit)×Unit) :=
 (F39_1 k k a0 (length a0:Int) (0:Int) []).bind fun r9 =>
 if length r9.2.1≤9223372036854775807 then
 some (((bstr r9.2.1),()),())
 else none
def sp39 (k:Nat):Spec:=⟨[.val KD56],[.val .str],fun x=>F39 k x.1⟩
def lim39:Lim:=⟨31,1,false,false,[],[]⟩
def cfg39 (k:Nat):Nat→Option Spec:=cfgL []
noncomputable def co39_0:Code:=codeAt (bodyOf Try.f39) [.r,.r,.l,.r,.s,.b,.r,.r,.l,.s,.r,.r,.s]
noncomputable def cb39_0:Code:=codeAt (bodyOf Try.f39) [.r,.r,.l,.r,.s,.b,.r,.r,.l,.s,.r,.r,.s,.b]
noncomputable def co39_1:Code:=codeAt (bodyOf Try.f39) [.r,.r,.l,.r,.s]
noncomputable def cb39_1:Code:=codeAt (bodyOf Try.f39) [.r,.r,.l,.r,.s,.b]
noncomputable def co39:Code:=codeAt (bodyOf Try.f39) []
theorem cfg39_ok (k:Nat):CfgOK Try.prog (cfg39 k):=cfgL_nil
noncomputable def bo39_0 (k m:Nat) (v:sq39_0.V):=body Try.prog (stepper Try.prog (cfg39 k) lim39) .go cb39_0 (sq39_0.st v) (loopK (fr39_0 k) (fu39_0 k m))
theorem pp39_0 (k m:Nat) (v:sq39_0.V):fu39_0 k (m+1) v=(bo39_0 k m v).eval∧(bo39_0 k m v).left=(bo39_0 k m v).right:=⟨by kernel_rfl,by kernel_rfl⟩
theorem fr39_0_ok (k:Nat):FragOK Try.prog lim39 (fr39_0 k) co39_0 :=
 frag_cast (by kernel_rfl) (loop_ok (cfg39_ok k) (planOK_go _) (fu39_0 k) k (fun _=>rfl) (fun _=>rfl) (pp39_0 k))
def pl39_1 (k:Nat):Plan:=(.seq .go (.seq .go (.seq (.sub (.seq .go (.seq .go (.sub (.frag (fr39_0 k)))))) .go)))
noncomputable def bo39_1 (k m:Nat) (v:sq39_1.V):=body Try.prog (stepper Try.prog (cfg39 k) lim39) (pl39_1 k) cb39_1 (sq39_1.st v) (loopK (fr39_1 k) (fu39_1 k m))
theorem pp39_1 (k m:Nat) (v:sq39_1.V):fu39_1 k (m+1) v=(bo39_1 k m v).eval∧(bo39_1 k m v).left=(bo39_1 k m v).right:=⟨by kernel_rfl,by kernel_rfl⟩
theorem fr39_1_ok (k:Nat):FragOK Try.prog lim39 (fr39_1 k) co39_1 :=
 frag_cast (by kernel_rfl) (loop_ok (cfg39_ok k) (plan_of (L:=[(fr39_0 k,co39_0)]) (by kernel_rfl) (.cons (fr39_0_ok k) .nil)) (fu39_1 k) k (fun _=>rfl) (fun _=>rfl) (pp39_1 k))
def pl39 (k:Nat):Plan:=(.seq .go (.seq .go (.seq (.seq .go (.sub (.frag (fr39_1 k)))) .go)))
noncomputable def bo39 (k:Nat) (x:AT (sp39 k).ps):=fnT Try.prog (cfg39 k) lim39 Try.f39 (bodyOf Try.f39) (pl39 k) (sp39 k) x
theorem vv39 (k:Nat) (x:AT (sp39 k).ps):(sp39 k).impl x=(bo39 k x).eval∧(bo39 k x).left=(bo39 k x).right:=⟨by kernel_rfl,by kernel_rfl⟩
theorem v39 (k:Nat):Callable Try.prog 39∧Valid Try.prog 39 (sp39 k) :=
 fn_of (n:=lim39) (fn:=Try.f39) (p:=(pl39 k)) (cfg39_ok k) (by kernel_rfl) (plan_of (L:=[(fr39_1 k,co39_1)]) (by kernel_rfl) (.cons (fr39_1_ok k) .nil)) (vv39 k)
def F38 (k:Nat) (a0:TY57) (a1:ByteArray):Option ((Int×Bool×Unit)×(TY57×Unit)) :=
 bif (!(Option.isSome a0.1)) then
 let x1:=(findM (Option.getD (some []:Option TY76) []) a1).1
 let x2:=(findM (Option.getD (some []:Option TY76) []) a1).2
 bif (!x2) then
 if (length (Option.getD (some []:Option TY76) []):Int)≤9223372036854775807 then
 let x3:=(length (Option.getD (some []:Option TY76) []):Int)
 if (Option.isSome (some []:Option TY76))=true then
 let x4:=(some (putM (Option.getD (some []:Option TY76) []) a1 x3))
 some ((x3,(!x2),()),((x4,a0.2),()))
 else none
 else none
 else
 some ((x1,(!x2),()),(((some []:Option TY76),a0.2),()))
 else
 bif (!(findM (Option.getD a0.1 []) a1).2) then
 if (length (Option.getD a0.1 []):Int)≤9223372036854775807 then
 let x5:=(length (Option.getD a0.1 []):Int)
 if (Option.isSome a0.1)=true then
 some ((x5,(!(findM (Option.getD a0.1 []) a1).2),()),(((some (putM (Option.getD a0.1 []) a1 x5)),a0.2),()))
 else none
 else none
 else
 some (((findM (Option.getD a0.1 []) a1).1,(!(findM (Option.getD a0.1 []) a1).2),()),(a0,()))
def sp38 (k:Nat):Spec:=⟨[.ptr 84 KD67 [],.val .str],[.val (.int .i64),.val .bool],fun x=>F38 k x.1 x.2.1⟩
def lim38:Lim:=⟨42,2,false,false,[],[]⟩
def cfg38 (k:Nat):Nat→Option Spec:=cfgL []
noncomputable def co38:Code:=codeAt (bodyOf Try.f38) []
theorem cfg38_ok (k:Nat):CfgOK Try.prog (cfg38 k):=cfgL_nil
noncomputable def bo38 (k:Nat) (x:AT (sp38 k).ps):=fnT Try.prog (cfg38 k) lim38 Try.f38 (bodyOf Try.f38) .go (sp38 k) x
theorem vv38 (k:Nat) (x:AT (sp38 k).ps):(sp38 k).impl x=(bo38 k x).eval∧(bo38 k x).left=(bo38 k x).right:=⟨by kernel_rfl,by kernel_rfl⟩
theorem v38 (k:Nat):Callable Try.prog 38∧Valid Try.prog 38 (sp38 k) :=
 fn_of (n:=lim38) (fn:=Try.f38) (p:=.go) (cfg38_ok k) (by kernel_rfl) (planOK_go _) (vv38 k)
def F40 (k:Nat) (a0:(List Int)):Option TY73 :=
 bif ((length a0:Int)==0) then
 some (([],()),())
 else
 if (length (replicate 0 (0:Int))+length a0)*(8*2)≤281474976710656∧length (replicate 0 (0:Int))+length a0≤9223372036854775807 then
 some ((((replicate 0 (0:Int))++a0),()),())
 else none
def sp40 (k:Nat):Spec:=⟨[.val KD68],[.own KD71],fun x=>F40 k x.1⟩
def lim40:Lim:=⟨8,1,true,false,[],[]⟩
def cfg40 (k:Nat):Nat→Option Spec:=cfgL []
noncomputable def co40:Code:=codeAt (bodyOf Try.f40) []
theorem cfg40_ok (k:Nat):CfgOK Try.prog (cfg40 k):=cfgL_nil
def pl40 (k:Nat):Plan:=.go
noncomputable def bo40 (k:Nat) (x:AT (sp40 k).ps):=fnT Try.prog (cfg40 k) lim40 Try.f40 (bodyOf Try.f40) (pl40 k) (sp40 k) x
theorem ev40 (k:Nat) (x:AT (sp40 k).ps):(sp40 k).impl x=(bo40 k x).eval:=by kernel_rfl
theorem tr40 (k:Nat) (x:AT (sp40 k).ps):(bo40 k x)=(Tr.split ((length x.1:Int)==0) (.both (.split true (.leaf (([],()),())) (.need ((length (replicate 0 (0:Int))+length x.1)*(8*2)≤281474976710656∧length (replicate 0 (0:Int))+length x.1≤9223372036854775807) (.leaf (([]++x.1,()),())))) (.split false (.leaf (([],()),())) (.need ((length (replicate 0 (0:Int))+length x.1)*(8*2)≤281474976710656∧length (replicate 0 (0:Int))+length x.1≤9223372036854775807) (.leaf (([]++x.1,()),()))))) (.split false (.leaf (([],()),())) (.need ((length (replicate 0 (0:Int))+length x.1)*(8*2)≤281474976710656∧length (replicate 0 (0:Int))+length x.1≤9223372036854775807) (.leaf (([]++x.1,()),()))))):=by kernel_rfl
theorem sa40 (k:Nat) (x:AT (sp40 k).ps) (r) (h:(sp40 k).impl x=some r):(bo40 k x).sat (·=r):=sat_of_eq (tr40 k x) (clone_sat (a:=x.1) (p:=(length (replicate 0 (0:Int))+length x.1)*(8*2)≤281474976710656∧length (replicate 0 (0:Int))+length x.1≤9223372036854775807) (fun e=>by rw[e]; simp) h)
theorem v40 (k:Nat):Callable Try.prog 40∧Valid Try.prog 40 (sp40 k) :=
 fn_sat (cfg40_ok k) (f:=40) (fn:=Try.f40) (by kernel_rfl) (c:=bodyOf Try.f40) (by kernel_rfl) (by kernel_rfl) rfl rfl (Nat.le_of_ble_eq_true rfl) (Nat.le_of_ble_eq_true rfl) (p:=pl40 k) (planOK_go _) fun x r h=>sa40 k x r h
def F41 (k:Nat) (a0:(List (List Int))):Option TY63 :=
 bif ((length a0:Int)==0) then
 some (([],()),())
 else
 if (length (replicate 0 ([]:(List Int)))+length a0)*(24*2)≤281474976710656∧length (replicate 0 ([]:(List Int)))+length a0≤9223372036854775807 then
 some ((((replicate 0 ([]:(List Int)))++a0),()),())
 else none
def sp41 (k:Nat):Spec:=⟨[.own KD54],[.own KD54],fun x=>F41 k x.1⟩
def lim41:Lim:=⟨8,1,true,false,[],[]⟩
def cfg41 (k:Nat):Nat→Option Spec:=cfgL []
noncomputable def co41:Code:=codeAt (bodyOf Try.f41) []
theorem cfg41_ok (k:Nat):CfgOK Try.prog (cfg41 k):=cfgL_nil
def pl41 (k:Nat):Plan:=.go
noncomputable def bo41 (k:Nat) (x:AT (sp41 k).ps):=fnT Try.prog (cfg41 k) lim41 Try.f41 (bodyOf Try.f41) (pl41 k) (sp41 k) x
theorem ev41 (k:Nat) (x:AT (sp41 k).ps):(sp41 k).impl x=(bo41 k x).eval:=by kernel_rfl
theorem tr41 (k:Nat) (x:AT (sp41 k).ps):(bo41 k x)=(Tr.split ((length x.1:Int)==0) (.both (.split true (.leaf (([],()),())) (.need ((length (replicate 0 ([]:(List Int)))+length x.1)*(24*2)≤281474976710656∧length (replicate 0 ([]:(List Int)))+length x.1≤9223372036854775807) (.leaf (([]++x.1,()),())))) (.split false (.leaf (([],()),())) (.need ((length (replicate 0 ([]:(List Int)))+length x.1)*(24*2)≤281474976710656∧length (replicate 0 ([]:(List Int)))+length x.1≤9223372036854775807) (.leaf (([]++x.1,()),()))))) (.split false (.leaf (([],()),())) (.need ((length (replicate 0 ([]:(List Int)))+length x.1)*(24*2)≤281474976710656∧length (replicate 0 ([]:(List Int)))+length x.1≤9223372036854775807) (.leaf (([]++x.1,()),()))))):=by kernel_rfl
theorem sa41 (k:Nat) (x:AT (sp41 k).ps) (r) (h:(sp41 k).impl x=some r):(bo41 k x).sat (·=r):=sat_of_eq (tr41 k x) (clone_sat (a:=x.1) (p:=(length (replicate 0 ([]:(List Int)))+length x.1)*(24*2)≤281474976710656∧length (replicate 0 ([]:(List Int)))+length x.1≤9223372036854775807) (fun e=>by rw[e]; simp) h)
theorem v41 (k:Nat):Callable Try.prog 41∧Valid Try.prog 41 (sp41 k) :=
 fn_sat (cfg41_ok k) (f:=41) (fn:=Try.f41) (by kernel_rfl) (c:=bodyOf Try.f41) (by kernel_rfl) (by kernel_rfl) rfl rfl (Nat.le_of_ble_eq_true rfl) (Nat.le_of_ble_eq_true rfl) (p:=pl41 k) (planOK_go _) fun x r h=>sa41 k x r h
def F42 (k:Nat) (a0:(List (List Bool))):Option (((List (List Bool))×Unit)×Unit) :=
 bif ((length a0:Int)==0) then
 some (([],()),())
 else
 if (length (replicate 0 ([]:(List Bool)))+length a0)*(24*2)≤281474976710656∧length (replicate 0 ([]:(List Bool)))+length a0≤9223372036854775807 then
 some ((((replicate 0 ([]:(List Bool)))++a0),()),())
 else none
def sp42 (k:Nat):Spec:=⟨[.own KD58],[.own KD58],fun x=>F42 k x.1⟩
def lim42:Lim:=⟨8,1,true,false,[],[]⟩
def cfg42 (k:Nat):Nat→Option Spec:=cfgL []
noncomputable def co42:Code:=codeAt (bodyOf Try.f42) []
theorem cfg42_ok (k:Nat):CfgOK Try.prog (cfg42 k):=cfgL_nil
def pl42 (k:Nat):Plan:=.go
noncomputable def bo42 (k:Nat) (x:AT (sp42 k).ps):=fnT Try.prog (cfg42 k) lim42 Try.f42 (bodyOf Try.f42) (pl42 k) (sp42 k) x
theorem ev42 (k:Nat) (x:AT (sp42 k).ps):(sp42 k).impl x=(bo42 k x).eval:=by kernel_rfl
theorem tr42 (k:Nat) (x:AT (sp42 k).ps):(bo42 k x)=(Tr.split ((length x.1:Int)==0) (.both (.split true (.leaf (([],()),())) (.need ((length (replicate 0 ([]:(List Bool)))+length x.1)*(24*2)≤281474976710656∧length (replicate 0 ([]:(List Bool)))+length x.1≤9223372036854775807) (.leaf (([]++x.1,()),())))) (.split false (.leaf (([],()),())) (.need ((length (replicate 0 ([]:(List Bool)))+length x.1)*(24*2)≤281474976710656∧length (replicate 0 ([]:(List Bool)))+length x.1≤9223372036854775807) (.leaf (([]++x.1,()),()))))) (.split false (.leaf (([],()),())) (.need ((length (replicate 0 ([]:(List Bool)))+length x.1)*(24*2)≤281474976710656∧length (replicate 0 ([]:(List Bool)))+length x.1≤9223372036854775807) (.leaf (([]++x.1,()),()))))):=by kernel_rfl
theorem sa42 (k:Nat) (x:AT (sp42 k).ps) (r) (h:(sp42 k).impl x=some r):(bo42 k x).sat (·=r):=sat_of_eq (tr42 k x) (clone_sat (a:=x.1) (p:=(length (replicate 0 ([]:(List Bool)))+length x.1)*(24*2)≤281474976710656∧length (replicate 0 ([]:(List Bool)))+length x.1≤9223372036854775807) (fun e=>by rw[e]; simp) h)
theorem v42 (k:Nat):Callable Try.prog 42∧Valid Try.prog 42 (sp42 k) :=
 fn_sat (cfg42_ok k) (f:=42) (fn:=Try.f42) (by kernel_rfl) (c:=bodyOf Try.f42) (by kernel_rfl) (by kernel_rfl) rfl rfl (Nat.le_of_ble_eq_true rfl) (Nat.le_of_ble_eq_true rfl) (p:=pl42 k) (planOK_go _) fun x r h=>sa42 k x r h
def F16_0 (k:Nat):Nat→TY29→(List (List Bool))→Int→Int→Int→TY29→Int→Int→TY59→Option (((TY29×(List (List Bool))×Int×Int×Int×Unit)×(TY59×Unit)))
 |0,_,_,_,_,_,_,_,_,_=>none
 |n+1,t0,t1,t2,t3,t11,t24,t25,t26,c8 =>
  bif (decide (t26<t25)) then
  if 0≤t26∧t26<(length t24:Int) then
  let x1:=(getD t24 (toNat t26) (([]:(List Int)),(([]:(List Int)),(([]:(List Int)),(([]:TY62),((0:Int),()))))))
  let x2:=(wrap .i64 (t11+(length x1.1:Int)))
  (F16_0 k n t0 t1 t2 t3 x2 t24 t25 (wrap .i64 (t26+(1:Int))) c8).bind some
  else none
  else
  some ((t0,t1,t2,t3,t11,()),(c8,()))
def sq16_0:Shape:=⟨[],[(0,.val KD11),(1,.val KD56),(2,.val (.int .i64)),(3,.val (.int .i64)),(8,.ptr 8 []),(9,.nilS),(11,.val (.int .i64)),(24,.val KD11),(25,.val (.int .i64)),(26,.val (.int .i64))],[(8,some 39,KD32)]⟩
def fu16_0 (k m:Nat) (v:sq16_0.V):=F16_0 k m v.1.1 v.1.2.1 v.1.2.2.1 v.1.2.2.2.1 v.1.2.2.2.2.1 v.1.2.2.2.2.2.1 v.1.2.2.2.2.2.2.1 v.1.2.2.2.2.2.2.2.1 v.2.1
def fr16_0 (k:Nat):Frag:=⟨sq16_0,[(.exit 0,⟨[],[(0,.val KD11),(1,.val KD56),(2,.val (.int .i64)),(3,.val (.int .i64)),(8,.ptr 8 []),(9,.nilS),(11,.val (.int .i64))],[(8,some 39,KD32)]⟩)],fu16_0 k k⟩
def F16_1 (k:Nat):Nat→Int→Int→Int→Int→Int→TY59→TY21→TY57→(List (List Bool))→(List Int)→Option (((Int×Int×Int×Unit)×(TY59×TY21×TY57×(List (List Bool))×(List Int)×Unit))⊕TY44)
 |0,_,_,_,_,_,_,_,_,_,_=>none
 |n+1,t2,t3,t16,t67,t68,c8,c39,c45,e0,e1 =>
  bif (decide (t68<t67)) then
  if 0≤t16∧t16<(length c39.2.2.2.1:Int) then
  (F36 k (some c39) (getD c39.2.2.2.1 (toNat t16) ([]:(List Int))) t68).bind fun r14 =>
  (F35 k c39 r14.1.1).bind fun r15 =>
  let x16:=(List.set (replicate 1 (0:Int)) 0 r15.1.1)
  if (length e1+length x16)*(8*2)≤281474976710656∧length e1+length x16≤9223372036854775807 then
  let x17:=(decide ((length r15.2.1.2.2.2.1:Int)>t3))
  bif x17 then
  some (.inr (((4:Int),()),((([]:(List (List Int))),(([]:(List Int)),())),())))
  else
  (F16_1 k n t2 t3 t16 t67 (wrap .i64 (t68+(1:Int))) c8 r15.2.1 c45 e0 (e1++x16)).bind some
  else none
  else none
  else
  some (.inl ((t2,t3,t16,()),(c8,c39,c45,e0,e1,())))
def sq16_1:Shape:=⟨[(9,KD58),(17,KD71)],[(2,.val (.int .i64)),(3,.val (.int .i64)),(8,.ptr 8 []),(9,.at 2000009 []),(14,.ptr 39 []),(15,.ptr 45 []),(16,.val (.int .i64)),(17,.at 2000017 []),(67,.val (.int .i64)),(68,.val (.int .i64))],[(8,some 39,KD32),(39,some 87,KD9),(45,some 84,KD67),(2000009,none,KD58),(2000017,none,KD71)]⟩
def fu16_1 (k m:Nat) (v:sq16_1.V):=F16_1 k m v.1.1 v.1.2.1 v.1.2.2.1 v.1.2.2.2.1 v.1.2.2.2.2.1 v.2.1 v.2.2.1 v.2.2.2.1 v.2.2.2.2.1 v.2.2.2.2.2.1
def fr16_1 (k:Nat):Frag:=⟨sq16_1,[(.exit 4,⟨[],[(2,.val (.int .i64)),(3,.val (.int .i64)),(8,.ptr 8 []),(9,.at 2000009 []),(14,.ptr 39 []),(15,.ptr 45 []),(16,.val (.int .i64)),(17,.at 2000017 [])],[(8,some 39,KD32),(39,some 87,KD9),(45,some 84,KD67),(2000009,none,KD58),(2000017,none,KD71)]⟩),(.ret,⟨[],[(8,.ptr 8 []),(9,.nilS),(10,.val (.int .i64))],[(8,some 39,KD32)]⟩)],fu16_1 k k⟩
def F16_2 (k:Nat):Nat→Int→Int→Int→TY59→TY21→TY57→(List (List Bool))→Option ((Unit×(TY59×(List (List Bool))×Unit))⊕TY44)
 |0,_,_,_,_,_,_,_=>none
 |n+1,t2,t3,t16,c8,c39,c45,e0 =>
  let x11:=(decide (t16<(length c39.2.2.2.1:Int)))
  bif x11 then
  let x12:=(decide ((length c39.2.2.2.1:Int)>t3))
  bif x12 then
  some (.inr (((4:Int),()),((([]:(List (List Int))),(([]:(List Int)),())),())))
  else
  if (0≤(0:Int)∧(0:Int)<(maxI t2 (0:Int))+1)∧(maxI t2 (0:Int))≤9223372036854775807∧((8:Nat):Int)*(maxI t2 (0:Int))≤281474976710656 then
  let x13:=(replicate (toNat (0:Int)) (0:Int))
  (F16_1 k k t2 t3 t16 (maxI t2 (0:Int)) (0:Int) c8 c39 c45 e0 x13).bind fun r18 =>
  match r18 with
  |.inl r19 =>
   let y22:=r19.1.2.2.1
   let y23:=r19.2.1
   let y24:=r19.2.2.1
   let y26:=r19.2.2.2.2.1
   if 0≤y22∧y22<(length y24.2.2.2.1:Int) then
   (F37 k (some y24) (getD y24.2.2.2.1 (toNat y22) ([]:(List Int)))).bind fun r28 =>
   (F39 k [r28.1.1]).bind fun r29 =>
   (F38 k r19.2.2.2.1 r29.1.1).bind fun r30 =>
   bif r30.1.2.1 then
   if (length y26+length [(getD [r28.1.1] 0 ([]:(List Bool)))])*(24*2)≤281474976710656∧length y26+length [(getD [r28.1.1] 0 ([]:(List Bool)))]≤9223372036854775807 then
   let x31:=(y26++[(getD [r28.1.1] 0 ([]:(List Bool)))])
   (F40 k r19.2.2.2.2.2.1).bind fun r32 =>
   if (length y23.1+length [r32.1.1])*(24*2)≤281474976710656∧length y23.1+length [r32.1.1]≤9223372036854775807 then
   let x33:=(List.set (replicate 1 (0:Int)) 0 r30.1.1)
   if (length y23.2.1+length x33)*(8*2)≤281474976710656∧length y23.2.1+length x33≤9223372036854775807 then
   (F16_2 k n r19.1.1 r19.1.2.1 (wrap .i64 (y22+(1:Int))) ((y23.1++[r32.1.1]),((y23.2.1++x33),y23.2.2)) y24 r30.2.1 x31).bind some
   else none
   else none
   else none
   else
   (F40 k r19.2.2.2.2.2.1).bind fun r34 =>
   if (length y23.1+length [r34.1.1])*(24*2)≤281474976710656∧length y23.1+length [r34.1.1]≤9223372036854775807 then
   let x35:=(List.set (replicate 1 (0:Int)) 0 r30.1.1)
   if (length y23.2.1+length x35)*(8*2)≤281474976710656∧length y23.2.1+length x35≤9223372036854775807 then
   (F16_2 k n r19.1.1 r19.1.2.1 (wrap .i64 (y22+(1:Int))) ((y23.1++[r34.1.1]),((y23.2.1++x35),y23.2.2)) y24 r30.2.1 y26).bind some
   else none
   else none
   else none
  |.inr r19 =>
   some (.inr ((r19.1.1,()),(r19.2.1,())))
  else none
  else
  some (.inl ((),(c8,e0,())))
def sq16_2:Shape:=⟨[(9,KD58)],[(2,.val (.int .i64)),(3,.val (.int .i64)),(8,.ptr 8 []),(9,.at 2000009 []),(14,.ptr 39 []),(15,.ptr 45 []),(16,.val (.int .i64))],[(8,some 39,KD32),(39,some 87,KD9),(45,some 84,KD67),(2000009,none,KD58)]⟩
def fu16_2 (k m:Nat) (v:sq16_2.V):=F16_2 k m v.1.1 v.1.2.1 v.1.2.2.1 v.2.1 v.2.2.1 v.2.2.2.1 v.2.2.2.2.1
def fr16_2 (k:Nat):Frag:=⟨sq16_2,[(.exit 2,⟨[(9,KD58)],[(8,.ptr 8 []),(9,.at 2000009 [])],[(8,some 39,KD32),(2000009,none,KD58)]⟩),(.ret,⟨[],[(8,.ptr 8 []),(9,.nilS),(10,.val (.int .i64))],[(8,some 39,KD32)]⟩)],fu16_2 k k⟩
def F16 (k:Nat) (a0:TY29) (a1:(List (List Bool))) (a2:Int) (a3:Int):Option ((TY59×(List (List Bool))×Int×Unit)×Unit) :=
 (F16_0 k k a0 a1 a2 (minI a3 (100000:Int)) (0:Int) a0 (length a0:Int) (0:Int) (([]:(List (List Int))),(([]:(List Int)),()))).bind fun r3 =>
 let y8:=r3.1.2.2.2.2.1
 if (0≤y8∧y8<y8+1)∧y8≤9223372036854775807∧((1:Nat):Int)*y8≤281474976710656 then
 (F35 k (((none:TY66),()),(r3.1.1,(r3.1.2.1,(([]:(List (List Int))),())))) (replicate (toNat y8) (0:Int))).bind fun r10 =>
 (F16_2 k k r3.1.2.2.1 r3.1.2.2.2.1 (0:Int) r3.2.1 r10.2.1 ((none:TY66),()) []).bind fun r38 =>
 match r38 with
 |.inl r39 =>
  (F41 k r39.2.1.1).bind fun r42 =>
  (F40 k r39.2.1.2.1).bind fun r43 =>
  (F42 k r39.2.2.1).bind fun r44 =>
  some (((r42.1.1,(r43.1.1,r39.2.1.2.2)),r44.1.1,(0:Int),()),())
 |.inr r39 =>
  some ((r39.2.1,[],r39.1.1,()),())
 else none
def sp16 (k:Nat):Spec:=⟨[.val KD11,.val KD56,.val (.int .i64),.val (.int .i64)],[.own KD32,.own KD58,.val (.int .i64)],fun x=>F16 k x.1 x.2.1 x.2.2.1 x.2.2.2.1⟩
def lim16:Lim:=⟨141,4,false,false,[],[]⟩
def cfg16 (k:Nat):Nat→Option Spec:=cfgL [(35,sp35 k),(36,sp36 k),(37,sp37 k),(38,sp38 k),(39,sp39 k),(40,sp40 k),(41,sp41 k),(42,sp42 k)]
noncomputable def co16_0:Code:=codeAt (bodyOf Try.f16) [.r,.r,.r,.l,.r,.s]
noncomputable def cb16_0:Code:=codeAt (bodyOf Try.f16) [.r,.r,.r,.l,.r,.s,.b]
noncomputable def co16_1:Code:=codeAt (bodyOf Try.f16) [.r,.r,.r,.r,.r,.r,.r,.l,.r,.s,.b,.r,.l,.s,.r,.r,.l,.r,.s]
noncomputable def cb16_1:Code:=codeAt (bodyOf Try.f16) [.r,.r,.r,.r,.r,.r,.r,.l,.r,.s,.b,.r,.l,.s,.r,.r,.l,.r,.s,.b]
noncomputable def co16_2:Code:=codeAt (bodyOf Try.f16) [.r,.r,.r,.r,.r,.r,.r,.l,.r,.s]
noncomputable def cb16_2:Code:=codeAt (bodyOf Try.f16) [.r,.r,.r,.r,.r,.r,.r,.l,.r,.s,.b]
noncomputable def co16:Code:=codeAt (bodyOf Try.f16) []
theorem cfg16_ok (k:Nat):CfgOK Try.prog (cfg16 k):=cfgL_cons (v35 k) (cfgL_cons (v36 k) (cfgL_cons (v37 k) (cfgL_cons (v38 k) (cfgL_cons (v39 k) (cfgL_cons (v40 k) (cfgL_cons (v41 k) (cfgL_cons (v42 k) (cfgL_nil))))))))
noncomputable def bo16_0 (k m:Nat) (v:sq16_0.V):=body Try.prog (stepper Try.prog (cfg16 k) lim16) .go cb16_0 (sq16_0.st v) (loopK (fr16_0 k) (fu16_0 k m))
theorem pp16_0 (k m:Nat) (v:sq16_0.V):fu16_0 k (m+1) v=(bo16_0 k m v).eval∧(bo16_0 k m v).left=(bo16_0 k m v).right:=⟨by kernel_rfl,by kernel_rfl⟩
theorem fr16_0_ok (k:Nat):FragOK Try.prog lim16 (fr16_0 k) co16_0 :=
 frag_cast (by kernel_rfl) (loop_ok (cfg16_ok k) (planOK_go _) (fu16_0 k) k (fun _=>rfl) (fun _=>rfl) (pp16_0 k))
noncomputable def bo16_1 (k m:Nat) (v:sq16_1.V):=body Try.prog (stepper Try.prog (cfg16 k) lim16) .go cb16_1 (sq16_1.st v) (loopK (fr16_1 k) (fu16_1 k m))
theorem pp16_1 (k m:Nat) (v:sq16_1.V):fu16_1 k (m+1) v=(bo16_1 k m v).eval∧(bo16_1 k m v).left=(bo16_1 k m v).right:=⟨by kernel_rfl,by kernel_rfl⟩
theorem fr16_1_ok (k:Nat):FragOK Try.prog lim16 (fr16_1 k) co16_1 :=
 frag_cast (by kernel_rfl) (loop_ok (cfg16_ok k) (planOK_go _) (fu16_1 k) k (fun _=>rfl) (fun _=>rfl) (pp16_1 k))
def pl16_2 (k:Nat):Plan:=(.seq .go (.seq (.sub (.seq .go (.seq .go (.seq (.seq .go (.sub (.frag (fr16_1 k)))) .go)))) .go))
noncomputable def bo16_2 (k m:Nat) (v:sq16_2.V):=body Try.prog (stepper Try.prog (cfg16 k) lim16) (pl16_2 k) cb16_2 (sq16_2.st v) (loopK (fr16_2 k) (fu16_2 k m))
theorem pp16_2 (k m:Nat) (v:sq16_2.V):fu16_2 k (m+1) v=(bo16_2 k m v).eval∧(bo16_2 k m v).left=(bo16_2 k m v).right:=⟨by kernel_rfl,by kernel_rfl⟩
theorem fr16_2_ok (k:Nat):FragOK Try.prog lim16 (fr16_2 k) co16_2 :=
 frag_cast (by kernel_rfl) (loop_ok (cfg16_ok k) (plan_of (L:=[(fr16_1 k,co16_1)]) (by kernel_rfl) (.cons (fr16_1_ok k) .nil)) (fu16_2 k) k (fun _=>rfl) (fun _=>rfl) (pp16_2 k))
def pl16 (k:Nat):Plan:=(.seq .go (.seq .go (.seq .go (.seq (.seq .go (.sub (.frag (fr16_0 k)))) (.seq .go (.seq .go (.seq .go (.seq (.seq .go (.sub (.frag (fr16_2 k)))) .go))))))))
noncomputable def bo16 (k:Nat) (x:AT (sp16 k).ps):=fnT Try.prog (cfg16 k) lim16 Try.f16 (bodyOf Try.f16) (pl16 k) (sp16 k) x
theorem vv16 (k:Nat) (x:AT (sp16 k).ps):(sp16 k).impl x=(bo16 k x).eval∧(bo16 k x).left=(bo16 k x).right:=⟨by kernel_rfl,by kernel_rfl⟩
theorem v16 (k:Nat):Callable Try.prog 16∧Valid Try.prog 16 (sp16 k) :=
 fn_of (n:=lim16) (fn:=Try.f16) (p:=(pl16 k)) (cfg16_ok k) (by kernel_rfl) (plan_of (L:=[(fr16_0 k,co16_0),(fr16_2 k,co16_2)]) (by kernel_rfl) (.cons (fr16_0_ok k) (.cons (fr16_2_ok k) .nil))) (vv16 k)
def F22_0 (k:Nat):Nat→(List Int)→Int→Int→TY59→(List Int)→Option TY69
 |0,_,_,_,_,_=>none
 |n+1,t1,t6,t7,c2,c11 =>
  bif (decide (t6≥(0:Int))) then
  let x25:=(decide (t6<(length c2.2.1:Int)))
  bif x25 then
  if 0≤t6∧t6<(length c2.2.1:Int) then
  if 0≤t7∧t7<(length c11:Int) then
  let x26:=(List.set c11 (toNat t7) (getD c2.2.1 (toNat t6) (0:Int)))
  bif (t7==(0:Int)) then
  some ((),(x26,()))
  else
  bif (decide (t6≥(0:Int))) then
  let x27:=(decide (t6<(length c2.1:Int)))
  bif x27 then
  if 0≤(wrap .i64 (t7-(1:Int)))∧(wrap .i64 (t7-(1:Int)))<(length t1:Int) then
  let x28:=(getD t1 (toNat (wrap .i64 (t7-(1:Int)))) (0:Int))
  bif (decide (x28≥(0:Int))) then
  if 0≤(wrap .i64 (t7-(1:Int)))∧(wrap .i64 (t7-(1:Int)))<(length t1:Int) then
  let x29:=(getD t1 (toNat (wrap .i64 (t7-(1:Int)))) (0:Int))
  if 0≤t6∧t6<(length c2.1:Int) then
  let x30:=(getD c2.1 (toNat t6) ([]:(List Int)))
  let x31:=(decide (x29<(length x30:Int)))
  bif x31 then
  if 0≤t6∧t6<(length c2.1:Int) then
  let x32:=(getD c2.1 (toNat t6) ([]:(List Int)))
  if 0≤(wrap .i64 (t7-(1:Int)))∧(wrap .i64 (t7-(1:Int)))<(length t1:Int) then
  let x33:=(getD t1 (toNat (wrap .i64 (t7-(1:Int)))) (0:Int))
  if 0≤x33∧x33<(length x32:Int) then
  (F22_0 k n t1 (getD x32 (toNat x33) (0:Int)) (wrap .i64 (t7-(1:Int))) c2 x26).bind some
  else none
  else none
  else none
  else
  (F22_0 k n t1 t6 (wrap .i64 (t7-(1:Int))) c2 x26).bind some
  else none
  else none
  else
  (F22_0 k n t1 t6 (wrap .i64 (t7-(1:Int))) c2 x26).bind some
  else none
  else
  (F22_0 k n t1 t6 (wrap .i64 (t7-(1:Int))) c2 x26).bind some
  else
  (F22_0 k n t1 t6 (wrap .i64 (t7-(1:Int))) c2 x26).bind some
  else none
  else none
  else
  bif (t7==(0:Int)) then
  some ((),(c11,()))
  else
  bif (decide (t6≥(0:Int))) then
  let x34:=(decide (t6<(length c2.1:Int)))
  bif x34 then
  if 0≤(wrap .i64 (t7-(1:Int)))∧(wrap .i64 (t7-(1:Int)))<(length t1:Int) then
  let x35:=(getD t1 (toNat (wrap .i64 (t7-(1:Int)))) (0:Int))
  bif (decide (x35≥(0:Int))) then
  if 0≤(wrap .i64 (t7-(1:Int)))∧(wrap .i64 (t7-(1:Int)))<(length t1:Int) then
  let x36:=(getD t1 (toNat (wrap .i64 (t7-(1:Int)))) (0:Int))
  if 0≤t6∧t6<(length c2.1:Int) then
  let x37:=(getD c2.1 (toNat t6) ([]:(List Int)))
  let x38:=(decide (x36<(length x37:Int)))
  bif x38 then
  if 0≤t6∧t6<(length c2.1:Int) then
  let x39:=(getD c2.1 (toNat t6) ([]:(List Int)))
  if 0≤(wrap .i64 (t7-(1:Int)))∧(wrap .i64 (t7-(1:Int)))<(length t1:Int) then
  let x40:=(getD t1 (toNat (wrap .i64 (t7-(1:Int)))) (0:Int))
  if 0≤x40∧x40<(length x39:Int) then
  (F22_0 k n t1 (getD x39 (toNat x40) (0:Int)) (wrap .i64 (t7-(1:Int))) c2 c11).bind some
  else none
  else none
  else none
  else
  (F22_0 k n t1 t6 (wrap .i64 (t7-(1:Int))) c2 c11).bind some
  else none
  else none
  else
  (F22_0 k n t1 t6 (wrap .i64 (t7-(1:Int))) c2 c11).bind some
  else none
  else
  (F22_0 k n t1 t6 (wrap .i64 (t7-(1:Int))) c2 c11).bind some
  else
  (F22_0 k n t1 t6 (wrap .i64 (t7-(1:Int))) c2 c11).bind some
  else
  bif (t7==(0:Int)) then
  some ((),(c11,()))
  else
  bif (decide (t6≥(0:Int))) then
  let x41:=(decide (t6<(length c2.1:Int)))
  bif x41 then
  if 0≤(wrap .i64 (t7-(1:Int)))∧(wrap .i64 (t7-(1:Int)))<(length t1:Int) then
  let x42:=(getD t1 (toNat (wrap .i64 (t7-(1:Int)))) (0:Int))
  bif (decide (x42≥(0:Int))) then
  if 0≤(wrap .i64 (t7-(1:Int)))∧(wrap .i64 (t7-(1:Int)))<(length t1:Int) then
  let x43:=(getD t1 (toNat (wrap .i64 (t7-(1:Int)))) (0:Int))
  if 0≤t6∧t6<(length c2.1:Int) then
  let x44:=(getD c2.1 (toNat t6) ([]:(List Int)))
  let x45:=(decide (x43<(length x44:Int)))
  bif x45 then
  if 0≤t6∧t6<(length c2.1:Int) then
  let x46:=(getD c2.1 (toNat t6) ([]:(List Int)))
  if 0≤(wrap .i64 (t7-(1:Int)))∧(wrap .i64 (t7-(1:Int)))<(length t1:Int) then
  let x47:=(getD t1 (toNat (wrap .i64 (t7-(1:Int)))) (0:Int))
  if 0≤x47∧x47<(length x46:Int) then
  (F22_0 k n t1 (getD x46 (toNat x47) (0:Int)) (wrap .i64 (t7-(1:Int))) c2 c11).bind some
  else none
  else none
  else none
  else
  (F22_0 k n t1 t6 (wrap .i64 (t7-(1:Int))) c2 c11).bind some
  else none
  else none
  else
  (F22_0 k n t1 t6 (wrap .i64 (t7-(1:Int))) c2 c11).bind some
  else none
  else
  (F22_0 k n t1 t6 (wrap .i64 (t7-(1:Int))) c2 c11).bind some
  else
  (F22_0 k n t1 t6 (wrap .i64 (t7-(1:Int))) c2 c11).bind some
def sq22_0:Shape:=⟨[],[(1,.val KD68),(2,.ptr 2 []),(5,.at 11 []),(6,.val (.int .i64)),(7,.val (.int .i64))],[(2,some 39,KD30),(11,none,KD71)]⟩
def fu22_0 (k m:Nat) (v:sq22_0.V):=F22_0 k m v.1.1 v.1.2.1 v.1.2.2.1 v.2.1 v.2.2.1
def fr22_0 (k:Nat):Frag:=⟨sq22_0,[(.ret,⟨[],[(4,.at 11 [])],[(11,none,KD71)]⟩)],fu22_0 k k⟩
def F22 (k:Nat) (a0:TY59) (a1:(List Int)):Option TY73 :=
 let x1:=(wrap .i64 ((length a1:Int)+(1:Int)))
 if (0≤x1∧x1<x1+1)∧x1≤9223372036854775807∧((8:Nat):Int)*x1≤281474976710656 then
 (F22_0 k k a1 (0:Int) (length a1:Int) a0 (replicate (toNat x1) (0:Int))).bind fun r48 =>
 some ((r48.2.1,()),())
 else none
def sp22 (k:Nat):Spec:=⟨[.val KD30,.val KD68],[.own KD71],fun x=>F22 k x.1 x.2.1⟩
def lim22:Lim:=⟨79,2,false,false,[],[]⟩
def cfg22 (k:Nat):Nat→Option Spec:=cfgL []
noncomputable def co22_0:Code:=codeAt (bodyOf Try.f22) [.r,.r,.r,.r,.s]
noncomputable def cb22_0:Code:=codeAt (bodyOf Try.f22) [.r,.r,.r,.r,.s,.b]
noncomputable def co22:Code:=codeAt (bodyOf Try.f22) []
theorem cfg22_ok (k:Nat):CfgOK Try.prog (cfg22 k):=cfgL_nil
noncomputable def bo22_0 (k m:Nat) (v:sq22_0.V):=body Try.prog (stepper Try.prog (cfg22 k) lim22) .go cb22_0 (sq22_0.st v) (loopK (fr22_0 k) (fu22_0 k m))
theorem pp22_0 (k m:Nat) (v:sq22_0.V):fu22_0 k (m+1) v=(bo22_0 k m v).eval∧(bo22_0 k m v).left=(bo22_0 k m v).right:=⟨by kernel_rfl,by kernel_rfl⟩
theorem fr22_0_ok (k:Nat):FragOK Try.prog lim22 (fr22_0 k) co22_0 :=
 frag_cast (by kernel_rfl) (loop_ok (cfg22_ok k) (planOK_go _) (fu22_0 k) k (fun _=>rfl) (fun _=>rfl) (pp22_0 k))
def pl22 (k:Nat):Plan:=(.seq .go (.seq .go (.seq .go (.seq .go (.sub (.frag (fr22_0 k)))))))
noncomputable def bo22 (k:Nat) (x:AT (sp22 k).ps):=fnT Try.prog (cfg22 k) lim22 Try.f22 (bodyOf Try.f22) (pl22 k) (sp22 k) x
theorem vv22 (k:Nat) (x:AT (sp22 k).ps):(sp22 k).impl x=(bo22 k x).eval∧(bo22 k x).left=(bo22 k x).right:=⟨by kernel_rfl,by kernel_rfl⟩
theorem v22 (k:Nat):Callable Try.prog 22∧Valid Try.prog 22 (sp22 k) :=
 fn_of (n:=lim22) (fn:=Try.f22) (p:=(pl22 k)) (cfg22_ok k) (by kernel_rfl) (plan_of (L:=[(fr22_0 k,co22_0)]) (by kernel_rfl) (.cons (fr22_0_ok k) .nil)) (vv22 k)
def F12 (k:Nat):Option TY78 :=
 (F16 k [] [] (1:Int) (1:Int)).bind fun r1 =>
 (F16 k [] [] (1:Int) (0:Int)).bind fun r2 =>
 let x3:=(List.set (List.set (replicate 2 (0:Int)) 0 (0:Int)) 1 (0:Int))
 (F22 k r1.1.1 x3).bind fun r4 =>
 bif (r1.1.2.2.1==(0:Int)) then
 let x5:=((length r1.1.1.1:Int)==(1:Int))
 bif x5 then
 let x6:=((length r1.1.1.2.1:Int)==(1:Int))
 bif x6 then
 let x7:=((length r1.1.2.1:Int)==(1:Int))
 bif x7 then
 if 0≤(0:Int)∧(0:Int)<(length r1.1.2.1:Int) then
 let x8:=(length (getD r1.1.2.1 (toNat (0:Int)) ([]:(List Bool))):Int)
 bif (x8==(0:Int)) then
 bif (r2.1.2.2.1==(4:Int)) then
 let x9:=((length r4.1.1:Int)==(3:Int))
 bif x9 then
 if 0≤(0:Int)∧(0:Int)<(length r4.1.1:Int) then
 let x10:=(getD r4.1.1 (toNat (0:Int)) (0:Int))
 some (((x10==(0:Int)),()),())
 else none
 else
 some ((false,()),())
 else
 some ((false,()),())
 else
 some ((false,()),())
 else none
 else
 some ((false,()),())
 else
 some ((false,()),())
 else
 some ((false,()),())
 else
 some ((false,()),())
def sp12 (k:Nat):Spec:=⟨[],[.val .bool],fun x=>F12 k⟩
def lim12:Lim:=⟨62,0,false,false,[],[]⟩
def cfg12 (k:Nat):Nat→Option Spec:=cfgL [(16,sp16 k),(22,sp22 k)]
noncomputable def co12:Code:=codeAt (bodyOf Try.f12) []
theorem cfg12_ok (k:Nat):CfgOK Try.prog (cfg12 k):=cfgL_cons (v16 k) (cfgL_cons (v22 k) (cfgL_nil))
noncomputable def bo12 (k:Nat) (x:AT (sp12 k).ps):=fnT Try.prog (cfg12 k) lim12 Try.f12 (bodyOf Try.f12) .go (sp12 k) x
theorem vv12 (k:Nat) (x:AT (sp12 k).ps):(sp12 k).impl x=(bo12 k x).eval∧(bo12 k x).left=(bo12 k x).right:=⟨by kernel_rfl,by kernel_rfl⟩
theorem v12 (k:Nat):Callable Try.prog 12∧Valid Try.prog 12 (sp12 k) :=
 fn_of (n:=lim12) (fn:=Try.f12) (p:=.go) (cfg12_ok k) (by kernel_rfl) (planOK_go _) (vv12 k)
def rs27 (f27:(TY64→Int→Option TY79)):Spec:=⟨[.val KD51,.val (.int .i64)],[.val (.int .i64)],fun x=>f27 x.1 x.2.1⟩
def F27_0 (k:Nat) (f27:(TY64→Int→Option TY79)):Nat→TY64→Int→Int→Int→Option (TY79)
 |0,_,_,_,_=>none
 |n+1,t0,t1,t5,t6 =>
  let x5:=(decide (t6<(length t0:Int)))
  bif x5 then
  bif (decide (t5≤(30:Int))) then
  if 0≤t6∧t6<(length t0:Int) then
  let x6:=(getD t0 (toNat t6) (Tree.mk ((0:Int),((0:Int),())) []))
  (f27 (Tree.l x6) (wrap .i64 (t1+(1:Int)))).bind fun r7 =>
  let x8:=(wrap .i64 ((wrap .i64 (t5+(1:Int)))+r7.1.1))
  (F27_0 k f27 n t0 t1 x8 (wrap .i64 (t6+(1:Int)))).bind some
  else none
  else
  some ((t5,()),())
  else
  some ((t5,()),())
def sq27_0:Shape:=⟨[],[(0,.val KD51),(1,.val (.int .i64)),(5,.val (.int .i64)),(6,.val (.int .i64))],[]⟩
def fu27_0 (k:Nat) (f27:(TY64→Int→Option TY79)) (m:Nat) (v:sq27_0.V):=F27_0 k f27 m v.1.1 v.1.2.1 v.1.2.2.1 v.1.2.2.2.1
def fr27_0 (k:Nat) (f27:(TY64→Int→Option TY79)):Frag:=⟨sq27_0,[(.exit 0,⟨[],[(5,.val (.int .i64))],[]⟩)],fu27_0 k f27 k⟩
def B27 (k:Nat) (f27:(TY64→Int→Option TY79)) (a0:TY64) (a1:Int):Option TY79 :=
 bif (decide (a1>(5:Int))) then
 some (((1000:Int),()),())
 else
 (F27_0 k f27 k a0 a1 (0:Int) (0:Int)).bind fun r9 =>
 some ((r9.1.1,()),())
def sb27 (k:Nat) (f27:(TY64→Int→Option TY79)):Spec:=rs27 (B27 k f27)
def lim27:Lim:=⟨31,2,false,false,[],[]⟩
def cfg27 (k:Nat) (f27:(TY64→Int→Option TY79)):Nat→Option Spec:=cfgL [(27,rs27 f27)]
noncomputable def co27_0:Code:=codeAt (bodyOf Try.f27) [.r,.r,.r,.l,.r,.s]
noncomputable def cb27_0:Code:=codeAt (bodyOf Try.f27) [.r,.r,.r,.l,.r,.s,.b]
noncomputable def co27:Code:=codeAt (bodyOf Try.f27) []
theorem cfg27_ok (k:Nat) (f27:(TY64→Int→Option TY79)) (h27:Callable Try.prog 27∧Valid Try.prog 27 (rs27 f27)):CfgOK Try.prog (cfg27 k f27):=cfgL_cons h27 (cfgL_nil)
noncomputable def bo27_0 (k:Nat) (f27:(TY64→Int→Option TY79)) (m:Nat) (v:sq27_0.V):=body Try.prog (stepper Try.prog (cfg27 k f27) lim27) .go cb27_0 (sq27_0.st v) (loopK (fr27_0 k f27) (fu27_0 k f27 m))
theorem pp27_0 (k:Nat) (f27:(TY64→Int→Option TY79)) (m:Nat) (v:sq27_0.V):fu27_0 k f27 (m+1) v=(bo27_0 k f27 m v).eval∧(bo27_0 k f27 m v).left=(bo27_0 k f27 m v).right:=⟨by kernel_rfl,by kernel_rfl⟩
theorem fr27_0_ok (k:Nat) (f27:(TY64→Int→Option TY79)) (h27:Callable Try.prog 27∧Valid Try.prog 27 (rs27 f27)):FragOK Try.prog lim27 (fr27_0 k f27) co27_0 :=
 frag_cast (by kernel_rfl) (loop_ok (cfg27_ok k f27 h27) (planOK_go _) (fu27_0 k f27) k (fun _=>rfl) (fun _=>rfl) (pp27_0 k f27))
def pl27 (k:Nat) (f27:(TY64→Int→Option TY79)):Plan:=(.seq .go (.seq .go (.seq .go (.seq (.seq .go (.sub (.frag (fr27_0 k f27)))) .go))))
noncomputable def bo27 (k:Nat) (f27:(TY64→Int→Option TY79)) (x:AT (sb27 k f27).ps):=fnT Try.prog (cfg27 k f27) lim27 Try.f27 (bodyOf Try.f27) (pl27 k f27) (sb27 k f27) x
theorem vv27 (k:Nat) (f27:(TY64→Int→Option TY79)) (x:AT (sb27 k f27).ps):(sb27 k f27).impl x=(bo27 k f27 x).eval∧(bo27 k f27 x).left=(bo27 k f27 x).right:=⟨by kernel_rfl,by kernel_rfl⟩
theorem b27 (k:Nat) (f27:(TY64→Int→Option TY79)) (h27:Callable Try.prog 27∧Valid Try.prog 27 (rs27 f27)):Callable Try.prog 27∧Valid Try.prog 27 (sb27 k f27) :=
 fn_of (n:=lim27) (fn:=Try.f27) (p:=(pl27 k f27)) (cfg27_ok k f27 h27) (by kernel_rfl) (plan_of (L:=[(fr27_0 k f27,co27_0)]) (by kernel_rfl) (.cons (fr27_0_ok k f27 h27) .nil)) (vv27 k f27)
def R27:Nat→(TY64→Int→Option TY79)
 |0=>fun _ _=>none
 |k+1=>B27 k (R27 k)
def F27 (k:Nat) (a0_:TY64) (a1_:Int):Option TY79:=(R27 k) a0_ a1_
def sp27 (k:Nat):Spec:=⟨[.val KD51,.val (.int .i64)],[.val (.int .i64)],fun x=>F27 k x.1 x.2.1⟩
theorem r27 (k:Nat):(Callable Try.prog 27∧Valid Try.prog 27 (rs27 (R27 k))):=by
 induction k with
 |zero=>exact ⟨⟨Try.f27,by kernel_rfl,by kernel_rfl,by kernel_rfl⟩,fun x r h=>by cases (show (none:Option _)=some r from h)⟩
 |succ k ih=>exact b27 k (R27 k) ih
theorem v27 (k:Nat):Callable Try.prog 27∧Valid Try.prog 27 (sp27 k):=(r27 k)
def F13 (k:Nat) (a0:TY64):Option TY78 :=
 (F27 k a0 (0:Int)).bind fun r1 =>
 some (((decide (r1.1.1≤(30:Int))),()),())
def sp13 (k:Nat):Spec:=⟨[.val KD51],[.val .bool],fun x=>F13 k x.1⟩
def lim13:Lim:=⟨6,1,false,false,[],[]⟩
def cfg13 (k:Nat):Nat→Option Spec:=cfgL [(27,sp27 k)]
noncomputable def co13:Code:=codeAt (bodyOf Try.f13) []
theorem cfg13_ok (k:Nat):CfgOK Try.prog (cfg13 k):=cfgL_cons (v27 k) (cfgL_nil)
noncomputable def bo13 (k:Nat) (x:AT (sp13 k).ps):=fnT Try.prog (cfg13 k) lim13 Try.f13 (bodyOf Try.f13) .go (sp13 k) x
theorem vv13 (k:Nat) (x:AT (sp13 k).ps):(sp13 k).impl x=(bo13 k x).eval∧(bo13 k x).left=(bo13 k x).right:=⟨by kernel_rfl,by kernel_rfl⟩
theorem v13 (k:Nat):Callable Try.prog 13∧Valid Try.prog 13 (sp13 k) :=
 fn_of (n:=lim13) (fn:=Try.f13) (p:=.go) (cfg13_ok k) (by kernel_rfl) (planOK_go _) (vv13 k)
def F70 (k:Nat) (a0:Int) (a1:Int):Option ((TY53×Unit)×Unit) :=
 let x6:=(Tree.a (Tree.mk ((0:Int),((0:Int),((0:Int),(ByteArray.empty,())))) [])).2.2.2.1
 let x7:=(Tree.l (Tree.mk ((0:Int),((0:Int),((0:Int),(ByteArray.empty,())))) []))
 let x8:=(Tree.mk ((1:Int),(a0,(a1,(x6,())))) x7)
 some ((x8,()),())
def sp70 (k:Nat):Spec:=⟨[.val (.int .i64),.val (.int .i64)],[.val KD34],fun x=>F70 k x.1 x.2.1⟩
def lim70:Lim:=⟨8,2,false,false,[],[]⟩
def cfg70 (k:Nat):Nat→Option Spec:=cfgL []
noncomputable def co70:Code:=codeAt (bodyOf Try.f70) []
theorem cfg70_ok (k:Nat):CfgOK Try.prog (cfg70 k):=cfgL_nil
noncomputable def bo70 (k:Nat) (x:AT (sp70 k).ps):=fnT Try.prog (cfg70 k) lim70 Try.f70 (bodyOf Try.f70) .go (sp70 k) x
theorem vv70 (k:Nat) (x:AT (sp70 k).ps):(sp70 k).impl x=(bo70 k x).eval∧(bo70 k x).left=(bo70 k x).right:=⟨by kernel_rfl,by kernel_rfl⟩
theorem v70 (k:Nat):Callable Try.prog 70∧Valid Try.prog 70 (sp70 k) :=
 fn_of (n:=lim70) (fn:=Try.f70) (p:=.go) (cfg70_ok k) (by kernel_rfl) (planOK_go _) (vv70 k)
def F71 (k:Nat):Option (((List ByteArray)×Unit)×Unit) :=
 let x1:=(List.set (List.set (List.set (List.set (List.set (List.set (replicate 6 ByteArray.empty) 0 (⟨#[97]⟩:ByteArray)) 1 (⟨#[118]⟩:ByteArray)) 2 (⟨#[100]⟩:ByteArray)) 3 (⟨#[115]⟩:ByteArray)) 4 (⟨#[119,49]⟩:ByteArray)) 5 (⟨#[111,116,104,101,114]⟩:ByteArray))
 some ((x1,()),())
def sp71 (k:Nat):Spec:=⟨[],[.own (.sl true 9 .str none)],fun x=>F71 k⟩
def lim71:Lim:=⟨2,0,false,false,[],[]⟩
def cfg71 (k:Nat):Nat→Option Spec:=cfgL []
noncomputable def co71:Code:=codeAt (bodyOf Try.f71) []
theorem cfg71_ok (k:Nat):CfgOK Try.prog (cfg71 k):=cfgL_nil
noncomputable def bo71 (k:Nat) (x:AT (sp71 k).ps):=fnT Try.prog (cfg71 k) lim71 Try.f71 (bodyOf Try.f71) .go (sp71 k) x
theorem vv71 (k:Nat) (x:AT (sp71 k).ps):(sp71 k).impl x=(bo71 k x).eval∧(bo71 k x).left=(bo71 k x).right:=⟨by kernel_rfl,by kernel_rfl⟩
theorem v71 (k:Nat):Callable Try.prog 71∧Valid Try.prog 71 (sp71 k) :=
 fn_of (n:=lim71) (fn:=Try.f71) (p:=.go) (cfg71_ok k) (by kernel_rfl) (planOK_go _) (vv71 k)
def F50 (k:Nat) (a0:Int) (a1:Int):Option TY79 :=
 if a1≠0 then
 bif (decide ((Int.tmod a0 a1)<(0:Int))) then
 some (((wrap .i64 ((Int.tmod a0 a1)+a1)),()),())
 else
 some (((Int.tmod a0 a1),()),())
 else none
def sp50 (k:Nat):Spec:=⟨[.val (.int .i64),.val (.int .i64)],[.val (.int .i64)],fun x=>F50 k x.1 x.2.1⟩
def lim50:Lim:=⟨15,2,false,false,[],[]⟩
def cfg50 (k:Nat):Nat→Option Spec:=cfgL []
noncomputable def co50:Code:=codeAt (bodyOf Try.f50) []
theorem cfg50_ok (k:Nat):CfgOK Try.prog (cfg50 k):=cfgL_nil
noncomputable def bo50 (k:Nat) (x:AT (sp50 k).ps):=fnT Try.prog (cfg50 k) lim50 Try.f50 (bodyOf Try.f50) .go (sp50 k) x
theorem vv50 (k:Nat) (x:AT (sp50 k).ps):(sp50 k).impl x=(bo50 k x).eval∧(bo50 k x).left=(bo50 k x).right:=⟨by kernel_rfl,by kernel_rfl⟩
theorem v50 (k:Nat):Callable Try.prog 50∧Valid Try.prog 50 (sp50 k) :=
 fn_of (n:=lim50) (fn:=Try.f50) (p:=.go) (cfg50_ok k) (by kernel_rfl) (planOK_go _) (vv50 k)
def rs72 (f72:(Int→TY41→Int→Option TY23)):Spec:=⟨[.val (.int .i64),.mut KD25,.val (.int .i64)],[.val KD34],fun x=>f72 x.1 x.2.1 x.2.2.1⟩
def B72 (k:Nat) (f72:(Int→TY41→Int→Option TY23)) (a0:Int) (a1:TY41) (a2:Int):Option TY23 :=
 (F50 k a0 (16:Int)).bind fun r6 =>
 bif (decide (r6.1.1<(5:Int))) then
 (F50 k (wrap .i64 (Int.tdiv a0 (16:Int))) (50:Int)).bind fun r7 =>
 let x8:=(Int.tmod (wrap .i64 (Int.tdiv a0 (16:Int))) (5:Int))
 let x9:=(wrap .i64 ((wrap .i64 (r7.1.1+(40:Int)))+x8))
 let x10:=(Tree.a (Tree.mk ((0:Int),((0:Int),((0:Int),(ByteArray.empty,())))) [])).2.2.2.1
 let x11:=(Tree.l (Tree.mk ((0:Int),((0:Int),((0:Int),(ByteArray.empty,())))) []))
 let x12:=(Tree.mk ((1:Int),((wrap .i64 (r7.1.1+(40:Int))),(x9,(x10,())))) x11)
 some ((x12,()),(a1,()))
 else
 bif (decide (a2>(3:Int))) then
 (F50 k (wrap .i64 (Int.tdiv a0 (16:Int))) (50:Int)).bind fun r13 =>
 let x14:=(Int.tmod (wrap .i64 (Int.tdiv a0 (16:Int))) (5:Int))
 let x15:=(wrap .i64 ((wrap .i64 (r13.1.1+(40:Int)))+x14))
 let x16:=(Tree.a (Tree.mk ((0:Int),((0:Int),((0:Int),(ByteArray.empty,())))) [])).2.2.2.1
 let x17:=(Tree.l (Tree.mk ((0:Int),((0:Int),((0:Int),(ByteArray.empty,())))) []))
 let x18:=(Tree.mk ((1:Int),((wrap .i64 (r13.1.1+(40:Int))),(x15,(x16,())))) x17)
 some ((x18,()),(a1,()))
 else
 bif (decide (r6.1.1<(6:Int))) then
 (F50 k (wrap .i64 (Int.tdiv a0 (16:Int))) (1114112:Int)).bind fun r19 =>
 let x20:=(Int.tmod (wrap .i64 (Int.tdiv a0 (16:Int))) (9:Int))
 let x21:=(minI (wrap .i64 (r19.1.1+x20)) (1114111:Int))
 let x22:=(Tree.a (Tree.mk ((0:Int),((0:Int),((0:Int),(ByteArray.empty,())))) [])).2.2.2.1
 let x23:=(Tree.l (Tree.mk ((0:Int),((0:Int),((0:Int),(ByteArray.empty,())))) []))
 let x24:=(Tree.mk ((1:Int),(r19.1.1,(x21,(x22,())))) x23)
 some ((x24,()),(a1,()))
 else
 bif (decide (r6.1.1<(8:Int))) then
 let x25:=(decide ((length a1:Int)>(0:Int)))
 bif x25 then
 (F50 k (wrap .i64 (Int.tdiv a0 (16:Int))) (length a1:Int)).bind fun r26 =>
 if 0≤r26.1.1∧r26.1.1<(length a1:Int) then
 let x27:=(getD a1 (toNat r26.1.1) (ByteArray.empty,((Tree.mk ((0:Int),((0:Int),((0:Int),(ByteArray.empty,())))) []),()))).1
 let x28:=(Tree.a (Tree.mk ((0:Int),((0:Int),((0:Int),(ByteArray.empty,())))) [])).2.1
 let x29:=(Tree.a (Tree.mk ((0:Int),((0:Int),((0:Int),(ByteArray.empty,())))) [])).2.2.1
 let x30:=(Tree.l (Tree.mk ((0:Int),((0:Int),((0:Int),(ByteArray.empty,())))) []))
 let x31:=(Tree.mk ((2:Int),(x28,(x29,(x27,())))) x30)
 some ((x31,()),(a1,()))
 else none
 else
 bif (decide (r6.1.1<(9:Int))) then
 let x32:=(Tree.a (Tree.mk ((0:Int),((0:Int),((0:Int),(ByteArray.empty,())))) [])).2.1
 let x33:=(Tree.a (Tree.mk ((0:Int),((0:Int),((0:Int),(ByteArray.empty,())))) [])).2.2.1
 let x34:=(Tree.a (Tree.mk ((0:Int),((0:Int),((0:Int),(ByteArray.empty,())))) [])).2.2.2.1
 let x35:=(Tree.l (Tree.mk ((0:Int),((0:Int),((0:Int),(ByteArray.empty,())))) []))
 let x36:=(Tree.mk ((3:Int),(x32,(x33,(x34,())))) x35)
 some ((x36,()),(a1,()))
 else
 bif (decide (r6.1.1<(10:Int))) then
 (f72 (wrap .i64 (Int.tdiv a0 (16:Int))) a1 (wrap .i64 (a2+(1:Int)))).bind fun r37 =>
 let x38:=(List.set (replicate 1 (Tree.mk ((0:Int),((0:Int),((0:Int),(ByteArray.empty,())))) [])) 0 r37.1.1)
 let x39:=(Tree.a (Tree.mk ((0:Int),((0:Int),((0:Int),(ByteArray.empty,())))) [])).2.1
 let x40:=(Tree.a (Tree.mk ((0:Int),((0:Int),((0:Int),(ByteArray.empty,())))) [])).2.2.1
 let x41:=(Tree.a (Tree.mk ((0:Int),((0:Int),((0:Int),(ByteArray.empty,())))) [])).2.2.2.1
 let x42:=(Tree.mk ((4:Int),(x39,(x40,(x41,())))) x38)
 some ((x42,()),(r37.2.1,()))
 else
 let x43:=(Int.tmod (wrap .i64 (Int.tdiv a0 (16:Int))) (3:Int))
 let x44:=(wrap .i64 (Int.tdiv (wrap .i64 (Int.tdiv a0 (16:Int))) (3:Int)))
 (f72 x44 a1 (wrap .i64 (a2+(1:Int)))).bind fun r45 =>
 let x46:=(wrap .i64 (Int.tdiv (wrap .i64 (Int.tdiv a0 (16:Int))) (48:Int)))
 (f72 x46 r45.2.1 (wrap .i64 (a2+(1:Int)))).bind fun r47 =>
 let x48:=(List.set (List.set (replicate 2 (Tree.mk ((0:Int),((0:Int),((0:Int),(ByteArray.empty,())))) [])) 0 r45.1.1) 1 r47.1.1)
 let x49:=(Tree.a (Tree.mk ((0:Int),((0:Int),((0:Int),(ByteArray.empty,())))) [])).2.1
 let x50:=(Tree.a (Tree.mk ((0:Int),((0:Int),((0:Int),(ByteArray.empty,())))) [])).2.2.1
 let x51:=(Tree.a (Tree.mk ((0:Int),((0:Int),((0:Int),(ByteArray.empty,())))) [])).2.2.2.1
 let x52:=(Tree.mk ((wrap .i64 ((5:Int)+x43)),(x49,(x50,(x51,())))) x48)
 some ((x52,()),(r47.2.1,()))
 else
 bif (decide (r6.1.1<(9:Int))) then
 let x53:=(Tree.a (Tree.mk ((0:Int),((0:Int),((0:Int),(ByteArray.empty,())))) [])).2.1
 let x54:=(Tree.a (Tree.mk ((0:Int),((0:Int),((0:Int),(ByteArray.empty,())))) [])).2.2.1
 let x55:=(Tree.a (Tree.mk ((0:Int),((0:Int),((0:Int),(ByteArray.empty,())))) [])).2.2.2.1
 let x56:=(Tree.l (Tree.mk ((0:Int),((0:Int),((0:Int),(ByteArray.empty,())))) []))
 let x57:=(Tree.mk ((3:Int),(x53,(x54,(x55,())))) x56)
 some ((x57,()),(a1,()))
 else
 bif (decide (r6.1.1<(10:Int))) then
 (f72 (wrap .i64 (Int.tdiv a0 (16:Int))) a1 (wrap .i64 (a2+(1:Int)))).bind fun r58 =>
 let x59:=(List.set (replicate 1 (Tree.mk ((0:Int),((0:Int),((0:Int),(ByteArray.empty,())))) [])) 0 r58.1.1)
 let x60:=(Tree.a (Tree.mk ((0:Int),((0:Int),((0:Int),(ByteArray.empty,())))) [])).2.1
 let x61:=(Tree.a (Tree.mk ((0:Int),((0:Int),((0:Int),(ByteArray.empty,())))) [])).2.2.1
 let x62:=(Tree.a (Tree.mk ((0:Int),((0:Int),((0:Int),(ByteArray.empty,())))) [])).2.2.2.1
 let x63:=(Tree.mk ((4:Int),(x60,(x61,(x62,())))) x59)
 some ((x63,()),(r58.2.1,()))
 else
 let x64:=(Int.tmod (wrap .i64 (Int.tdiv a0 (16:Int))) (3:Int))
 let x65:=(wrap .i64 (Int.tdiv (wrap .i64 (Int.tdiv a0 (16:Int))) (3:Int)))
 (f72 x65 a1 (wrap .i64 (a2+(1:Int)))).bind fun r66 =>
 let x67:=(wrap .i64 (Int.tdiv (wrap .i64 (Int.tdiv a0 (16:Int))) (48:Int)))
 (f72 x67 r66.2.1 (wrap .i64 (a2+(1:Int)))).bind fun r68 =>
 let x69:=(List.set (List.set (replicate 2 (Tree.mk ((0:Int),((0:Int),((0:Int),(ByteArray.empty,())))) [])) 0 r66.1.1) 1 r68.1.1)
 let x70:=(Tree.a (Tree.mk ((0:Int),((0:Int),((0:Int),(ByteArray.empty,())))) [])).2.1
 let x71:=(Tree.a (Tree.mk ((0:Int),((0:Int),((0:Int),(ByteArray.empty,())))) [])).2.2.1
 let x72:=(Tree.a (Tree.mk ((0:Int),((0:Int),((0:Int),(ByteArray.empty,())))) [])).2.2.2.1
 let x73:=(Tree.mk ((wrap .i64 ((5:Int)+x64)),(x70,(x71,(x72,())))) x69)
 some ((x73,()),(r68.2.1,()))
def sb72 (k:Nat) (f72:(Int→TY41→Int→Option TY23)):Spec:=rs72 (B72 k f72)
def lim72:Lim:=⟨91,3,false,false,[],[]⟩
def cfg72 (k:Nat) (f72:(Int→TY41→Int→Option TY23)):Nat→Option Spec:=cfgL [(50,sp50 k),(72,rs72 f72)]
noncomputable def co72:Code:=codeAt (bodyOf Try.f72) []
theorem cfg72_ok (k:Nat) (f72:(Int→TY41→Int→Option TY23)) (h72:Callable Try.prog 72∧Valid Try.prog 72 (rs72 f72)):CfgOK Try.prog (cfg72 k f72):=cfgL_cons (v50 k) (cfgL_cons h72 (cfgL_nil))
noncomputable def bo72 (k:Nat) (f72:(Int→TY41→Int→Option TY23)) (x:AT (sb72 k f72).ps):=fnT Try.prog (cfg72 k f72) lim72 Try.f72 (bodyOf Try.f72) .go (sb72 k f72) x
theorem vv72 (k:Nat) (f72:(Int→TY41→Int→Option TY23)) (x:AT (sb72 k f72).ps):(sb72 k f72).impl x=(bo72 k f72 x).eval∧(bo72 k f72 x).left=(bo72 k f72 x).right:=⟨by kernel_rfl,by kernel_rfl⟩
theorem b72 (k:Nat) (f72:(Int→TY41→Int→Option TY23)) (h72:Callable Try.prog 72∧Valid Try.prog 72 (rs72 f72)):Callable Try.prog 72∧Valid Try.prog 72 (sb72 k f72) :=
 fn_of (n:=lim72) (fn:=Try.f72) (p:=.go) (cfg72_ok k f72 h72) (by kernel_rfl) (planOK_go _) (vv72 k f72)
def R72:Nat→(Int→TY41→Int→Option TY23)
 |0=>fun _ _ _=>none
 |k+1=>B72 k (R72 k)
def F72 (k:Nat) (a0_:Int) (a1_:TY41) (a2_:Int):Option TY23:=(R72 k) a0_ a1_ a2_
def sp72 (k:Nat):Spec:=⟨[.val (.int .i64),.mut KD25,.val (.int .i64)],[.val KD34],fun x=>F72 k x.1 x.2.1 x.2.2.1⟩
theorem r72 (k:Nat):(Callable Try.prog 72∧Valid Try.prog 72 (rs72 (R72 k))):=by
 induction k with
 |zero=>exact ⟨⟨Try.f72,by kernel_rfl,by kernel_rfl,by kernel_rfl⟩,fun x r h=>by cases (show (none:Option _)=some r from h)⟩
 |succ k ih=>exact b72 k (R72 k) ih
theorem v72 (k:Nat):Callable Try.prog 72∧Valid Try.prog 72 (sp72 k):=(r72 k)
def F49_0 (k:Nat):Nat→(List Int)→Int→TY41→Option ((Unit×TY35))
 |0,_,_,_=>none
 |n+1,t0,t4,e0 =>
  let x23:=(decide (t4<(length t0:Int)))
  bif x23 then
  bif (decide (t4<(2:Int))) then
  if 0≤t4∧t4<(length t0:Int) then
  (F71 k).bind fun r24 =>
  if 0≤(wrap .i64 ((4:Int)+t4))∧(wrap .i64 ((4:Int)+t4))<(length r24.1.1:Int) then
  let x25:=(toNat (wrap .i64 ((4:Int)+t4)))
  (F50 k (getD t0 (toNat t4) (0:Int)) (1099511627776:Int)).bind fun r26 =>
  (F72 k r26.1.1 e0 (0:Int)).bind fun r27 =>
  let x28:=(List.set (replicate 1 (ByteArray.empty,((Tree.mk ((0:Int),((0:Int),((0:Int),(ByteArray.empty,())))) []),()))) 0 ((getD r24.1.1 x25 ByteArray.empty),(r27.1.1,())))
  if (length r27.2.1+length x28)*(80*2)≤281474976710656∧length r27.2.1+length x28≤9223372036854775807 then
  (F49_0 k n t0 (wrap .i64 (t4+(1:Int))) (r27.2.1++x28)).bind some
  else none
  else none
  else none
  else
  some ((),(e0,()))
  else
  some ((),(e0,()))
def sq49_0:Shape:=⟨[(3,KD25)],[(0,.val KD68),(3,.at 2000003 []),(4,.val (.int .i64))],[(2000003,none,KD25)]⟩
def fu49_0 (k m:Nat) (v:sq49_0.V):=F49_0 k m v.1.1 v.1.2.1 v.2.1
def fr49_0 (k:Nat):Frag:=⟨sq49_0,[(.exit 0,⟨[(3,KD25)],[(3,.at 2000003 [])],[(2000003,none,KD25)]⟩)],fu49_0 k k⟩
def F49 (k:Nat) (a0:(List Int)):Option (TY35×Unit) :=
 (F70 k (97:Int) (97:Int)).bind fun r1 =>
 (F70 k (97:Int) (99:Int)).bind fun r2 =>
 (F70 k (48:Int) (57:Int)).bind fun r3 =>
 (F70 k (19968:Int) (20223:Int)).bind fun r4 =>
 let x5:=(List.set (List.set (replicate 2 (Tree.mk ((0:Int),((0:Int),((0:Int),(ByteArray.empty,())))) [])) 0 r3.1.1) 1 r4.1.1)
 let x6:=(Tree.a (Tree.mk ((0:Int),((0:Int),((0:Int),(ByteArray.empty,())))) [])).2.1
 let x7:=(Tree.a (Tree.mk ((0:Int),((0:Int),((0:Int),(ByteArray.empty,())))) [])).2.2.1
 let x8:=(Tree.a (Tree.mk ((0:Int),((0:Int),((0:Int),(ByteArray.empty,())))) [])).2.2.2.1
 let x9:=(Tree.mk ((5:Int),(x6,(x7,(x8,())))) x5)
 let x10:=(Tree.a (Tree.mk ((0:Int),((0:Int),((0:Int),(ByteArray.empty,())))) [])).2.1
 let x11:=(Tree.a (Tree.mk ((0:Int),((0:Int),((0:Int),(ByteArray.empty,())))) [])).2.2.1
 let x12:=(Tree.a (Tree.mk ((0:Int),((0:Int),((0:Int),(ByteArray.empty,())))) [])).2.2.2.1
 let x13:=(Tree.l (Tree.mk ((0:Int),((0:Int),((0:Int),(ByteArray.empty,())))) []))
 let x14:=(Tree.a (Tree.mk ((0:Int),((0:Int),((0:Int),(ByteArray.empty,())))) [])).2.1
 let x15:=(Tree.a (Tree.mk ((0:Int),((0:Int),((0:Int),(ByteArray.empty,())))) [])).2.2.1
 let x16:=(Tree.l (Tree.mk ((0:Int),((0:Int),((0:Int),(ByteArray.empty,())))) []))
 let x17:=(List.set (List.set (replicate 2 (Tree.mk ((0:Int),((0:Int),((0:Int),(ByteArray.empty,())))) [])) 0 (Tree.mk ((3:Int),(x10,(x11,(x12,())))) x13)) 1 (Tree.mk ((2:Int),(x14,(x15,((⟨#[118]⟩:ByteArray),())))) x16))
 let x18:=(Tree.a (Tree.mk ((0:Int),((0:Int),((0:Int),(ByteArray.empty,())))) [])).2.1
 let x19:=(Tree.a (Tree.mk ((0:Int),((0:Int),((0:Int),(ByteArray.empty,())))) [])).2.2.1
 let x20:=(Tree.a (Tree.mk ((0:Int),((0:Int),((0:Int),(ByteArray.empty,())))) [])).2.2.2.1
 let x21:=(Tree.mk ((7:Int),(x18,(x19,(x20,())))) x17)
 let x22:=(List.set (List.set (List.set (List.set (replicate 4 (ByteArray.empty,((Tree.mk ((0:Int),((0:Int),((0:Int),(ByteArray.empty,())))) []),()))) 0 ((⟨#[97]⟩:ByteArray),(r1.1.1,()))) 1 ((⟨#[118]⟩:ByteArray),(r2.1.1,()))) 2 ((⟨#[100]⟩:ByteArray),(x9,()))) 3 ((⟨#[115]⟩:ByteArray),(x21,())))
 (F49_0 k k a0 (0:Int) x22).bind fun r29 =>
 some ((r29.2.1,()),())
def sp49 (k:Nat):Spec:=⟨[.val KD68],[.own KD25],fun x=>F49 k x.1⟩
def lim49:Lim:=⟨47,1,false,true,[],[]⟩
def cfg49 (k:Nat):Nat→Option Spec:=cfgL [(50,sp50 k),(70,sp70 k),(71,sp71 k),(72,sp72 k)]
noncomputable def co49_0:Code:=codeAt (bodyOf Try.f49) [.r,.r,.l,.r,.s]
noncomputable def cb49_0:Code:=codeAt (bodyOf Try.f49) [.r,.r,.l,.r,.s,.b]
noncomputable def co49:Code:=codeAt (bodyOf Try.f49) []
theorem cfg49_ok (k:Nat):CfgOK Try.prog (cfg49 k):=cfgL_cons (v50 k) (cfgL_cons (v70 k) (cfgL_cons (v71 k) (cfgL_cons (v72 k) (cfgL_nil))))
noncomputable def bo49_0 (k m:Nat) (v:sq49_0.V):=body Try.prog (stepper Try.prog (cfg49 k) lim49) .go cb49_0 (sq49_0.st v) (loopK (fr49_0 k) (fu49_0 k m))
theorem pp49_0 (k m:Nat) (v:sq49_0.V):fu49_0 k (m+1) v=(bo49_0 k m v).eval∧(bo49_0 k m v).left=(bo49_0 k m v).right:=⟨by kernel_rfl,by kernel_rfl⟩
theorem fr49_0_ok (k:Nat):FragOK Try.prog lim49 (fr49_0 k) co49_0 :=
 frag_cast (by kernel_rfl) (loop_ok (cfg49_ok k) (planOK_go _) (fu49_0 k) k (fun _=>rfl) (fun _=>rfl) (pp49_0 k))
def pl49 (k:Nat):Plan:=(.seq .go (.seq .go (.seq (.seq .go (.sub (.frag (fr49_0 k)))) .go)))
noncomputable def bo49 (k:Nat) (x:AT (sp49 k).ps):=fnT Try.prog (cfg49 k) lim49 Try.f49 (bodyOf Try.f49) (pl49 k) (sp49 k) x
theorem vv49 (k:Nat) (x:AT (sp49 k).ps):(sp49 k).impl x=(bo49 k x).eval∧(bo49 k x).left=(bo49 k x).right:=⟨by kernel_rfl,by kernel_rfl⟩
theorem v49 (k:Nat):Callable Try.prog 49∧Valid Try.prog 49 (sp49 k) :=
 fn_of (n:=lim49) (fn:=Try.f49) (p:=(pl49 k)) (cfg49_ok k) (by kernel_rfl) (plan_of (L:=[(fr49_0 k,co49_0)]) (by kernel_rfl) (.cons (fr49_0_ok k) .nil)) (vv49 k)
def rs51 (f51:(TY74→Bool→Option TY42)):Spec:=⟨[.val KD50,.val .bool],[.val KD28],fun x=>f51 x.1 x.2.1⟩
def rs73 (f73:(TY74→Int→Bool→Option TY42)):Spec:=⟨[.val KD50,.val (.int .i64),.val .bool],[.val KD28],fun x=>f73 x.1 x.2.1 x.2.2.1⟩
def B51 (k:Nat) (f51:(TY74→Bool→Option TY42)) (f73:(TY74→Int→Bool→Option TY42)) (a0:TY74) (a1:Bool):Option TY42 :=
 (F50 k (Tree.a a0).1 (20:Int)).bind fun r7 =>
 bif (decide (r7.1.1<(1:Int))) then
 let x8:=(Tree.a (Tree.mk ((0:Int),((0:Int),((0:Int),((0:Int),(ByteArray.empty,()))))) [])).2.1
 let x9:=(Tree.a (Tree.mk ((0:Int),((0:Int),((0:Int),((0:Int),(ByteArray.empty,()))))) [])).2.2.1
 let x10:=(Tree.a (Tree.mk ((0:Int),((0:Int),((0:Int),((0:Int),(ByteArray.empty,()))))) [])).2.2.2.1
 let x11:=(Tree.a (Tree.mk ((0:Int),((0:Int),((0:Int),((0:Int),(ByteArray.empty,()))))) [])).2.2.2.2.1
 let x12:=(Tree.l (Tree.mk ((0:Int),((0:Int),((0:Int),((0:Int),(ByteArray.empty,()))))) []))
 let x13:=(Tree.mk ((1:Int),(x8,(x9,(x10,(x11,()))))) x12)
 some ((x13,()),())
 else
 bif (decide (r7.1.1<(6:Int))) then
 (F71 k).bind fun r14 =>
 (F50 k (Tree.a a0).2.1 (4:Int)).bind fun r15 =>
 if 0≤r15.1.1∧r15.1.1<(length r14.1.1:Int) then
 let x16:=(getD r14.1.1 (toNat r15.1.1) ByteArray.empty)
 let x17:=(Tree.a (Tree.mk ((0:Int),((0:Int),((0:Int),((0:Int),(ByteArray.empty,()))))) [])).2.1
 let x18:=(Tree.a (Tree.mk ((0:Int),((0:Int),((0:Int),((0:Int),(ByteArray.empty,()))))) [])).2.2.1
 let x19:=(Tree.a (Tree.mk ((0:Int),((0:Int),((0:Int),((0:Int),(ByteArray.empty,()))))) [])).2.2.2.1
 let x20:=(Tree.l (Tree.mk ((0:Int),((0:Int),((0:Int),((0:Int),(ByteArray.empty,()))))) []))
 let x21:=(Tree.mk ((2:Int),(x17,(x18,(x19,(x16,()))))) x20)
 some ((x21,()),())
 else none
 else
 bif (decide (r7.1.1<(8:Int))) then
 let x22:=(Tree.a (Tree.mk ((0:Int),((0:Int),((0:Int),((0:Int),(ByteArray.empty,()))))) [])).2.1
 let x23:=(Tree.a (Tree.mk ((0:Int),((0:Int),((0:Int),((0:Int),(ByteArray.empty,()))))) [])).2.2.1
 let x24:=(Tree.a (Tree.mk ((0:Int),((0:Int),((0:Int),((0:Int),(ByteArray.empty,()))))) [])).2.2.2.1
 let x25:=(Tree.a (Tree.mk ((0:Int),((0:Int),((0:Int),((0:Int),(ByteArray.empty,()))))) [])).2.2.2.2.1
 let x26:=(Tree.l (Tree.mk ((0:Int),((0:Int),((0:Int),((0:Int),(ByteArray.empty,()))))) []))
 let x27:=(Tree.mk ((3:Int),(x22,(x23,(x24,(x25,()))))) x26)
 some ((x27,()),())
 else
 bif (decide (r7.1.1<(13:Int))) then
 let x28:=(Tree.mk ((Tree.a a0).1,((Tree.a a0).2.1,())) (Tree.l a0))
 let x29:=(Tree.mk ((Tree.a a0).1,((Tree.a a0).2.1,())) (Tree.l a0))
 (f73 x28 (0:Int) a1).bind fun r30 =>
 (f73 x29 (1:Int) a1).bind fun r31 =>
 let x32:=(List.set (List.set (replicate 2 (Tree.mk ((0:Int),((0:Int),((0:Int),((0:Int),(ByteArray.empty,()))))) [])) 0 r30.1.1) 1 r31.1.1)
 let x33:=(Tree.a (Tree.mk ((0:Int),((0:Int),((0:Int),((0:Int),(ByteArray.empty,()))))) [])).2.1
 let x34:=(Tree.a (Tree.mk ((0:Int),((0:Int),((0:Int),((0:Int),(ByteArray.empty,()))))) [])).2.2.1
 let x35:=(Tree.a (Tree.mk ((0:Int),((0:Int),((0:Int),((0:Int),(ByteArray.empty,()))))) [])).2.2.2.1
 let x36:=(Tree.a (Tree.mk ((0:Int),((0:Int),((0:Int),((0:Int),(ByteArray.empty,()))))) [])).2.2.2.2.1
 let x37:=(Tree.mk ((4:Int),(x33,(x34,(x35,(x36,()))))) x32)
 some ((x37,()),())
 else
 bif (decide (r7.1.1<(15:Int))) then
 let x38:=(Tree.mk ((Tree.a a0).1,((Tree.a a0).2.1,())) (Tree.l a0))
 let x39:=(Tree.mk ((Tree.a a0).1,((Tree.a a0).2.1,())) (Tree.l a0))
 (f73 x38 (0:Int) a1).bind fun r40 =>
 (f73 x39 (1:Int) a1).bind fun r41 =>
 let x42:=(List.set (List.set (replicate 2 (Tree.mk ((0:Int),((0:Int),((0:Int),((0:Int),(ByteArray.empty,()))))) [])) 0 r40.1.1) 1 r41.1.1)
 let x43:=(Tree.a (Tree.mk ((0:Int),((0:Int),((0:Int),((0:Int),(ByteArray.empty,()))))) [])).2.1
 let x44:=(Tree.a (Tree.mk ((0:Int),((0:Int),((0:Int),((0:Int),(ByteArray.empty,()))))) [])).2.2.1
 let x45:=(Tree.a (Tree.mk ((0:Int),((0:Int),((0:Int),((0:Int),(ByteArray.empty,()))))) [])).2.2.2.1
 let x46:=(Tree.a (Tree.mk ((0:Int),((0:Int),((0:Int),((0:Int),(ByteArray.empty,()))))) [])).2.2.2.2.1
 let x47:=(Tree.mk ((5:Int),(x43,(x44,(x45,(x46,()))))) x42)
 some ((x47,()),())
 else
 bif (decide (r7.1.1<(16:Int))) then
 let x48:=(Tree.mk ((Tree.a a0).1,((Tree.a a0).2.1,())) (Tree.l a0))
 (f73 x48 (0:Int) a1).bind fun r49 =>
 let x50:=(List.set (replicate 1 (Tree.mk ((0:Int),((0:Int),((0:Int),((0:Int),(ByteArray.empty,()))))) [])) 0 r49.1.1)
 let x51:=(Tree.a (Tree.mk ((0:Int),((0:Int),((0:Int),((0:Int),(ByteArray.empty,()))))) [])).2.1
 let x52:=(Tree.a (Tree.mk ((0:Int),((0:Int),((0:Int),((0:Int),(ByteArray.empty,()))))) [])).2.2.1
 let x53:=(Tree.a (Tree.mk ((0:Int),((0:Int),((0:Int),((0:Int),(ByteArray.empty,()))))) [])).2.2.2.1
 let x54:=(Tree.a (Tree.mk ((0:Int),((0:Int),((0:Int),((0:Int),(ByteArray.empty,()))))) [])).2.2.2.2.1
 let x55:=(Tree.mk ((6:Int),(x51,(x52,(x53,(x54,()))))) x50)
 some ((x55,()),())
 else
 bif (decide (r7.1.1<(18:Int))) then
 (F50 k (Tree.a a0).2.1 (3:Int)).bind fun r56 =>
 let x57:=(Tree.mk ((Tree.a a0).1,((Tree.a a0).2.1,())) (Tree.l a0))
 let x58:=(wrap .i64 (Int.tdiv (Tree.a a0).2.1 (3:Int)))
 (f73 x57 (0:Int) a1).bind fun r59 =>
 let x60:=(List.set (replicate 1 (Tree.mk ((0:Int),((0:Int),((0:Int),((0:Int),(ByteArray.empty,()))))) [])) 0 r59.1.1)
 (F50 k x58 (3:Int)).bind fun r61 =>
 let x62:=(Tree.a (Tree.mk ((0:Int),((0:Int),((0:Int),((0:Int),(ByteArray.empty,()))))) [])).2.2.2.1
 let x63:=(Tree.a (Tree.mk ((0:Int),((0:Int),((0:Int),((0:Int),(ByteArray.empty,()))))) [])).2.2.2.2.1
 let x64:=(Tree.mk ((7:Int),(r56.1.1,((wrap .i64 (r56.1.1+r61.1.1)),(x62,(x63,()))))) x60)
 some ((x64,()),())
 else
 bif a1 then
 let x65:=(Tree.mk ((Tree.a a0).1,((Tree.a a0).2.1,())) (Tree.l a0))
 (f73 x65 (0:Int) a1).bind fun r66 =>
 some ((r66.1.1,()),())
 else
 let x67:=(Tree.mk ((Tree.a a0).1,((Tree.a a0).2.1,())) (Tree.l a0))
 (f73 x67 (0:Int) a1).bind fun r68 =>
 let x69:=(List.set (replicate 1 (Tree.mk ((0:Int),((0:Int),((0:Int),((0:Int),(ByteArray.empty,()))))) [])) 0 r68.1.1)
 (F50 k (Tree.a a0).2.1 (7:Int)).bind fun r70 =>
 let x71:=(Tree.a (Tree.mk ((0:Int),((0:Int),((0:Int),((0:Int),(ByteArray.empty,()))))) [])).2.1
 let x72:=(Tree.a (Tree.mk ((0:Int),((0:Int),((0:Int),((0:Int),(ByteArray.empty,()))))) [])).2.2.1
 let x73:=(Tree.a (Tree.mk ((0:Int),((0:Int),((0:Int),((0:Int),(ByteArray.empty,()))))) [])).2.2.2.2.1
 let x74:=(Tree.mk ((8:Int),(x71,(x72,(r70.1.1,(x73,()))))) x69)
 some ((x74,()),())
def sb51 (k:Nat) (f51:(TY74→Bool→Option TY42)) (f73:(TY74→Int→Bool→Option TY42)):Spec:=rs51 (B51 k f51 f73)
def lim51:Lim:=⟨88,2,false,false,[],[]⟩
def cfg51 (k:Nat) (f51:(TY74→Bool→Option TY42)) (f73:(TY74→Int→Bool→Option TY42)):Nat→Option Spec:=cfgL [(50,sp50 k),(71,sp71 k),(73,rs73 f73)]
noncomputable def co51:Code:=codeAt (bodyOf Try.f51) []
theorem cfg51_ok (k:Nat) (f51:(TY74→Bool→Option TY42)) (f73:(TY74→Int→Bool→Option TY42)) (h51:Callable Try.prog 51∧Valid Try.prog 51 (rs51 f51)) (h73:Callable Try.prog 73∧Valid Try.prog 73 (rs73 f73)):CfgOK Try.prog (cfg51 k f51 f73):=cfgL_cons (v50 k) (cfgL_cons (v71 k) (cfgL_cons h73 (cfgL_nil)))
noncomputable def bo51 (k:Nat) (f51:(TY74→Bool→Option TY42)) (f73:(TY74→Int→Bool→Option TY42)) (x:AT (sb51 k f51 f73).ps):=fnT Try.prog (cfg51 k f51 f73) lim51 Try.f51 (bodyOf Try.f51) .go (sb51 k f51 f73) x
theorem vv51 (k:Nat) (f51:(TY74→Bool→Option TY42)) (f73:(TY74→Int→Bool→Option TY42)) (x:AT (sb51 k f51 f73).ps):(sb51 k f51 f73).impl x=(bo51 k f51 f73 x).eval∧(bo51 k f51 f73 x).left=(bo51 k f51 f73 x).right:=⟨by kernel_rfl,by kernel_rfl⟩
theorem b51 (k:Nat) (f51:(TY74→Bool→Option TY42)) (f73:(TY74→Int→Bool→Option TY42)) (h51:Callable Try.prog 51∧Valid Try.prog 51 (rs51 f51)) (h73:Callable Try.prog 73∧Valid Try.prog 73 (rs73 f73)):Callable Try.prog 51∧Valid Try.prog 51 (sb51 k f51 f73) :=
 fn_of (n:=lim51) (fn:=Try.f51) (p:=.go) (cfg51_ok k f51 f73 h51 h73) (by kernel_rfl) (planOK_go _) (vv51 k f51 f73)
def B73 (k:Nat) (f51:(TY74→Bool→Option TY42)) (f73:(TY74→Int→Bool→Option TY42)) (a0:TY74) (a1:Int) (a2:Bool):Option TY42 :=
 let x7:=(decide (a1<(length (Tree.l a0):Int)))
 bif x7 then
 if 0≤a1∧a1<(length (Tree.l a0):Int) then
 let x8:=(getD (Tree.l a0) (toNat a1) (Tree.mk ((0:Int),((0:Int),())) []))
 (f51 x8 a2).bind fun r9 =>
 some ((r9.1.1,()),())
 else none
 else
 (F71 k).bind fun r10 =>
 (F50 k (wrap .i64 ((Tree.a a0).2.1+a1)) (4:Int)).bind fun r11 =>
 if 0≤r11.1.1∧r11.1.1<(length r10.1.1:Int) then
 let x12:=(getD r10.1.1 (toNat r11.1.1) ByteArray.empty)
 let x13:=(Tree.a (Tree.mk ((0:Int),((0:Int),((0:Int),((0:Int),(ByteArray.empty,()))))) [])).2.1
 let x14:=(Tree.a (Tree.mk ((0:Int),((0:Int),((0:Int),((0:Int),(ByteArray.empty,()))))) [])).2.2.1
 let x15:=(Tree.a (Tree.mk ((0:Int),((0:Int),((0:Int),((0:Int),(ByteArray.empty,()))))) [])).2.2.2.1
 let x16:=(Tree.l (Tree.mk ((0:Int),((0:Int),((0:Int),((0:Int),(ByteArray.empty,()))))) []))
 let x17:=(Tree.mk ((2:Int),(x13,(x14,(x15,(x12,()))))) x16)
 some ((x17,()),())
 else none
def sb73 (k:Nat) (f51:(TY74→Bool→Option TY42)) (f73:(TY74→Int→Bool→Option TY42)):Spec:=rs73 (B73 k f51 f73)
def lim73:Lim:=⟨28,3,false,false,[],[]⟩
def cfg73 (k:Nat) (f51:(TY74→Bool→Option TY42)) (f73:(TY74→Int→Bool→Option TY42)):Nat→Option Spec:=cfgL [(50,sp50 k),(51,rs51 f51),(71,sp71 k)]
noncomputable def co73:Code:=codeAt (bodyOf Try.f73) []
theorem cfg73_ok (k:Nat) (f51:(TY74→Bool→Option TY42)) (f73:(TY74→Int→Bool→Option TY42)) (h51:Callable Try.prog 51∧Valid Try.prog 51 (rs51 f51)) (h73:Callable Try.prog 73∧Valid Try.prog 73 (rs73 f73)):CfgOK Try.prog (cfg73 k f51 f73):=cfgL_cons (v50 k) (cfgL_cons h51 (cfgL_cons (v71 k) (cfgL_nil)))
noncomputable def bo73 (k:Nat) (f51:(TY74→Bool→Option TY42)) (f73:(TY74→Int→Bool→Option TY42)) (x:AT (sb73 k f51 f73).ps):=fnT Try.prog (cfg73 k f51 f73) lim73 Try.f73 (bodyOf Try.f73) .go (sb73 k f51 f73) x
theorem vv73 (k:Nat) (f51:(TY74→Bool→Option TY42)) (f73:(TY74→Int→Bool→Option TY42)) (x:AT (sb73 k f51 f73).ps):(sb73 k f51 f73).impl x=(bo73 k f51 f73 x).eval∧(bo73 k f51 f73 x).left=(bo73 k f51 f73 x).right:=⟨by kernel_rfl,by kernel_rfl⟩
theorem b73 (k:Nat) (f51:(TY74→Bool→Option TY42)) (f73:(TY74→Int→Bool→Option TY42)) (h51:Callable Try.prog 51∧Valid Try.prog 51 (rs51 f51)) (h73:Callable Try.prog 73∧Valid Try.prog 73 (rs73 f73)):Callable Try.prog 73∧Valid Try.prog 73 (sb73 k f51 f73) :=
 fn_of (n:=lim73) (fn:=Try.f73) (p:=.go) (cfg73_ok k f51 f73 h51 h73) (by kernel_rfl) (planOK_go _) (vv73 k f51 f73)
def R51:Nat→(TY74→Bool→Option TY42)×(TY74→Int→Bool→Option TY42)
 |0=>(fun _ _=>none,fun _ _ _=>none)
 |k+1=>(B51 k (R51 k).1 (R51 k).2,B73 k (R51 k).1 (R51 k).2)
def F51 (k:Nat) (a0_:TY74) (a1_:Bool):Option TY42:=(R51 k).1 a0_ a1_
def sp51 (k:Nat):Spec:=⟨[.val KD50,.val .bool],[.val KD28],fun x=>F51 k x.1 x.2.1⟩
def F73 (k:Nat) (a0_:TY74) (a1_:Int) (a2_:Bool):Option TY42:=(R51 k).2 a0_ a1_ a2_
def sp73 (k:Nat):Spec:=⟨[.val KD50,.val (.int .i64),.val .bool],[.val KD28],fun x=>F73 k x.1 x.2.1 x.2.2.1⟩
theorem r51 (k:Nat):(Callable Try.prog 51∧Valid Try.prog 51 (rs51 (R51 k).1))∧(Callable Try.prog 73∧Valid Try.prog 73 (rs73 (R51 k).2)):=by
 induction k with
 |zero=>exact ⟨⟨⟨Try.f51,by kernel_rfl,by kernel_rfl,by kernel_rfl⟩,fun x r h=>by cases (show (none:Option _)=some r from h)⟩,⟨⟨Try.f73,by kernel_rfl,by kernel_rfl,by kernel_rfl⟩,fun x r h=>by cases (show (none:Option _)=some r from h)⟩⟩
 |succ k ih=>exact ⟨b51 k (R51 k).1 (R51 k).2 ih.1 ih.2,b73 k (R51 k).1 (R51 k).2 ih.1 ih.2⟩
theorem v51 (k:Nat):Callable Try.prog 51∧Valid Try.prog 51 (sp51 k):=(r51 k).1
theorem v73 (k:Nat):Callable Try.prog 73∧Valid Try.prog 73 (sp73 k):=(r51 k).2
def F28_0 (k:Nat):Nat→TY64→(List Int)→Int→TY13→TY13→Option ((Unit×(TY13×TY13×Unit)))
 |0,_,_,_,_,_=>none
 |n+1,t0,t1,t8,c6,c7 =>
  let x23:=(decide ((wrap .i64 (t8+(1:Int)))<(length t0:Int)))
  bif x23 then
  bif (decide (t8<(8:Int))) then
  let x24:=(decide ((wrap .i64 (Int.tdiv t8 (2:Int)))<(length t1:Int)))
  bif x24 then
  if 0≤(wrap .i64 (Int.tdiv t8 (2:Int)))∧(wrap .i64 (Int.tdiv t8 (2:Int)))<(length t1:Int) then
  let x25:=(getD t1 (toNat (wrap .i64 (Int.tdiv t8 (2:Int)))) (0:Int))
  (F50 k x25 (1073741824:Int)).bind fun r26 =>
  let x27:=(wrap .i64 (Int.tdiv r26.1.1 (3:Int)))
  if 0≤t8∧t8<(length t0:Int) then
  let x28:=(getD t0 (toNat t8) (Tree.mk ((0:Int),((0:Int),())) []))
  if 0≤(wrap .i64 (t8+(1:Int)))∧(wrap .i64 (t8+(1:Int)))<(length t0:Int) then
  let x29:=(getD t0 (toNat (wrap .i64 (t8+(1:Int)))) (Tree.mk ((0:Int),((0:Int),())) []))
  (F51 k x28 false).bind fun r30 =>
  (F51 k x29 true).bind fun r31 =>
  let x32:=(List.set (replicate 1 ((0:Int),((0:Int),((Tree.mk ((0:Int),((0:Int),((0:Int),((0:Int),(ByteArray.empty,()))))) []),((Tree.mk ((0:Int),((0:Int),((0:Int),((0:Int),(ByteArray.empty,()))))) []),()))))) 0 ((Int.tmod r26.1.1 (3:Int)),((Int.tmod x27 (20:Int)),(r30.1.1,(r31.1.1,())))))
  if (length c7.2.1+length x32)*(160*2)≤281474976710656∧length c7.2.1+length x32≤9223372036854775807 then
  (F28_0 k n t0 t1 (wrap .i64 (t8+(2:Int))) c6 (c7.1,((c7.2.1++x32),c7.2.2))).bind some
  else none
  else none
  else none
  else none
  else
  let x33:=(Int.tmod (wrap .i64 (Int.tdiv t8 (3:Int))) (20:Int))
  if 0≤t8∧t8<(length t0:Int) then
  let x34:=(getD t0 (toNat t8) (Tree.mk ((0:Int),((0:Int),())) []))
  if 0≤(wrap .i64 (t8+(1:Int)))∧(wrap .i64 (t8+(1:Int)))<(length t0:Int) then
  let x35:=(getD t0 (toNat (wrap .i64 (t8+(1:Int)))) (Tree.mk ((0:Int),((0:Int),())) []))
  (F51 k x34 false).bind fun r36 =>
  (F51 k x35 true).bind fun r37 =>
  let x38:=(List.set (replicate 1 ((0:Int),((0:Int),((Tree.mk ((0:Int),((0:Int),((0:Int),((0:Int),(ByteArray.empty,()))))) []),((Tree.mk ((0:Int),((0:Int),((0:Int),((0:Int),(ByteArray.empty,()))))) []),()))))) 0 ((Int.tmod t8 (3:Int)),(x33,(r36.1.1,(r37.1.1,())))))
  if (length c7.2.1+length x38)*(160*2)≤281474976710656∧length c7.2.1+length x38≤9223372036854775807 then
  (F28_0 k n t0 t1 (wrap .i64 (t8+(2:Int))) c6 (c7.1,((c7.2.1++x38),c7.2.2))).bind some
  else none
  else none
  else none
  else
  some ((),(c6,c7,()))
  else
  some ((),(c6,c7,()))
def sq28_0:Shape:=⟨[],[(0,.val KD51),(1,.val KD68),(6,.ptr 6 []),(7,.ptr 7 []),(8,.val (.int .i64))],[(6,some 29,KD6),(7,some 29,KD6)]⟩
def fu28_0 (k m:Nat) (v:sq28_0.V):=F28_0 k m v.1.1 v.1.2.1 v.1.2.2.1 v.2.1 v.2.2.1
def fr28_0 (k:Nat):Frag:=⟨sq28_0,[(.exit 0,⟨[],[(6,.ptr 6 []),(7,.ptr 7 [])],[(6,some 29,KD6),(7,some 29,KD6)]⟩)],fu28_0 k k⟩
def F28 (k:Nat) (a0:TY64) (a1:(List Int)) (a2:(List Int)):Option ((TY13×Unit)×Unit) :=
 let x1:=([]:TY41)
 let x2:=([]:TY24)
 (F49 k a2).bind fun r3 =>
 let x4:=([]:TY24)
 (F28_0 k k a0 a1 (0:Int) (x1,(x2,())) (r3.1.1,(x4,()))).bind fun r39 =>
 some ((r39.2.2.1,()),())
def sp28 (k:Nat):Spec:=⟨[.val KD51,.val KD68,.val KD68],[.own KD6],fun x=>F28 k x.1 x.2.1 x.2.2.1⟩
def lim28:Lim:=⟨59,3,false,false,[],[]⟩
def cfg28 (k:Nat):Nat→Option Spec:=cfgL [(49,sp49 k),(50,sp50 k),(51,sp51 k)]
noncomputable def co28_0:Code:=codeAt (bodyOf Try.f28) [.r,.r,.l,.r,.s]
noncomputable def cb28_0:Code:=codeAt (bodyOf Try.f28) [.r,.r,.l,.r,.s,.b]
noncomputable def co28:Code:=codeAt (bodyOf Try.f28) []
theorem cfg28_ok (k:Nat):CfgOK Try.prog (cfg28 k):=cfgL_cons (v49 k) (cfgL_cons (v50 k) (cfgL_cons (v51 k) (cfgL_nil)))
noncomputable def bo28_0 (k m:Nat) (v:sq28_0.V):=body Try.prog (stepper Try.prog (cfg28 k) lim28) .go cb28_0 (sq28_0.st v) (loopK (fr28_0 k) (fu28_0 k m))
theorem pp28_0 (k m:Nat) (v:sq28_0.V):fu28_0 k (m+1) v=(bo28_0 k m v).eval∧(bo28_0 k m v).left=(bo28_0 k m v).right:=⟨by kernel_rfl,by kernel_rfl⟩
theorem fr28_0_ok (k:Nat):FragOK Try.prog lim28 (fr28_0 k) co28_0 :=
 frag_cast (by kernel_rfl) (loop_ok (cfg28_ok k) (planOK_go _) (fu28_0 k) k (fun _=>rfl) (fun _=>rfl) (pp28_0 k))
def pl28 (k:Nat):Plan:=(.seq .go (.seq .go (.seq (.seq .go (.sub (.frag (fr28_0 k)))) .go)))
noncomputable def bo28 (k:Nat) (x:AT (sp28 k).ps):=fnT Try.prog (cfg28 k) lim28 Try.f28 (bodyOf Try.f28) (pl28 k) (sp28 k) x
theorem vv28 (k:Nat) (x:AT (sp28 k).ps):(sp28 k).impl x=(bo28 k x).eval∧(bo28 k x).left=(bo28 k x).right:=⟨by kernel_rfl,by kernel_rfl⟩
theorem v28 (k:Nat):Callable Try.prog 28∧Valid Try.prog 28 (sp28 k) :=
 fn_of (n:=lim28) (fn:=Try.f28) (p:=(pl28 k)) (cfg28_ok k) (by kernel_rfl) (plan_of (L:=[(fr28_0 k,co28_0)]) (by kernel_rfl) (.cons (fr28_0_ok k) .nil)) (vv28 k)
def F84_0 (k:Nat):Nat→TY75→Int→Int→TY80→TY75→Option (((TY75×Int×Int×Unit)×(TY80×TY75×Unit)))
 |0,_,_,_,_,_=>none
 |n+1,t0,t4,t6,c5,e0 =>
  bif (decide (t6>(0:Int))) then
  if 0≤(wrap .i64 (t6-(1:Int)))∧(wrap .i64 (t6-(1:Int)))<(length e0:Int) then
  let x5:=(toNat (wrap .i64 (t6-(1:Int))))
  let x6:=(getD e0 x5 ((0:Int),((0:Int),()))).1
  bif (decide (c5.1<x6)) then
  (F84_0 k n t0 t4 (wrap .i64 (t6-(1:Int))) c5 e0).bind some
  else
  some ((t0,t4,t6,()),(c5,e0,()))
  else none
  else
  some ((t0,t4,t6,()),(c5,e0,()))
def sq84_0:Shape:=⟨[(3,KD48)],[(0,.val KD46),(3,.at 2000003 []),(4,.val (.int .i64)),(5,.ptr 5 []),(6,.val (.int .i64))],[(5,some 140,(.pair (.int .i64) (.pair (.int .i64) .unit))),(2000003,none,KD48)]⟩
def fu84_0 (k m:Nat) (v:sq84_0.V):=F84_0 k m v.1.1 v.1.2.1 v.1.2.2.1 v.2.1 v.2.2.1
def fr84_0 (k:Nat):Frag:=⟨sq84_0,[(.exit 2,⟨[],[(0,.val KD46),(3,.at 2000003 []),(4,.val (.int .i64)),(5,.ptr 5 []),(6,.val (.int .i64))],[(5,some 140,(.pair (.int .i64) (.pair (.int .i64) .unit))),(2000003,none,KD48)]⟩)],fu84_0 k k⟩
def F84_1 (k:Nat):Nat→TY75→Int→TY75→Option ((Unit×TY61))
 |0,_,_,_=>none
 |n+1,t0,t4,e0 =>
  let x1:=(decide (t4<(length t0:Int)))
  bif x1 then
  if 0≤t4∧t4<(length t0:Int) then
  let x2:=(getD t0 (toNat t4) ((0:Int),((0:Int),())))
  if 0≤t4∧t4<(length t0:Int) then
  let x3:=(getD t0 (toNat t4) ((0:Int),((0:Int),())))
  let x4:=(decide ((maxI x2.1 (0:Int))>(minI x3.2.1 (1114111:Int))))
  bif x4 then
  (F84_1 k n t0 (wrap .i64 (t4+(1:Int))) e0).bind some
  else
  (F84_0 k k t0 t4 (length e0:Int) ((maxI x2.1 (0:Int)),((minI x3.2.1 (1114111:Int)),())) e0).bind fun r7 =>
  let y10:=r7.1.2.2.1
  let y12:=r7.2.2.1
  if 0≤(0:Int)∧(0:Int)≤y10∧y10≤(length y12:Int) then
  let x13:=(toNat y10-toNat (0:Int))
  if 0≤y10∧y10≤(length y12:Int)∧(length y12:Int)≤(length y12:Int) then
  let x14:=(toNat (length y12:Int)-toNat y10)
  let x15:=(replicate 0 ((0:Int),((0:Int),())))
  if (length x15+length (take x13 (drop (toNat (0:Int)) y12)))*(16*2)≤281474976710656∧length x15+length (take x13 (drop (toNat (0:Int)) y12))≤9223372036854775807 then
  let x16:=(x15++(take x13 (drop (toNat (0:Int)) y12)))
  let x17:=(List.set (replicate 1 ((0:Int),((0:Int),()))) 0 r7.2.1)
  if (length x16+length x17)*(16*2)≤281474976710656∧length x16+length x17≤9223372036854775807 then
  if (length (x16++x17)+length (take x14 (drop (toNat y10) y12)))*(16*2)≤281474976710656∧length (x16++x17)+length (take x14 (drop (toNat y10) y12))≤9223372036854775807 then
  let x18:=((x16++x17)++(take x14 (drop (toNat y10) y12)))
  (F84_1 k n r7.1.1 (wrap .i64 (r7.1.2.1+(1:Int))) x18).bind some
  else none
  else none
  else none
  else none
  else none
  else none
  else none
  else
  some ((),(e0,()))
def sq84_1:Shape:=⟨[(3,KD48)],[(0,.val KD46),(3,.at 2000003 []),(4,.val (.int .i64))],[(2000003,none,KD48)]⟩
def fu84_1 (k m:Nat) (v:sq84_1.V):=F84_1 k m v.1.1 v.1.2.1 v.2.1
def fr84_1 (k:Nat):Frag:=⟨sq84_1,[(.exit 0,⟨[(3,KD48)],[(3,.at 2000003 [])],[(2000003,none,KD48)]⟩)],fu84_1 k k⟩
def F84 (k:Nat) (a0:TY75):Option TY55 :=
 (F84_1 k k a0 (0:Int) []).bind fun r19 =>
 some ((r19.2.1,()),())
def sp84 (k:Nat):Spec:=⟨[.val KD46],[.own KD48],fun x=>F84 k x.1⟩
def lim84:Lim:=⟨61,1,false,false,[],[]⟩
def cfg84 (k:Nat):Nat→Option Spec:=cfgL []
noncomputable def co84_0:Code:=codeAt (bodyOf Try.f84) [.r,.r,.l,.r,.s,.b,.r,.l,.s,.r,.r,.r,.l,.s]
noncomputable def cb84_0:Code:=codeAt (bodyOf Try.f84) [.r,.r,.l,.r,.s,.b,.r,.l,.s,.r,.r,.r,.l,.s,.b]
noncomputable def co84_1:Code:=codeAt (bodyOf Try.f84) [.r,.r,.l,.r,.s]
noncomputable def cb84_1:Code:=codeAt (bodyOf Try.f84) [.r,.r,.l,.r,.s,.b]
noncomputable def co84:Code:=codeAt (bodyOf Try.f84) []
theorem cfg84_ok (k:Nat):CfgOK Try.prog (cfg84 k):=cfgL_nil
noncomputable def bo84_0 (k m:Nat) (v:sq84_0.V):=body Try.prog (stepper Try.prog (cfg84 k) lim84) .go cb84_0 (sq84_0.st v) (loopK (fr84_0 k) (fu84_0 k m))
theorem pp84_0 (k m:Nat) (v:sq84_0.V):fu84_0 k (m+1) v=(bo84_0 k m v).eval∧(bo84_0 k m v).left=(bo84_0 k m v).right:=⟨by kernel_rfl,by kernel_rfl⟩
theorem fr84_0_ok (k:Nat):FragOK Try.prog lim84 (fr84_0 k) co84_0 :=
 frag_cast (by kernel_rfl) (loop_ok (cfg84_ok k) (planOK_go _) (fu84_0 k) k (fun _=>rfl) (fun _=>rfl) (pp84_0 k))
def pl84_1 (k:Nat):Plan:=(.seq .go (.seq (.sub (.seq .go (.seq .go (.seq .go (.seq (.sub (.frag (fr84_0 k))) .go))))) .go))
noncomputable def bo84_1 (k m:Nat) (v:sq84_1.V):=body Try.prog (stepper Try.prog (cfg84 k) lim84) (pl84_1 k) cb84_1 (sq84_1.st v) (loopK (fr84_1 k) (fu84_1 k m))
theorem pp84_1 (k m:Nat) (v:sq84_1.V):fu84_1 k (m+1) v=(bo84_1 k m v).eval∧(bo84_1 k m v).left=(bo84_1 k m v).right:=⟨by kernel_rfl,by kernel_rfl⟩
theorem fr84_1_ok (k:Nat):FragOK Try.prog lim84 (fr84_1 k) co84_1 :=
 frag_cast (by kernel_rfl) (loop_ok (cfg84_ok k) (plan_of (L:=[(fr84_0 k,co84_0)]) (by kernel_rfl) (.cons (fr84_0_ok k) .nil)) (fu84_1 k) k (fun _=>rfl) (fun _=>rfl) (pp84_1 k))
def pl84 (k:Nat):Plan:=(.seq .go (.seq .go (.seq (.seq .go (.sub (.frag (fr84_1 k)))) .go)))
noncomputable def bo84 (k:Nat) (x:AT (sp84 k).ps):=fnT Try.prog (cfg84 k) lim84 Try.f84 (bodyOf Try.f84) (pl84 k) (sp84 k) x
theorem vv84 (k:Nat) (x:AT (sp84 k).ps):(sp84 k).impl x=(bo84 k x).eval∧(bo84 k x).left=(bo84 k x).right:=⟨by kernel_rfl,by kernel_rfl⟩
theorem v84 (k:Nat):Callable Try.prog 84∧Valid Try.prog 84 (sp84 k) :=
 fn_of (n:=lim84) (fn:=Try.f84) (p:=(pl84 k)) (cfg84_ok k) (by kernel_rfl) (plan_of (L:=[(fr84_1 k,co84_1)]) (by kernel_rfl) (.cons (fr84_1_ok k) .nil)) (vv84 k)
def F74_0 (k:Nat):Nat→Int→TY75→TY75→Option ((Unit×TY61))
 |0,_,_,_=>none
 |n+1,t5,e0,e1 =>
  let x2:=(decide (t5<(length e0:Int)))
  bif x2 then
  let x3:=(wrap .i64 ((length e1:Int)-(1:Int)))
  bif (decide (x3≥(0:Int))) then
  if 0≤t5∧t5<(length e0:Int) then
  let x4:=(getD e0 (toNat t5) ((0:Int),((0:Int),()))).1
  if 0≤x3∧x3<(length e1:Int) then
  let x5:=(getD e1 (toNat x3) ((0:Int),((0:Int),()))).2.1
  let x6:=(decide (x4≤(wrap .i64 (x5+(1:Int)))))
  bif x6 then
  if 0≤x3∧x3<(length e1:Int) then
  let x7:=(getD e1 (toNat x3) ((0:Int),((0:Int),()))).2.1
  if 0≤t5∧t5<(length e0:Int) then
  let x8:=(getD e0 (toNat t5) ((0:Int),((0:Int),()))).2.1
  if 0≤x3∧x3<(length e1:Int) then
  let x9:=(List.set e1 (toNat x3) ((getD e1 (toNat x3) ((0:Int),((0:Int),()))).1,((maxI x7 x8),(getD e1 (toNat x3) ((0:Int),((0:Int),()))).2.2)))
  (F74_0 k n (wrap .i64 (t5+(1:Int))) e0 x9).bind some
  else none
  else none
  else none
  else
  if 0≤t5∧t5<(length e0:Int) then
  let x10:=(getD e0 (toNat t5) ((0:Int),((0:Int),())))
  let x11:=(List.set (replicate 1 ((0:Int),((0:Int),()))) 0 x10)
  if (length e1+length x11)*(16*2)≤281474976710656∧length e1+length x11≤9223372036854775807 then
  (F74_0 k n (wrap .i64 (t5+(1:Int))) e0 (e1++x11)).bind some
  else none
  else none
  else none
  else none
  else
  if 0≤t5∧t5<(length e0:Int) then
  let x12:=(getD e0 (toNat t5) ((0:Int),((0:Int),())))
  let x13:=(List.set (replicate 1 ((0:Int),((0:Int),()))) 0 x12)
  if (length e1+length x13)*(16*2)≤281474976710656∧length e1+length x13≤9223372036854775807 then
  (F74_0 k n (wrap .i64 (t5+(1:Int))) e0 (e1++x13)).bind some
  else none
  else none
  else
  some ((),(e1,()))
def sq74_0:Shape:=⟨[(3,KD48)],[(3,.at 2000003 []),(4,.at 1000128 []),(5,.val (.int .i64))],[(1000128,none,KD48),(2000003,none,KD48)]⟩
def fu74_0 (k m:Nat) (v:sq74_0.V):=F74_0 k m v.1.1 v.2.1 v.2.2.1
def fr74_0 (k:Nat):Frag:=⟨sq74_0,[(.exit 0,⟨[(3,KD48)],[(3,.at 2000003 [])],[(2000003,none,KD48)]⟩)],fu74_0 k k⟩
def F74 (k:Nat) (a0:TY75):Option TY55 :=
 (F84 k a0).bind fun r1 =>
 (F74_0 k k (0:Int) r1.1.1 []).bind fun r14 =>
 some ((r14.2.1,()),())
def sp74 (k:Nat):Spec:=⟨[.val KD46],[.own KD48],fun x=>F74 k x.1⟩
def lim74:Lim:=⟨57,1,false,false,[],[]⟩
def cfg74 (k:Nat):Nat→Option Spec:=cfgL [(84,sp84 k)]
noncomputable def co74_0:Code:=codeAt (bodyOf Try.f74) [.r,.r,.r,.l,.r,.s]
noncomputable def cb74_0:Code:=codeAt (bodyOf Try.f74) [.r,.r,.r,.l,.r,.s,.b]
noncomputable def co74:Code:=codeAt (bodyOf Try.f74) []
theorem cfg74_ok (k:Nat):CfgOK Try.prog (cfg74 k):=cfgL_cons (v84 k) (cfgL_nil)
noncomputable def bo74_0 (k m:Nat) (v:sq74_0.V):=body Try.prog (stepper Try.prog (cfg74 k) lim74) .go cb74_0 (sq74_0.st v) (loopK (fr74_0 k) (fu74_0 k m))
theorem pp74_0 (k m:Nat) (v:sq74_0.V):fu74_0 k (m+1) v=(bo74_0 k m v).eval∧(bo74_0 k m v).left=(bo74_0 k m v).right:=⟨by kernel_rfl,by kernel_rfl⟩
theorem fr74_0_ok (k:Nat):FragOK Try.prog lim74 (fr74_0 k) co74_0 :=
 frag_cast (by kernel_rfl) (loop_ok (cfg74_ok k) (planOK_go _) (fu74_0 k) k (fun _=>rfl) (fun _=>rfl) (pp74_0 k))
def pl74 (k:Nat):Plan:=(.seq .go (.seq .go (.seq .go (.seq (.seq .go (.sub (.frag (fr74_0 k)))) .go))))
noncomputable def bo74 (k:Nat) (x:AT (sp74 k).ps):=fnT Try.prog (cfg74 k) lim74 Try.f74 (bodyOf Try.f74) (pl74 k) (sp74 k) x
theorem vv74 (k:Nat) (x:AT (sp74 k).ps):(sp74 k).impl x=(bo74 k x).eval∧(bo74 k x).left=(bo74 k x).right:=⟨by kernel_rfl,by kernel_rfl⟩
theorem v74 (k:Nat):Callable Try.prog 74∧Valid Try.prog 74 (sp74 k) :=
 fn_of (n:=lim74) (fn:=Try.f74) (p:=(pl74 k)) (cfg74_ok k) (by kernel_rfl) (plan_of (L:=[(fr74_0 k,co74_0)]) (by kernel_rfl) (.cons (fr74_0_ok k) .nil)) (vv74 k)
def F66_0 (k:Nat):Nat→ByteArray→Int→TY13→Option ((Unit×Unit)⊕TY79)
 |0,_,_,_=>none
 |n+1,t1,t5,c2 =>
  let x4:=(decide (t5<(length c2.1:Int)))
  bif x4 then
  if 0≤t5∧t5<(length c2.1:Int) then
  let x5:=(getD c2.1 (toNat t5) (ByteArray.empty,((Tree.mk ((0:Int),((0:Int),((0:Int),(ByteArray.empty,())))) []),())))
  let x6:=(ByteArray.toList x5.1==ByteArray.toList t1)
  bif x6 then
  some (.inr ((t5,()),()))
  else
  (F66_0 k n t1 (wrap .i64 (t5+(1:Int))) c2).bind some
  else none
  else
  some (.inl ((),()))
def sq66_0:Shape:=⟨[],[(1,.val .str),(2,.ptr 2 []),(5,.val (.int .i64))],[(2,some 29,KD5)]⟩
def fu66_0 (k m:Nat) (v:sq66_0.V):=F66_0 k m v.1.1 v.1.2.1 v.2.1
def fr66_0 (k:Nat):Frag:=⟨sq66_0,[(.exit 0,⟨[],[],[]⟩),(.ret,⟨[],[(4,.val (.int .i64))],[]⟩)],fu66_0 k k⟩
def F66 (k:Nat) (a0:TY13) (a1:ByteArray):Option TY79 :=
 (F66_0 k k a1 (0:Int) a0).bind fun r7 =>
 match r7 with
 |.inl r8 =>
  some (((-1:Int),()),())
 |.inr r8 =>
  some ((r8.1.1,()),())
def sp66 (k:Nat):Spec:=⟨[.val KD5,.val .str],[.val (.int .i64)],fun x=>F66 k x.1 x.2.1⟩
def lim66:Lim:=⟨22,2,false,false,[],[]⟩
def cfg66 (k:Nat):Nat→Option Spec:=cfgL []
noncomputable def co66_0:Code:=codeAt (bodyOf Try.f66) [.r,.l,.r,.s]
noncomputable def cb66_0:Code:=codeAt (bodyOf Try.f66) [.r,.l,.r,.s,.b]
noncomputable def co66:Code:=codeAt (bodyOf Try.f66) []
theorem cfg66_ok (k:Nat):CfgOK Try.prog (cfg66 k):=cfgL_nil
noncomputable def bo66_0 (k m:Nat) (v:sq66_0.V):=body Try.prog (stepper Try.prog (cfg66 k) lim66) .go cb66_0 (sq66_0.st v) (loopK (fr66_0 k) (fu66_0 k m))
theorem pp66_0 (k m:Nat) (v:sq66_0.V):fu66_0 k (m+1) v=(bo66_0 k m v).eval∧(bo66_0 k m v).left=(bo66_0 k m v).right:=⟨by kernel_rfl,by kernel_rfl⟩
theorem fr66_0_ok (k:Nat):FragOK Try.prog lim66 (fr66_0 k) co66_0 :=
 frag_cast (by kernel_rfl) (loop_ok (cfg66_ok k) (planOK_go _) (fu66_0 k) k (fun _=>rfl) (fun _=>rfl) (pp66_0 k))
def pl66 (k:Nat):Plan:=(.seq .go (.seq (.seq .go (.sub (.frag (fr66_0 k)))) .go))
noncomputable def bo66 (k:Nat) (x:AT (sp66 k).ps):=fnT Try.prog (cfg66 k) lim66 Try.f66 (bodyOf Try.f66) (pl66 k) (sp66 k) x
theorem vv66 (k:Nat) (x:AT (sp66 k).ps):(sp66 k).impl x=(bo66 k x).eval∧(bo66 k x).left=(bo66 k x).right:=⟨by kernel_rfl,by kernel_rfl⟩
theorem v66 (k:Nat):Callable Try.prog 66∧Valid Try.prog 66 (sp66 k) :=
 fn_of (n:=lim66) (fn:=Try.f66) (p:=(pl66 k)) (cfg66_ok k) (by kernel_rfl) (plan_of (L:=[(fr66_0 k,co66_0)]) (by kernel_rfl) (.cons (fr66_0_ok k) .nil)) (vv66 k)
def F75_0 (k:Nat):Nat→TY75→Int→Int→TY75→Option (((Int×Unit)×TY61))
 |0,_,_,_,_=>none
 |n+1,t0,t4,t5,e0 =>
  let x1:=(decide (t5<(length t0:Int)))
  bif x1 then
  if 0≤t5∧t5<(length t0:Int) then
  let x2:=(getD t0 (toNat t5) ((0:Int),((0:Int),())))
  let x3:=(List.set (replicate 1 ((0:Int),((0:Int),()))) 0 (t4,((wrap .i64 (x2.1-(1:Int))),())))
  if (length e0+length x3)*(16*2)≤281474976710656∧length e0+length x3≤9223372036854775807 then
  if 0≤t5∧t5<(length t0:Int) then
  let x4:=(getD t0 (toNat t5) ((0:Int),((0:Int),())))
  (F75_0 k n t0 (wrap .i64 (x4.2.1+(1:Int))) (wrap .i64 (t5+(1:Int))) (e0++x3)).bind some
  else none
  else none
  else none
  else
  some ((t4,()),(e0,()))
def sq75_0:Shape:=⟨[(3,KD48)],[(0,.val KD46),(3,.at 2000003 []),(4,.val (.int .i64)),(5,.val (.int .i64))],[(2000003,none,KD48)]⟩
def fu75_0 (k m:Nat) (v:sq75_0.V):=F75_0 k m v.1.1 v.1.2.1 v.1.2.2.1 v.2.1
def fr75_0 (k:Nat):Frag:=⟨sq75_0,[(.exit 0,⟨[(3,KD48)],[(3,.at 2000003 []),(4,.val (.int .i64))],[(2000003,none,KD48)]⟩)],fu75_0 k k⟩
def F75 (k:Nat) (a0:TY75):Option TY55 :=
 (F75_0 k k a0 (0:Int) (0:Int) []).bind fun r5 =>
 let x8:=(List.set (replicate 1 ((0:Int),((0:Int),()))) 0 (r5.1.1,((1114111:Int),())))
 if (length r5.2.1+length x8)*(16*2)≤281474976710656∧length r5.2.1+length x8≤9223372036854775807 then
 (F74 k (r5.2.1++x8)).bind fun r9 =>
 some ((r9.1.1,()),())
 else none
def sp75 (k:Nat):Spec:=⟨[.val KD46],[.own KD48],fun x=>F75 k x.1⟩
def lim75:Lim:=⟨35,1,false,false,[],[]⟩
def cfg75 (k:Nat):Nat→Option Spec:=cfgL [(74,sp74 k)]
noncomputable def co75_0:Code:=codeAt (bodyOf Try.f75) [.r,.r,.r,.l,.r,.s]
noncomputable def cb75_0:Code:=codeAt (bodyOf Try.f75) [.r,.r,.r,.l,.r,.s,.b]
noncomputable def co75:Code:=codeAt (bodyOf Try.f75) []
theorem cfg75_ok (k:Nat):CfgOK Try.prog (cfg75 k):=cfgL_cons (v74 k) (cfgL_nil)
noncomputable def bo75_0 (k m:Nat) (v:sq75_0.V):=body Try.prog (stepper Try.prog (cfg75 k) lim75) .go cb75_0 (sq75_0.st v) (loopK (fr75_0 k) (fu75_0 k m))
theorem pp75_0 (k m:Nat) (v:sq75_0.V):fu75_0 k (m+1) v=(bo75_0 k m v).eval∧(bo75_0 k m v).left=(bo75_0 k m v).right:=⟨by kernel_rfl,by kernel_rfl⟩
theorem fr75_0_ok (k:Nat):FragOK Try.prog lim75 (fr75_0 k) co75_0 :=
 frag_cast (by kernel_rfl) (loop_ok (cfg75_ok k) (planOK_go _) (fu75_0 k) k (fun _=>rfl) (fun _=>rfl) (pp75_0 k))
def pl75 (k:Nat):Plan:=(.seq .go (.seq .go (.seq .go (.seq (.seq .go (.sub (.frag (fr75_0 k)))) .go))))
noncomputable def bo75 (k:Nat) (x:AT (sp75 k).ps):=fnT Try.prog (cfg75 k) lim75 Try.f75 (bodyOf Try.f75) (pl75 k) (sp75 k) x
theorem vv75 (k:Nat) (x:AT (sp75 k).ps):(sp75 k).impl x=(bo75 k x).eval∧(bo75 k x).left=(bo75 k x).right:=⟨by kernel_rfl,by kernel_rfl⟩
theorem v75 (k:Nat):Callable Try.prog 75∧Valid Try.prog 75 (sp75 k) :=
 fn_of (n:=lim75) (fn:=Try.f75) (p:=(pl75 k)) (cfg75_ok k) (by kernel_rfl) (plan_of (L:=[(fr75_0 k,co75_0)]) (by kernel_rfl) (.cons (fr75_0_ok k) .nil)) (vv75 k)
def F76 (k:Nat) (a0:TY75) (a1:TY75):Option TY55 :=
 let x1:=(replicate 0 ((0:Int),((0:Int),())))
 if (length x1+length a0)*(16*2)≤281474976710656∧length x1+length a0≤9223372036854775807 then
 if (length (x1++a0)+length a1)*(16*2)≤281474976710656∧length (x1++a0)+length a1≤9223372036854775807 then
 (F74 k ((x1++a0)++a1)).bind fun r2 =>
 some ((r2.1.1,()),())
 else none
 else none
def sp76 (k:Nat):Spec:=⟨[.val KD46,.val KD46],[.own KD48],fun x=>F76 k x.1 x.2.1⟩
def lim76:Lim:=⟨11,2,false,false,[],[]⟩
def cfg76 (k:Nat):Nat→Option Spec:=cfgL [(74,sp74 k)]
noncomputable def co76:Code:=codeAt (bodyOf Try.f76) []
theorem cfg76_ok (k:Nat):CfgOK Try.prog (cfg76 k):=cfgL_cons (v74 k) (cfgL_nil)
noncomputable def bo76 (k:Nat) (x:AT (sp76 k).ps):=fnT Try.prog (cfg76 k) lim76 Try.f76 (bodyOf Try.f76) .go (sp76 k) x
theorem vv76 (k:Nat) (x:AT (sp76 k).ps):(sp76 k).impl x=(bo76 k x).eval∧(bo76 k x).left=(bo76 k x).right:=⟨by kernel_rfl,by kernel_rfl⟩
theorem v76 (k:Nat):Callable Try.prog 76∧Valid Try.prog 76 (sp76 k) :=
 fn_of (n:=lim76) (fn:=Try.f76) (p:=.go) (cfg76_ok k) (by kernel_rfl) (planOK_go _) (vv76 k)
def F77 (k:Nat) (a0:TY75) (a1:TY75):Option TY55 :=
 (F75 k a0).bind fun r1 =>
 (F75 k a1).bind fun r2 =>
 (F76 k r1.1.1 r2.1.1).bind fun r3 =>
 (F75 k r3.1.1).bind fun r4 =>
 some ((r4.1.1,()),())
def sp77 (k:Nat):Spec:=⟨[.val KD46,.val KD46],[.own KD48],fun x=>F77 k x.1 x.2.1⟩
def lim77:Lim:=⟨11,2,false,false,[],[]⟩
def cfg77 (k:Nat):Nat→Option Spec:=cfgL [(75,sp75 k),(76,sp76 k)]
noncomputable def co77:Code:=codeAt (bodyOf Try.f77) []
theorem cfg77_ok (k:Nat):CfgOK Try.prog (cfg77 k):=cfgL_cons (v75 k) (cfgL_cons (v76 k) (cfgL_nil))
noncomputable def bo77 (k:Nat) (x:AT (sp77 k).ps):=fnT Try.prog (cfg77 k) lim77 Try.f77 (bodyOf Try.f77) .go (sp77 k) x
theorem vv77 (k:Nat) (x:AT (sp77 k).ps):(sp77 k).impl x=(bo77 k x).eval∧(bo77 k x).left=(bo77 k x).right:=⟨by kernel_rfl,by kernel_rfl⟩
theorem v77 (k:Nat):Callable Try.prog 77∧Valid Try.prog 77 (sp77 k) :=
 fn_of (n:=lim77) (fn:=Try.f77) (p:=.go) (cfg77_ok k) (by kernel_rfl) (planOK_go _) (vv77 k)
def F78 (k:Nat) (a0:TY75) (a1:TY75):Option TY55 :=
 (F75 k a1).bind fun r1 =>
 (F77 k a0 r1.1.1).bind fun r2 =>
 some ((r2.1.1,()),())
def sp78 (k:Nat):Spec:=⟨[.val KD46,.val KD46],[.own KD48],fun x=>F78 k x.1 x.2.1⟩
def lim78:Lim:=⟨9,2,false,false,[],[]⟩
def cfg78 (k:Nat):Nat→Option Spec:=cfgL [(75,sp75 k),(77,sp77 k)]
noncomputable def co78:Code:=codeAt (bodyOf Try.f78) []
theorem cfg78_ok (k:Nat):CfgOK Try.prog (cfg78 k):=cfgL_cons (v75 k) (cfgL_cons (v77 k) (cfgL_nil))
noncomputable def bo78 (k:Nat) (x:AT (sp78 k).ps):=fnT Try.prog (cfg78 k) lim78 Try.f78 (bodyOf Try.f78) .go (sp78 k) x
theorem vv78 (k:Nat) (x:AT (sp78 k).ps):(sp78 k).impl x=(bo78 k x).eval∧(bo78 k x).left=(bo78 k x).right:=⟨by kernel_rfl,by kernel_rfl⟩
theorem v78 (k:Nat):Callable Try.prog 78∧Valid Try.prog 78 (sp78 k) :=
 fn_of (n:=lim78) (fn:=Try.f78) (p:=.go) (cfg78_ok k) (by kernel_rfl) (planOK_go _) (vv78 k)
def rs52 (f52:(TY53→TY13→TY65→Option TY39)):Spec:=⟨[.val KD34,.val KD5,.mut KD37],[.val KD46],fun x=>f52 x.1 x.2.1 x.2.2.1⟩
def F52_0 (k:Nat) (f52:(TY53→TY13→TY65→Option TY39)):Nat→Int→TY65→TY31→TY13→TY65→Option ((Unit×(TY65×TY31×TY13×TY65×Unit)))
 |0,_,_,_,_,_=>none
 |n+1,t8,c2,c3,c4,e0 =>
  let x1:=(decide (t8<(length c3.2.2.2.2.1:Int)))
  bif x1 then
  if 0≤t8∧t8<(length c3.2.2.2.2.1:Int) then
  let x2:=(getD c3.2.2.2.2.1 (toNat t8) (Tree.mk ((0:Int),((0:Int),((0:Int),(ByteArray.empty,())))) []))
  (f52 x2 c4 c2).bind fun r3 =>
  let x4:=(List.set (replicate 1 ([]:TY75)) 0 r3.1.1)
  if (length e0+length x4)*(24*2)≤281474976710656∧length e0+length x4≤9223372036854775807 then
  (F52_0 k f52 n (wrap .i64 (t8+(1:Int))) r3.2.1 c3 c4 (e0++x4)).bind some
  else none
  else none
  else
  some ((),(c2,c3,c4,e0,()))
def sq52_0:Shape:=⟨[(7,KD37)],[(2,.at 2 []),(3,.ptr 3 []),(4,.ptr 4 []),(7,.at 2000007 []),(8,.val (.int .i64))],[(2,none,KD37),(3,some 115,KD22),(4,some 29,KD5),(2000007,none,KD37)]⟩
def fu52_0 (k:Nat) (f52:(TY53→TY13→TY65→Option TY39)) (m:Nat) (v:sq52_0.V):=F52_0 k f52 m v.1.1 v.2.1 v.2.2.1 v.2.2.2.1 v.2.2.2.2.1
def fr52_0 (k:Nat) (f52:(TY53→TY13→TY65→Option TY39)):Frag:=⟨sq52_0,[(.exit 0,⟨[(7,KD37)],[(2,.at 2 []),(3,.ptr 3 []),(4,.ptr 4 []),(7,.at 2000007 [])],[(2,none,KD37),(3,some 115,KD22),(4,some 29,KD5),(2000007,none,KD37)]⟩)],fu52_0 k f52 k⟩
def B52 (k:Nat) (f52:(TY53→TY13→TY65→Option TY39)) (a0:TY53) (a1:TY13) (a2:TY65):Option TY39 :=
 (F52_0 k f52 k (0:Int) a2 ((Tree.a a0).1,((Tree.a a0).2.1,((Tree.a a0).2.2.1,((Tree.a a0).2.2.2.1,((Tree.l a0),()))))) a1 []).bind fun r5 =>
 let y6:=r5.2.1
 let y7:=r5.2.2.1
 let y9:=r5.2.2.2.2.1
 bif (y7.1==(1:Int)) then
 let x10:=(List.set (replicate 1 ((0:Int),((0:Int),()))) 0 (y7.2.1,(y7.2.2.1,())))
 (F74 k x10).bind fun r11 =>
 some ((r11.1.1,()),(y6,()))
 else
 bif (y7.1==(2:Int)) then
 (F66 k r5.2.2.2.1 y7.2.2.2.1).bind fun r12 =>
 if 0≤r12.1.1∧r12.1.1<(length y6:Int) then
 let x13:=(getD y6 (toNat r12.1.1) ([]:TY75))
 some ((x13,()),(y6,()))
 else none
 else
 bif (y7.1==(3:Int)) then
 (F75 k []).bind fun r14 =>
 some ((r14.1.1,()),(y6,()))
 else
 bif (y7.1==(4:Int)) then
 if 0≤(0:Int)∧(0:Int)<(length y9:Int) then
 let x15:=(getD y9 (toNat (0:Int)) ([]:TY75))
 (F75 k x15).bind fun r16 =>
 some ((r16.1.1,()),(y6,()))
 else none
 else
 bif (y7.1==(5:Int)) then
 if 0≤(0:Int)∧(0:Int)<(length y9:Int) then
 let x17:=(getD y9 (toNat (0:Int)) ([]:TY75))
 if 0≤(1:Int)∧(1:Int)<(length y9:Int) then
 let x18:=(getD y9 (toNat (1:Int)) ([]:TY75))
 (F76 k x17 x18).bind fun r19 =>
 some ((r19.1.1,()),(y6,()))
 else none
 else none
 else
 bif (y7.1==(6:Int)) then
 if 0≤(0:Int)∧(0:Int)<(length y9:Int) then
 let x20:=(getD y9 (toNat (0:Int)) ([]:TY75))
 if 0≤(1:Int)∧(1:Int)<(length y9:Int) then
 let x21:=(getD y9 (toNat (1:Int)) ([]:TY75))
 (F77 k x20 x21).bind fun r22 =>
 some ((r22.1.1,()),(y6,()))
 else none
 else none
 else
 if 0≤(0:Int)∧(0:Int)<(length y9:Int) then
 let x23:=(getD y9 (toNat (0:Int)) ([]:TY75))
 if 0≤(1:Int)∧(1:Int)<(length y9:Int) then
 let x24:=(getD y9 (toNat (1:Int)) ([]:TY75))
 (F78 k x23 x24).bind fun r25 =>
 some ((r25.1.1,()),(y6,()))
 else none
 else none
def sb52 (k:Nat) (f52:(TY53→TY13→TY65→Option TY39)):Spec:=rs52 (B52 k f52)
def lim52:Lim:=⟨81,3,false,false,[37,49,55,64,73,80],[]⟩
def cfg52 (k:Nat) (f52:(TY53→TY13→TY65→Option TY39)):Nat→Option Spec:=cfgL [(52,rs52 f52),(66,sp66 k),(74,sp74 k),(75,sp75 k),(76,sp76 k),(77,sp77 k),(78,sp78 k)]
noncomputable def co52_0:Code:=codeAt (bodyOf Try.f52) [.r,.r,.l,.r,.s]
noncomputable def cb52_0:Code:=codeAt (bodyOf Try.f52) [.r,.r,.l,.r,.s,.b]
noncomputable def co52:Code:=codeAt (bodyOf Try.f52) []
theorem cfg52_ok (k:Nat) (f52:(TY53→TY13→TY65→Option TY39)) (h52:Callable Try.prog 52∧Valid Try.prog 52 (rs52 f52)):CfgOK Try.prog (cfg52 k f52):=cfgL_cons h52 (cfgL_cons (v66 k) (cfgL_cons (v74 k) (cfgL_cons (v75 k) (cfgL_cons (v76 k) (cfgL_cons (v77 k) (cfgL_cons (v78 k) (cfgL_nil)))))))
noncomputable def bo52_0 (k:Nat) (f52:(TY53→TY13→TY65→Option TY39)) (m:Nat) (v:sq52_0.V):=body Try.prog (stepper Try.prog (cfg52 k f52) lim52) .go cb52_0 (sq52_0.st v) (loopK (fr52_0 k f52) (fu52_0 k f52 m))
theorem pp52_0 (k:Nat) (f52:(TY53→TY13→TY65→Option TY39)) (m:Nat) (v:sq52_0.V):fu52_0 k f52 (m+1) v=(bo52_0 k f52 m v).eval∧(bo52_0 k f52 m v).left=(bo52_0 k f52 m v).right:=⟨by kernel_rfl,by kernel_rfl⟩
theorem fr52_0_ok (k:Nat) (f52:(TY53→TY13→TY65→Option TY39)) (h52:Callable Try.prog 52∧Valid Try.prog 52 (rs52 f52)):FragOK Try.prog lim52 (fr52_0 k f52) co52_0 :=
 frag_cast (by kernel_rfl) (loop_ok (cfg52_ok k f52 h52) (planOK_go _) (fu52_0 k f52) k (fun _=>rfl) (fun _=>rfl) (pp52_0 k f52))
def pl52 (k:Nat) (f52:(TY53→TY13→TY65→Option TY39)):Plan:=(.seq .go (.seq .go (.seq (.seq .go (.sub (.frag (fr52_0 k f52)))) .go)))
noncomputable def bo52 (k:Nat) (f52:(TY53→TY13→TY65→Option TY39)) (x:AT (sb52 k f52).ps):=fnT Try.prog (cfg52 k f52) lim52 Try.f52 (bodyOf Try.f52) (pl52 k f52) (sb52 k f52) x
theorem vv52 (k:Nat) (f52:(TY53→TY13→TY65→Option TY39)) (x:AT (sb52 k f52).ps):(sb52 k f52).impl x=(bo52 k f52 x).eval∧(bo52 k f52 x).left=(bo52 k f52 x).right:=⟨by kernel_rfl,by kernel_rfl⟩
theorem b52 (k:Nat) (f52:(TY53→TY13→TY65→Option TY39)) (h52:Callable Try.prog 52∧Valid Try.prog 52 (rs52 f52)):Callable Try.prog 52∧Valid Try.prog 52 (sb52 k f52) :=
 fn_of (n:=lim52) (fn:=Try.f52) (p:=(pl52 k f52)) (cfg52_ok k f52 h52) (by kernel_rfl) (plan_of (L:=[(fr52_0 k f52,co52_0)]) (by kernel_rfl) (.cons (fr52_0_ok k f52 h52) .nil)) (vv52 k f52)
def R52:Nat→(TY53→TY13→TY65→Option TY39)
 |0=>fun _ _ _=>none
 |k+1=>B52 k (R52 k)
def F52 (k:Nat) (a0_:TY53) (a1_:TY13) (a2_:TY65):Option TY39:=(R52 k) a0_ a1_ a2_
def sp52 (k:Nat):Spec:=⟨[.val KD34,.val KD5,.mut KD37],[.val KD46],fun x=>F52 k x.1 x.2.1 x.2.2.1⟩
theorem r52 (k:Nat):(Callable Try.prog 52∧Valid Try.prog 52 (rs52 (R52 k))):=by
 induction k with
 |zero=>exact ⟨⟨Try.f52,by kernel_rfl,by kernel_rfl,by kernel_rfl⟩,fun x r h=>by cases (show (none:Option _)=some r from h)⟩
 |succ k ih=>exact b52 k (R52 k) ih
theorem v52 (k:Nat):Callable Try.prog 52∧Valid Try.prog 52 (sp52 k):=(r52 k)
def F29_0 (k:Nat):Nat→Int→TY13→TY65→Option ((Unit×(TY65×Unit)))
 |0,_,_,_=>none
 |n+1,t4,c1,e0 =>
  let x1:=(decide (t4<(length c1.1:Int)))
  bif x1 then
  if 0≤t4∧t4<(length c1.1:Int) then
  let x2:=(getD c1.1 (toNat t4) (ByteArray.empty,((Tree.mk ((0:Int),((0:Int),((0:Int),(ByteArray.empty,())))) []),())))
  (F52 k x2.2.1 c1 e0).bind fun r3 =>
  let x4:=(List.set (replicate 1 ([]:TY75)) 0 r3.1.1)
  if (length r3.2.1+length x4)*(24*2)≤281474976710656∧length r3.2.1+length x4≤9223372036854775807 then
  (F29_0 k n (wrap .i64 (t4+(1:Int))) c1 (r3.2.1++x4)).bind some
  else none
  else none
  else
  some ((),(e0,()))
def sq29_0:Shape:=⟨[(3,KD37)],[(1,.ptr 1 []),(3,.at 2000003 []),(4,.val (.int .i64))],[(1,some 29,KD5),(2000003,none,KD37)]⟩
def fu29_0 (k m:Nat) (v:sq29_0.V):=F29_0 k m v.1.1 v.2.1 v.2.2.1
def fr29_0 (k:Nat):Frag:=⟨sq29_0,[(.exit 0,⟨[(3,KD37)],[(3,.at 2000003 [])],[(2000003,none,KD37)]⟩)],fu29_0 k k⟩
def F29 (k:Nat) (a0:TY13):Option ((TY65×Unit)×Unit) :=
 (F29_0 k k (0:Int) a0 []).bind fun r5 =>
 some ((r5.2.1,()),())
def sp29 (k:Nat):Spec:=⟨[.val KD5],[.own KD37],fun x=>F29 k x.1⟩
def lim29:Lim:=⟨25,1,false,false,[],[]⟩
def cfg29 (k:Nat):Nat→Option Spec:=cfgL [(52,sp52 k)]
noncomputable def co29_0:Code:=codeAt (bodyOf Try.f29) [.r,.r,.l,.r,.s]
noncomputable def cb29_0:Code:=codeAt (bodyOf Try.f29) [.r,.r,.l,.r,.s,.b]
noncomputable def co29:Code:=codeAt (bodyOf Try.f29) []
theorem cfg29_ok (k:Nat):CfgOK Try.prog (cfg29 k):=cfgL_cons (v52 k) (cfgL_nil)
noncomputable def bo29_0 (k m:Nat) (v:sq29_0.V):=body Try.prog (stepper Try.prog (cfg29 k) lim29) .go cb29_0 (sq29_0.st v) (loopK (fr29_0 k) (fu29_0 k m))
theorem pp29_0 (k m:Nat) (v:sq29_0.V):fu29_0 k (m+1) v=(bo29_0 k m v).eval∧(bo29_0 k m v).left=(bo29_0 k m v).right:=⟨by kernel_rfl,by kernel_rfl⟩
theorem fr29_0_ok (k:Nat):FragOK Try.prog lim29 (fr29_0 k) co29_0 :=
 frag_cast (by kernel_rfl) (loop_ok (cfg29_ok k) (planOK_go _) (fu29_0 k) k (fun _=>rfl) (fun _=>rfl) (pp29_0 k))
def pl29 (k:Nat):Plan:=(.seq .go (.seq .go (.seq (.seq .go (.sub (.frag (fr29_0 k)))) .go)))
noncomputable def bo29 (k:Nat) (x:AT (sp29 k).ps):=fnT Try.prog (cfg29 k) lim29 Try.f29 (bodyOf Try.f29) (pl29 k) (sp29 k) x
theorem vv29 (k:Nat) (x:AT (sp29 k).ps):(sp29 k).impl x=(bo29 k x).eval∧(bo29 k x).left=(bo29 k x).right:=⟨by kernel_rfl,by kernel_rfl⟩
theorem v29 (k:Nat):Callable Try.prog 29∧Valid Try.prog 29 (sp29 k) :=
 fn_of (n:=lim29) (fn:=Try.f29) (p:=(pl29 k)) (cfg29_ok k) (by kernel_rfl) (plan_of (L:=[(fr29_0 k,co29_0)]) (by kernel_rfl) (.cons (fr29_0_ok k) .nil)) (vv29 k)
def F53_0 (k:Nat):Nat→TY65→Int→Int→Int→Int→(List Int)→(List Int)→Option ((TY45×((List Int)×(List Int)×Unit)))
 |0,_,_,_,_,_,_,_=>none
 |n+1,t0,t4,t5,t7,t8,c42,e0 =>
  bif (decide (t8>(0:Int))) then
  if 0≤t7∧t7<(length c42:Int) then
  if 0≤(wrap .i64 (t8-(1:Int)))∧(wrap .i64 (t8-(1:Int)))<(length e0:Int) then
  let x10:=(toNat (wrap .i64 (t8-(1:Int))))
  let x11:=(decide ((getD c42 (toNat t7) (0:Int))<(getD e0 x10 (0:Int))))
  bif x11 then
  (F53_0 k n t0 t4 t5 t7 (wrap .i64 (t8-(1:Int))) c42 e0).bind some
  else
  some ((t0,t4,t5,t7,t8,()),(c42,e0,()))
  else none
  else none
  else
  some ((t0,t4,t5,t7,t8,()),(c42,e0,()))
def sq53_0:Shape:=⟨[(3,KD71)],[(0,.val KD36),(3,.at 2000003 []),(4,.val (.int .i64)),(5,.val (.int .i64)),(6,.at 42 []),(7,.val (.int .i64)),(8,.val (.int .i64))],[(42,none,KD71),(2000003,none,KD71)]⟩
def fu53_0 (k m:Nat) (v:sq53_0.V):=F53_0 k m v.1.1 v.1.2.1 v.1.2.2.1 v.1.2.2.2.1 v.1.2.2.2.2.1 v.2.1 v.2.2.1
def fr53_0 (k:Nat):Frag:=⟨sq53_0,[(.exit 6,⟨[],[(0,.val KD36),(3,.at 2000003 []),(4,.val (.int .i64)),(5,.val (.int .i64)),(6,.at 42 []),(7,.val (.int .i64)),(8,.val (.int .i64))],[(42,none,KD71),(2000003,none,KD71)]⟩)],fu53_0 k k⟩
def F53_1 (k:Nat):Nat→TY65→Int→Int→Int→(List Int)→(List Int)→Option (((TY65×Int×Int×Unit)×((List Int)×Unit)))
 |0,_,_,_,_,_,_=>none
 |n+1,t0,t4,t5,t7,c42,e0 =>
  bif (decide (t7<(2:Int))) then
  (F53_0 k k t0 t4 t5 t7 (length e0:Int) c42 e0).bind fun r12 =>
  let y14:=r12.1.2.1
  let y15:=r12.1.2.2.1
  let y16:=r12.1.2.2.2.1
  let y17:=r12.1.2.2.2.2.1
  let y18:=r12.2.1
  let y19:=r12.2.2.1
  if 0≤y16∧y16<(length y18:Int) then
  let x20:=(decide ((getD y18 (toNat y16) (0:Int))≤(1114111:Int)))
  bif x20 then
  bif (y17==(0:Int)) then
  if 0≤(0:Int)∧(0:Int)≤y17∧y17≤(length y19:Int) then
  let x21:=(toNat y17-toNat (0:Int))
  if 0≤y16∧y16<(length y18:Int) then
  if 0≤y17∧y17≤(length y19:Int)∧(length y19:Int)≤(length y19:Int) then
  let x22:=(toNat (length y19:Int)-toNat y17)
  if (length (replicate 0 (0:Int))+length (take x21 (drop (toNat (0:Int)) y19)))*(8*2)≤281474976710656∧length (replicate 0 (0:Int))+length (take x21 (drop (toNat (0:Int)) y19))≤9223372036854775807 then
  let x23:=((replicate 0 (0:Int))++(take x21 (drop (toNat (0:Int)) y19)))
  let x24:=(List.set (replicate 1 (0:Int)) 0 (getD y18 (toNat y16) (0:Int)))
  if (length x23+length x24)*(8*2)≤281474976710656∧length x23+length x24≤9223372036854775807 then
  if (length (x23++x24)+length (take x22 (drop (toNat y17) y19)))*(8*2)≤281474976710656∧length (x23++x24)+length (take x22 (drop (toNat y17) y19))≤9223372036854775807 then
  let x25:=((x23++x24)++(take x22 (drop (toNat y17) y19)))
  (F53_1 k n r12.1.1 y14 y15 (wrap .i64 (y16+(1:Int))) y18 x25).bind some
  else none
  else none
  else none
  else none
  else none
  else none
  else
  if 0≤(wrap .i64 (y17-(1:Int)))∧(wrap .i64 (y17-(1:Int)))<(length y19:Int) then
  let x26:=(toNat (wrap .i64 (y17-(1:Int))))
  if 0≤y16∧y16<(length y18:Int) then
  let x27:=((getD y19 x26 (0:Int)) != (getD y18 (toNat y16) (0:Int)))
  bif x27 then
  if 0≤(0:Int)∧(0:Int)≤y17∧y17≤(length y19:Int) then
  let x28:=(toNat y17-toNat (0:Int))
  if 0≤y16∧y16<(length y18:Int) then
  if 0≤y17∧y17≤(length y19:Int)∧(length y19:Int)≤(length y19:Int) then
  let x29:=(toNat (length y19:Int)-toNat y17)
  if (length (replicate 0 (0:Int))+length (take x28 (drop (toNat (0:Int)) y19)))*(8*2)≤281474976710656∧length (replicate 0 (0:Int))+length (take x28 (drop (toNat (0:Int)) y19))≤9223372036854775807 then
  let x30:=((replicate 0 (0:Int))++(take x28 (drop (toNat (0:Int)) y19)))
  let x31:=(List.set (replicate 1 (0:Int)) 0 (getD y18 (toNat y16) (0:Int)))
  if (length x30+length x31)*(8*2)≤281474976710656∧length x30+length x31≤9223372036854775807 then
  if (length (x30++x31)+length (take x29 (drop (toNat y17) y19)))*(8*2)≤281474976710656∧length (x30++x31)+length (take x29 (drop (toNat y17) y19))≤9223372036854775807 then
  let x32:=((x30++x31)++(take x29 (drop (toNat y17) y19)))
  (F53_1 k n r12.1.1 y14 y15 (wrap .i64 (y16+(1:Int))) y18 x32).bind some
  else none
  else none
  else none
  else none
  else none
  else none
  else
  (F53_1 k n r12.1.1 y14 y15 (wrap .i64 (y16+(1:Int))) y18 y19).bind some
  else none
  else none
  else
  (F53_1 k n r12.1.1 y14 y15 (wrap .i64 (y16+(1:Int))) y18 y19).bind some
  else none
  else
  some ((t0,t4,t5,()),(e0,()))
def sq53_1:Shape:=⟨[(3,KD71)],[(0,.val KD36),(3,.at 2000003 []),(4,.val (.int .i64)),(5,.val (.int .i64)),(6,.at 42 []),(7,.val (.int .i64))],[(42,none,KD71),(2000003,none,KD71)]⟩
def fu53_1 (k m:Nat) (v:sq53_1.V):=F53_1 k m v.1.1 v.1.2.1 v.1.2.2.1 v.1.2.2.2.1 v.2.1 v.2.2.1
def fr53_1 (k:Nat):Frag:=⟨sq53_1,[(.exit 4,⟨[(3,KD71)],[(0,.val KD36),(3,.at 2000003 []),(4,.val (.int .i64)),(5,.val (.int .i64))],[(2000003,none,KD71)]⟩)],fu53_1 k k⟩
def F53_2 (k:Nat):Nat→TY65→Int→Int→(List Int)→Option (((TY65×Int×Unit)×((List Int)×Unit)))
 |0,_,_,_,_=>none
 |n+1,t0,t4,t5,e0 =>
  if 0≤t4∧t4<(length t0:Int) then
  let x3:=(getD t0 (toNat t4) ([]:TY75))
  let x4:=(decide (t5<(length x3:Int)))
  bif x4 then
  if 0≤t4∧t4<(length t0:Int) then
  let x5:=(getD t0 (toNat t4) ([]:TY75))
  if 0≤t5∧t5<(length x5:Int) then
  let x6:=(getD x5 (toNat t5) ((0:Int),((0:Int),())))
  if 0≤t4∧t4<(length t0:Int) then
  let x7:=(getD t0 (toNat t4) ([]:TY75))
  if 0≤t5∧t5<(length x7:Int) then
  let x8:=(getD x7 (toNat t5) ((0:Int),((0:Int),())))
  let x9:=(List.set (List.set (replicate 2 (0:Int)) 0 x6.1) 1 (wrap .i64 (x8.2.1+(1:Int))))
  (F53_1 k k t0 t4 t5 (0:Int) x9 e0).bind fun r33 =>
  (F53_2 k n r33.1.1 r33.1.2.1 (wrap .i64 (r33.1.2.2.1+(1:Int))) r33.2.1).bind some
  else none
  else none
  else none
  else none
  else
  some ((t0,t4,()),(e0,()))
  else none
def sq53_2:Shape:=⟨[(3,KD71)],[(0,.val KD36),(3,.at 2000003 []),(4,.val (.int .i64)),(5,.val (.int .i64))],[(2000003,none,KD71)]⟩
def fu53_2 (k m:Nat) (v:sq53_2.V):=F53_2 k m v.1.1 v.1.2.1 v.1.2.2.1 v.2.1
def fr53_2 (k:Nat):Frag:=⟨sq53_2,[(.exit 2,⟨[(3,KD71)],[(0,.val KD36),(3,.at 2000003 []),(4,.val (.int .i64))],[(2000003,none,KD71)]⟩)],fu53_2 k k⟩
def F53_3 (k:Nat):Nat→TY65→Int→(List Int)→Option TY69
 |0,_,_,_=>none
 |n+1,t0,t4,e0 =>
  let x2:=(decide (t4<(length t0:Int)))
  bif x2 then
  (F53_2 k k t0 t4 (0:Int) e0).bind fun r38 =>
  (F53_3 k n r38.1.1 (wrap .i64 (r38.1.2.1+(1:Int))) r38.2.1).bind some
  else
  some ((),(e0,()))
def sq53_3:Shape:=⟨[(3,KD71)],[(0,.val KD36),(3,.at 2000003 []),(4,.val (.int .i64))],[(2000003,none,KD71)]⟩
def fu53_3 (k m:Nat) (v:sq53_3.V):=F53_3 k m v.1.1 v.1.2.1 v.2.1
def fr53_3 (k:Nat):Frag:=⟨sq53_3,[(.exit 0,⟨[(3,KD71)],[(3,.at 2000003 [])],[(2000003,none,KD71)]⟩)],fu53_3 k k⟩
def F53 (k:Nat) (a0:TY65):Option TY73 :=
 let x1:=(List.set (replicate 1 (0:Int)) 0 (0:Int))
 (F53_3 k k a0 (0:Int) x1).bind fun r42 =>
 some ((r42.2.1,()),())
def sp53 (k:Nat):Spec:=⟨[.val KD36],[.own KD71],fun x=>F53 k x.1⟩
def lim53:Lim:=⟨102,1,false,true,[],[]⟩
def cfg53 (k:Nat):Nat→Option Spec:=cfgL []
noncomputable def co53_0:Code:=codeAt (bodyOf Try.f53) [.r,.r,.l,.r,.s,.b,.r,.l,.s,.r,.s,.b,.r,.l,.s,.r,.r,.s,.b,.r,.l,.s,.r,.l,.s]
noncomputable def cb53_0:Code:=codeAt (bodyOf Try.f53) [.r,.r,.l,.r,.s,.b,.r,.l,.s,.r,.s,.b,.r,.l,.s,.r,.r,.s,.b,.r,.l,.s,.r,.l,.s,.b]
noncomputable def co53_1:Code:=codeAt (bodyOf Try.f53) [.r,.r,.l,.r,.s,.b,.r,.l,.s,.r,.s,.b,.r,.l,.s,.r,.r,.s]
noncomputable def cb53_1:Code:=codeAt (bodyOf Try.f53) [.r,.r,.l,.r,.s,.b,.r,.l,.s,.r,.s,.b,.r,.l,.s,.r,.r,.s,.b]
noncomputable def co53_2:Code:=codeAt (bodyOf Try.f53) [.r,.r,.l,.r,.s,.b,.r,.l,.s,.r,.s]
noncomputable def cb53_2:Code:=codeAt (bodyOf Try.f53) [.r,.r,.l,.r,.s,.b,.r,.l,.s,.r,.s,.b]
noncomputable def co53_3:Code:=codeAt (bodyOf Try.f53) [.r,.r,.l,.r,.s]
noncomputable def cb53_3:Code:=codeAt (bodyOf Try.f53) [.r,.r,.l,.r,.s,.b]
noncomputable def co53:Code:=codeAt (bodyOf Try.f53) []
theorem cfg53_ok (k:Nat):CfgOK Try.prog (cfg53 k):=cfgL_nil
noncomputable def bo53_0 (k m:Nat) (v:sq53_0.V):=body Try.prog (stepper Try.prog (cfg53 k) lim53) .go cb53_0 (sq53_0.st v) (loopK (fr53_0 k) (fu53_0 k m))
theorem pp53_0 (k m:Nat) (v:sq53_0.V):fu53_0 k (m+1) v=(bo53_0 k m v).eval∧(bo53_0 k m v).left=(bo53_0 k m v).right:=⟨by kernel_rfl,by kernel_rfl⟩
theorem fr53_0_ok (k:Nat):FragOK Try.prog lim53 (fr53_0 k) co53_0 :=
 frag_cast (by kernel_rfl) (loop_ok (cfg53_ok k) (planOK_go _) (fu53_0 k) k (fun _=>rfl) (fun _=>rfl) (pp53_0 k))
def pl53_1 (k:Nat):Plan:=(.seq .go (.seq (.sub (.seq .go (.seq (.sub (.frag (fr53_0 k))) .go))) .go))
noncomputable def bo53_1 (k m:Nat) (v:sq53_1.V):=body Try.prog (stepper Try.prog (cfg53 k) lim53) (pl53_1 k) cb53_1 (sq53_1.st v) (loopK (fr53_1 k) (fu53_1 k m))
theorem pp53_1 (k m:Nat) (v:sq53_1.V):fu53_1 k (m+1) v=(bo53_1 k m v).eval∧(bo53_1 k m v).left=(bo53_1 k m v).right:=⟨by kernel_rfl,by kernel_rfl⟩
theorem fr53_1_ok (k:Nat):FragOK Try.prog lim53 (fr53_1 k) co53_1 :=
 frag_cast (by kernel_rfl) (loop_ok (cfg53_ok k) (plan_of (L:=[(fr53_0 k,co53_0)]) (by kernel_rfl) (.cons (fr53_0_ok k) .nil)) (fu53_1 k) k (fun _=>rfl) (fun _=>rfl) (pp53_1 k))
def pl53_2 (k:Nat):Plan:=(.seq .go (.seq (.sub (.seq .go (.seq .go (.sub (.frag (fr53_1 k)))))) .go))
noncomputable def bo53_2 (k m:Nat) (v:sq53_2.V):=body Try.prog (stepper Try.prog (cfg53 k) lim53) (pl53_2 k) cb53_2 (sq53_2.st v) (loopK (fr53_2 k) (fu53_2 k m))
theorem pp53_2 (k m:Nat) (v:sq53_2.V):fu53_2 k (m+1) v=(bo53_2 k m v).eval∧(bo53_2 k m v).left=(bo53_2 k m v).right:=⟨by kernel_rfl,by kernel_rfl⟩
theorem fr53_2_ok (k:Nat):FragOK Try.prog lim53 (fr53_2 k) co53_2 :=
 frag_cast (by kernel_rfl) (loop_ok (cfg53_ok k) (plan_of (L:=[(fr53_1 k,co53_1)]) (by kernel_rfl) (.cons (fr53_1_ok k) .nil)) (fu53_2 k) k (fun _=>rfl) (fun _=>rfl) (pp53_2 k))
def pl53_3 (k:Nat):Plan:=(.seq .go (.seq (.sub (.seq .go (.sub (.frag (fr53_2 k))))) .go))
noncomputable def bo53_3 (k m:Nat) (v:sq53_3.V):=body Try.prog (stepper Try.prog (cfg53 k) lim53) (pl53_3 k) cb53_3 (sq53_3.st v) (loopK (fr53_3 k) (fu53_3 k m))
theorem pp53_3 (k m:Nat) (v:sq53_3.V):fu53_3 k (m+1) v=(bo53_3 k m v).eval∧(bo53_3 k m v).left=(bo53_3 k m v).right:=⟨by kernel_rfl,by kernel_rfl⟩
theorem fr53_3_ok (k:Nat):FragOK Try.prog lim53 (fr53_3 k) co53_3 :=
 frag_cast (by kernel_rfl) (loop_ok (cfg53_ok k) (plan_of (L:=[(fr53_2 k,co53_2)]) (by kernel_rfl) (.cons (fr53_2_ok k) .nil)) (fu53_3 k) k (fun _=>rfl) (fun _=>rfl) (pp53_3 k))
def pl53 (k:Nat):Plan:=(.seq .go (.seq .go (.seq (.seq .go (.sub (.frag (fr53_3 k)))) .go)))
noncomputable def bo53 (k:Nat) (x:AT (sp53 k).ps):=fnT Try.prog (cfg53 k) lim53 Try.f53 (bodyOf Try.f53) (pl53 k) (sp53 k) x
theorem vv53 (k:Nat) (x:AT (sp53 k).ps):(sp53 k).impl x=(bo53 k x).eval∧(bo53 k x).left=(bo53 k x).right:=⟨by kernel_rfl,by kernel_rfl⟩
theorem v53 (k:Nat):Callable Try.prog 53∧Valid Try.prog 53 (sp53 k) :=
 fn_of (n:=lim53) (fn:=Try.f53) (p:=(pl53 k)) (cfg53_ok k) (by kernel_rfl) (plan_of (L:=[(fr53_3 k,co53_3)]) (by kernel_rfl) (.cons (fr53_3_ok k) .nil)) (vv53 k)
def F55_0 (k:Nat):Nat→TY75→Int→Int→Option ((Unit×Unit)⊕TY78)
 |0,_,_,_=>none
 |n+1,t0,t1,t5 =>
  let x4:=(decide (t5<(length t0:Int)))
  bif x4 then
  if 0≤t5∧t5<(length t0:Int) then
  let x5:=(getD t0 (toNat t5) ((0:Int),((0:Int),())))
  bif (decide (t1≥x5.1)) then
  if 0≤t5∧t5<(length t0:Int) then
  let x6:=(getD t0 (toNat t5) ((0:Int),((0:Int),())))
  bif (decide (t1≤x6.2.1)) then
  some (.inr ((true,()),()))
  else
  (F55_0 k n t0 t1 (wrap .i64 (t5+(1:Int)))).bind some
  else none
  else
  (F55_0 k n t0 t1 (wrap .i64 (t5+(1:Int)))).bind some
  else none
  else
  some (.inl ((),()))
def sq55_0:Shape:=⟨[],[(0,.val KD46),(1,.val (.int .i64)),(5,.val (.int .i64))],[]⟩
def fu55_0 (k m:Nat) (v:sq55_0.V):=F55_0 k m v.1.1 v.1.2.1 v.1.2.2.1
def fr55_0 (k:Nat):Frag:=⟨sq55_0,[(.exit 0,⟨[],[],[]⟩),(.ret,⟨[],[(4,.val .bool)],[]⟩)],fu55_0 k k⟩
def F55 (k:Nat) (a0:TY75) (a1:Int):Option TY78 :=
 (F55_0 k k a0 a1 (0:Int)).bind fun r7 =>
 match r7 with
 |.inl r8 =>
  some ((false,()),())
 |.inr r8 =>
  some ((r8.1.1,()),())
def sp55 (k:Nat):Spec:=⟨[.val KD46,.val (.int .i64)],[.val .bool],fun x=>F55 k x.1 x.2.1⟩
def lim55:Lim:=⟨28,2,false,false,[],[]⟩
def cfg55 (k:Nat):Nat→Option Spec:=cfgL []
noncomputable def co55_0:Code:=codeAt (bodyOf Try.f55) [.r,.l,.r,.s]
noncomputable def cb55_0:Code:=codeAt (bodyOf Try.f55) [.r,.l,.r,.s,.b]
noncomputable def co55:Code:=codeAt (bodyOf Try.f55) []
theorem cfg55_ok (k:Nat):CfgOK Try.prog (cfg55 k):=cfgL_nil
noncomputable def bo55_0 (k m:Nat) (v:sq55_0.V):=body Try.prog (stepper Try.prog (cfg55 k) lim55) .go cb55_0 (sq55_0.st v) (loopK (fr55_0 k) (fu55_0 k m))
theorem pp55_0 (k m:Nat) (v:sq55_0.V):fu55_0 k (m+1) v=(bo55_0 k m v).eval∧(bo55_0 k m v).left=(bo55_0 k m v).right:=⟨by kernel_rfl,by kernel_rfl⟩
theorem fr55_0_ok (k:Nat):FragOK Try.prog lim55 (fr55_0 k) co55_0 :=
 frag_cast (by kernel_rfl) (loop_ok (cfg55_ok k) (planOK_go _) (fu55_0 k) k (fun _=>rfl) (fun _=>rfl) (pp55_0 k))
def pl55 (k:Nat):Plan:=(.seq .go (.seq (.seq .go (.sub (.frag (fr55_0 k)))) .go))
noncomputable def bo55 (k:Nat) (x:AT (sp55 k).ps):=fnT Try.prog (cfg55 k) lim55 Try.f55 (bodyOf Try.f55) (pl55 k) (sp55 k) x
theorem vv55 (k:Nat) (x:AT (sp55 k).ps):(sp55 k).impl x=(bo55 k x).eval∧(bo55 k x).left=(bo55 k x).right:=⟨by kernel_rfl,by kernel_rfl⟩
theorem v55 (k:Nat):Callable Try.prog 55∧Valid Try.prog 55 (sp55 k) :=
 fn_of (n:=lim55) (fn:=Try.f55) (p:=(pl55 k)) (cfg55_ok k) (by kernel_rfl) (plan_of (L:=[(fr55_0 k,co55_0)]) (by kernel_rfl) (.cons (fr55_0_ok k) .nil)) (vv55 k)
def F54_0 (k:Nat):Nat→TY65→Int→Int→Int→Option (TY79)
 |0,_,_,_,_=>none
 |n+1,t0,t1,t5,t6 =>
  let x5:=(decide (t6<(length t0:Int)))
  bif x5 then
  if 0≤t6∧t6<(length t0:Int) then
  let x6:=(getD t0 (toNat t6) ([]:TY75))
  (F55 k x6 t1).bind fun r7 =>
  bif r7.1.1 then
  let x8:=(wrap .i64 ((wrap .i64 ((2:Int)*t5))+(1:Int)))
  (F54_0 k n t0 t1 x8 (wrap .i64 (t6+(1:Int)))).bind some
  else
  (F54_0 k n t0 t1 (wrap .i64 ((2:Int)*t5)) (wrap .i64 (t6+(1:Int)))).bind some
  else none
  else
  some ((t5,()),())
def sq54_0:Shape:=⟨[],[(0,.val KD36),(1,.val (.int .i64)),(5,.val (.int .i64)),(6,.val (.int .i64))],[]⟩
def fu54_0 (k m:Nat) (v:sq54_0.V):=F54_0 k m v.1.1 v.1.2.1 v.1.2.2.1 v.1.2.2.2.1
def fr54_0 (k:Nat):Frag:=⟨sq54_0,[(.exit 0,⟨[],[(5,.val (.int .i64))],[]⟩)],fu54_0 k k⟩
def F54 (k:Nat) (a0:TY65) (a1:Int):Option TY79 :=
 (F54_0 k k a0 a1 (0:Int) (0:Int)).bind fun r9 =>
 some ((r9.1.1,()),())
def sp54 (k:Nat):Spec:=⟨[.val KD36,.val (.int .i64)],[.val (.int .i64)],fun x=>F54 k x.1 x.2.1⟩
def lim54:Lim:=⟨24,2,false,false,[],[]⟩
def cfg54 (k:Nat):Nat→Option Spec:=cfgL [(55,sp55 k)]
noncomputable def co54_0:Code:=codeAt (bodyOf Try.f54) [.r,.r,.l,.r,.s]
noncomputable def cb54_0:Code:=codeAt (bodyOf Try.f54) [.r,.r,.l,.r,.s,.b]
noncomputable def co54:Code:=codeAt (bodyOf Try.f54) []
theorem cfg54_ok (k:Nat):CfgOK Try.prog (cfg54 k):=cfgL_cons (v55 k) (cfgL_nil)
noncomputable def bo54_0 (k m:Nat) (v:sq54_0.V):=body Try.prog (stepper Try.prog (cfg54 k) lim54) .go cb54_0 (sq54_0.st v) (loopK (fr54_0 k) (fu54_0 k m))
theorem pp54_0 (k m:Nat) (v:sq54_0.V):fu54_0 k (m+1) v=(bo54_0 k m v).eval∧(bo54_0 k m v).left=(bo54_0 k m v).right:=⟨by kernel_rfl,by kernel_rfl⟩
theorem fr54_0_ok (k:Nat):FragOK Try.prog lim54 (fr54_0 k) co54_0 :=
 frag_cast (by kernel_rfl) (loop_ok (cfg54_ok k) (planOK_go _) (fu54_0 k) k (fun _=>rfl) (fun _=>rfl) (pp54_0 k))
def pl54 (k:Nat):Plan:=(.seq .go (.seq .go (.seq (.seq .go (.sub (.frag (fr54_0 k)))) .go)))
noncomputable def bo54 (k:Nat) (x:AT (sp54 k).ps):=fnT Try.prog (cfg54 k) lim54 Try.f54 (bodyOf Try.f54) (pl54 k) (sp54 k) x
theorem vv54 (k:Nat) (x:AT (sp54 k).ps):(sp54 k).impl x=(bo54 k x).eval∧(bo54 k x).left=(bo54 k x).right:=⟨by kernel_rfl,by kernel_rfl⟩
theorem v54 (k:Nat):Callable Try.prog 54∧Valid Try.prog 54 (sp54 k) :=
 fn_of (n:=lim54) (fn:=Try.f54) (p:=(pl54 k)) (cfg54_ok k) (by kernel_rfl) (plan_of (L:=[(fr54_0 k,co54_0)]) (by kernel_rfl) (.cons (fr54_0_ok k) .nil)) (vv54 k)
def F30_0 (k:Nat):Nat→TY65→Int→Int→Int→Int→(List Int)→(List Int)→(List Int)→(List Int)→Option ((TY45×((List Int)×(List Int)×(List Int)×(List Int)×Unit)))
 |0,_,_,_,_,_,_,_,_,_=>none
 |n+1,t0,t8,t9,t10,t11,e0,e1,e2,e3 =>
  let x5:=(decide (t11<(length e3:Int)))
  bif x5 then
  if 0≤t11∧t11<(length e3:Int) then
  let x6:=(getD e3 (toNat t11) (0:Int))
  bif (x6 != t10) then
  (F30_0 k n t0 t8 t9 t10 (wrap .i64 (t11+(1:Int))) e0 e1 e2 e3).bind some
  else
  some ((t0,t8,t9,t10,t11,()),(e0,e1,e2,e3,()))
  else none
  else
  some ((t0,t8,t9,t10,t11,()),(e0,e1,e2,e3,()))
def sq30_0:Shape:=⟨[(4,KD71),(5,KD71),(6,KD71)],[(0,.val KD36),(4,.at 2000004 []),(5,.at 2000005 []),(6,.at 2000006 []),(7,.at 1000208 []),(8,.val (.int .i64)),(9,.val (.int .i64)),(10,.val (.int .i64)),(11,.val (.int .i64))],[(1000208,none,KD71),(2000004,none,KD71),(2000005,none,KD71),(2000006,none,KD71)]⟩
def fu30_0 (k m:Nat) (v:sq30_0.V):=F30_0 k m v.1.1 v.1.2.1 v.1.2.2.1 v.1.2.2.2.1 v.1.2.2.2.2.1 v.2.1 v.2.2.1 v.2.2.2.1 v.2.2.2.2.1
def fr30_0 (k:Nat):Frag:=⟨sq30_0,[(.exit 2,⟨[],[(0,.val KD36),(4,.at 2000004 []),(5,.at 2000005 []),(6,.at 2000006 []),(7,.at 1000208 []),(8,.val (.int .i64)),(9,.val (.int .i64)),(10,.val (.int .i64)),(11,.val (.int .i64))],[(1000208,none,KD71),(2000004,none,KD71),(2000005,none,KD71),(2000006,none,KD71)]⟩)],fu30_0 k k⟩
def F30_1 (k:Nat):Nat→TY65→Int→Int→(List Int)→(List Int)→(List Int)→(List Int)→Option ((Unit×((List Int)×(List Int)×Unit)))
 |0,_,_,_,_,_,_,_=>none
 |n+1,t0,t8,t9,e0,e1,e2,e3 =>
  let x2:=(decide (t9<(length e0:Int)))
  bif x2 then
  if 0≤t9∧t9<(length e0:Int) then
  let x3:=(getD e0 (toNat t9) (0:Int))
  (F54 k t0 x3).bind fun r4 =>
  bif (r4.1.1==t8) then
  (F30_1 k n t0 t8 (wrap .i64 (t9+(1:Int))) e0 e1 e2 e3).bind some
  else
  (F30_0 k k t0 r4.1.1 t9 r4.1.1 (0:Int) e0 e1 e2 e3).bind fun r7 =>
  let y10:=r7.1.2.2.1
  let y12:=r7.1.2.2.2.2.1
  let y14:=r7.2.2.1
  let y15:=r7.2.2.2.1
  let y16:=r7.2.2.2.2.1
  bif (y12==(length y16:Int)) then
  let x17:=(List.set (replicate 1 (0:Int)) 0 r7.1.2.2.2.1)
  if (length y16+length x17)*(8*2)≤281474976710656∧length y16+length x17≤9223372036854775807 then
  if 0≤y10∧y10<(length r7.2.1:Int) then
  let x18:=(List.set (replicate 1 (0:Int)) 0 (getD r7.2.1 (toNat y10) (0:Int)))
  if (length y14+length x18)*(8*2)≤281474976710656∧length y14+length x18≤9223372036854775807 then
  let x19:=(List.set (replicate 1 (0:Int)) 0 y12)
  if (length y15+length x19)*(8*2)≤281474976710656∧length y15+length x19≤9223372036854775807 then
  (F30_1 k n r7.1.1 r7.1.2.1 (wrap .i64 (y10+(1:Int))) r7.2.1 (y14++x18) (y15++x19) (y16++x17)).bind some
  else none
  else none
  else none
  else none
  else
  if 0≤y10∧y10<(length r7.2.1:Int) then
  let x20:=(List.set (replicate 1 (0:Int)) 0 (getD r7.2.1 (toNat y10) (0:Int)))
  if (length y14+length x20)*(8*2)≤281474976710656∧length y14+length x20≤9223372036854775807 then
  let x21:=(List.set (replicate 1 (0:Int)) 0 y12)
  if (length y15+length x21)*(8*2)≤281474976710656∧length y15+length x21≤9223372036854775807 then
  (F30_1 k n r7.1.1 r7.1.2.1 (wrap .i64 (y10+(1:Int))) r7.2.1 (y14++x20) (y15++x21) y16).bind some
  else none
  else none
  else none
  else none
  else
  some ((),(e1,e2,()))
def sq30_1:Shape:=⟨[(4,KD71),(5,KD71),(6,KD71)],[(0,.val KD36),(4,.at 2000004 []),(5,.at 2000005 []),(6,.at 2000006 []),(7,.at 1000208 []),(8,.val (.int .i64)),(9,.val (.int .i64))],[(1000208,none,KD71),(2000004,none,KD71),(2000005,none,KD71),(2000006,none,KD71)]⟩
def fu30_1 (k m:Nat) (v:sq30_1.V):=F30_1 k m v.1.1 v.1.2.1 v.1.2.2.1 v.2.1 v.2.2.1 v.2.2.2.1 v.2.2.2.2.1
def fr30_1 (k:Nat):Frag:=⟨sq30_1,[(.exit 0,⟨[(4,KD71),(5,KD71)],[(4,.at 2000004 []),(5,.at 2000005 [])],[(2000004,none,KD71),(2000005,none,KD71)]⟩)],fu30_1 k k⟩
def F30 (k:Nat) (a0:TY65):Option (((List Int)×(List Int)×Unit)×Unit) :=
 (F53 k a0).bind fun r1 =>
 (F30_1 k k a0 (-1:Int) (0:Int) r1.1.1 [] [] []).bind fun r22 =>
 some ((r22.2.1,r22.2.2.1,()),())
def sp30 (k:Nat):Spec:=⟨[.val KD36],[.own KD71,.own KD71],fun x=>F30 k x.1⟩
def lim30:Lim:=⟨65,1,false,false,[],[]⟩
def cfg30 (k:Nat):Nat→Option Spec:=cfgL [(53,sp53 k),(54,sp54 k)]
noncomputable def co30_0:Code:=codeAt (bodyOf Try.f30) [.r,.r,.r,.r,.l,.r,.s,.b,.r,.l,.s,.r,.r,.r,.r,.l,.s]
noncomputable def cb30_0:Code:=codeAt (bodyOf Try.f30) [.r,.r,.r,.r,.l,.r,.s,.b,.r,.l,.s,.r,.r,.r,.r,.l,.s,.b]
noncomputable def co30_1:Code:=codeAt (bodyOf Try.f30) [.r,.r,.r,.r,.l,.r,.s]
noncomputable def cb30_1:Code:=codeAt (bodyOf Try.f30) [.r,.r,.r,.r,.l,.r,.s,.b]
noncomputable def co30:Code:=codeAt (bodyOf Try.f30) []
theorem cfg30_ok (k:Nat):CfgOK Try.prog (cfg30 k):=cfgL_cons (v53 k) (cfgL_cons (v54 k) (cfgL_nil))
noncomputable def bo30_0 (k m:Nat) (v:sq30_0.V):=body Try.prog (stepper Try.prog (cfg30 k) lim30) .go cb30_0 (sq30_0.st v) (loopK (fr30_0 k) (fu30_0 k m))
theorem pp30_0 (k m:Nat) (v:sq30_0.V):fu30_0 k (m+1) v=(bo30_0 k m v).eval∧(bo30_0 k m v).left=(bo30_0 k m v).right:=⟨by kernel_rfl,by kernel_rfl⟩
theorem fr30_0_ok (k:Nat):FragOK Try.prog lim30 (fr30_0 k) co30_0 :=
 frag_cast (by kernel_rfl) (loop_ok (cfg30_ok k) (planOK_go _) (fu30_0 k) k (fun _=>rfl) (fun _=>rfl) (pp30_0 k))
def pl30_1 (k:Nat):Plan:=(.seq .go (.seq (.sub (.seq .go (.seq .go (.seq .go (.seq .go (.seq (.sub (.frag (fr30_0 k))) .go)))))) .go))
noncomputable def bo30_1 (k m:Nat) (v:sq30_1.V):=body Try.prog (stepper Try.prog (cfg30 k) lim30) (pl30_1 k) cb30_1 (sq30_1.st v) (loopK (fr30_1 k) (fu30_1 k m))
theorem pp30_1 (k m:Nat) (v:sq30_1.V):fu30_1 k (m+1) v=(bo30_1 k m v).eval∧(bo30_1 k m v).left=(bo30_1 k m v).right:=⟨by kernel_rfl,by kernel_rfl⟩
theorem fr30_1_ok (k:Nat):FragOK Try.prog lim30 (fr30_1 k) co30_1 :=
 frag_cast (by kernel_rfl) (loop_ok (cfg30_ok k) (plan_of (L:=[(fr30_0 k,co30_0)]) (by kernel_rfl) (.cons (fr30_0_ok k) .nil)) (fu30_1 k) k (fun _=>rfl) (fun _=>rfl) (pp30_1 k))
def pl30 (k:Nat):Plan:=(.seq .go (.seq .go (.seq .go (.seq .go (.seq (.seq .go (.sub (.frag (fr30_1 k)))) .go)))))
noncomputable def bo30 (k:Nat) (x:AT (sp30 k).ps):=fnT Try.prog (cfg30 k) lim30 Try.f30 (bodyOf Try.f30) (pl30 k) (sp30 k) x
theorem vv30 (k:Nat) (x:AT (sp30 k).ps):(sp30 k).impl x=(bo30 k x).eval∧(bo30 k x).left=(bo30 k x).right:=⟨by kernel_rfl,by kernel_rfl⟩
theorem v30 (k:Nat):Callable Try.prog 30∧Valid Try.prog 30 (sp30 k) :=
 fn_of (n:=lim30) (fn:=Try.f30) (p:=(pl30 k)) (cfg30_ok k) (by kernel_rfl) (plan_of (L:=[(fr30_1 k,co30_1)]) (by kernel_rfl) (.cons (fr30_1_ok k) .nil)) (vv30 k)
def F32_0 (k:Nat):Nat→(List Int)→Int→Int→Option (TY79)
 |0,_,_,_=>none
 |n+1,t0,t3,t4 =>
  let x3:=(decide (t4<(length t0:Int)))
  bif x3 then
  if 0≤t4∧t4<(length t0:Int) then
  let x4:=(wrap .i64 ((getD t0 (toNat t4) (0:Int))+(1:Int)))
  (F32_0 k n t0 (maxI t3 x4) (wrap .i64 (t4+(1:Int)))).bind some
  else none
  else
  some ((t3,()),())
def sq32_0:Shape:=⟨[],[(0,.val KD68),(3,.val (.int .i64)),(4,.val (.int .i64))],[]⟩
def fu32_0 (k m:Nat) (v:sq32_0.V):=F32_0 k m v.1.1 v.1.2.1 v.1.2.2.1
def fr32_0 (k:Nat):Frag:=⟨sq32_0,[(.exit 0,⟨[],[(3,.val (.int .i64))],[]⟩)],fu32_0 k k⟩
def F32 (k:Nat) (a0:(List Int)):Option TY79 :=
 (F32_0 k k a0 (0:Int) (0:Int)).bind fun r5 =>
 some ((r5.1.1,()),())
def sp32 (k:Nat):Spec:=⟨[.val KD68],[.val (.int .i64)],fun x=>F32 k x.1⟩
def lim32:Lim:=⟨19,1,false,false,[],[]⟩
def cfg32 (k:Nat):Nat→Option Spec:=cfgL []
noncomputable def co32_0:Code:=codeAt (bodyOf Try.f32) [.r,.r,.l,.r,.s]
noncomputable def cb32_0:Code:=codeAt (bodyOf Try.f32) [.r,.r,.l,.r,.s,.b]
noncomputable def co32:Code:=codeAt (bodyOf Try.f32) []
theorem cfg32_ok (k:Nat):CfgOK Try.prog (cfg32 k):=cfgL_nil
noncomputable def bo32_0 (k m:Nat) (v:sq32_0.V):=body Try.prog (stepper Try.prog (cfg32 k) lim32) .go cb32_0 (sq32_0.st v) (loopK (fr32_0 k) (fu32_0 k m))
theorem pp32_0 (k m:Nat) (v:sq32_0.V):fu32_0 k (m+1) v=(bo32_0 k m v).eval∧(bo32_0 k m v).left=(bo32_0 k m v).right:=⟨by kernel_rfl,by kernel_rfl⟩
theorem fr32_0_ok (k:Nat):FragOK Try.prog lim32 (fr32_0 k) co32_0 :=
 frag_cast (by kernel_rfl) (loop_ok (cfg32_ok k) (planOK_go _) (fu32_0 k) k (fun _=>rfl) (fun _=>rfl) (pp32_0 k))
def pl32 (k:Nat):Plan:=(.seq .go (.seq .go (.seq (.seq .go (.sub (.frag (fr32_0 k)))) .go)))
noncomputable def bo32 (k:Nat) (x:AT (sp32 k).ps):=fnT Try.prog (cfg32 k) lim32 Try.f32 (bodyOf Try.f32) (pl32 k) (sp32 k) x
theorem vv32 (k:Nat) (x:AT (sp32 k).ps):(sp32 k).impl x=(bo32 k x).eval∧(bo32 k x).left=(bo32 k x).right:=⟨by kernel_rfl,by kernel_rfl⟩
theorem v32 (k:Nat):Callable Try.prog 32∧Valid Try.prog 32 (sp32 k) :=
 fn_of (n:=lim32) (fn:=Try.f32) (p:=(pl32 k)) (cfg32_ok k) (by kernel_rfl) (plan_of (L:=[(fr32_0 k,co32_0)]) (by kernel_rfl) (.cons (fr32_0_ok k) .nil)) (vv32 k)
def F31_0 (k:Nat):Nat→TY65→(List Int)→(List Int)→Int→Int→(List Bool)→(List (List Bool))→Option (((TY65×(List Int)×(List Int)×Int×Unit)×((List Bool)×(List (List Bool))×Unit)))
 |0,_,_,_,_,_,_,_=>none
 |n+1,t0,t1,t2,t8,t10,c19,e0 =>
  let x3:=(decide (t10<(length t1:Int)))
  bif x3 then
  if 0≤t10∧t10<(length t2:Int) then
  if 0≤t8∧t8<(length t0:Int) then
  let x4:=(getD t0 (toNat t8) ([]:TY75))
  if 0≤t10∧t10<(length t1:Int) then
  (F55 k x4 (getD t1 (toNat t10) (0:Int))).bind fun r5 =>
  if 0≤(getD t2 (toNat t10) (0:Int))∧(getD t2 (toNat t10) (0:Int))<(length c19:Int) then
  let x6:=(toNat (getD t2 (toNat t10) (0:Int)))
  (F31_0 k n t0 t1 t2 t8 (wrap .i64 (t10+(1:Int))) (List.set c19 x6 r5.1.1) e0).bind some
  else none
  else none
  else none
  else none
  else
  some ((t0,t1,t2,t8,()),(c19,e0,()))
def sq31_0:Shape:=⟨[(7,KD58)],[(0,.val KD36),(1,.val KD68),(2,.val KD68),(7,.at 2000007 []),(8,.val (.int .i64)),(9,.at 19 []),(10,.val (.int .i64))],[(19,none,KD77),(2000007,none,KD58)]⟩
def fu31_0 (k m:Nat) (v:sq31_0.V):=F31_0 k m v.1.1 v.1.2.1 v.1.2.2.1 v.1.2.2.2.1 v.1.2.2.2.2.1 v.2.1 v.2.2.1
def fr31_0 (k:Nat):Frag:=⟨sq31_0,[(.exit 2,⟨[],[(0,.val KD36),(1,.val KD68),(2,.val KD68),(7,.at 2000007 []),(8,.val (.int .i64)),(9,.at 19 [])],[(19,none,KD77),(2000007,none,KD58)]⟩)],fu31_0 k k⟩
def F31_1 (k:Nat):Nat→TY65→(List Int)→(List Int)→Int→(List (List Bool))→Option ((Unit×((List (List Bool))×Unit)))
 |0,_,_,_,_,_=>none
 |n+1,t0,t1,t2,t8,e0 =>
  let x1:=(decide (t8<(length t0:Int)))
  bif x1 then
  (F32 k t2).bind fun r2 =>
  if (0≤r2.1.1∧r2.1.1<r2.1.1+1)∧r2.1.1≤9223372036854775807∧((1:Nat):Int)*r2.1.1≤281474976710656 then
  (F31_0 k k t0 t1 t2 t8 (0:Int) (replicate (toNat r2.1.1) false) e0).bind fun r7 =>
  if (length r7.2.2.1+length [r7.2.1])*(24*2)≤281474976710656∧length r7.2.2.1+length [r7.2.1]≤9223372036854775807 then
  (F31_1 k n r7.1.1 r7.1.2.1 r7.1.2.2.1 (wrap .i64 (r7.1.2.2.2.1+(1:Int))) (r7.2.2.1++[r7.2.1])).bind some
  else none
  else none
  else
  some ((),(e0,()))
def sq31_1:Shape:=⟨[(7,KD58)],[(0,.val KD36),(1,.val KD68),(2,.val KD68),(7,.at 2000007 []),(8,.val (.int .i64))],[(2000007,none,KD58)]⟩
def fu31_1 (k m:Nat) (v:sq31_1.V):=F31_1 k m v.1.1 v.1.2.1 v.1.2.2.1 v.1.2.2.2.1 v.2.1
def fr31_1 (k:Nat):Frag:=⟨sq31_1,[(.exit 0,⟨[(7,KD58)],[(7,.at 2000007 [])],[(2000007,none,KD58)]⟩)],fu31_1 k k⟩
def F31 (k:Nat) (a0:TY65) (a1:(List Int)) (a2:(List Int)):Option (((List (List Bool))×Unit)×Unit) :=
 (F31_1 k k a0 a1 a2 (0:Int) []).bind fun r14 =>
 some ((r14.2.1,()),())
def sp31 (k:Nat):Spec:=⟨[.val KD36,.val KD68,.val KD68],[.own KD58],fun x=>F31 k x.1 x.2.1 x.2.2.1⟩
def lim31:Lim:=⟨46,3,false,false,[],[]⟩
def cfg31 (k:Nat):Nat→Option Spec:=cfgL [(32,sp32 k),(55,sp55 k)]
noncomputable def co31_0:Code:=codeAt (bodyOf Try.f31) [.r,.r,.l,.r,.s,.b,.r,.l,.s,.r,.l,.r,.s]
noncomputable def cb31_0:Code:=codeAt (bodyOf Try.f31) [.r,.r,.l,.r,.s,.b,.r,.l,.s,.r,.l,.r,.s,.b]
noncomputable def co31_1:Code:=codeAt (bodyOf Try.f31) [.r,.r,.l,.r,.s]
noncomputable def cb31_1:Code:=codeAt (bodyOf Try.f31) [.r,.r,.l,.r,.s,.b]
noncomputable def co31:Code:=codeAt (bodyOf Try.f31) []
theorem cfg31_ok (k:Nat):CfgOK Try.prog (cfg31 k):=cfgL_cons (v32 k) (cfgL_cons (v55 k) (cfgL_nil))
noncomputable def bo31_0 (k m:Nat) (v:sq31_0.V):=body Try.prog (stepper Try.prog (cfg31 k) lim31) .go cb31_0 (sq31_0.st v) (loopK (fr31_0 k) (fu31_0 k m))
theorem pp31_0 (k m:Nat) (v:sq31_0.V):fu31_0 k (m+1) v=(bo31_0 k m v).eval∧(bo31_0 k m v).left=(bo31_0 k m v).right:=⟨by kernel_rfl,by kernel_rfl⟩
theorem fr31_0_ok (k:Nat):FragOK Try.prog lim31 (fr31_0 k) co31_0 :=
 frag_cast (by kernel_rfl) (loop_ok (cfg31_ok k) (planOK_go _) (fu31_0 k) k (fun _=>rfl) (fun _=>rfl) (pp31_0 k))
def pl31_1 (k:Nat):Plan:=(.seq .go (.seq (.sub (.seq .go (.seq (.seq .go (.sub (.frag (fr31_0 k)))) .go))) .go))
noncomputable def bo31_1 (k m:Nat) (v:sq31_1.V):=body Try.prog (stepper Try.prog (cfg31 k) lim31) (pl31_1 k) cb31_1 (sq31_1.st v) (loopK (fr31_1 k) (fu31_1 k m))
theorem pp31_1 (k m:Nat) (v:sq31_1.V):fu31_1 k (m+1) v=(bo31_1 k m v).eval∧(bo31_1 k m v).left=(bo31_1 k m v).right:=⟨by kernel_rfl,by kernel_rfl⟩
theorem fr31_1_ok (k:Nat):FragOK Try.prog lim31 (fr31_1 k) co31_1 :=
 frag_cast (by kernel_rfl) (loop_ok (cfg31_ok k) (plan_of (L:=[(fr31_0 k,co31_0)]) (by kernel_rfl) (.cons (fr31_0_ok k) .nil)) (fu31_1 k) k (fun _=>rfl) (fun _=>rfl) (pp31_1 k))
def pl31 (k:Nat):Plan:=(.seq .go (.seq .go (.seq (.seq .go (.sub (.frag (fr31_1 k)))) .go)))
noncomputable def bo31 (k:Nat) (x:AT (sp31 k).ps):=fnT Try.prog (cfg31 k) lim31 Try.f31 (bodyOf Try.f31) (pl31 k) (sp31 k) x
theorem vv31 (k:Nat) (x:AT (sp31 k).ps):(sp31 k).impl x=(bo31 k x).eval∧(bo31 k x).left=(bo31 k x).right:=⟨by kernel_rfl,by kernel_rfl⟩
theorem v31 (k:Nat):Callable Try.prog 31∧Valid Try.prog 31 (sp31 k) :=
 fn_of (n:=lim31) (fn:=Try.f31) (p:=(pl31 k)) (cfg31_ok k) (by kernel_rfl) (plan_of (L:=[(fr31_1 k,co31_1)]) (by kernel_rfl) (.cons (fr31_1_ok k) .nil)) (vv31 k)
def rs56 (f56:(TY49→Option TY79)):Spec:=⟨[.val KD28],[.val (.int .i64)],fun x=>f56 x.1⟩
def F56_0 (k:Nat) (f56:(TY49→Option TY79)):Nat→Int→Int→TY26→Option (((Int×Unit)×(TY26×Unit)))
 |0,_,_,_=>none
 |n+1,t3,t4,c1 =>
  let x5:=(decide (t4<(length c1.2.2.2.2.2.1:Int)))
  bif x5 then
  if 0≤t4∧t4<(length c1.2.2.2.2.2.1:Int) then
  let x6:=(getD c1.2.2.2.2.2.1 (toNat t4) (Tree.mk ((0:Int),((0:Int),((0:Int),((0:Int),(ByteArray.empty,()))))) []))
  (f56 x6).bind fun r7 =>
  let x8:=(minI (wrap .i64 (t3+r7.1.1)) (1000000000:Int))
  (F56_0 k f56 n x8 (wrap .i64 (t4+(1:Int))) c1).bind some
  else none
  else
  some ((t3,()),(c1,()))
def sq56_0:Shape:=⟨[],[(1,.ptr 1 []),(3,.val (.int .i64)),(4,.val (.int .i64))],[(1,some 55,KD20)]⟩
def fu56_0 (k:Nat) (f56:(TY49→Option TY79)) (m:Nat) (v:sq56_0.V):=F56_0 k f56 m v.1.1 v.1.2.1 v.2.1
def fr56_0 (k:Nat) (f56:(TY49→Option TY79)):Frag:=⟨sq56_0,[(.exit 1,⟨[],[(1,.ptr 1 []),(3,.val (.int .i64))],[(1,some 55,KD20)]⟩)],fu56_0 k f56 k⟩
def B56 (k:Nat) (f56:(TY49→Option TY79)) (a0:TY49):Option TY79 :=
 bif ((Tree.a a0).1==(1:Int)) then
 some (((0:Int),()),())
 else
 bif ((Tree.a a0).1==(2:Int)) then
 some (((1:Int),()),())
 else
 bif ((Tree.a a0).1==(3:Int)) then
 some (((1:Int),()),())
 else
 (F56_0 k f56 k (0:Int) (0:Int) ((Tree.a a0).1,((Tree.a a0).2.1,((Tree.a a0).2.2.1,((Tree.a a0).2.2.2.1,((Tree.a a0).2.2.2.2.1,((Tree.l a0),()))))))).bind fun r9 =>
 bif (r9.2.1.1==(7:Int)) then
 let x12:=(minI (wrap .i64 (r9.1.1*r9.2.1.2.2.1)) (1000000000:Int))
 some ((x12,()),())
 else
 some ((r9.1.1,()),())
def sb56 (k:Nat) (f56:(TY49→Option TY79)):Spec:=rs56 (B56 k f56)
def lim56:Lim:=⟨37,1,false,false,[],[]⟩
def cfg56 (k:Nat) (f56:(TY49→Option TY79)):Nat→Option Spec:=cfgL [(56,rs56 f56)]
noncomputable def co56_0:Code:=codeAt (bodyOf Try.f56) [.r,.r,.r,.l,.r,.s]
noncomputable def cb56_0:Code:=codeAt (bodyOf Try.f56) [.r,.r,.r,.l,.r,.s,.b]
noncomputable def co56:Code:=codeAt (bodyOf Try.f56) []
theorem cfg56_ok (k:Nat) (f56:(TY49→Option TY79)) (h56:Callable Try.prog 56∧Valid Try.prog 56 (rs56 f56)):CfgOK Try.prog (cfg56 k f56):=cfgL_cons h56 (cfgL_nil)
noncomputable def bo56_0 (k:Nat) (f56:(TY49→Option TY79)) (m:Nat) (v:sq56_0.V):=body Try.prog (stepper Try.prog (cfg56 k f56) lim56) .go cb56_0 (sq56_0.st v) (loopK (fr56_0 k f56) (fu56_0 k f56 m))
theorem pp56_0 (k:Nat) (f56:(TY49→Option TY79)) (m:Nat) (v:sq56_0.V):fu56_0 k f56 (m+1) v=(bo56_0 k f56 m v).eval∧(bo56_0 k f56 m v).left=(bo56_0 k f56 m v).right:=⟨by kernel_rfl,by kernel_rfl⟩
theorem fr56_0_ok (k:Nat) (f56:(TY49→Option TY79)) (h56:Callable Try.prog 56∧Valid Try.prog 56 (rs56 f56)):FragOK Try.prog lim56 (fr56_0 k f56) co56_0 :=
 frag_cast (by kernel_rfl) (loop_ok (cfg56_ok k f56 h56) (planOK_go _) (fu56_0 k f56) k (fun _=>rfl) (fun _=>rfl) (pp56_0 k f56))
def pl56 (k:Nat) (f56:(TY49→Option TY79)):Plan:=(.seq .go (.seq .go (.seq .go (.seq (.seq .go (.sub (.frag (fr56_0 k f56)))) .go))))
noncomputable def bo56 (k:Nat) (f56:(TY49→Option TY79)) (x:AT (sb56 k f56).ps):=fnT Try.prog (cfg56 k f56) lim56 Try.f56 (bodyOf Try.f56) (pl56 k f56) (sb56 k f56) x
theorem vv56 (k:Nat) (f56:(TY49→Option TY79)) (x:AT (sb56 k f56).ps):(sb56 k f56).impl x=(bo56 k f56 x).eval∧(bo56 k f56 x).left=(bo56 k f56 x).right:=⟨by kernel_rfl,by kernel_rfl⟩
theorem b56 (k:Nat) (f56:(TY49→Option TY79)) (h56:Callable Try.prog 56∧Valid Try.prog 56 (rs56 f56)):Callable Try.prog 56∧Valid Try.prog 56 (sb56 k f56) :=
 fn_of (n:=lim56) (fn:=Try.f56) (p:=(pl56 k f56)) (cfg56_ok k f56 h56) (by kernel_rfl) (plan_of (L:=[(fr56_0 k f56,co56_0)]) (by kernel_rfl) (.cons (fr56_0_ok k f56 h56) .nil)) (vv56 k f56)
def R56:Nat→(TY49→Option TY79)
 |0=>fun _=>none
 |k+1=>B56 k (R56 k)
def F56 (k:Nat) (a0_:TY49):Option TY79:=(R56 k) a0_
def sp56 (k:Nat):Spec:=⟨[.val KD28],[.val (.int .i64)],fun x=>F56 k x.1⟩
theorem r56 (k:Nat):(Callable Try.prog 56∧Valid Try.prog 56 (rs56 (R56 k))):=by
 induction k with
 |zero=>exact ⟨⟨Try.f56,by kernel_rfl,by kernel_rfl,by kernel_rfl⟩,fun x r h=>by cases (show (none:Option _)=some r from h)⟩
 |succ k ih=>exact b56 k (R56 k) ih
theorem v56 (k:Nat):Callable Try.prog 56∧Valid Try.prog 56 (sp56 k):=(r56 k)
def F80_0 (k:Nat):Nat→Int→Int→TY33→TY33→Option TY17
 |0,_,_,_,_=>none
 |n+1,t0,t4,c2,c3 =>
  bif (decide (t4<t0)) then
  let x4:=(List.set (replicate 1 (0:Int)) 0 (0:Int))
  if (length c3.1+length x4)*(8*2)≤281474976710656∧length c3.1+length x4≤9223372036854775807 then
  let x5:=(List.set (replicate 1 (0:Int)) 0 (1152921504606846976:Int))
  if (length c3.2.1+length x5)*(8*2)≤281474976710656∧length c3.2.1+length x5≤9223372036854775807 then
  let x6:=(List.set (replicate 1 (0:Int)) 0 (1152921504606846976:Int))
  if (length c3.2.2.1+length x6)*(8*2)≤281474976710656∧length c3.2.2.1+length x6≤9223372036854775807 then
  (F80_0 k n t0 (wrap .i64 (t4+(1:Int))) c2 ((c3.1++x4),((c3.2.1++x5),((c3.2.2.1++x6),c3.2.2.2)))).bind some
  else none
  else none
  else none
  else
  some ((),(c2,c3,()))
def sq80_0:Shape:=⟨[],[(0,.val (.int .i64)),(2,.ptr 2 []),(3,.ptr 3 []),(4,.val (.int .i64))],[(2,some 65,KD16),(3,some 65,KD16)]⟩
def fu80_0 (k m:Nat) (v:sq80_0.V):=F80_0 k m v.1.1 v.1.2.1 v.2.1 v.2.2.1
def fr80_0 (k:Nat):Frag:=⟨sq80_0,[(.exit 0,⟨[],[(2,.ptr 2 []),(3,.ptr 3 [])],[(2,some 65,KD16),(3,some 65,KD16)]⟩)],fu80_0 k k⟩
def F80 (k:Nat) (a0:Int):Option TY27 :=
 (F80_0 k k a0 (0:Int) (([]:(List Int)),(([]:(List Int)),(([]:(List Int)),(([]:TY62),((0:Int),()))))) (([]:(List Int)),(([]:(List Int)),(([]:(List Int)),(([]:TY62),((1152921504606846976:Int),())))))).bind fun r7 =>
 some ((r7.2.2.1,()),())
def sp80 (k:Nat):Spec:=⟨[.val (.int .i64)],[.own KD16],fun x=>F80 k x.1⟩
def lim80:Lim:=⟨27,1,false,false,[],[]⟩
def cfg80 (k:Nat):Nat→Option Spec:=cfgL []
noncomputable def co80_0:Code:=codeAt (bodyOf Try.f80) [.r,.r,.l,.r,.s]
noncomputable def cb80_0:Code:=codeAt (bodyOf Try.f80) [.r,.r,.l,.r,.s,.b]
noncomputable def co80:Code:=codeAt (bodyOf Try.f80) []
theorem cfg80_ok (k:Nat):CfgOK Try.prog (cfg80 k):=cfgL_nil
noncomputable def bo80_0 (k m:Nat) (v:sq80_0.V):=body Try.prog (stepper Try.prog (cfg80 k) lim80) .go cb80_0 (sq80_0.st v) (loopK (fr80_0 k) (fu80_0 k m))
theorem pp80_0 (k m:Nat) (v:sq80_0.V):fu80_0 k (m+1) v=(bo80_0 k m v).eval∧(bo80_0 k m v).left=(bo80_0 k m v).right:=⟨by kernel_rfl,by kernel_rfl⟩
theorem fr80_0_ok (k:Nat):FragOK Try.prog lim80 (fr80_0 k) co80_0 :=
 frag_cast (by kernel_rfl) (loop_ok (cfg80_ok k) (planOK_go _) (fu80_0 k) k (fun _=>rfl) (fun _=>rfl) (pp80_0 k))
def pl80 (k:Nat):Plan:=(.seq .go (.seq .go (.seq (.seq .go (.sub (.frag (fr80_0 k)))) .go)))
noncomputable def bo80 (k:Nat) (x:AT (sp80 k).ps):=fnT Try.prog (cfg80 k) lim80 Try.f80 (bodyOf Try.f80) (pl80 k) (sp80 k) x
theorem vv80 (k:Nat) (x:AT (sp80 k).ps):(sp80 k).impl x=(bo80 k x).eval∧(bo80 k x).left=(bo80 k x).right:=⟨by kernel_rfl,by kernel_rfl⟩
theorem v80 (k:Nat):Callable Try.prog 80∧Valid Try.prog 80 (sp80 k) :=
 fn_of (n:=lim80) (fn:=Try.f80) (p:=(pl80 k)) (cfg80_ok k) (by kernel_rfl) (plan_of (L:=[(fr80_0 k,co80_0)]) (by kernel_rfl) (.cons (fr80_0_ok k) .nil)) (vv80 k)
def F79 (k:Nat):Option TY27 :=
 (F80 k (0:Int)).bind fun r1 =>
 some (((r1.1.1.1,(r1.1.1.2.1,(r1.1.1.2.2.1,(r1.1.1.2.2.2.1,((0:Int),r1.1.1.2.2.2.2.2))))),()),())
def sp79 (k:Nat):Spec:=⟨[],[.own KD16],fun x=>F79 k⟩
def lim79:Lim:=⟨5,0,false,false,[],[]⟩
def cfg79 (k:Nat):Nat→Option Spec:=cfgL [(80,sp80 k)]
noncomputable def co79:Code:=codeAt (bodyOf Try.f79) []
theorem cfg79_ok (k:Nat):CfgOK Try.prog (cfg79 k):=cfgL_cons (v80 k) (cfgL_nil)
noncomputable def bo79 (k:Nat) (x:AT (sp79 k).ps):=fnT Try.prog (cfg79 k) lim79 Try.f79 (bodyOf Try.f79) .go (sp79 k) x
theorem vv79 (k:Nat) (x:AT (sp79 k).ps):(sp79 k).impl x=(bo79 k x).eval∧(bo79 k x).left=(bo79 k x).right:=⟨by kernel_rfl,by kernel_rfl⟩
theorem v79 (k:Nat):Callable Try.prog 79∧Valid Try.prog 79 (sp79 k) :=
 fn_of (n:=lim79) (fn:=Try.f79) (p:=.go) (cfg79_ok k) (by kernel_rfl) (planOK_go _) (vv79 k)
def F85_0 (k:Nat):Nat→Int→Int→TY33→TY33→TY33→TY33→Option TY8
 |0,_,_,_,_,_,_=>none
 |n+1,t5,t7,c2,c3,c4,c6 =>
  bif (decide (t7<t5)) then
  if 0≤t7∧t7<(length c2.1:Int) then
  if 0≤t7∧t7<(length c6.1:Int) then
  let x4:=(List.set c6.1 (toNat t7) (getD c2.1 (toNat t7) (0:Int)))
  (F85_0 k n t5 (wrap .i64 (t7+(1:Int))) c2 c3 c4 (x4,c6.2)).bind some
  else none
  else none
  else
  some ((t5,()),(c2,c3,c4,c6,()))
def sq85_0:Shape:=⟨[],[(2,.ptr 2 []),(3,.ptr 3 []),(4,.ptr 4 []),(5,.val (.int .i64)),(6,.ptr 6 []),(7,.val (.int .i64))],[(2,some 65,KD15),(3,some 65,KD15),(4,some 65,KD16),(6,some 65,KD16)]⟩
def fu85_0 (k m:Nat) (v:sq85_0.V):=F85_0 k m v.1.1 v.1.2.1 v.2.1 v.2.2.1 v.2.2.2.1 v.2.2.2.2.1
def fr85_0 (k:Nat):Frag:=⟨sq85_0,[(.exit 0,⟨[],[(2,.ptr 2 []),(3,.ptr 3 []),(4,.ptr 4 []),(5,.val (.int .i64)),(6,.ptr 6 [])],[(2,some 65,KD15),(3,some 65,KD15),(4,some 65,KD16),(6,some 65,KD16)]⟩)],fu85_0 k k⟩
def F85_1 (k:Nat):Nat→Int→Int→TY33→TY33→TY33→TY33→Option TY8
 |0,_,_,_,_,_,_=>none
 |n+1,t5,t8,c2,c3,c4,c6 =>
  let x14:=(decide (t8<(length c3.1:Int)))
  bif x14 then
  if 0≤t8∧t8<(length c3.1:Int) then
  if 0≤(wrap .i64 (t5+t8))∧(wrap .i64 (t5+t8))<(length c6.1:Int) then
  let x15:=(toNat (wrap .i64 (t5+t8)))
  let x16:=(List.set c6.1 x15 (getD c3.1 (toNat t8) (0:Int)))
  (F85_1 k n t5 (wrap .i64 (t8+(1:Int))) c2 c3 c4 (x16,c6.2)).bind some
  else none
  else none
  else
  some ((t5,()),(c2,c3,c4,c6,()))
def sq85_1:Shape:=⟨[],[(2,.ptr 2 []),(3,.ptr 3 []),(4,.ptr 4 []),(5,.val (.int .i64)),(6,.ptr 6 []),(8,.val (.int .i64))],[(2,some 65,KD15),(3,some 65,KD15),(4,some 65,KD16),(6,some 65,KD16)]⟩
def fu85_1 (k m:Nat) (v:sq85_1.V):=F85_1 k m v.1.1 v.1.2.1 v.2.1 v.2.2.1 v.2.2.2.1 v.2.2.2.2.1
def fr85_1 (k:Nat):Frag:=⟨sq85_1,[(.exit 2,⟨[],[(2,.ptr 2 []),(3,.ptr 3 []),(4,.ptr 4 []),(5,.val (.int .i64)),(6,.ptr 6 [])],[(2,some 65,KD15),(3,some 65,KD15),(4,some 65,KD16),(6,some 65,KD16)]⟩)],fu85_1 k k⟩
def F85_2 (k:Nat):Nat→Int→Int→TY33→TY33→TY33→Option TY17
 |0,_,_,_,_,_=>none
 |n+1,t5,t9,c3,c4,c6 =>
  let x28:=(decide (t9<(length c3.2.2.2.1:Int)))
  bif x28 then
  if 0≤t9∧t9<(length c3.2.2.2.1:Int) then
  let x29:=(getD c3.2.2.2.1 (toNat t9) ((0:Int),((0:Int),((0:Int),()))))
  if 0≤t9∧t9<(length c3.2.2.2.1:Int) then
  let x30:=(getD c3.2.2.2.1 (toNat t9) ((0:Int),((0:Int),((0:Int),()))))
  if 0≤t9∧t9<(length c3.2.2.2.1:Int) then
  let x31:=(getD c3.2.2.2.1 (toNat t9) ((0:Int),((0:Int),((0:Int),()))))
  let x32:=(List.set (replicate 1 ((0:Int),((0:Int),((0:Int),())))) 0 ((wrap .i64 (x29.1+t5)),((wrap .i64 (x30.2.1+t5)),(x31.2.2.1,()))))
  if (length c6.2.2.2.1+length x32)*(24*2)≤281474976710656∧length c6.2.2.2.1+length x32≤9223372036854775807 then
  (F85_2 k n t5 (wrap .i64 (t9+(1:Int))) c3 c4 (c6.1,(c6.2.1,(c6.2.2.1,((c6.2.2.2.1++x32),c6.2.2.2.2))))).bind some
  else none
  else none
  else none
  else none
  else
  some ((),(c4,c6,()))
def sq85_2:Shape:=⟨[],[(3,.ptr 3 []),(4,.ptr 4 []),(5,.val (.int .i64)),(6,.ptr 6 []),(9,.val (.int .i64))],[(3,some 65,KD15),(4,some 65,KD16),(6,some 65,KD16)]⟩
def fu85_2 (k m:Nat) (v:sq85_2.V):=F85_2 k m v.1.1 v.1.2.1 v.2.1 v.2.2.1 v.2.2.2.1
def fr85_2 (k:Nat):Frag:=⟨sq85_2,[(.exit 4,⟨[],[(4,.ptr 4 []),(6,.ptr 6 [])],[(4,some 65,KD16),(6,some 65,KD16)]⟩)],fu85_2 k k⟩
def F85 (k:Nat) (a0:TY33) (a1:TY33):Option TY27 :=
 let x1:=(wrap .i64 ((length a0.1:Int)+(length a1.1:Int)))
 (F80 k x1).bind fun r2 =>
 (F85_0 k k (length a0.1:Int) (0:Int) a0 a1 (([]:(List Int)),(([]:(List Int)),(([]:(List Int)),(([]:TY62),((0:Int),()))))) r2.1.1).bind fun r5 =>
 (F85_1 k k r5.1.1 (0:Int) r5.2.1 r5.2.2.1 r5.2.2.2.1 r5.2.2.2.2.1).bind fun r17 =>
 let y22:=r17.2.2.2.2.1
 if (length y22.2.2.2.1+length r17.2.1.2.2.2.1)*(24*2)≤281474976710656∧length y22.2.2.2.1+length r17.2.1.2.2.2.1≤9223372036854775807 then
 (F85_2 k k r17.1.1 (0:Int) r17.2.2.1 r17.2.2.2.1 (y22.1,(y22.2.1,(y22.2.2.1,((y22.2.2.2.1++r17.2.1.2.2.2.1),y22.2.2.2.2))))).bind fun r33 =>
 some ((r33.2.2.1,()),())
 else none
def sp85 (k:Nat):Spec:=⟨[.val KD15,.val KD15],[.own KD16],fun x=>F85 k x.1 x.2.1⟩
def lim85:Lim:=⟨93,2,false,false,[],[]⟩
def cfg85 (k:Nat):Nat→Option Spec:=cfgL [(80,sp80 k)]
noncomputable def co85_0:Code:=codeAt (bodyOf Try.f85) [.r,.r,.r,.l,.r,.s]
noncomputable def cb85_0:Code:=codeAt (bodyOf Try.f85) [.r,.r,.r,.l,.r,.s,.b]
noncomputable def co85_1:Code:=codeAt (bodyOf Try.f85) [.r,.r,.r,.r,.l,.r,.s]
noncomputable def cb85_1:Code:=codeAt (bodyOf Try.f85) [.r,.r,.r,.r,.l,.r,.s,.b]
noncomputable def co85_2:Code:=codeAt (bodyOf Try.f85) [.r,.r,.r,.r,.r,.r,.l,.r,.s]
noncomputable def cb85_2:Code:=codeAt (bodyOf Try.f85) [.r,.r,.r,.r,.r,.r,.l,.r,.s,.b]
noncomputable def co85:Code:=codeAt (bodyOf Try.f85) []
theorem cfg85_ok (k:Nat):CfgOK Try.prog (cfg85 k):=cfgL_cons (v80 k) (cfgL_nil)
noncomputable def bo85_0 (k m:Nat) (v:sq85_0.V):=body Try.prog (stepper Try.prog (cfg85 k) lim85) .go cb85_0 (sq85_0.st v) (loopK (fr85_0 k) (fu85_0 k m))
theorem pp85_0 (k m:Nat) (v:sq85_0.V):fu85_0 k (m+1) v=(bo85_0 k m v).eval∧(bo85_0 k m v).left=(bo85_0 k m v).right:=⟨by kernel_rfl,by kernel_rfl⟩
theorem fr85_0_ok (k:Nat):FragOK Try.prog lim85 (fr85_0 k) co85_0 :=
 frag_cast (by kernel_rfl) (loop_ok (cfg85_ok k) (planOK_go _) (fu85_0 k) k (fun _=>rfl) (fun _=>rfl) (pp85_0 k))
noncomputable def bo85_1 (k m:Nat) (v:sq85_1.V):=body Try.prog (stepper Try.prog (cfg85 k) lim85) .go cb85_1 (sq85_1.st v) (loopK (fr85_1 k) (fu85_1 k m))
theorem pp85_1 (k m:Nat) (v:sq85_1.V):fu85_1 k (m+1) v=(bo85_1 k m v).eval∧(bo85_1 k m v).left=(bo85_1 k m v).right:=⟨by kernel_rfl,by kernel_rfl⟩
theorem fr85_1_ok (k:Nat):FragOK Try.prog lim85 (fr85_1 k) co85_1 :=
 frag_cast (by kernel_rfl) (loop_ok (cfg85_ok k) (planOK_go _) (fu85_1 k) k (fun _=>rfl) (fun _=>rfl) (pp85_1 k))
noncomputable def bo85_2 (k m:Nat) (v:sq85_2.V):=body Try.prog (stepper Try.prog (cfg85 k) lim85) .go cb85_2 (sq85_2.st v) (loopK (fr85_2 k) (fu85_2 k m))
theorem pp85_2 (k m:Nat) (v:sq85_2.V):fu85_2 k (m+1) v=(bo85_2 k m v).eval∧(bo85_2 k m v).left=(bo85_2 k m v).right:=⟨by kernel_rfl,by kernel_rfl⟩
theorem fr85_2_ok (k:Nat):FragOK Try.prog lim85 (fr85_2 k) co85_2 :=
 frag_cast (by kernel_rfl) (loop_ok (cfg85_ok k) (planOK_go _) (fu85_2 k) k (fun _=>rfl) (fun _=>rfl) (pp85_2 k))
def pl85 (k:Nat):Plan:=(.seq .go (.seq .go (.seq .go (.seq (.seq .go (.sub (.frag (fr85_0 k)))) (.seq (.seq .go (.sub (.frag (fr85_1 k)))) (.seq .go (.seq (.seq .go (.sub (.frag (fr85_2 k)))) .go)))))))
noncomputable def bo85 (k:Nat) (x:AT (sp85 k).ps):=fnT Try.prog (cfg85 k) lim85 Try.f85 (bodyOf Try.f85) (pl85 k) (sp85 k) x
theorem vv85 (k:Nat) (x:AT (sp85 k).ps):(sp85 k).impl x=(bo85 k x).eval∧(bo85 k x).left=(bo85 k x).right:=⟨by kernel_rfl,by kernel_rfl⟩
theorem v85 (k:Nat):Callable Try.prog 85∧Valid Try.prog 85 (sp85 k) :=
 fn_of (n:=lim85) (fn:=Try.f85) (p:=(pl85 k)) (cfg85_ok k) (by kernel_rfl) (plan_of (L:=[(fr85_0 k,co85_0),(fr85_1 k,co85_1),(fr85_2 k,co85_2)]) (by kernel_rfl) (.cons (fr85_0_ok k) (.cons (fr85_1_ok k) (.cons (fr85_2_ok k) .nil)))) (vv85 k)
def F69 (k:Nat) (a0:Int) (a1:Int):Option TY79 :=
 let x1:=(minI (wrap .i64 (a0+a1)) (1152921504606846976:Int))
 some ((x1,()),())
def sp69 (k:Nat):Spec:=⟨[.val (.int .i64),.val (.int .i64)],[.val (.int .i64)],fun x=>F69 k x.1 x.2.1⟩
def lim69:Lim:=⟨9,2,false,false,[],[]⟩
def cfg69 (k:Nat):Nat→Option Spec:=cfgL []
noncomputable def co69:Code:=codeAt (bodyOf Try.f69) []
theorem cfg69_ok (k:Nat):CfgOK Try.prog (cfg69 k):=cfgL_nil
noncomputable def bo69 (k:Nat) (x:AT (sp69 k).ps):=fnT Try.prog (cfg69 k) lim69 Try.f69 (bodyOf Try.f69) .go (sp69 k) x
theorem vv69 (k:Nat) (x:AT (sp69 k).ps):(sp69 k).impl x=(bo69 k x).eval∧(bo69 k x).left=(bo69 k x).right:=⟨by kernel_rfl,by kernel_rfl⟩
theorem v69 (k:Nat):Callable Try.prog 69∧Valid Try.prog 69 (sp69 k) :=
 fn_of (n:=lim69) (fn:=Try.f69) (p:=.go) (cfg69_ok k) (by kernel_rfl) (planOK_go _) (vv69 k)
def F86_0 (k:Nat):Nat→Int→TY62→(Int×TY80)→Option (((Int×Unit)×(TY62×(Int×TY80)×Unit)))
 |0,_,_,_=>none
 |n+1,t5,c0,c3 =>
  let x6:=(decide (t5<(length c0:Int)))
  bif x6 then
  if 0≤t5∧t5<(length c0:Int) then
  let x7:=(getD c0 (toNat t5) ((0:Int),((0:Int),((0:Int),())))).1
  bif (decide (x7<c3.1)) then
  (F86_0 k n (wrap .i64 (t5+(1:Int))) c0 c3).bind some
  else
  if 0≤t5∧t5<(length c0:Int) then
  let x8:=(getD c0 (toNat t5) ((0:Int),((0:Int),((0:Int),())))).1
  bif (x8==c3.1) then
  if 0≤t5∧t5<(length c0:Int) then
  let x9:=(getD c0 (toNat t5) ((0:Int),((0:Int),((0:Int),())))).2.1
  bif (decide (x9<c3.2.1)) then
  (F86_0 k n (wrap .i64 (t5+(1:Int))) c0 c3).bind some
  else
  some ((t5,()),(c0,c3,()))
  else none
  else
  some ((t5,()),(c0,c3,()))
  else none
  else none
  else
  some ((t5,()),(c0,c3,()))
def sq86_0:Shape:=⟨[],[(0,.at 0 []),(3,.ptr 3 []),(5,.val (.int .i64))],[(0,none,KD40),(3,some 67,KD47)]⟩
def fu86_0 (k m:Nat) (v:sq86_0.V):=F86_0 k m v.1.1 v.2.1 v.2.2.1
def fr86_0 (k:Nat):Frag:=⟨sq86_0,[(.exit 0,⟨[],[(0,.at 0 []),(3,.ptr 3 []),(5,.val (.int .i64))],[(0,none,KD40),(3,some 67,KD47)]⟩)],fu86_0 k k⟩
def F86 (k:Nat) (a0:TY62) (a1:(Int×TY80)):Option ((TY62×Unit)×Unit) :=
 let x1:=(decide (a1.2.2.1≥(1152921504606846976:Int)))
 bif x1 then
 some ((a0,()),())
 else
 (F86_0 k k (0:Int) a0 a1).bind fun r10 =>
 let y11:=r10.1.1
 let y12:=r10.2.1
 let y13:=r10.2.2.1
 let x14:=(decide (y11<(length y12:Int)))
 bif x14 then
 if 0≤y11∧y11<(length y12:Int) then
 let x15:=(getD y12 (toNat y11) ((0:Int),((0:Int),((0:Int),())))).1
 bif (x15==y13.1) then
 if 0≤y11∧y11<(length y12:Int) then
 let x16:=(getD y12 (toNat y11) ((0:Int),((0:Int),((0:Int),())))).2.1
 bif (x16==y13.2.1) then
 let x17:=(replicate 0 ((0:Int),((0:Int),((0:Int),()))))
 if (length x17+length y12)*(24*2)≤281474976710656∧length x17+length y12≤9223372036854775807 then
 if 0≤y11∧y11<(length (x17++y12):Int) then
 let x18:=(getD (x17++y12) (toNat y11) ((0:Int),((0:Int),((0:Int),())))).2.2.1
 if 0≤y11∧y11<(length (x17++y12):Int) then
 let x19:=(List.set (x17++y12) (toNat y11) ((getD (x17++y12) (toNat y11) ((0:Int),((0:Int),((0:Int),())))).1,((getD (x17++y12) (toNat y11) ((0:Int),((0:Int),((0:Int),())))).2.1,((minI x18 y13.2.2.1),(getD (x17++y12) (toNat y11) ((0:Int),((0:Int),((0:Int),())))).2.2.2))))
 some ((x19,()),())
 else none
 else none
 else none
 else
 if 0≤(0:Int)∧(0:Int)≤y11∧y11≤(length y12:Int) then
 let x20:=(toNat y11-toNat (0:Int))
 if 0≤y11∧y11≤(length y12:Int)∧(length y12:Int)≤(length y12:Int) then
 let x21:=(toNat (length y12:Int)-toNat y11)
 let x22:=(replicate 0 ((0:Int),((0:Int),((0:Int),()))))
 if (length x22+length (take x20 (drop (toNat (0:Int)) y12)))*(24*2)≤281474976710656∧length x22+length (take x20 (drop (toNat (0:Int)) y12))≤9223372036854775807 then
 let x23:=(x22++(take x20 (drop (toNat (0:Int)) y12)))
 let x24:=(List.set (replicate 1 ((0:Int),((0:Int),((0:Int),())))) 0 y13)
 if (length x23+length x24)*(24*2)≤281474976710656∧length x23+length x24≤9223372036854775807 then
 if (length (x23++x24)+length (take x21 (drop (toNat y11) y12)))*(24*2)≤281474976710656∧length (x23++x24)+length (take x21 (drop (toNat y11) y12))≤9223372036854775807 then
 let x25:=((x23++x24)++(take x21 (drop (toNat y11) y12)))
 some ((x25,()),())
 else none
 else none
 else none
 else none
 else none
 else none
 else
 if 0≤(0:Int)∧(0:Int)≤y11∧y11≤(length y12:Int) then
 let x26:=(toNat y11-toNat (0:Int))
 if 0≤y11∧y11≤(length y12:Int)∧(length y12:Int)≤(length y12:Int) then
 let x27:=(toNat (length y12:Int)-toNat y11)
 let x28:=(replicate 0 ((0:Int),((0:Int),((0:Int),()))))
 if (length x28+length (take x26 (drop (toNat (0:Int)) y12)))*(24*2)≤281474976710656∧length x28+length (take x26 (drop (toNat (0:Int)) y12))≤9223372036854775807 then
 let x29:=(x28++(take x26 (drop (toNat (0:Int)) y12)))
 let x30:=(List.set (replicate 1 ((0:Int),((0:Int),((0:Int),())))) 0 y13)
 if (length x29+length x30)*(24*2)≤281474976710656∧length x29+length x30≤9223372036854775807 then
 if (length (x29++x30)+length (take x27 (drop (toNat y11) y12)))*(24*2)≤281474976710656∧length (x29++x30)+length (take x27 (drop (toNat y11) y12))≤9223372036854775807 then
 let x31:=((x29++x30)++(take x27 (drop (toNat y11) y12)))
 some ((x31,()),())
 else none
 else none
 else none
 else none
 else none
 else none
 else
 if 0≤(0:Int)∧(0:Int)≤y11∧y11≤(length y12:Int) then
 let x32:=(toNat y11-toNat (0:Int))
 if 0≤y11∧y11≤(length y12:Int)∧(length y12:Int)≤(length y12:Int) then
 let x33:=(toNat (length y12:Int)-toNat y11)
 let x34:=(replicate 0 ((0:Int),((0:Int),((0:Int),()))))
 if (length x34+length (take x32 (drop (toNat (0:Int)) y12)))*(24*2)≤281474976710656∧length x34+length (take x32 (drop (toNat (0:Int)) y12))≤9223372036854775807 then
 let x35:=(x34++(take x32 (drop (toNat (0:Int)) y12)))
 let x36:=(List.set (replicate 1 ((0:Int),((0:Int),((0:Int),())))) 0 y13)
 if (length x35+length x36)*(24*2)≤281474976710656∧length x35+length x36≤9223372036854775807 then
 if (length (x35++x36)+length (take x33 (drop (toNat y11) y12)))*(24*2)≤281474976710656∧length (x35++x36)+length (take x33 (drop (toNat y11) y12))≤9223372036854775807 then
 let x37:=((x35++x36)++(take x33 (drop (toNat y11) y12)))
 some ((x37,()),())
 else none
 else none
 else none
 else none
 else none
def sp86 (k:Nat):Spec:=⟨[.own KD40,.val KD47],[.own KD40],fun x=>F86 k x.1 x.2.1⟩
def lim86:Lim:=⟨99,2,false,false,[],[]⟩
def cfg86 (k:Nat):Nat→Option Spec:=cfgL []
noncomputable def co86_0:Code:=codeAt (bodyOf Try.f86) [.r,.r,.r,.l,.s]
noncomputable def cb86_0:Code:=codeAt (bodyOf Try.f86) [.r,.r,.r,.l,.s,.b]
noncomputable def co86:Code:=codeAt (bodyOf Try.f86) []
theorem cfg86_ok (k:Nat):CfgOK Try.prog (cfg86 k):=cfgL_nil
noncomputable def bo86_0 (k m:Nat) (v:sq86_0.V):=body Try.prog (stepper Try.prog (cfg86 k) lim86) .go cb86_0 (sq86_0.st v) (loopK (fr86_0 k) (fu86_0 k m))
theorem pp86_0 (k m:Nat) (v:sq86_0.V):fu86_0 k (m+1) v=(bo86_0 k m v).eval∧(bo86_0 k m v).left=(bo86_0 k m v).right:=⟨by kernel_rfl,by kernel_rfl⟩
theorem fr86_0_ok (k:Nat):FragOK Try.prog lim86 (fr86_0 k) co86_0 :=
 frag_cast (by kernel_rfl) (loop_ok (cfg86_ok k) (planOK_go _) (fu86_0 k) k (fun _=>rfl) (fun _=>rfl) (pp86_0 k))
def pl86 (k:Nat):Plan:=(.seq .go (.seq .go (.seq .go (.seq (.sub (.frag (fr86_0 k))) .go))))
noncomputable def bo86 (k:Nat) (x:AT (sp86 k).ps):=fnT Try.prog (cfg86 k) lim86 Try.f86 (bodyOf Try.f86) (pl86 k) (sp86 k) x
theorem vv86 (k:Nat) (x:AT (sp86 k).ps):(sp86 k).impl x=(bo86 k x).eval∧(bo86 k x).left=(bo86 k x).right:=⟨by kernel_rfl,by kernel_rfl⟩
theorem v86 (k:Nat):Callable Try.prog 86∧Valid Try.prog 86 (sp86 k) :=
 fn_of (n:=lim86) (fn:=Try.f86) (p:=(pl86 k)) (cfg86_ok k) (by kernel_rfl) (plan_of (L:=[(fr86_0 k,co86_0)]) (by kernel_rfl) (.cons (fr86_0_ok k) .nil)) (vv86 k)
def F81_0 (k:Nat):Nat→Int→Int→Int→TY33→TY33→TY33→TY33→Option (((Int×Int×Unit)×(TY33×TY33×TY33×TY33×Unit)))
 |0,_,_,_,_,_,_,_=>none
 |n+1,t5,t7,t8,c2,c3,c4,c6 =>
  let x10:=(decide (t8<(length c3.1:Int)))
  bif x10 then
  if 0≤t7∧t7<(length c2.2.2.1:Int) then
  let x11:=(getD c2.2.2.1 (toNat t7) (0:Int))
  if 0≤t8∧t8<(length c3.2.1:Int) then
  (F69 k x11 (getD c3.2.1 (toNat t8) (0:Int))).bind fun r12 =>
  (F86 k c6.2.2.2.1 (t7,((wrap .i64 (t5+t8)),(r12.1.1,())))).bind fun r13 =>
  (F81_0 k n t5 t7 (wrap .i64 (t8+(1:Int))) c2 c3 c4 (c6.1,(c6.2.1,(c6.2.2.1,(r13.1.1,c6.2.2.2.2))))).bind some
  else none
  else none
  else
  some ((t5,t7,()),(c2,c3,c4,c6,()))
def sq81_0:Shape:=⟨[],[(2,.ptr 2 []),(3,.ptr 3 []),(4,.ptr 4 []),(5,.val (.int .i64)),(6,.ptr 6 []),(7,.val (.int .i64)),(8,.val (.int .i64))],[(2,some 65,KD15),(3,some 65,KD15),(4,some 65,KD16),(6,some 65,KD16)]⟩
def fu81_0 (k m:Nat) (v:sq81_0.V):=F81_0 k m v.1.1 v.1.2.1 v.1.2.2.1 v.2.1 v.2.2.1 v.2.2.2.1 v.2.2.2.2.1
def fr81_0 (k:Nat):Frag:=⟨sq81_0,[(.exit 2,⟨[],[(2,.ptr 2 []),(3,.ptr 3 []),(4,.ptr 4 []),(5,.val (.int .i64)),(6,.ptr 6 []),(7,.val (.int .i64))],[(2,some 65,KD15),(3,some 65,KD15),(4,some 65,KD16),(6,some 65,KD16)]⟩)],fu81_0 k k⟩
def F81_1 (k:Nat):Nat→Int→Int→TY33→TY33→TY33→TY33→Option TY8
 |0,_,_,_,_,_,_=>none
 |n+1,t5,t7,c2,c3,c4,c6 =>
  bif (decide (t7<t5)) then
  if 0≤t7∧t7<(length c2.2.1:Int) then
  if 0≤t7∧t7<(length c2.2.2.1:Int) then
  let x21:=(getD c2.2.2.1 (toNat t7) (0:Int))
  (F69 k x21 c3.2.2.2.2.1).bind fun r22 =>
  if 0≤t7∧t7<(length c6.2.1:Int) then
  let x23:=(List.set c6.2.1 (toNat t7) (getD c2.2.1 (toNat t7) (0:Int)))
  if 0≤t7∧t7<(length c6.2.2.1:Int) then
  (F81_0 k k t5 t7 (0:Int) c2 c3 c4 (c6.1,(x23,((List.set c6.2.2.1 (toNat t7) r22.1.1),c6.2.2.2)))).bind fun r24 =>
  (F81_1 k n r24.1.1 (wrap .i64 (r24.1.2.1+(1:Int))) r24.2.1 r24.2.2.1 r24.2.2.2.1 r24.2.2.2.2.1).bind some
  else none
  else none
  else none
  else none
  else
  some ((t5,()),(c2,c3,c4,c6,()))
def sq81_1:Shape:=⟨[],[(2,.ptr 2 []),(3,.ptr 3 []),(4,.ptr 4 []),(5,.val (.int .i64)),(6,.ptr 6 []),(7,.val (.int .i64))],[(2,some 65,KD15),(3,some 65,KD15),(4,some 65,KD16),(6,some 65,KD16)]⟩
def fu81_1 (k m:Nat) (v:sq81_1.V):=F81_1 k m v.1.1 v.1.2.1 v.2.1 v.2.2.1 v.2.2.2.1 v.2.2.2.2.1
def fr81_1 (k:Nat):Frag:=⟨sq81_1,[(.exit 0,⟨[],[(2,.ptr 2 []),(3,.ptr 3 []),(4,.ptr 4 []),(5,.val (.int .i64)),(6,.ptr 6 [])],[(2,some 65,KD15),(3,some 65,KD15),(4,some 65,KD16),(6,some 65,KD16)]⟩)],fu81_1 k k⟩
def F81_2 (k:Nat):Nat→Int→Int→TY33→TY33→TY33→TY33→Option TY17
 |0,_,_,_,_,_,_=>none
 |n+1,t5,t9,c2,c3,c4,c6 =>
  let x42:=(decide (t9<(length c3.1:Int)))
  bif x42 then
  if 0≤t9∧t9<(length c3.2.1:Int) then
  if 0≤t9∧t9<(length c3.2.2.1:Int) then
  let x43:=(getD c3.2.2.1 (toNat t9) (0:Int))
  (F69 k c2.2.2.2.2.1 (getD c3.2.1 (toNat t9) (0:Int))).bind fun r44 =>
  if 0≤(wrap .i64 (t5+t9))∧(wrap .i64 (t5+t9))<(length c6.2.1:Int) then
  let x45:=(toNat (wrap .i64 (t5+t9)))
  if 0≤(wrap .i64 (t5+t9))∧(wrap .i64 (t5+t9))<(length c6.2.2.1:Int) then
  let x46:=(toNat (wrap .i64 (t5+t9)))
  (F81_2 k n t5 (wrap .i64 (t9+(1:Int))) c2 c3 c4 (c6.1,((List.set c6.2.1 x45 r44.1.1),((List.set c6.2.2.1 x46 x43),c6.2.2.2)))).bind some
  else none
  else none
  else none
  else none
  else
  some ((),(c4,c6,()))
def sq81_2:Shape:=⟨[],[(2,.ptr 2 []),(3,.ptr 3 []),(4,.ptr 4 []),(5,.val (.int .i64)),(6,.ptr 6 []),(9,.val (.int .i64))],[(2,some 65,KD15),(3,some 65,KD15),(4,some 65,KD16),(6,some 65,KD16)]⟩
def fu81_2 (k m:Nat) (v:sq81_2.V):=F81_2 k m v.1.1 v.1.2.1 v.2.1 v.2.2.1 v.2.2.2.1 v.2.2.2.2.1
def fr81_2 (k:Nat):Frag:=⟨sq81_2,[(.exit 4,⟨[],[(4,.ptr 4 []),(6,.ptr 6 [])],[(4,some 65,KD16),(6,some 65,KD16)]⟩)],fu81_2 k k⟩
def F81 (k:Nat) (a0:TY33) (a1:TY33):Option TY27 :=
 (F85 k a0 a1).bind fun r1 =>
 (F69 k a0.2.2.2.2.1 a1.2.2.2.2.1).bind fun r2 =>
 (F81_1 k k (length a0.1:Int) (0:Int) a0 a1 (([]:(List Int)),(([]:(List Int)),(([]:(List Int)),(([]:TY62),((0:Int),()))))) (r1.1.1.1,(r1.1.1.2.1,(r1.1.1.2.2.1,(r1.1.1.2.2.2.1,(r2.1.1,r1.1.1.2.2.2.2.2)))))).bind fun r31 =>
 (F81_2 k k r31.1.1 (0:Int) r31.2.1 r31.2.2.1 r31.2.2.2.1 r31.2.2.2.2.1).bind fun r47 =>
 some ((r47.2.2.1,()),())
def sp81 (k:Nat):Spec:=⟨[.val KD15,.val KD15],[.own KD16],fun x=>F81 k x.1 x.2.1⟩
def lim81:Lim:=⟨108,2,false,false,[],[]⟩
def cfg81 (k:Nat):Nat→Option Spec:=cfgL [(69,sp69 k),(85,sp85 k),(86,sp86 k)]
noncomputable def co81_0:Code:=codeAt (bodyOf Try.f81) [.r,.r,.r,.r,.l,.r,.s,.b,.r,.l,.s,.r,.r,.s]
noncomputable def cb81_0:Code:=codeAt (bodyOf Try.f81) [.r,.r,.r,.r,.l,.r,.s,.b,.r,.l,.s,.r,.r,.s,.b]
noncomputable def co81_1:Code:=codeAt (bodyOf Try.f81) [.r,.r,.r,.r,.l,.r,.s]
noncomputable def cb81_1:Code:=codeAt (bodyOf Try.f81) [.r,.r,.r,.r,.l,.r,.s,.b]
noncomputable def co81_2:Code:=codeAt (bodyOf Try.f81) [.r,.r,.r,.r,.r,.l,.r,.s]
noncomputable def cb81_2:Code:=codeAt (bodyOf Try.f81) [.r,.r,.r,.r,.r,.l,.r,.s,.b]
noncomputable def co81:Code:=codeAt (bodyOf Try.f81) []
theorem cfg81_ok (k:Nat):CfgOK Try.prog (cfg81 k):=cfgL_cons (v69 k) (cfgL_cons (v85 k) (cfgL_cons (v86 k) (cfgL_nil)))
noncomputable def bo81_0 (k m:Nat) (v:sq81_0.V):=body Try.prog (stepper Try.prog (cfg81 k) lim81) .go cb81_0 (sq81_0.st v) (loopK (fr81_0 k) (fu81_0 k m))
theorem pp81_0 (k m:Nat) (v:sq81_0.V):fu81_0 k (m+1) v=(bo81_0 k m v).eval∧(bo81_0 k m v).left=(bo81_0 k m v).right:=⟨by kernel_rfl,by kernel_rfl⟩
theorem fr81_0_ok (k:Nat):FragOK Try.prog lim81 (fr81_0 k) co81_0 :=
 frag_cast (by kernel_rfl) (loop_ok (cfg81_ok k) (planOK_go _) (fu81_0 k) k (fun _=>rfl) (fun _=>rfl) (pp81_0 k))
def pl81_1 (k:Nat):Plan:=(.seq .go (.seq (.sub (.seq .go (.seq .go (.sub (.frag (fr81_0 k)))))) .go))
noncomputable def bo81_1 (k m:Nat) (v:sq81_1.V):=body Try.prog (stepper Try.prog (cfg81 k) lim81) (pl81_1 k) cb81_1 (sq81_1.st v) (loopK (fr81_1 k) (fu81_1 k m))
theorem pp81_1 (k m:Nat) (v:sq81_1.V):fu81_1 k (m+1) v=(bo81_1 k m v).eval∧(bo81_1 k m v).left=(bo81_1 k m v).right:=⟨by kernel_rfl,by kernel_rfl⟩
theorem fr81_1_ok (k:Nat):FragOK Try.prog lim81 (fr81_1 k) co81_1 :=
 frag_cast (by kernel_rfl) (loop_ok (cfg81_ok k) (plan_of (L:=[(fr81_0 k,co81_0)]) (by kernel_rfl) (.cons (fr81_0_ok k) .nil)) (fu81_1 k) k (fun _=>rfl) (fun _=>rfl) (pp81_1 k))
noncomputable def bo81_2 (k m:Nat) (v:sq81_2.V):=body Try.prog (stepper Try.prog (cfg81 k) lim81) .go cb81_2 (sq81_2.st v) (loopK (fr81_2 k) (fu81_2 k m))
theorem pp81_2 (k m:Nat) (v:sq81_2.V):fu81_2 k (m+1) v=(bo81_2 k m v).eval∧(bo81_2 k m v).left=(bo81_2 k m v).right:=⟨by kernel_rfl,by kernel_rfl⟩
theorem fr81_2_ok (k:Nat):FragOK Try.prog lim81 (fr81_2 k) co81_2 :=
 frag_cast (by kernel_rfl) (loop_ok (cfg81_ok k) (planOK_go _) (fu81_2 k) k (fun _=>rfl) (fun _=>rfl) (pp81_2 k))
def pl81 (k:Nat):Plan:=(.seq .go (.seq .go (.seq .go (.seq .go (.seq (.seq .go (.sub (.frag (fr81_1 k)))) (.seq (.seq .go (.sub (.frag (fr81_2 k)))) .go))))))
noncomputable def bo81 (k:Nat) (x:AT (sp81 k).ps):=fnT Try.prog (cfg81 k) lim81 Try.f81 (bodyOf Try.f81) (pl81 k) (sp81 k) x
theorem vv81 (k:Nat) (x:AT (sp81 k).ps):(sp81 k).impl x=(bo81 k x).eval∧(bo81 k x).left=(bo81 k x).right:=⟨by kernel_rfl,by kernel_rfl⟩
theorem v81 (k:Nat):Callable Try.prog 81∧Valid Try.prog 81 (sp81 k) :=
 fn_of (n:=lim81) (fn:=Try.f81) (p:=(pl81 k)) (cfg81_ok k) (by kernel_rfl) (plan_of (L:=[(fr81_1 k,co81_1),(fr81_2 k,co81_2)]) (by kernel_rfl) (.cons (fr81_1_ok k) (.cons (fr81_2_ok k) .nil))) (vv81 k)
def F82_0 (k:Nat):Nat→Int→Int→TY33→TY33→TY33→TY33→Option (((Int×Unit)×(TY33×TY33×TY33×Unit)))
 |0,_,_,_,_,_,_=>none
 |n+1,t5,t7,c2,c3,c4,c6 =>
  bif (decide (t7<t5)) then
  if 0≤t7∧t7<(length c2.2.1:Int) then
  if 0≤t7∧t7<(length c2.2.2.1:Int) then
  let x4:=(getD c2.2.2.1 (toNat t7) (0:Int))
  if 0≤t7∧t7<(length c6.2.1:Int) then
  let x5:=(List.set c6.2.1 (toNat t7) (getD c2.2.1 (toNat t7) (0:Int)))
  if 0≤t7∧t7<(length c6.2.2.1:Int) then
  (F82_0 k n t5 (wrap .i64 (t7+(1:Int))) c2 c3 c4 (c6.1,(x5,((List.set c6.2.2.1 (toNat t7) x4),c6.2.2.2)))).bind some
  else none
  else none
  else none
  else none
  else
  some ((t5,()),(c3,c4,c6,()))
def sq82_0:Shape:=⟨[],[(2,.ptr 2 []),(3,.ptr 3 []),(4,.ptr 4 []),(5,.val (.int .i64)),(6,.ptr 6 []),(7,.val (.int .i64))],[(2,some 65,KD15),(3,some 65,KD15),(4,some 65,KD16),(6,some 65,KD16)]⟩
def fu82_0 (k m:Nat) (v:sq82_0.V):=F82_0 k m v.1.1 v.1.2.1 v.2.1 v.2.2.1 v.2.2.2.1 v.2.2.2.2.1
def fr82_0 (k:Nat):Frag:=⟨sq82_0,[(.exit 0,⟨[],[(3,.ptr 3 []),(4,.ptr 4 []),(5,.val (.int .i64)),(6,.ptr 6 [])],[(3,some 65,KD15),(4,some 65,KD16),(6,some 65,KD16)]⟩)],fu82_0 k k⟩
def F82_1 (k:Nat):Nat→Int→Int→TY33→TY33→TY33→Option TY17
 |0,_,_,_,_,_=>none
 |n+1,t5,t8,c3,c4,c6 =>
  let x16:=(decide (t8<(length c3.1:Int)))
  bif x16 then
  if 0≤t8∧t8<(length c3.2.1:Int) then
  if 0≤t8∧t8<(length c3.2.2.1:Int) then
  let x17:=(getD c3.2.2.1 (toNat t8) (0:Int))
  if 0≤(wrap .i64 (t5+t8))∧(wrap .i64 (t5+t8))<(length c6.2.1:Int) then
  let x18:=(toNat (wrap .i64 (t5+t8)))
  let x19:=(List.set c6.2.1 x18 (getD c3.2.1 (toNat t8) (0:Int)))
  if 0≤(wrap .i64 (t5+t8))∧(wrap .i64 (t5+t8))<(length c6.2.2.1:Int) then
  let x20:=(toNat (wrap .i64 (t5+t8)))
  (F82_1 k n t5 (wrap .i64 (t8+(1:Int))) c3 c4 (c6.1,(x19,((List.set c6.2.2.1 x20 x17),c6.2.2.2)))).bind some
  else none
  else none
  else none
  else none
  else
  some ((),(c4,c6,()))
def sq82_1:Shape:=⟨[],[(3,.ptr 3 []),(4,.ptr 4 []),(5,.val (.int .i64)),(6,.ptr 6 []),(8,.val (.int .i64))],[(3,some 65,KD15),(4,some 65,KD16),(6,some 65,KD16)]⟩
def fu82_1 (k m:Nat) (v:sq82_1.V):=F82_1 k m v.1.1 v.1.2.1 v.2.1 v.2.2.1 v.2.2.2.1
def fr82_1 (k:Nat):Frag:=⟨sq82_1,[(.exit 2,⟨[],[(4,.ptr 4 []),(6,.ptr 6 [])],[(4,some 65,KD16),(6,some 65,KD16)]⟩)],fu82_1 k k⟩
def F82 (k:Nat) (a0:TY33) (a1:TY33):Option TY27 :=
 (F85 k a0 a1).bind fun r1 =>
 (F82_0 k k (length a0.1:Int) (0:Int) a0 a1 (([]:(List Int)),(([]:(List Int)),(([]:(List Int)),(([]:TY62),((0:Int),()))))) (r1.1.1.1,(r1.1.1.2.1,(r1.1.1.2.2.1,(r1.1.1.2.2.2.1,((minI a0.2.2.2.2.1 a1.2.2.2.2.1),r1.1.1.2.2.2.2.2)))))).bind fun r6 =>
 (F82_1 k k r6.1.1 (0:Int) r6.2.1 r6.2.2.1 r6.2.2.2.1).bind fun r21 =>
 some ((r21.2.2.1,()),())
def sp82 (k:Nat):Spec:=⟨[.val KD15,.val KD15],[.own KD16],fun x=>F82 k x.1 x.2.1⟩
def lim82:Lim:=⟨74,2,false,false,[],[]⟩
def cfg82 (k:Nat):Nat→Option Spec:=cfgL [(85,sp85 k)]
noncomputable def co82_0:Code:=codeAt (bodyOf Try.f82) [.r,.r,.r,.r,.l,.r,.s]
noncomputable def cb82_0:Code:=codeAt (bodyOf Try.f82) [.r,.r,.r,.r,.l,.r,.s,.b]
noncomputable def co82_1:Code:=codeAt (bodyOf Try.f82) [.r,.r,.r,.r,.r,.l,.r,.s]
noncomputable def cb82_1:Code:=codeAt (bodyOf Try.f82) [.r,.r,.r,.r,.r,.l,.r,.s,.b]
noncomputable def co82:Code:=codeAt (bodyOf Try.f82) []
theorem cfg82_ok (k:Nat):CfgOK Try.prog (cfg82 k):=cfgL_cons (v85 k) (cfgL_nil)
noncomputable def bo82_0 (k m:Nat) (v:sq82_0.V):=body Try.prog (stepper Try.prog (cfg82 k) lim82) .go cb82_0 (sq82_0.st v) (loopK (fr82_0 k) (fu82_0 k m))
theorem pp82_0 (k m:Nat) (v:sq82_0.V):fu82_0 k (m+1) v=(bo82_0 k m v).eval∧(bo82_0 k m v).left=(bo82_0 k m v).right:=⟨by kernel_rfl,by kernel_rfl⟩
theorem fr82_0_ok (k:Nat):FragOK Try.prog lim82 (fr82_0 k) co82_0 :=
 frag_cast (by kernel_rfl) (loop_ok (cfg82_ok k) (planOK_go _) (fu82_0 k) k (fun _=>rfl) (fun _=>rfl) (pp82_0 k))
noncomputable def bo82_1 (k m:Nat) (v:sq82_1.V):=body Try.prog (stepper Try.prog (cfg82 k) lim82) .go cb82_1 (sq82_1.st v) (loopK (fr82_1 k) (fu82_1 k m))
theorem pp82_1 (k m:Nat) (v:sq82_1.V):fu82_1 k (m+1) v=(bo82_1 k m v).eval∧(bo82_1 k m v).left=(bo82_1 k m v).right:=⟨by kernel_rfl,by kernel_rfl⟩
theorem fr82_1_ok (k:Nat):FragOK Try.prog lim82 (fr82_1 k) co82_1 :=
 frag_cast (by kernel_rfl) (loop_ok (cfg82_ok k) (planOK_go _) (fu82_1 k) k (fun _=>rfl) (fun _=>rfl) (pp82_1 k))
def pl82 (k:Nat):Plan:=(.seq .go (.seq .go (.seq .go (.seq .go (.seq (.seq .go (.sub (.frag (fr82_0 k)))) (.seq (.seq .go (.sub (.frag (fr82_1 k)))) .go))))))
noncomputable def bo82 (k:Nat) (x:AT (sp82 k).ps):=fnT Try.prog (cfg82 k) lim82 Try.f82 (bodyOf Try.f82) (pl82 k) (sp82 k) x
theorem vv82 (k:Nat) (x:AT (sp82 k).ps):(sp82 k).impl x=(bo82 k x).eval∧(bo82 k x).left=(bo82 k x).right:=⟨by kernel_rfl,by kernel_rfl⟩
theorem v82 (k:Nat):Callable Try.prog 82∧Valid Try.prog 82 (sp82 k) :=
 fn_of (n:=lim82) (fn:=Try.f82) (p:=(pl82 k)) (cfg82_ok k) (by kernel_rfl) (plan_of (L:=[(fr82_0 k,co82_0),(fr82_1 k,co82_1)]) (by kernel_rfl) (.cons (fr82_0_ok k) (.cons (fr82_1_ok k) .nil))) (vv82 k)
def F83_0 (k:Nat):Nat→Int→Int→TY33→TY33→TY62→Option (((Int×Unit)×TY14))
 |0,_,_,_,_,_=>none
 |n+1,t4,t5,c1,c2,e0 =>
  let x3:=(decide (t5<(length c1.1:Int)))
  bif x3 then
  if 0≤t4∧t4<(length c1.2.2.1:Int) then
  let x4:=(getD c1.2.2.1 (toNat t4) (0:Int))
  if 0≤t5∧t5<(length c1.2.1:Int) then
  (F69 k x4 (getD c1.2.1 (toNat t5) (0:Int))).bind fun r5 =>
  (F86 k e0 (t4,(t5,(r5.1.1,())))).bind fun r6 =>
  (F83_0 k n t4 (wrap .i64 (t5+(1:Int))) c1 c2 r6.1.1).bind some
  else none
  else none
  else
  some ((t4,()),(c1,c2,e0,()))
def sq83_0:Shape:=⟨[(3,KD40)],[(1,.ptr 1 []),(2,.ptr 2 []),(3,.at 2000003 []),(4,.val (.int .i64)),(5,.val (.int .i64))],[(1,some 65,KD16),(2,some 65,KD16),(2000003,none,KD40)]⟩
def fu83_0 (k m:Nat) (v:sq83_0.V):=F83_0 k m v.1.1 v.1.2.1 v.2.1 v.2.2.1 v.2.2.2.1
def fr83_0 (k:Nat):Frag:=⟨sq83_0,[(.exit 2,⟨[(3,KD40)],[(1,.ptr 1 []),(2,.ptr 2 []),(3,.at 2000003 []),(4,.val (.int .i64))],[(1,some 65,KD16),(2,some 65,KD16),(2000003,none,KD40)]⟩)],fu83_0 k k⟩
def F83_1 (k:Nat):Nat→Int→TY33→TY33→TY62→Option ((Unit×TY14))
 |0,_,_,_,_=>none
 |n+1,t4,c1,c2,e0 =>
  let x2:=(decide (t4<(length c1.1:Int)))
  bif x2 then
  (F83_0 k k t4 (0:Int) c1 c2 e0).bind fun r7 =>
  (F83_1 k n (wrap .i64 (r7.1.1+(1:Int))) r7.2.1 r7.2.2.1 r7.2.2.2.1).bind some
  else
  some ((),(c1,c2,e0,()))
def sq83_1:Shape:=⟨[(3,KD40)],[(1,.ptr 1 []),(2,.ptr 2 []),(3,.at 2000003 []),(4,.val (.int .i64))],[(1,some 65,KD16),(2,some 65,KD16),(2000003,none,KD40)]⟩
def fu83_1 (k m:Nat) (v:sq83_1.V):=F83_1 k m v.1.1 v.2.1 v.2.2.1 v.2.2.2.1
def fr83_1 (k:Nat):Frag:=⟨sq83_1,[(.exit 0,⟨[(3,KD40)],[(1,.ptr 1 []),(2,.ptr 2 []),(3,.at 2000003 [])],[(1,some 65,KD16),(2,some 65,KD16),(2000003,none,KD40)]⟩)],fu83_1 k k⟩
def F83 (k:Nat) (a0:TY33):Option TY27 :=
 let x1:=(replicate 0 ((0:Int),((0:Int),((0:Int),()))))
 if (length x1+length a0.2.2.2.1)*(24*2)≤281474976710656∧length x1+length a0.2.2.2.1≤9223372036854775807 then
 (F83_1 k k (0:Int) (a0.1,(a0.2.1,(a0.2.2.1,(a0.2.2.2.1,((0:Int),a0.2.2.2.2.2))))) (([]:(List Int)),(([]:(List Int)),(([]:(List Int)),(([]:TY62),((0:Int),()))))) (x1++a0.2.2.2.1)).bind fun r12 =>
 some (((r12.2.1.1,(r12.2.1.2.1,(r12.2.1.2.2.1,(r12.2.2.2.1,r12.2.1.2.2.2.2)))),()),())
 else none
def sp83 (k:Nat):Spec:=⟨[.own KD16],[.own KD16],fun x=>F83 k x.1⟩
def lim83:Lim:=⟨44,1,false,false,[],[]⟩
def cfg83 (k:Nat):Nat→Option Spec:=cfgL [(69,sp69 k),(86,sp86 k)]
noncomputable def co83_0:Code:=codeAt (bodyOf Try.f83) [.r,.r,.r,.l,.r,.s,.b,.r,.l,.s,.r,.s]
noncomputable def cb83_0:Code:=codeAt (bodyOf Try.f83) [.r,.r,.r,.l,.r,.s,.b,.r,.l,.s,.r,.s,.b]
noncomputable def co83_1:Code:=codeAt (bodyOf Try.f83) [.r,.r,.r,.l,.r,.s]
noncomputable def cb83_1:Code:=codeAt (bodyOf Try.f83) [.r,.r,.r,.l,.r,.s,.b]
noncomputable def co83:Code:=codeAt (bodyOf Try.f83) []
theorem cfg83_ok (k:Nat):CfgOK Try.prog (cfg83 k):=cfgL_cons (v69 k) (cfgL_cons (v86 k) (cfgL_nil))
noncomputable def bo83_0 (k m:Nat) (v:sq83_0.V):=body Try.prog (stepper Try.prog (cfg83 k) lim83) .go cb83_0 (sq83_0.st v) (loopK (fr83_0 k) (fu83_0 k m))
theorem pp83_0 (k m:Nat) (v:sq83_0.V):fu83_0 k (m+1) v=(bo83_0 k m v).eval∧(bo83_0 k m v).left=(bo83_0 k m v).right:=⟨by kernel_rfl,by kernel_rfl⟩
theorem fr83_0_ok (k:Nat):FragOK Try.prog lim83 (fr83_0 k) co83_0 :=
 frag_cast (by kernel_rfl) (loop_ok (cfg83_ok k) (planOK_go _) (fu83_0 k) k (fun _=>rfl) (fun _=>rfl) (pp83_0 k))
def pl83_1 (k:Nat):Plan:=(.seq .go (.seq (.sub (.seq .go (.sub (.frag (fr83_0 k))))) .go))
noncomputable def bo83_1 (k m:Nat) (v:sq83_1.V):=body Try.prog (stepper Try.prog (cfg83 k) lim83) (pl83_1 k) cb83_1 (sq83_1.st v) (loopK (fr83_1 k) (fu83_1 k m))
theorem pp83_1 (k m:Nat) (v:sq83_1.V):fu83_1 k (m+1) v=(bo83_1 k m v).eval∧(bo83_1 k m v).left=(bo83_1 k m v).right:=⟨by kernel_rfl,by kernel_rfl⟩
theorem fr83_1_ok (k:Nat):FragOK Try.prog lim83 (fr83_1 k) co83_1 :=
 frag_cast (by kernel_rfl) (loop_ok (cfg83_ok k) (plan_of (L:=[(fr83_0 k,co83_0)]) (by kernel_rfl) (.cons (fr83_0_ok k) .nil)) (fu83_1 k) k (fun _=>rfl) (fun _=>rfl) (pp83_1 k))
def pl83 (k:Nat):Plan:=(.seq .go (.seq .go (.seq .go (.seq (.seq .go (.sub (.frag (fr83_1 k)))) .go))))
noncomputable def bo83 (k:Nat) (x:AT (sp83 k).ps):=fnT Try.prog (cfg83 k) lim83 Try.f83 (bodyOf Try.f83) (pl83 k) (sp83 k) x
theorem vv83 (k:Nat) (x:AT (sp83 k).ps):(sp83 k).impl x=(bo83 k x).eval∧(bo83 k x).left=(bo83 k x).right:=⟨by kernel_rfl,by kernel_rfl⟩
theorem v83 (k:Nat):Callable Try.prog 83∧Valid Try.prog 83 (sp83 k) :=
 fn_of (n:=lim83) (fn:=Try.f83) (p:=(pl83 k)) (cfg83_ok k) (by kernel_rfl) (plan_of (L:=[(fr83_1 k,co83_1)]) (by kernel_rfl) (.cons (fr83_1_ok k) .nil)) (vv83 k)
end Go.Proofs.YtibammoednhnoaaE

