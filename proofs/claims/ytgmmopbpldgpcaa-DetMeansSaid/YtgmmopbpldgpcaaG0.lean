/- Functions of the program, as Lean functions, with their contracts; printed by gen.py. Conditions: none. -/
import Derived.Test.YtgmmopbpldgpcaaE36
import Derived.Test.YtgmmopbpldgpcaaProg
set_option linter.unusedVariables false
namespace Go.Proofs.YtgmmopbpldgpcaaE
open Kd
open List (length getD replicate take drop)
open Int (toNat)
open IntKind (wrap)
set_option maxRecDepth 20000
abbrev oT:Type:=Int×(Int×Unit)
abbrev bG:Type:=(Int×Unit)×Unit
abbrev fa:Type:=(Bool×Unit)×Unit
abbrev b5:Kd:=.sl true 4 .bool none
abbrev EO:Type:=bG
abbrev uM:Kd:=.sl false 4 .bool none
abbrev bT:Type:=List oT
abbrev bX:Type:=ae oT
abbrev EP:Type:=(List (List Bool))×Unit
abbrev oU:Kd:=.sl true 5 (.int .u8) none
abbrev kn:Type:=((List Int)×Unit)×Unit
abbrev aP:Kd:=.sl true 3 (.int .i64) none
abbrev oV:Type:=(Unit×((List Int)×Unit))
abbrev aZ:Kd:=.sl false 3 (.int .i64) none
abbrev Lr:Type:=(List Int)×(List Int)×Unit
abbrev AY:Type:=Option (List (ByteArray×Int))
abbrev aT:Type:=List bT
abbrev du:Type:=List bX
abbrev bC:Type:=((List (List Int))×Unit)×Unit
abbrev cA:Type:=List (Int×oT)
abbrev EQ:Type:=bT×Unit
abbrev mN:Type:=(Unit×((List (List Int))×Unit))
abbrev dK:Type:=(List (List Int))×((List Int)×Unit)
abbrev bp:Kd:=.sl true 71 b5 none
abbrev bJ:Kd:=.sl false 71 uM none
abbrev AZ:Type:=EQ×Unit
abbrev bj:Kd:=.sl true 23 aP none
abbrev dM:Type:=ae (Int×(Int×(Int×(ByteArray×Unit))))
abbrev dE:Kd:=.sl false 23 aZ none
abbrev oW:Kd:=.tl 77 (.pair (.int .i64) (.pair (.int .i64) .unit))
abbrev fW:Type:=(List (List Int))×((List (List (List Int)))×Unit)
abbrev Ls:Kd:=.tree 77 (.pair (.int .i64) (.pair (.int .i64) .unit))
abbrev aV:Type:=ae (Int×(Int×(Int×(Int×(ByteArray×Unit)))))
abbrev lC:Kd:=.sl true 94 bp none
abbrev dP:Kd:=.sl true 160 (.pair (.int .i64) (.pair (.int .i64) .unit)) none
abbrev A0:Kd:=.pair (.int .i64) (.pair (.int .i64) (.pair (.int .i64) .unit))
abbrev fb:Kd:=.sl false 160 (.pair (.int .i64) (.pair (.int .i64) .unit)) none
abbrev Xb:Type:=aT×Int×Int×Int×Int×Unit
abbrev oX:Kd:=.sl true 123 bj none
abbrev b6:Type:=(aV×Unit)×Unit
abbrev fX:Type:=List (ByteArray×(dM×Unit))
abbrev Xc:Type:=(Int×Unit)×(fW×Unit)
abbrev fo:Type:=EQ×(aT×Unit)
abbrev Xd:Type:=(((List (List Int))×(List (List Int))×Int×Unit)×((List (List Int))×Unit))
abbrev iL:Kd:=.sl true 127 A0 none
abbrev fp:Kd:=.sl true 130 fb none
abbrev dF:Kd:=.sl false 130 fb none
abbrev Sc:Type:=fX×Unit
abbrev uN:Kd:=.tree 134 (.pair (.int .i64) (.pair (.int .i64) (.pair (.int .i64) (.pair .str .unit))))
abbrev aQ:Type:=(List Int)×((List Int)×((List Int)×(cA×(Int×Unit))))
abbrev eM:Kd:=.pair bj (.pair aP .unit)
abbrev Xe:Kd:=.pair dE (.pair aZ .unit)
abbrev Xf:Type:=Int×(Int×(Int×(ByteArray×((List dM)×Unit))))
abbrev bR:Type:=List aQ
abbrev iM:Kd:=.tree 65 (.pair (.int .i64) (.pair (.int .i64) (.pair (.int .i64) (.pair (.int .i64) (.pair .str .unit)))))
abbrev cy:Type:=(aQ×Unit)×Unit
abbrev lD:Type:=Int×(Int×(Int×(Int×(ByteArray×((List aV)×Unit)))))
abbrev Lu:Type:=aQ×(List (List Bool))×Unit
abbrev oY:Kd:=.sl true 136 (.pair .str (.pair uN .unit)) none
abbrev Lv:Type:=Int×(Int×(aV×(aV×Unit)))
abbrev Xg:Type:=((Int×Unit)×Lu)
abbrev ko:Type:=(dM×Unit)×Sc
abbrev kp:Type:=List Lv
abbrev Xh:Type:=bR×(List (List Bool))×(List (List Bool))×Int×Int×Unit
abbrev Xi:Kd:=.pair (.int .i64) (.pair (.int .i64) (.pair (.int .i64) (.pair .str (.pair (.tl 134 (.pair (.int .i64) (.pair (.int .i64) (.pair (.int .i64) (.pair .str .unit))))) .unit))))
abbrev Xj:Type:=kp×Int×(List (List Bool))×Int×Int×Unit
abbrev oZ:Type:=(AY×((List (List Int))×Unit))×(bR×EP)
abbrev lE:Kd:=.pair (.int .i64) (.pair (.int .i64) (.pair (.int .i64) (.pair (.int .i64) (.pair .str (.pair (.tl 65 (.pair (.int .i64) (.pair (.int .i64) (.pair (.int .i64) (.pair (.int .i64) (.pair .str .unit)))))) .unit)))))
abbrev uO:Type:=Option oZ
abbrev uP:Type:=(Unit×(aQ×aQ×Unit))
abbrev aY:Kd:=.pair aP (.pair aP (.pair aP (.pair iL (.pair (.int .i64) .unit))))
abbrev ba:Kd:=.pair aZ (.pair aZ (.pair aZ (.pair (.sl false 127 A0 none) (.pair (.int .i64) .unit))))
abbrev Xk:Type:=aQ×aQ×cA×Unit
abbrev aN:Type:=fX×(kp×Unit)
abbrev Xl:Type:=aQ×aQ×(List Bool)×(List Bool)×(List Bool)×Unit
abbrev cd:Kd:=.sl false 81 ba none
abbrev ER:Kd:=.pair (.int .i64) (.pair (.int .i64) (.pair iM (.pair iM .unit)))
abbrev mO:Kd:=.sl false 67 ER none
abbrev KD9:Kd:=.pair (.pair (.mp true 101 .i64) (.pair (.sl true 108 aP none) .unit)) (.pair cd (.pair bJ .unit))
abbrev TY8:Type:=((Int×Unit)×(aQ×aQ×aQ×aQ×Unit))
abbrev KD7:Kd:=.ep (.pair (.pair (.mp false 101 .i64) (.pair (.sl false 108 aZ none) .unit)) (.pair cd (.pair bJ .unit)))
abbrev KD6:Kd:=.pair oY (.pair (.sl true 67 ER none) .unit)
abbrev KD5:Kd:=.pair (.sl false 136 (.pair .str (.pair uN .unit)) none) (.pair mO .unit)
abbrev TY4:Type:=((uO×(List Int)×Int×Int×bR×Int×Int×Unit)×(aQ×(List Int)×Unit))
abbrev TY3:Type:=aN×((List Int)×((List Int)×((List (List Bool))×(bR×(bR×(Int×Unit))))))
abbrev KD2:Kd:=.pair KD6 (.pair aP (.pair aP (.pair bp (.pair (.sl true 81 aY none) (.pair (.sl true 81 aY none) (.pair (.int .i64) .unit))))))
abbrev KD1:Kd:=.pair KD5 (.pair aP (.pair aP (.pair bp (.pair (.sl true 81 ba none) (.pair (.sl true 81 ba none) (.pair (.int .i64) .unit))))))
abbrev KD0:Kd:=.pair KD5 (.pair aZ (.pair aZ (.pair bJ (.pair cd (.pair cd (.pair (.int .i64) .unit))))))
def sk (k:Nat):Nat→Int→bR→Int→Int→Option EO
 |0,_,_,_,_=>none
 |n+1,t3,t6,t7,t8 =>
  bif (decide (t8<t7)) then
  if 0≤t8∧t8<(length t6:Int) then
  let x3:=(getD t6 (toNat t8) (([]:(List Int)),(([]:(List Int)),(([]:(List Int)),(([]:cA),((0:Int),()))))))
  let x4:=(wrap .i64 (t3+(length x3.1:Int)))
  (sk k n x4 t6 t7 (wrap .i64 (t8+(1:Int)))).bind some
  else none
  else
  some ((t3,()),())
def o7:aE:=⟨[],[(3,.val (.int .i64)),(6,.val cd),(7,.val (.int .i64)),(8,.val (.int .i64))],[]⟩
def wk (k m:Nat) (v:o7.V):=sk k m v.1.1 v.1.2.1 v.1.2.2.1 v.1.2.2.2.1
def wl (k:Nat):aL:=⟨o7,[(.exit 0,⟨[],[(3,.val (.int .i64))],[]⟩)],wk k k⟩
def F50 (k:Nat) (a0:bR):Option bG :=
 (sk k k (0:Int) a0 (length a0:Int) (0:Int)).bind fun r5 =>
 some ((r5.1.1,()),())
def A1 (k:Nat):ap:=⟨[.val cd],[.val (.int .i64)],fun x=>F50 k x.1⟩
def C5:Lim:=⟨19,1,false,false,[],[]⟩
def Lw (k:Nat):Nat→Option ap:=aW []
noncomputable def Nn:Code:=ac (ab Try.f50) [.r,.r,.l,.r,.s]
noncomputable def Xm:Code:=ac (ab Try.f50) [.r,.r,.l,.r,.s,.b]
noncomputable def co50:Code:=ac (ab Try.f50) []
theorem ES (k:Nat):aR Try.prog (Lw k):=aD
noncomputable def ET (k m:Nat) (v:o7.V):=body Try.prog (ao Try.prog (Lw k) C5) .go Xm (o7.st v) (aH (wl k) (wk k m))
theorem Xn (k m:Nat) (v:o7.V):wk k (m+1) v=(ET k m v).eval∧(ET k m v).left=(ET k m v).right:=⟨by kernel_rfl,by kernel_rfl⟩
theorem No (k:Nat):aC Try.prog C5 (wl k) Nn :=
 am (by kernel_rfl) (aA (ES k) (aj _) (wk k) k (fun _=>rfl) (fun _=>rfl) (Xn k))
def Xo (k:Nat):aO:=(.seq .go (.seq .go (.seq (.seq .go (.sub (.frag (wl k)))) .go)))
noncomputable def Sd (k:Nat) (x:AT (A1 k).ps):=fnT Try.prog (Lw k) C5 Try.f50 (ab Try.f50) (Xo k) (A1 k) x
theorem a0t (k:Nat) (x:AT (A1 k).ps):(A1 k).impl x=(Sd k x).eval∧(Sd k x).left=(Sd k x).right:=⟨by kernel_rfl,by kernel_rfl⟩
theorem v50 (k:Nat):ai Try.prog 50∧aB Try.prog 50 (A1 k) :=
 aS (n:=C5) (fn:=Try.f50) (p:=(Xo k)) (ES k) (by kernel_rfl) (aG (L:=[(wl k,Nn)]) (by kernel_rfl) (.cons (No k) .nil)) (a0t k)
def sm (k:Nat):Nat→Int→Int→(List Int)→Option oV
 |0,_,_,_=>none
 |n+1,t8,t9,c6 =>
  bif (decide (t9<t8)) then
  if 0≤t9∧t9<(length c6:Int) then
  let x3:=(List.set c6 (toNat t9) (1152921504606846976:Int))
  (sm k n t8 (wrap .i64 (t9+(1:Int))) x3).bind some
  else none
  else
  some ((),(c6,()))
def o8:aE:=⟨[],[(3,.at 6 []),(8,.val (.int .i64)),(9,.val (.int .i64))],[(6,none,aP)]⟩
def wm (k m:Nat) (v:o8.V):=sm k m v.1.1 v.1.2.1 v.2.1
def wn (k:Nat):aL:=⟨o8,[(.exit 0,⟨[],[(3,.at 6 [])],[(6,none,aP)]⟩)],wm k k⟩
def F49 (k:Nat) (a0:Int):Option kn :=
 if (0≤a0∧a0<a0+1)∧a0≤9223372036854775807∧((8:Nat):Int)*a0≤281474976710656 then
 let x1:=(length (replicate (toNat a0) (0:Int)):Int)
 (sm k k x1 (0:Int) (replicate (toNat a0) (0:Int))).bind fun r4 =>
 some ((r4.2.1,()),())
 else none
def uQ (k:Nat):ap:=⟨[.val (.int .i64)],[.own aP],fun x=>F49 k x.1⟩
def C6:Lim:=⟨17,1,false,false,[],[]⟩
def Lx (k:Nat):Nat→Option ap:=aW []
noncomputable def Np:Code:=ac (ab Try.f49) [.r,.r,.l,.r,.s]
noncomputable def Xp:Code:=ac (ab Try.f49) [.r,.r,.l,.r,.s,.b]
noncomputable def co49:Code:=ac (ab Try.f49) []
theorem EU (k:Nat):aR Try.prog (Lx k):=aD
noncomputable def EV (k m:Nat) (v:o8.V):=body Try.prog (ao Try.prog (Lx k) C6) .go Xp (o8.st v) (aH (wn k) (wm k m))
theorem Xq (k m:Nat) (v:o8.V):wm k (m+1) v=(EV k m v).eval∧(EV k m v).left=(EV k m v).right:=⟨by kernel_rfl,by kernel_rfl⟩
theorem Nq (k:Nat):aC Try.prog C6 (wn k) Np :=
 am (by kernel_rfl) (aA (EU k) (aj _) (wm k) k (fun _=>rfl) (fun _=>rfl) (Xq k))
def Xr (k:Nat):aO:=(.seq .go (.seq .go (.seq (.seq .go (.sub (.frag (wn k)))) .go)))
noncomputable def Se (k:Nat) (x:AT (uQ k).ps):=fnT Try.prog (Lx k) C6 Try.f49 (ab Try.f49) (Xr k) (uQ k) x
theorem a1t (k:Nat) (x:AT (uQ k).ps):(uQ k).impl x=(Se k x).eval∧(Se k x).left=(Se k x).right:=⟨by kernel_rfl,by kernel_rfl⟩
theorem v49 (k:Nat):ai Try.prog 49∧aB Try.prog 49 (uQ k) :=
 aS (n:=C6) (fn:=Try.f49) (p:=(Xr k)) (EU k) (by kernel_rfl) (aG (L:=[(wn k,Np)]) (by kernel_rfl) (.cons (Nq k) .nil)) (a1t k)
def jJ (k:Nat):Nat→Int→Int→(List Int)→Int→Int→(List Int)→Option ((((List Int)×Int×Int×Unit)×((List Int)×Unit)))
 |0,_,_,_,_,_,_=>none
 |n+1,t5,t6,t7,t8,t9,e0 =>
  bif (decide (t6≥(0:Int))) then
  if 0≤t6 then
  let x1:=(Int.fdiv t5 (2^(min (toNat t6) (IntKind.bits .i64))))
  let x2:=(List.set (replicate 1 (0:Int)) 0 (wrap .u8 x1))
  if (length e0+length x2)*(1*2)≤281474976710656∧length e0+length x2≤9223372036854775807 then
  (jJ k n t5 (wrap .i64 (t6-(8:Int))) t7 t8 t9 (e0++x2)).bind some
  else none
  else none
  else
  some ((t7,t8,t9,()),(e0,()))
def o9:aE:=⟨[(3,oU)],[(3,.at 2000003 []),(5,.val (.int .i64)),(6,.val (.int .i64)),(7,.val aZ),(8,.val (.int .i64)),(9,.val (.int .i64))],[(2000003,none,oU)]⟩
def wo (k m:Nat) (v:o9.V):=jJ k m v.1.1 v.1.2.1 v.1.2.2.1 v.1.2.2.2.1 v.1.2.2.2.2.1 v.2.1
def wq (k:Nat):aL:=⟨o9,[(.exit 2,⟨[(3,oU)],[(3,.at 2000003 []),(7,.val aZ),(8,.val (.int .i64)),(9,.val (.int .i64))],[(2000003,none,oU)]⟩)],wo k k⟩
def sn (k:Nat):Nat→(List Int)→Int→Int→(List Int)→Option oV
 |0,_,_,_,_=>none
 |n+1,t7,t8,t9,e0 =>
  bif (decide (t9<t8)) then
  if 0≤t9∧t9<(length t7:Int) then
  (jJ k k (getD t7 (toNat t9) (0:Int)) (56:Int) t7 t8 t9 e0).bind fun r3 =>
  (sn k n r3.1.1 r3.1.2.1 (wrap .i64 (r3.1.2.2.1+(1:Int))) r3.2.1).bind some
  else none
  else
  some ((),(e0,()))
def pa:aE:=⟨[(3,oU)],[(3,.at 2000003 []),(7,.val aZ),(8,.val (.int .i64)),(9,.val (.int .i64))],[(2000003,none,oU)]⟩
def ws (k m:Nat) (v:pa.V):=sn k m v.1.1 v.1.2.1 v.1.2.2.1 v.2.1
def wt (k:Nat):aL:=⟨pa,[(.exit 0,⟨[(3,oU)],[(3,.at 2000003 [])],[(2000003,none,oU)]⟩)],ws k k⟩
def F77 (k:Nat) (a0:(List Int)):Option ((ByteArray×Unit)×Unit) :=
 (sn k k a0 (length a0:Int) (0:Int) []).bind fun r8 =>
 if length r8.2.1≤9223372036854775807 then
 some (((lw r8.2.1),()),())
 else none
def A2 (k:Nat):ap:=⟨[.val aZ],[.val .str],fun x=>F77 k x.1⟩
def so:Lim:=⟨27,1,false,false,[],[]⟩
def C7 (k:Nat):Nat→Option ap:=aW []
noncomputable def Nr:Code:=ac (ab Try.f77) [.r,.r,.l,.r,.s,.b,.r,.r,.l,.s,.r,.r,.s]
noncomputable def Xs:Code:=ac (ab Try.f77) [.r,.r,.l,.r,.s,.b,.r,.r,.l,.s,.r,.r,.s,.b]
noncomputable def Ns:Code:=ac (ab Try.f77) [.r,.r,.l,.r,.s]
noncomputable def Xt:Code:=ac (ab Try.f77) [.r,.r,.l,.r,.s,.b]
noncomputable def co77:Code:=ac (ab Try.f77) []
theorem uR (k:Nat):aR Try.prog (C7 k):=aD
noncomputable def EW (k m:Nat) (v:o9.V):=body Try.prog (ao Try.prog (C7 k) so) .go Xs (o9.st v) (aH (wq k) (wo k m))
theorem Xu (k m:Nat) (v:o9.V):wo k (m+1) v=(EW k m v).eval∧(EW k m v).left=(EW k m v).right:=⟨by kernel_rfl,by kernel_rfl⟩
theorem Nt (k:Nat):aC Try.prog so (wq k) Nr :=
 am (by kernel_rfl) (aA (uR k) (aj _) (wo k) k (fun _=>rfl) (fun _=>rfl) (Xu k))
def Xv (k:Nat):aO:=(.seq .go (.seq .go (.seq (.sub (.seq .go (.seq .go (.sub (.frag (wq k)))))) .go)))
noncomputable def EX (k m:Nat) (v:pa.V):=body Try.prog (ao Try.prog (C7 k) so) (Xv k) Xt (pa.st v) (aH (wt k) (ws k m))
theorem Xw (k m:Nat) (v:pa.V):ws k (m+1) v=(EX k m v).eval∧(EX k m v).left=(EX k m v).right:=⟨by kernel_rfl,by kernel_rfl⟩
theorem Nu (k:Nat):aC Try.prog so (wt k) Ns :=
 am (by kernel_rfl) (aA (uR k) (aG (L:=[(wq k,Nr)]) (by kernel_rfl) (.cons (Nt k) .nil)) (ws k) k (fun _=>rfl) (fun _=>rfl) (Xw k))
def Xx (k:Nat):aO:=(.seq .go (.seq .go (.seq (.seq .go (.sub (.frag (wt k)))) .go)))
noncomputable def Sf (k:Nat) (x:AT (A2 k).ps):=fnT Try.prog (C7 k) so Try.f77 (ab Try.f77) (Xx k) (A2 k) x
theorem a2t (k:Nat) (x:AT (A2 k).ps):(A2 k).impl x=(Sf k x).eval∧(Sf k x).left=(Sf k x).right:=⟨by kernel_rfl,by kernel_rfl⟩
theorem v77 (k:Nat):ai Try.prog 77∧aB Try.prog 77 (A2 k) :=
 aS (n:=so) (fn:=Try.f77) (p:=(Xx k)) (uR k) (by kernel_rfl) (aG (L:=[(wt k,Ns)]) (by kernel_rfl) (.cons (Nu k) .nil)) (a2t k)
def F48 (k:Nat) (a0:oZ) (a1:(List Int)):Option ((Int×Unit)×(oZ×Unit)) :=
 (F77 k a1).bind fun r1 =>
 bif (!(fu (Option.getD a0.1.1 []) r1.1.1).2) then
 if (Option.isSome a0.1.1)=true then
 let x2:=(some (kl (Option.getD a0.1.1 []) r1.1.1 (length a0.1.2.1:Int)))
 if (length a0.1.2.1+length [a1])*(24*2)≤281474976710656∧length a0.1.2.1+length [a1]≤9223372036854775807 then
 some (((length a0.1.2.1:Int),()),(((x2,((a0.1.2.1++[a1]),a0.1.2.2)),a0.2),()))
 else none
 else none
 else
 some (((fu (Option.getD a0.1.1 []) r1.1.1).1,()),(a0,()))
def A3 (k:Nat):ap:=⟨[.ptr 106 KD9 [.fst],.own aP],[.val (.int .i64)],fun x=>F48 k x.1 x.2.1⟩
def UM:Lim:=⟨43,2,false,false,[],[]⟩
def UN (k:Nat):Nat→Option ap:=aW [(77,A2 k)]
noncomputable def co48:Code:=ac (ab Try.f48) []
theorem Sg (k:Nat):aR Try.prog (UN k):=ah (v77 k) (aD)
noncomputable def Sh (k:Nat) (x:AT (A3 k).ps):=fnT Try.prog (UN k) UM Try.f48 (ab Try.f48) .go (A3 k) x
theorem a3t (k:Nat) (x:AT (A3 k).ps):(A3 k).impl x=(Sh k x).eval∧(Sh k x).left=(Sh k x).right:=⟨by kernel_rfl,by kernel_rfl⟩
theorem v48 (k:Nat):ai Try.prog 48∧aB Try.prog 48 (A3 k) :=
 aS (n:=UM) (fn:=Try.f48) (p:=.go) (Sg k) (by kernel_rfl) (aj _) (a3t k)
def F79 (k:Nat) (a0:Int) (a1:Int):Option bG :=
 let x1:=(wrap .i64 ((aK a0 (1152921504606846976:Int))+(aK a1 (1152921504606846976:Int))))
 some (((aK x1 (1152921504606846976:Int)),()),())
def pb (k:Nat):ap:=⟨[.val (.int .i64),.val (.int .i64)],[.val (.int .i64)],fun x=>F79 k x.1 x.2.1⟩
def UO:Lim:=⟨11,2,false,false,[],[]⟩
def UP (k:Nat):Nat→Option ap:=aW []
noncomputable def co79:Code:=ac (ab Try.f79) []
theorem Si (k:Nat):aR Try.prog (UP k):=aD
noncomputable def Sj (k:Nat) (x:AT (pb k).ps):=fnT Try.prog (UP k) UO Try.f79 (ab Try.f79) .go (pb k) x
theorem a4t (k:Nat) (x:AT (pb k).ps):(pb k).impl x=(Sj k x).eval∧(Sj k x).left=(Sj k x).right:=⟨by kernel_rfl,by kernel_rfl⟩
theorem v79 (k:Nat):ai Try.prog 79∧aB Try.prog 79 (pb k) :=
 aS (n:=UO) (fn:=Try.f79) (p:=.go) (Si k) (by kernel_rfl) (aj _) (a4t k)
def sq (k:Nat):Nat→Int→(List Int)→Int→Int→Option EO
 |0,_,_,_,_=>none
 |n+1,t3,t6,t7,t8 =>
  bif (decide (t8<t7)) then
  if 0≤t8∧t8<(length t6:Int) then
  let x2:=(aK t3 (getD t6 (toNat t8) (0:Int)))
  (sq k n x2 t6 t7 (wrap .i64 (t8+(1:Int)))).bind some
  else none
  else
  some ((t3,()),())
def pd:aE:=⟨[],[(3,.val (.int .i64)),(6,.val aZ),(7,.val (.int .i64)),(8,.val (.int .i64))],[]⟩
def wu (k m:Nat) (v:pd.V):=sq k m v.1.1 v.1.2.1 v.1.2.2.1 v.1.2.2.2.1
def wv (k:Nat):aL:=⟨pd,[(.exit 0,⟨[],[(3,.val (.int .i64))],[]⟩)],wu k k⟩
def F78 (k:Nat) (a0:(List Int)):Option bG :=
 (sq k k (1152921504606846976:Int) a0 (length a0:Int) (0:Int)).bind fun r3 =>
 some ((r3.1.1,()),())
def pe (k:Nat):ap:=⟨[.val aZ],[.val (.int .i64)],fun x=>F78 k x.1⟩
def C8:Lim:=⟨17,1,false,false,[],[]⟩
def Ly (k:Nat):Nat→Option ap:=aW []
noncomputable def Nw:Code:=ac (ab Try.f78) [.r,.r,.l,.r,.s]
noncomputable def Xy:Code:=ac (ab Try.f78) [.r,.r,.l,.r,.s,.b]
noncomputable def co78:Code:=ac (ab Try.f78) []
theorem EY (k:Nat):aR Try.prog (Ly k):=aD
noncomputable def EZ (k m:Nat) (v:pd.V):=body Try.prog (ao Try.prog (Ly k) C8) .go Xy (pd.st v) (aH (wv k) (wu k m))
theorem Xz (k m:Nat) (v:pd.V):wu k (m+1) v=(EZ k m v).eval∧(EZ k m v).left=(EZ k m v).right:=⟨by kernel_rfl,by kernel_rfl⟩
theorem Nx (k:Nat):aC Try.prog C8 (wv k) Nw :=
 am (by kernel_rfl) (aA (EY k) (aj _) (wu k) k (fun _=>rfl) (fun _=>rfl) (Xz k))
def XA (k:Nat):aO:=(.seq .go (.seq .go (.seq (.seq .go (.sub (.frag (wv k)))) .go)))
noncomputable def Sk (k:Nat) (x:AT (pe k).ps):=fnT Try.prog (Ly k) C8 Try.f78 (ab Try.f78) (XA k) (pe k) x
theorem a5t (k:Nat) (x:AT (pe k).ps):(pe k).impl x=(Sk k x).eval∧(Sk k x).left=(Sk k x).right:=⟨by kernel_rfl,by kernel_rfl⟩
theorem v78 (k:Nat):ai Try.prog 78∧aB Try.prog 78 (pe k) :=
 aS (n:=C8) (fn:=Try.f78) (p:=(XA k)) (EY k) (by kernel_rfl) (aG (L:=[(wv k,Nw)]) (by kernel_rfl) (.cons (Nx k) .nil)) (a5t k)
def F80 (k:Nat) (a0:uO) (a1:aQ) (a2:Int) (a3:Int):Option fa :=
 if 0≤a2∧a2<(length a1.1:Int) then
 let x1:=(decide ((getD a1.1 (toNat a2) (0:Int))<(0:Int)))
 bif x1 then
 some ((true,()),())
 else
 if (Option.isSome a0)=true then
 if (Option.isSome a0)=true then
 let x2:=(Option.getD a0 (((none:AY),(([]:(List (List Int))),())),(([]:bR),(([]:(List (List Bool))),())))).2.2.1
 let x3:=(decide ((getD a1.1 (toNat a2) (0:Int))<(length x2:Int)))
 bif x3 then
 if (Option.isSome a0)=true then
 if (Option.isSome a0)=true then
 let x4:=(Option.getD a0 (((none:AY),(([]:(List (List Int))),())),(([]:bR),(([]:(List (List Bool))),())))).2.2.1
 if 0≤(getD a1.1 (toNat a2) (0:Int))∧(getD a1.1 (toNat a2) (0:Int))<(length x4:Int) then
 let x5:=(getD x4 (toNat (getD a1.1 (toNat a2) (0:Int))) ([]:(List Bool)))
 let x6:=(decide (a3<(length x5:Int)))
 bif x6 then
 if (Option.isSome a0)=true then
 if (Option.isSome a0)=true then
 let x7:=(Option.getD a0 (((none:AY),(([]:(List (List Int))),())),(([]:bR),(([]:(List (List Bool))),())))).2.2.1
 if 0≤(getD a1.1 (toNat a2) (0:Int))∧(getD a1.1 (toNat a2) (0:Int))<(length x7:Int) then
 let x8:=(getD x7 (toNat (getD a1.1 (toNat a2) (0:Int))) ([]:(List Bool)))
 if 0≤a3∧a3<(length x8:Int) then
 some (((getD x8 (toNat a3) false),()),())
 else none
 else none
 else none
 else none
 else
 some ((false,()),())
 else none
 else none
 else none
 else
 some ((false,()),())
 else none
 else none
 else none
def A4 (k:Nat):ap:=⟨[.val KD7,.val ba,.val (.int .i64),.val (.int .i64)],[.val .bool],fun x=>F80 k x.1 x.2.1 x.2.2.1 x.2.2.2.1⟩
def UQ:Lim:=⟨50,4,false,false,[],[]⟩
def UR (k:Nat):Nat→Option ap:=aW []
noncomputable def co80:Code:=ac (ab Try.f80) []
theorem Sl (k:Nat):aR Try.prog (UR k):=aD
noncomputable def Sm (k:Nat) (x:AT (A4 k).ps):=fnT Try.prog (UR k) UQ Try.f80 (ab Try.f80) .go (A4 k) x
theorem a6t (k:Nat) (x:AT (A4 k).ps):(A4 k).impl x=(Sm k x).eval∧(Sm k x).left=(Sm k x).right:=⟨by kernel_rfl,by kernel_rfl⟩
theorem v80 (k:Nat):ai Try.prog 80∧aB Try.prog 80 (A4 k) :=
 aS (n:=UQ) (fn:=Try.f80) (p:=.go) (Sl k) (by kernel_rfl) (aj _) (a6t k)
def sr (k:Nat):Nat→uO→(List Int)→Int→Int→bR→Int→Int→cA→Int→Int→aQ→(List Int)→Option TY4
 |0,_,_,_,_,_,_,_,_,_,_,_,_=>none
 |n+1,t0,t1,t2,t8,t20,t21,t22,t33,t34,t35,c10,e0 =>
  bif (decide (t35<t34)) then
  if 0≤t35∧t35<(length t33:Int) then
  let x12:=(getD t33 (toNat t35) ((0:Int),((0:Int),((0:Int),()))))
  if 0≤(wrap .i64 (t8+x12.2.1))∧(wrap .i64 (t8+x12.2.1))<(length e0:Int) then
  let x13:=(toNat (wrap .i64 (t8+x12.2.1)))
  if 0≤(wrap .i64 (t8+x12.1))∧(wrap .i64 (t8+x12.1))<(length t1:Int) then
  let x14:=(getD t1 (toNat (wrap .i64 (t8+x12.1))) (0:Int))
  (F79 k x14 x12.2.2.1).bind fun r15 =>
  let x16:=(List.set (List.set (replicate 2 (0:Int)) 0 (getD e0 x13 (0:Int))) 1 r15.1.1)
  (F78 k x16).bind fun r17 =>
  if 0≤(wrap .i64 (t8+x12.2.1))∧(wrap .i64 (t8+x12.2.1))<(length e0:Int) then
  let x18:=(toNat (wrap .i64 (t8+x12.2.1)))
  (sr k n t0 t1 t2 t8 t20 t21 t22 t33 t34 (wrap .i64 (t35+(1:Int))) c10 (List.set e0 x18 r17.1.1)).bind some
  else none
  else none
  else none
  else none
  else
  some ((t0,t1,t2,t8,t20,t21,t22,()),(c10,e0,()))
def pf:aE:=⟨[],[(0,.val KD7),(1,.val aZ),(2,.val (.int .i64)),(7,.at 1000256 []),(8,.val (.int .i64)),(10,.ptr 10 []),(20,.val cd),(21,.val (.int .i64)),(22,.val (.int .i64)),(33,.val (.sl false 127 A0 none)),(34,.val (.int .i64)),(35,.val (.int .i64))],[(10,some 81,ba),(1000256,none,aP)]⟩
def ww (k m:Nat) (v:pf.V):=sr k m v.1.1 v.1.2.1 v.1.2.2.1 v.1.2.2.2.1 v.1.2.2.2.2.1 v.1.2.2.2.2.2.1 v.1.2.2.2.2.2.2.1 v.1.2.2.2.2.2.2.2.1 v.1.2.2.2.2.2.2.2.2.1 v.1.2.2.2.2.2.2.2.2.2.1 v.2.1 v.2.2.1
def wz (k:Nat):aL:=⟨pf,[(.exit 2,⟨[],[(0,.val KD7),(1,.val aZ),(2,.val (.int .i64)),(7,.at 1000256 []),(8,.val (.int .i64)),(10,.ptr 10 []),(20,.val cd),(21,.val (.int .i64)),(22,.val (.int .i64))],[(10,some 81,ba),(1000256,none,aP)]⟩)],ww k k⟩
def mP (k:Nat):Nat→uO→(List Int)→Int→Int→bR→Int→Int→Int→Int→aQ→(List Int)→Option TY4
 |0,_,_,_,_,_,_,_,_,_,_,_=>none
 |n+1,t0,t1,t2,t8,t20,t21,t22,t67,t68,c10,e0 =>
  bif (decide (t68<t67)) then
  (F80 k t0 c10 t68 t2).bind fun r32 =>
  bif (!r32.1.1) then
  if 0≤(wrap .i64 (t8+t68))∧(wrap .i64 (t8+t68))<(length e0:Int) then
  let x33:=(toNat (wrap .i64 (t8+t68)))
  let x34:=(List.set e0 x33 (1152921504606846976:Int))
  (mP k n t0 t1 t2 t8 t20 t21 t22 t67 (wrap .i64 (t68+(1:Int))) c10 x34).bind some
  else none
  else
  (mP k n t0 t1 t2 t8 t20 t21 t22 t67 (wrap .i64 (t68+(1:Int))) c10 e0).bind some
  else
  some ((t0,t1,t2,t8,t20,t21,t22,()),(c10,e0,()))
def ph:aE:=⟨[],[(0,.val KD7),(1,.val aZ),(2,.val (.int .i64)),(7,.at 1000256 []),(8,.val (.int .i64)),(10,.ptr 10 []),(20,.val cd),(21,.val (.int .i64)),(22,.val (.int .i64)),(67,.val (.int .i64)),(68,.val (.int .i64))],[(10,some 81,ba),(1000256,none,aP)]⟩
def wA (k m:Nat) (v:ph.V):=mP k m v.1.1 v.1.2.1 v.1.2.2.1 v.1.2.2.2.1 v.1.2.2.2.2.1 v.1.2.2.2.2.2.1 v.1.2.2.2.2.2.2.1 v.1.2.2.2.2.2.2.2.1 v.1.2.2.2.2.2.2.2.2.1 v.2.1 v.2.2.1
def wB (k:Nat):aL:=⟨ph,[(.exit 4,⟨[],[(0,.val KD7),(1,.val aZ),(2,.val (.int .i64)),(7,.at 1000256 []),(8,.val (.int .i64)),(10,.ptr 10 []),(20,.val cd),(21,.val (.int .i64)),(22,.val (.int .i64))],[(10,some 81,ba),(1000256,none,aP)]⟩)],wA k k⟩
def su (k:Nat):Nat→uO→(List Int)→Int→Int→bR→Int→Int→(List Int)→Option oV
 |0,_,_,_,_,_,_,_,_=>none
 |n+1,t0,t1,t2,t8,t20,t21,t22,e0 =>
  bif (decide (t22<t21)) then
  if 0≤t22∧t22<(length t20:Int) then
  let x46:=(getD t20 (toNat t22) (([]:(List Int)),(([]:(List Int)),(([]:(List Int)),(([]:cA),((0:Int),()))))))
  if 0≤t8∧t8≤(length e0:Int)∧(length e0:Int)≤(length e0:Int) then
  let x47:=(toNat (length e0:Int)-toNat t8)
  (sr k k t0 t1 t2 t8 t20 t21 t22 x46.2.2.2.1 (length x46.2.2.2.1:Int) (0:Int) x46 (mG e0 (toNat t8) x47 x46.2.1)).bind fun r48 =>
  (mP k k r48.1.1 r48.1.2.1 r48.1.2.2.1 r48.1.2.2.2.1 r48.1.2.2.2.2.1 r48.1.2.2.2.2.2.1 r48.1.2.2.2.2.2.2.1 (length r48.2.1.1:Int) (0:Int) r48.2.1 r48.2.2.1).bind fun r58 =>
  let x68:=(wrap .i64 (r58.1.2.2.2.1+(length r58.2.1.1:Int)))
  (su k n r58.1.1 r58.1.2.1 r58.1.2.2.1 x68 r58.1.2.2.2.2.1 r58.1.2.2.2.2.2.1 (wrap .i64 (r58.1.2.2.2.2.2.2.1+(1:Int))) r58.2.2.1).bind some
  else none
  else none
  else
  some ((),(e0,()))
def pj:aE:=⟨[],[(0,.val KD7),(1,.val aZ),(2,.val (.int .i64)),(7,.at 1000256 []),(8,.val (.int .i64)),(20,.val cd),(21,.val (.int .i64)),(22,.val (.int .i64))],[(1000256,none,aP)]⟩
def wC (k m:Nat) (v:pj.V):=su k m v.1.1 v.1.2.1 v.1.2.2.1 v.1.2.2.2.1 v.1.2.2.2.2.1 v.1.2.2.2.2.2.1 v.1.2.2.2.2.2.2.1 v.2.1
def wD (k:Nat):aL:=⟨pj,[(.exit 0,⟨[],[(7,.at 1000256 [])],[(1000256,none,aP)]⟩)],wC k k⟩
def F51 (k:Nat) (a0:uO) (a1:(List Int)) (a2:Int):Option kn :=
 (F49 k (length a1:Int)).bind fun r1 =>
 if (Option.isSome a0)=true then
 if (Option.isSome a0)=true then
 let x2:=(Option.getD a0 (((none:AY),(([]:(List (List Int))),())),(([]:bR),(([]:(List (List Bool))),())))).2.1
 (su k k a0 a1 a2 (0:Int) x2 (length x2:Int) (0:Int) r1.1.1).bind fun r69 =>
 some ((r69.2.1,()),())
 else none
 else none
def A5 (k:Nat):ap:=⟨[.val KD7,.val aZ,.val (.int .i64)],[.own aP],fun x=>F51 k x.1 x.2.1 x.2.2.1⟩
def kS:Lim:=⟨90,3,false,false,[],[]⟩
def wE (k:Nat):Nat→Option ap:=aW [(49,uQ k),(78,pe k),(79,pb k),(80,A4 k)]
noncomputable def Ny:Code:=ac (ab Try.f51) [.r,.r,.r,.l,.r,.s,.b,.r,.r,.l,.s,.r,.r,.l,.r,.s]
noncomputable def XB:Code:=ac (ab Try.f51) [.r,.r,.r,.l,.r,.s,.b,.r,.r,.l,.s,.r,.r,.l,.r,.s,.b]
noncomputable def Nz:Code:=ac (ab Try.f51) [.r,.r,.r,.l,.r,.s,.b,.r,.r,.l,.s,.r,.r,.r,.l,.r,.s]
noncomputable def XC:Code:=ac (ab Try.f51) [.r,.r,.r,.l,.r,.s,.b,.r,.r,.l,.s,.r,.r,.r,.l,.r,.s,.b]
noncomputable def NA:Code:=ac (ab Try.f51) [.r,.r,.r,.l,.r,.s]
noncomputable def XD:Code:=ac (ab Try.f51) [.r,.r,.r,.l,.r,.s,.b]
noncomputable def co51:Code:=ac (ab Try.f51) []
theorem mQ (k:Nat):aR Try.prog (wE k):=ah (v49 k) (ah (v78 k) (ah (v79 k) (ah (v80 k) (aD))))
noncomputable def E0 (k m:Nat) (v:pf.V):=body Try.prog (ao Try.prog (wE k) kS) .go XB (pf.st v) (aH (wz k) (ww k m))
theorem XE (k m:Nat) (v:pf.V):ww k (m+1) v=(E0 k m v).eval∧(E0 k m v).left=(E0 k m v).right:=⟨by kernel_rfl,by kernel_rfl⟩
theorem NB (k:Nat):aC Try.prog kS (wz k) Ny :=
 am (by kernel_rfl) (aA (mQ k) (aj _) (ww k) k (fun _=>rfl) (fun _=>rfl) (XE k))
noncomputable def E1 (k m:Nat) (v:ph.V):=body Try.prog (ao Try.prog (wE k) kS) .go XC (ph.st v) (aH (wB k) (wA k m))
theorem XF (k m:Nat) (v:ph.V):wA k (m+1) v=(E1 k m v).eval∧(E1 k m v).left=(E1 k m v).right:=⟨by kernel_rfl,by kernel_rfl⟩
theorem NC (k:Nat):aC Try.prog kS (wB k) Nz :=
 am (by kernel_rfl) (aA (mQ k) (aj _) (wA k) k (fun _=>rfl) (fun _=>rfl) (XF k))
def XG (k:Nat):aO:=(.seq .go (.seq .go (.seq (.sub (.seq .go (.seq .go (.seq (.seq .go (.sub (.frag (wz k)))) (.seq (.seq .go (.sub (.frag (wB k)))) .go))))) .go)))
noncomputable def E2 (k m:Nat) (v:pj.V):=body Try.prog (ao Try.prog (wE k) kS) (XG k) XD (pj.st v) (aH (wD k) (wC k m))
theorem XH (k m:Nat) (v:pj.V):wC k (m+1) v=(E2 k m v).eval∧(E2 k m v).left=(E2 k m v).right:=⟨by kernel_rfl,by kernel_rfl⟩
theorem NE (k:Nat):aC Try.prog kS (wD k) NA :=
 am (by kernel_rfl) (aA (mQ k) (aG (L:=[(wz k,Ny),(wB k,Nz)]) (by kernel_rfl) (.cons (NB k) (.cons (NC k) .nil))) (wC k) k (fun _=>rfl) (fun _=>rfl) (XH k))
def XI (k:Nat):aO:=(.seq .go (.seq .go (.seq .go (.seq (.seq .go (.sub (.frag (wD k)))) .go))))
noncomputable def Sn (k:Nat) (x:AT (A5 k).ps):=fnT Try.prog (wE k) kS Try.f51 (ab Try.f51) (XI k) (A5 k) x
theorem a7t (k:Nat) (x:AT (A5 k).ps):(A5 k).impl x=(Sn k x).eval∧(Sn k x).left=(Sn k x).right:=⟨by kernel_rfl,by kernel_rfl⟩
theorem v51 (k:Nat):ai Try.prog 51∧aB Try.prog 51 (A5 k) :=
 aS (n:=kS) (fn:=Try.f51) (p:=(XI k)) (mQ k) (by kernel_rfl) (aG (L:=[(wD k,NA)]) (by kernel_rfl) (.cons (NE k) .nil)) (a7t k)
def sw (k:Nat):Nat→(List Int)→Int→bR→Int→Int→(List Int)→Int→Int→aQ→(List Int)→(List Int)→Option ((((List Int)×Int×bR×Int×Int×Unit)×(aQ×(List Int)×(List Int)×Unit)))
 |0,_,_,_,_,_,_,_,_,_,_,_=>none
 |n+1,t1,t6,t15,t16,t17,t25,t26,t27,c8,e0,e1 =>
  bif (decide (t27<t26)) then
  if 0≤t27∧t27<(length t25:Int) then
  if 0≤(wrap .i64 (t6+t27))∧(wrap .i64 (t6+t27))<(length t1:Int) then
  let x4:=(getD t1 (toNat (wrap .i64 (t6+t27))) (0:Int))
  (F79 k x4 (getD t25 (toNat t27) (0:Int))).bind fun r5 =>
  let x6:=(List.set (replicate 1 (0:Int)) 0 r5.1.1)
  if (length e1+length x6)*(8*2)≤281474976710656∧length e1+length x6≤9223372036854775807 then
  (sw k n t1 t6 t15 t16 t17 t25 t26 (wrap .i64 (t27+(1:Int))) c8 e0 (e1++x6)).bind some
  else none
  else none
  else none
  else
  some ((t1,t6,t15,t16,t17,()),(c8,e0,e1,()))
def pm:aE:=⟨[(5,aP),(9,aP)],[(1,.val aZ),(5,.at 2000005 []),(6,.val (.int .i64)),(8,.ptr 8 []),(9,.at 2000009 []),(15,.val cd),(16,.val (.int .i64)),(17,.val (.int .i64)),(25,.val aZ),(26,.val (.int .i64)),(27,.val (.int .i64))],[(8,some 81,ba),(2000005,none,aP),(2000009,none,aP)]⟩
def wF (k m:Nat) (v:pm.V):=sw k m v.1.1 v.1.2.1 v.1.2.2.1 v.1.2.2.2.1 v.1.2.2.2.2.1 v.1.2.2.2.2.2.1 v.1.2.2.2.2.2.2.1 v.1.2.2.2.2.2.2.2.1 v.2.1 v.2.2.1 v.2.2.2.1
def wG (k:Nat):aL:=⟨pm,[(.exit 2,⟨[],[(1,.val aZ),(5,.at 2000005 []),(6,.val (.int .i64)),(8,.ptr 8 []),(9,.at 2000009 []),(15,.val cd),(16,.val (.int .i64)),(17,.val (.int .i64))],[(8,some 81,ba),(2000005,none,aP),(2000009,none,aP)]⟩)],wF k k⟩
def sx (k:Nat):Nat→(List Int)→Int→bR→Int→Int→(List Int)→Option oV
 |0,_,_,_,_,_,_=>none
 |n+1,t1,t6,t15,t16,t17,e0 =>
  bif (decide (t17<t16)) then
  if 0≤t17∧t17<(length t15:Int) then
  let x2:=(getD t15 (toNat t17) (([]:(List Int)),(([]:(List Int)),(([]:(List Int)),(([]:cA),((0:Int),()))))))
  let x3:=(List.set (replicate 1 (0:Int)) 0 x2.2.2.2.2.1)
  (sw k k t1 t6 t15 t16 t17 x2.2.2.1 (length x2.2.2.1:Int) (0:Int) x2 e0 x3).bind fun r7 =>
  (F78 k r7.2.2.2.1).bind fun r16 =>
  let x17:=(List.set (replicate 1 (0:Int)) 0 r16.1.1)
  if (length r7.2.2.1+length x17)*(8*2)≤281474976710656∧length r7.2.2.1+length x17≤9223372036854775807 then
  let x18:=(wrap .i64 (r7.1.2.1+(length r7.2.1.1:Int)))
  (sx k n r7.1.1 x18 r7.1.2.2.1 r7.1.2.2.2.1 (wrap .i64 (r7.1.2.2.2.2.1+(1:Int))) (r7.2.2.1++x17)).bind some
  else none
  else none
  else
  some ((),(e0,()))
def po:aE:=⟨[(5,aP)],[(1,.val aZ),(5,.at 2000005 []),(6,.val (.int .i64)),(15,.val cd),(16,.val (.int .i64)),(17,.val (.int .i64))],[(2000005,none,aP)]⟩
def wH (k m:Nat) (v:po.V):=sx k m v.1.1 v.1.2.1 v.1.2.2.1 v.1.2.2.2.1 v.1.2.2.2.2.1 v.2.1
def wI (k:Nat):aL:=⟨po,[(.exit 0,⟨[(5,aP)],[(5,.at 2000005 [])],[(2000005,none,aP)]⟩)],wH k k⟩
def F52 (k:Nat) (a0:uO) (a1:(List Int)):Option kn :=
 if (Option.isSome a0)=true then
 if (Option.isSome a0)=true then
 let x1:=(Option.getD a0 (((none:AY),(([]:(List (List Int))),())),(([]:bR),(([]:(List (List Bool))),())))).2.1
 (sx k k a1 (0:Int) x1 (length x1:Int) (0:Int) []).bind fun r19 =>
 some ((r19.2.1,()),())
 else none
 else none
def A6 (k:Nat):ap:=⟨[.val KD7,.val aZ],[.own aP],fun x=>F52 k x.1 x.2.1⟩
def sy:Lim:=⟨56,2,false,false,[],[]⟩
def C9 (k:Nat):Nat→Option ap:=aW [(78,pe k),(79,pb k)]
noncomputable def NF:Code:=ac (ab Try.f52) [.r,.r,.r,.l,.r,.s,.b,.r,.r,.l,.s,.r,.r,.l,.r,.s]
noncomputable def XJ:Code:=ac (ab Try.f52) [.r,.r,.r,.l,.r,.s,.b,.r,.r,.l,.s,.r,.r,.l,.r,.s,.b]
noncomputable def NG:Code:=ac (ab Try.f52) [.r,.r,.r,.l,.r,.s]
noncomputable def XK:Code:=ac (ab Try.f52) [.r,.r,.r,.l,.r,.s,.b]
noncomputable def co52:Code:=ac (ab Try.f52) []
theorem uS (k:Nat):aR Try.prog (C9 k):=ah (v78 k) (ah (v79 k) (aD))
noncomputable def E3 (k m:Nat) (v:pm.V):=body Try.prog (ao Try.prog (C9 k) sy) .go XJ (pm.st v) (aH (wG k) (wF k m))
theorem XL (k m:Nat) (v:pm.V):wF k (m+1) v=(E3 k m v).eval∧(E3 k m v).left=(E3 k m v).right:=⟨by kernel_rfl,by kernel_rfl⟩
theorem NH (k:Nat):aC Try.prog sy (wG k) NF :=
 am (by kernel_rfl) (aA (uS k) (aj _) (wF k) k (fun _=>rfl) (fun _=>rfl) (XL k))
def XM (k:Nat):aO:=(.seq .go (.seq .go (.seq (.sub (.seq .go (.seq .go (.seq (.seq .go (.sub (.frag (wG k)))) .go)))) .go)))
noncomputable def E4 (k m:Nat) (v:po.V):=body Try.prog (ao Try.prog (C9 k) sy) (XM k) XK (po.st v) (aH (wI k) (wH k m))
theorem XN (k m:Nat) (v:po.V):wH k (m+1) v=(E4 k m v).eval∧(E4 k m v).left=(E4 k m v).right:=⟨by kernel_rfl,by kernel_rfl⟩
theorem NI (k:Nat):aC Try.prog sy (wI k) NG :=
 am (by kernel_rfl) (aA (uS k) (aG (L:=[(wG k,NF)]) (by kernel_rfl) (.cons (NH k) .nil)) (wH k) k (fun _=>rfl) (fun _=>rfl) (XN k))
def XO (k:Nat):aO:=(.seq .go (.seq .go (.seq .go (.seq (.seq .go (.sub (.frag (wI k)))) .go))))
noncomputable def So (k:Nat) (x:AT (A6 k).ps):=fnT Try.prog (C9 k) sy Try.f52 (ab Try.f52) (XO k) (A6 k) x
theorem a8t (k:Nat) (x:AT (A6 k).ps):(A6 k).impl x=(So k x).eval∧(So k x).left=(So k x).right:=⟨by kernel_rfl,by kernel_rfl⟩
theorem v52 (k:Nat):ai Try.prog 52∧aB Try.prog 52 (A6 k) :=
 aS (n:=sy) (fn:=Try.f52) (p:=(XO k)) (uS k) (by kernel_rfl) (aG (L:=[(wI k,NG)]) (by kernel_rfl) (.cons (NI k) .nil)) (a8t k)
def F63 (k:Nat):Option kn :=
 let x1:=(List.set (List.set (List.set (replicate 3 (0:Int)) 0 (1152921504606846976:Int)) 1 (1152921504606846976:Int)) 2 (1152921504606846976:Int))
 some ((x1,()),())
def uT (k:Nat):ap:=⟨[],[.val (.arr 3 (.int .i64))],fun x=>F63 k⟩
def US:Lim:=⟨2,0,false,false,[],[]⟩
def UT (k:Nat):Nat→Option ap:=aW []
noncomputable def co63:Code:=ac (ab Try.f63) []
theorem Sp (k:Nat):aR Try.prog (UT k):=aD
noncomputable def Sr (k:Nat) (x:AT (uT k).ps):=fnT Try.prog (UT k) US Try.f63 (ab Try.f63) .go (uT k) x
theorem a9t (k:Nat) (x:AT (uT k).ps):(uT k).impl x=(Sr k x).eval∧(Sr k x).left=(Sr k x).right:=⟨by kernel_rfl,by kernel_rfl⟩
theorem v63 (k:Nat):ai Try.prog 63∧aB Try.prog 63 (uT k) :=
 aS (n:=US) (fn:=Try.f63) (p:=.go) (Sp k) (by kernel_rfl) (aj _) (a9t k)
def im (k:Nat):Nat→(List Int)→(List Bool)→kp→Int→Int→(List Int)→(List Int)→Option ((Unit×Lr))
 |0,_,_,_,_,_,_,_=>none
 |n+1,t1,t2,t11,t12,t13,c6,c7 =>
  bif (decide (t13<t12)) then
  if 0≤t13∧t13<(length t11:Int) then
  let x10:=(getD t11 (toNat t13) ((0:Int),((0:Int),((ae.mk ((0:Int),((0:Int),((0:Int),((0:Int),(ByteArray.empty,()))))) []),((ae.mk ((0:Int),((0:Int),((0:Int),((0:Int),(ByteArray.empty,()))))) []),())))))
  let x13:=(decide (t13<(length t2:Int)))
  bif x13 then
  if 0≤t13∧t13<(length t2:Int) then
  bif (getD t2 (toNat t13) false) then
  let x14:=(decide (t13<(length t1:Int)))
  bif x14 then
  bif (decide (x10.1≥(0:Int))) then
  bif (decide (x10.1<(3:Int))) then
  if 0≤x10.1∧x10.1<((3:Nat):Int) then
  if 0≤t13∧t13<(length t1:Int) then
  (F79 k x10.2.1 (getD t1 (toNat t13) (0:Int))).bind fun r15 =>
  let x16:=(List.set (List.set (replicate 2 (0:Int)) 0 (getD c7 (toNat x10.1) (0:Int))) 1 r15.1.1)
  (F78 k x16).bind fun r17 =>
  if 0≤x10.1∧x10.1<((3:Nat):Int) then
  (im k n t1 t2 t11 t12 (wrap .i64 (t13+(1:Int))) c6 (List.set c7 (toNat x10.1) r17.1.1)).bind some
  else none
  else none
  else none
  else
  (im k n t1 t2 t11 t12 (wrap .i64 (t13+(1:Int))) c6 c7).bind some
  else
  (im k n t1 t2 t11 t12 (wrap .i64 (t13+(1:Int))) c6 c7).bind some
  else
  (im k n t1 t2 t11 t12 (wrap .i64 (t13+(1:Int))) c6 c7).bind some
  else
  (im k n t1 t2 t11 t12 (wrap .i64 (t13+(1:Int))) c6 c7).bind some
  else none
  else
  (im k n t1 t2 t11 t12 (wrap .i64 (t13+(1:Int))) c6 c7).bind some
  else none
  else
  some ((),(c6,c7,()))
def pq:aE:=⟨[],[(1,.val aZ),(2,.val uM),(6,.ptr 6 []),(7,.ptr 7 []),(11,.val mO),(12,.val (.int .i64)),(13,.val (.int .i64))],[(6,some 69,(.arr 3 (.int .i64))),(7,some 69,(.arr 3 (.int .i64)))]⟩
def wJ (k m:Nat) (v:pq.V):=im k m v.1.1 v.1.2.1 v.1.2.2.1 v.1.2.2.2.1 v.1.2.2.2.2.1 v.2.1 v.2.2.1
def wK (k:Nat):aL:=⟨pq,[(.exit 0,⟨[],[(6,.ptr 6 []),(7,.ptr 7 [])],[(6,some 69,(.arr 3 (.int .i64))),(7,some 69,(.arr 3 (.int .i64)))]⟩)],wJ k k⟩
def F53 (k:Nat) (a0:kp) (a1:(List Int)) (a2:(List Bool)):Option kn :=
 (F63 k).bind fun r1 =>
 (im k k a1 a2 a0 (length a0:Int) (0:Int) (replicate 3 (0:Int)) r1.1.1).bind fun r18 =>
 some ((r18.2.2.1,()),())
def A7 (k:Nat):ap:=⟨[.val mO,.val aZ,.val uM],[.val (.arr 3 (.int .i64))],fun x=>F53 k x.1 x.2.1 x.2.2.1⟩
def Da:Lim:=⟨62,3,false,false,[],[]⟩
def Lz (k:Nat):Nat→Option ap:=aW [(63,uT k),(78,pe k),(79,pb k)]
noncomputable def NJ:Code:=ac (ab Try.f53) [.r,.r,.l,.r,.s]
noncomputable def XP:Code:=ac (ab Try.f53) [.r,.r,.l,.r,.s,.b]
noncomputable def co53:Code:=ac (ab Try.f53) []
theorem E5 (k:Nat):aR Try.prog (Lz k):=ah (v63 k) (ah (v78 k) (ah (v79 k) (aD)))
noncomputable def E6 (k m:Nat) (v:pq.V):=body Try.prog (ao Try.prog (Lz k) Da) .go XP (pq.st v) (aH (wK k) (wJ k m))
theorem XQ (k m:Nat) (v:pq.V):wJ k (m+1) v=(E6 k m v).eval∧(E6 k m v).left=(E6 k m v).right:=⟨by kernel_rfl,by kernel_rfl⟩
theorem NK (k:Nat):aC Try.prog Da (wK k) NJ :=
 am (by kernel_rfl) (aA (E5 k) (aj _) (wJ k) k (fun _=>rfl) (fun _=>rfl) (XQ k))
def XR (k:Nat):aO:=(.seq .go (.seq .go (.seq (.seq .go (.sub (.frag (wK k)))) .go)))
noncomputable def Ss (k:Nat) (x:AT (A7 k).ps):=fnT Try.prog (Lz k) Da Try.f53 (ab Try.f53) (XR k) (A7 k) x
theorem a0u (k:Nat) (x:AT (A7 k).ps):(A7 k).impl x=(Ss k x).eval∧(Ss k x).left=(Ss k x).right:=⟨by kernel_rfl,by kernel_rfl⟩
theorem v53 (k:Nat):ai Try.prog 53∧aB Try.prog 53 (A7 k) :=
 aS (n:=Da) (fn:=Try.f53) (p:=(XR k)) (E5 k) (by kernel_rfl) (aG (L:=[(wK k,NJ)]) (by kernel_rfl) (.cons (NK k) .nil)) (a0u k)
def F54 (k:Nat) (a0:(List Int)):Option kn :=
 bif ((length a0:Int)==0) then
 some (([],()),())
 else
 if (length (replicate 0 (0:Int))+length a0)*(8*2)≤281474976710656∧length (replicate 0 (0:Int))+length a0≤9223372036854775807 then
 some ((((replicate 0 (0:Int))++a0),()),())
 else none
def mS (k:Nat):ap:=⟨[.val aZ],[.own aP],fun x=>F54 k x.1⟩
def a8q:Lim:=⟨8,1,true,false,[],[]⟩
def UU (k:Nat):Nat→Option ap:=aW []
noncomputable def co54:Code:=ac (ab Try.f54) []
theorem Su (k:Nat):aR Try.prog (UU k):=aD
def XS (k:Nat):aO:=.go
noncomputable def Sv (k:Nat) (x:AT (mS k).ps):=fnT Try.prog (UU k) a8q Try.f54 (ab Try.f54) (XS k) (mS k) x
theorem ev54 (k:Nat) (x:AT (mS k).ps):(mS k).impl x=(Sv k x).eval:=by kernel_rfl
theorem a1u (k:Nat) (x:AT (mS k).ps):(Sv k x)=(Tr.split ((length x.1:Int)==0) (.both (.split true (.leaf (([],()),())) (.need ((length (replicate 0 (0:Int))+length x.1)*(8*2)≤281474976710656∧length (replicate 0 (0:Int))+length x.1≤9223372036854775807) (.leaf (([]++x.1,()),())))) (.split false (.leaf (([],()),())) (.need ((length (replicate 0 (0:Int))+length x.1)*(8*2)≤281474976710656∧length (replicate 0 (0:Int))+length x.1≤9223372036854775807) (.leaf (([]++x.1,()),()))))) (.split false (.leaf (([],()),())) (.need ((length (replicate 0 (0:Int))+length x.1)*(8*2)≤281474976710656∧length (replicate 0 (0:Int))+length x.1≤9223372036854775807) (.leaf (([]++x.1,()),()))))):=by kernel_rfl
theorem a2u (k:Nat) (x:AT (mS k).ps) (r) (h:(mS k).impl x=some r):(Sv k x).sat (·=r):=kQ (a1u k x) (kR (a:=x.1) (p:=(length (replicate 0 (0:Int))+length x.1)*(8*2)≤281474976710656∧length (replicate 0 (0:Int))+length x.1≤9223372036854775807) (fun e=>by rw[e]; simp) h)
theorem v54 (k:Nat):ai Try.prog 54∧aB Try.prog 54 (mS k) :=
 oQ (Su k) (f:=54) (fn:=Try.f54) (by kernel_rfl) (c:=ab Try.f54) (by kernel_rfl) (by kernel_rfl) rfl rfl (Nat.le_of_ble_eq_true rfl) (Nat.le_of_ble_eq_true rfl) (p:=XS k) (aj _) fun x r h=>a2u k x r h
def F55 (k:Nat) (a0:(List (List Int))):Option bC :=
 bif ((length a0:Int)==0) then
 some (([],()),())
 else
 if (length (replicate 0 (replicate 3 (0:Int)))+length a0)*(24*2)≤281474976710656∧length (replicate 0 (replicate 3 (0:Int)))+length a0≤9223372036854775807 then
 some ((((replicate 0 (replicate 3 (0:Int)))++a0),()),())
 else none
def lF (k:Nat):ap:=⟨[.val (.sl false 69 (.arr 3 (.int .i64)) none)],[.own (.sl true 69 (.arr 3 (.int .i64)) none)],fun x=>F55 k x.1⟩
def a9q:Lim:=⟨8,1,true,false,[],[]⟩
def UV (k:Nat):Nat→Option ap:=aW []
noncomputable def co55:Code:=ac (ab Try.f55) []
theorem Sw (k:Nat):aR Try.prog (UV k):=aD
def XT (k:Nat):aO:=.go
noncomputable def Sx (k:Nat) (x:AT (lF k).ps):=fnT Try.prog (UV k) a9q Try.f55 (ab Try.f55) (XT k) (lF k) x
theorem ev55 (k:Nat) (x:AT (lF k).ps):(lF k).impl x=(Sx k x).eval:=by kernel_rfl
theorem a3u (k:Nat) (x:AT (lF k).ps):(Sx k x)=(Tr.split ((length x.1:Int)==0) (.both (.split true (.leaf (([],()),())) (.need ((length (replicate 0 (replicate 3 (0:Int)))+length x.1)*(24*2)≤281474976710656∧length (replicate 0 (replicate 3 (0:Int)))+length x.1≤9223372036854775807) (.leaf (([]++x.1,()),())))) (.split false (.leaf (([],()),())) (.need ((length (replicate 0 (replicate 3 (0:Int)))+length x.1)*(24*2)≤281474976710656∧length (replicate 0 (replicate 3 (0:Int)))+length x.1≤9223372036854775807) (.leaf (([]++x.1,()),()))))) (.split false (.leaf (([],()),())) (.need ((length (replicate 0 (replicate 3 (0:Int)))+length x.1)*(24*2)≤281474976710656∧length (replicate 0 (replicate 3 (0:Int)))+length x.1≤9223372036854775807) (.leaf (([]++x.1,()),()))))):=by kernel_rfl
theorem a4u (k:Nat) (x:AT (lF k).ps) (r) (h:(lF k).impl x=some r):(Sx k x).sat (·=r):=kQ (a3u k x) (kR (a:=x.1) (p:=(length (replicate 0 (replicate 3 (0:Int)))+length x.1)*(24*2)≤281474976710656∧length (replicate 0 (replicate 3 (0:Int)))+length x.1≤9223372036854775807) (fun e=>by rw[e]; simp) h)
theorem v55 (k:Nat):ai Try.prog 55∧aB Try.prog 55 (lF k) :=
 oQ (Sw k) (f:=55) (fn:=Try.f55) (by kernel_rfl) (c:=ab Try.f55) (by kernel_rfl) (by kernel_rfl) rfl rfl (Nat.le_of_ble_eq_true rfl) (Nat.le_of_ble_eq_true rfl) (p:=XT k) (aj _) fun x r h=>a4u k x r h
def F56 (k:Nat) (a0:(List (List Int))):Option bC :=
 bif ((length a0:Int)==0) then
 some (([],()),())
 else
 if (length (replicate 0 ([]:(List Int)))+length a0)*(24*2)≤281474976710656∧length (replicate 0 ([]:(List Int)))+length a0≤9223372036854775807 then
 some ((((replicate 0 ([]:(List Int)))++a0),()),())
 else none
def mT (k:Nat):ap:=⟨[.own bj],[.own bj],fun x=>F56 k x.1⟩
def a0r:Lim:=⟨8,1,true,false,[],[]⟩
def UW (k:Nat):Nat→Option ap:=aW []
noncomputable def co56:Code:=ac (ab Try.f56) []
theorem Sy (k:Nat):aR Try.prog (UW k):=aD
def XU (k:Nat):aO:=.go
noncomputable def Sz (k:Nat) (x:AT (mT k).ps):=fnT Try.prog (UW k) a0r Try.f56 (ab Try.f56) (XU k) (mT k) x
theorem ev56 (k:Nat) (x:AT (mT k).ps):(mT k).impl x=(Sz k x).eval:=by kernel_rfl
theorem a5u (k:Nat) (x:AT (mT k).ps):(Sz k x)=(Tr.split ((length x.1:Int)==0) (.both (.split true (.leaf (([],()),())) (.need ((length (replicate 0 ([]:(List Int)))+length x.1)*(24*2)≤281474976710656∧length (replicate 0 ([]:(List Int)))+length x.1≤9223372036854775807) (.leaf (([]++x.1,()),())))) (.split false (.leaf (([],()),())) (.need ((length (replicate 0 ([]:(List Int)))+length x.1)*(24*2)≤281474976710656∧length (replicate 0 ([]:(List Int)))+length x.1≤9223372036854775807) (.leaf (([]++x.1,()),()))))) (.split false (.leaf (([],()),())) (.need ((length (replicate 0 ([]:(List Int)))+length x.1)*(24*2)≤281474976710656∧length (replicate 0 ([]:(List Int)))+length x.1≤9223372036854775807) (.leaf (([]++x.1,()),()))))):=by kernel_rfl
theorem a6u (k:Nat) (x:AT (mT k).ps) (r) (h:(mT k).impl x=some r):(Sz k x).sat (·=r):=kQ (a5u k x) (kR (a:=x.1) (p:=(length (replicate 0 ([]:(List Int)))+length x.1)*(24*2)≤281474976710656∧length (replicate 0 ([]:(List Int)))+length x.1≤9223372036854775807) (fun e=>by rw[e]; simp) h)
theorem v56 (k:Nat):ai Try.prog 56∧aB Try.prog 56 (mT k) :=
 oQ (Sy k) (f:=56) (fn:=Try.f56) (by kernel_rfl) (c:=ab Try.f56) (by kernel_rfl) (by kernel_rfl) rfl rfl (Nat.le_of_ble_eq_true rfl) (Nat.le_of_ble_eq_true rfl) (p:=XU k) (aj _) fun x r h=>a6u k x r h
def F57 (k:Nat) (a0:(List (List (List Int)))):Option (((List (List (List Int)))×Unit)×Unit) :=
 bif ((length a0:Int)==0) then
 some (([],()),())
 else
 if (length (replicate 0 ([]:(List (List Int))))+length a0)*(24*2)≤281474976710656∧length (replicate 0 ([]:(List (List Int))))+length a0≤9223372036854775807 then
 some ((((replicate 0 ([]:(List (List Int))))++a0),()),())
 else none
def mU (k:Nat):ap:=⟨[.own (.sl true 56 (.sl true 69 (.arr 3 (.int .i64)) none) none)],[.own (.sl true 56 (.sl true 69 (.arr 3 (.int .i64)) none) none)],fun x=>F57 k x.1⟩
def a1r:Lim:=⟨8,1,true,false,[],[]⟩
def UX (k:Nat):Nat→Option ap:=aW []
noncomputable def co57:Code:=ac (ab Try.f57) []
theorem SA (k:Nat):aR Try.prog (UX k):=aD
def XV (k:Nat):aO:=.go
noncomputable def SB (k:Nat) (x:AT (mU k).ps):=fnT Try.prog (UX k) a1r Try.f57 (ab Try.f57) (XV k) (mU k) x
theorem ev57 (k:Nat) (x:AT (mU k).ps):(mU k).impl x=(SB k x).eval:=by kernel_rfl
theorem a7u (k:Nat) (x:AT (mU k).ps):(SB k x)=(Tr.split ((length x.1:Int)==0) (.both (.split true (.leaf (([],()),())) (.need ((length (replicate 0 ([]:(List (List Int))))+length x.1)*(24*2)≤281474976710656∧length (replicate 0 ([]:(List (List Int))))+length x.1≤9223372036854775807) (.leaf (([]++x.1,()),())))) (.split false (.leaf (([],()),())) (.need ((length (replicate 0 ([]:(List (List Int))))+length x.1)*(24*2)≤281474976710656∧length (replicate 0 ([]:(List (List Int))))+length x.1≤9223372036854775807) (.leaf (([]++x.1,()),()))))) (.split false (.leaf (([],()),())) (.need ((length (replicate 0 ([]:(List (List Int))))+length x.1)*(24*2)≤281474976710656∧length (replicate 0 ([]:(List (List Int))))+length x.1≤9223372036854775807) (.leaf (([]++x.1,()),()))))):=by kernel_rfl
theorem a8u (k:Nat) (x:AT (mU k).ps) (r) (h:(mU k).impl x=some r):(SB k x).sat (·=r):=kQ (a7u k x) (kR (a:=x.1) (p:=(length (replicate 0 ([]:(List (List Int))))+length x.1)*(24*2)≤281474976710656∧length (replicate 0 ([]:(List (List Int))))+length x.1≤9223372036854775807) (fun e=>by rw[e]; simp) h)
theorem v57 (k:Nat):ai Try.prog 57∧aB Try.prog 57 (mU k) :=
 oQ (SA k) (f:=57) (fn:=Try.f57) (by kernel_rfl) (c:=ab Try.f57) (by kernel_rfl) (by kernel_rfl) rfl rfl (Nat.le_of_ble_eq_true rfl) (Nat.le_of_ble_eq_true rfl) (p:=XV k) (aj _) fun x r h=>a8u k x r h
def jK (k:Nat):Nat→kp→Int→(List (List Bool))→Int→Int→Int→Int→fW→fW→oZ→(List Int)→Option ((Xj×(fW×fW×oZ×(List Int)×Unit))⊕Xc)
 |0,_,_,_,_,_,_,_,_,_,_,_=>none
 |n+1,t0,t3,t4,t5,t16,t58,t59,c12,c15,c30,e0 =>
  bif (decide (t59<t58)) then
  if 0≤t16∧t16<(length c30.1.2.1:Int) then
  (F51 k (some c30) (getD c30.1.2.1 (toNat t16) ([]:(List Int))) t59).bind fun r6 =>
  (F48 k c30 r6.1.1).bind fun r7 =>
  let x8:=(List.set (replicate 1 (0:Int)) 0 r7.1.1)
  if (length e0+length x8)*(8*2)≤281474976710656∧length e0+length x8≤9223372036854775807 then
  let x9:=(decide ((length r7.2.1.1.2.1:Int)>t5))
  bif x9 then
  some (.inr (((4:Int),()),((([]:(List (List Int))),(([]:(List (List (List Int)))),())),())))
  else
  (jK k n t0 t3 t4 t5 t16 t58 (wrap .i64 (t59+(1:Int))) c12 c15 r7.2.1 (e0++x8)).bind some
  else none
  else none
  else
  some (.inl ((t0,t3,t4,t5,t16,()),(c12,c15,c30,e0,())))
def pr:aE:=⟨[(17,aP)],[(0,.val mO),(3,.val (.int .i64)),(4,.val bJ),(5,.val (.int .i64)),(12,.ptr 12 []),(14,.ptr 30 []),(15,.ptr 15 []),(16,.val (.int .i64)),(17,.at 2000017 []),(58,.val (.int .i64)),(59,.val (.int .i64))],[(12,some 45,(.pair bj (.pair (.sl true 56 (.sl true 69 (.arr 3 (.int .i64)) none) none) .unit))),(15,some 45,(.pair bj (.pair (.sl true 56 (.sl true 69 (.arr 3 (.int .i64)) none) none) .unit))),(30,some 106,KD9),(2000017,none,aP)]⟩
def wL (k m:Nat) (v:pr.V):=jK k m v.1.1 v.1.2.1 v.1.2.2.1 v.1.2.2.2.1 v.1.2.2.2.2.1 v.1.2.2.2.2.2.1 v.1.2.2.2.2.2.2.1 v.2.1 v.2.2.1 v.2.2.2.1 v.2.2.2.2.1
def wM (k:Nat):aL:=⟨pr,[(.exit 2,⟨[(17,aP)],[(0,.val mO),(3,.val (.int .i64)),(4,.val bJ),(5,.val (.int .i64)),(12,.ptr 12 []),(14,.ptr 30 []),(15,.ptr 15 []),(16,.val (.int .i64)),(17,.at 2000017 [])],[(12,some 45,(.pair bj (.pair (.sl true 56 (.sl true 69 (.arr 3 (.int .i64)) none) none) .unit))),(15,some 45,(.pair bj (.pair (.sl true 56 (.sl true 69 (.arr 3 (.int .i64)) none) none) .unit))),(30,some 106,KD9),(2000017,none,aP)]⟩),(.ret,⟨[],[(12,.ptr 12 []),(13,.val (.int .i64))],[(12,some 45,(.pair bj (.pair (.sl true 56 (.sl true 69 (.arr 3 (.int .i64)) none) none) .unit)))]⟩)],wL k k⟩
def sA (k:Nat):Nat→kp→Int→(List (List Bool))→Int→Int→(List (List Bool))→Int→Int→fW→fW→oZ→(List Int)→(List Int)→(List (List Int))→Option ((Xj×(fW×fW×oZ×(List Int)×(List (List Int))×Unit)))
 |0,_,_,_,_,_,_,_,_,_,_,_,_,_,_=>none
 |n+1,t0,t3,t4,t5,t16,t100,t101,t102,c12,c15,c30,e0,e1,e2 =>
  bif (decide (t102<t101)) then
  if 0≤t102∧t102<(length t100:Int) then
  let x22:=(getD t100 (toNat t102) ([]:(List Bool)))
  (F53 k t0 e0 x22).bind fun r23 =>
  let x24:=(List.set (replicate 1 (replicate 3 (0:Int))) 0 r23.1.1)
  if (length e2+length x24)*(24*2)≤281474976710656∧length e2+length x24≤9223372036854775807 then
  (sA k n t0 t3 t4 t5 t16 t100 t101 (wrap .i64 (t102+(1:Int))) c12 c15 c30 e0 e1 (e2++x24)).bind some
  else none
  else none
  else
  some ((t0,t3,t4,t5,t16,()),(c12,c15,c30,e1,e2,()))
def pt:aE:=⟨[(20,(.sl true 69 (.arr 3 (.int .i64)) none))],[(0,.val mO),(3,.val (.int .i64)),(4,.val bJ),(5,.val (.int .i64)),(12,.ptr 12 []),(14,.ptr 30 []),(15,.ptr 15 []),(16,.val (.int .i64)),(17,.at 2000017 []),(19,.at 1001584 []),(20,.at 2000020 []),(100,.val bJ),(101,.val (.int .i64)),(102,.val (.int .i64))],[(12,some 45,(.pair bj (.pair (.sl true 56 (.sl true 69 (.arr 3 (.int .i64)) none) none) .unit))),(15,some 45,(.pair bj (.pair (.sl true 56 (.sl true 69 (.arr 3 (.int .i64)) none) none) .unit))),(30,some 106,KD9),(1001584,none,aP),(2000017,none,aP),(2000020,none,(.sl true 69 (.arr 3 (.int .i64)) none))]⟩
def wN (k m:Nat) (v:pt.V):=sA k m v.1.1 v.1.2.1 v.1.2.2.1 v.1.2.2.2.1 v.1.2.2.2.2.1 v.1.2.2.2.2.2.1 v.1.2.2.2.2.2.2.1 v.1.2.2.2.2.2.2.2.1 v.2.1 v.2.2.1 v.2.2.2.1 v.2.2.2.2.1 v.2.2.2.2.2.1 v.2.2.2.2.2.2.1
def wO (k:Nat):aL:=⟨pt,[(.exit 4,⟨[(20,(.sl true 69 (.arr 3 (.int .i64)) none))],[(0,.val mO),(3,.val (.int .i64)),(4,.val bJ),(5,.val (.int .i64)),(12,.ptr 12 []),(14,.ptr 30 []),(15,.ptr 15 []),(16,.val (.int .i64)),(17,.at 2000017 []),(20,.at 2000020 [])],[(12,some 45,(.pair bj (.pair (.sl true 56 (.sl true 69 (.arr 3 (.int .i64)) none) none) .unit))),(15,some 45,(.pair bj (.pair (.sl true 56 (.sl true 69 (.arr 3 (.int .i64)) none) none) .unit))),(30,some 106,KD9),(2000017,none,aP),(2000020,none,(.sl true 69 (.arr 3 (.int .i64)) none))]⟩)],wN k k⟩
def wP (k:Nat):Nat→kp→Int→(List (List Bool))→Int→Int→fW→fW→oZ→Option ((Unit×(fW×fW×Unit))⊕Xc)
 |0,_,_,_,_,_,_,_,_=>none
 |n+1,t0,t3,t4,t5,t16,c12,c15,c30 =>
  let x4:=(decide (t16<(length c30.1.2.1:Int)))
  bif x4 then
  let x5:=(decide ((length c30.1.2.1:Int)>t5))
  bif x5 then
  some (.inr (((4:Int),()),((([]:(List (List Int))),(([]:(List (List (List Int)))),())),())))
  else
  (jK k k t0 t3 t4 t5 t16 (bZ t3 (0:Int)) (0:Int) c12 c15 c30 []).bind fun r10 =>
  match r10 with
  |.inl r11 =>
   let y16:=r11.1.2.2.2.2.1
   let y19:=r11.2.2.2.1
   if 0≤y16∧y16<(length y19.1.2.1:Int) then
   (F52 k (some y19) (getD y19.1.2.1 (toNat y16) ([]:(List Int)))).bind fun r21 =>
   (sA k k r11.1.1 r11.1.2.1 r11.1.2.2.1 r11.1.2.2.2.1 y16 r11.1.2.2.1 (length r11.1.2.2.1:Int) (0:Int) r11.2.1 r11.2.2.1 y19 r21.1.1 r11.2.2.2.2.1 []).bind fun r25 =>
   let y32:=r25.2.2.1
   (F54 k r25.2.2.2.2.1).bind fun r36 =>
   if (length y32.1+length [r36.1.1])*(24*2)≤281474976710656∧length y32.1+length [r36.1.1]≤9223372036854775807 then
   (F55 k r25.2.2.2.2.2.1).bind fun r37 =>
   if (length y32.2.1+length [r37.1.1])*(24*2)≤281474976710656∧length y32.2.1+length [r37.1.1]≤9223372036854775807 then
   (wP k n r25.1.1 r25.1.2.1 r25.1.2.2.1 r25.1.2.2.2.1 (wrap .i64 (r25.1.2.2.2.2.1+(1:Int))) r25.2.1 ((y32.1++[r36.1.1]),((y32.2.1++[r37.1.1]),y32.2.2)) r25.2.2.2.1).bind some
   else none
   else none
   else none
  |.inr r11 =>
   some (.inr ((r11.1.1,()),(r11.2.1,())))
  else
  some (.inl ((),(c12,c15,())))
def pu:aE:=⟨[],[(0,.val mO),(3,.val (.int .i64)),(4,.val bJ),(5,.val (.int .i64)),(12,.ptr 12 []),(14,.ptr 30 []),(15,.ptr 15 []),(16,.val (.int .i64))],[(12,some 45,(.pair bj (.pair (.sl true 56 (.sl true 69 (.arr 3 (.int .i64)) none) none) .unit))),(15,some 45,(.pair bj (.pair (.sl true 56 (.sl true 69 (.arr 3 (.int .i64)) none) none) .unit))),(30,some 106,KD9)]⟩
def wQ (k m:Nat) (v:pu.V):=wP k m v.1.1 v.1.2.1 v.1.2.2.1 v.1.2.2.2.1 v.1.2.2.2.2.1 v.2.1 v.2.2.1 v.2.2.2.1
def wR (k:Nat):aL:=⟨pu,[(.exit 0,⟨[],[(12,.ptr 12 []),(15,.ptr 15 [])],[(12,some 45,(.pair bj (.pair (.sl true 56 (.sl true 69 (.arr 3 (.int .i64)) none) none) .unit))),(15,some 45,(.pair bj (.pair (.sl true 56 (.sl true 69 (.arr 3 (.int .i64)) none) none) .unit)))]⟩),(.ret,⟨[],[(12,.ptr 12 []),(13,.val (.int .i64))],[(12,some 45,(.pair bj (.pair (.sl true 56 (.sl true 69 (.arr 3 (.int .i64)) none) none) .unit)))]⟩)],wQ k k⟩
def F19 (k:Nat) (a0:kp) (a1:bR) (a2:(List (List Bool))) (a3:Int) (a4:(List (List Bool))) (a5:Int):Option ((fW×Int×Unit)×Unit) :=
 (F50 k a1).bind fun r1 =>
 (F49 k r1.1.1).bind fun r2 =>
 (F48 k (((some []:Option (List (ByteArray×Int))),(([]:(List (List Int))),())),(a1,(a2,()))) r2.1.1).bind fun r3 =>
 (wP k k a0 a3 a4 (aK a5 (100000:Int)) (0:Int) (([]:(List (List Int))),(([]:(List (List (List Int)))),())) (([]:(List (List Int))),(([]:(List (List (List Int)))),())) r3.2.1).bind fun r40 =>
 match r40 with
 |.inl r41 =>
  (F56 k r41.2.2.1.1).bind fun r44 =>
  (F57 k r41.2.2.1.2.1).bind fun r45 =>
  some (((r44.1.1,(r45.1.1,())),(0:Int),()),())
 |.inr r41 =>
  some ((r41.2.1,r41.1.1,()),())
def uU (k:Nat):ap:=⟨[.val mO,.val cd,.val bJ,.val (.int .i64),.val bJ,.val (.int .i64)],[.own (.pair bj (.pair (.sl true 56 (.sl true 69 (.arr 3 (.int .i64)) none) none) .unit)),.val (.int .i64)],fun x=>F19 k x.1 x.2.1 x.2.2.1 x.2.2.2.1 x.2.2.2.2.1 x.2.2.2.2.2.1⟩
def kT:Lim:=⟨135,6,false,false,[],[]⟩
def wS (k:Nat):Nat→Option ap:=aW [(48,A3 k),(49,uQ k),(50,A1 k),(51,A5 k),(52,A6 k),(53,A7 k),(54,mS k),(55,lF k),(56,mT k),(57,mU k)]
noncomputable def NL:Code:=ac (ab Try.f19) [.r,.r,.r,.r,.r,.l,.r,.s,.b,.r,.l,.s,.r,.r,.l,.r,.s]
noncomputable def XW:Code:=ac (ab Try.f19) [.r,.r,.r,.r,.r,.l,.r,.s,.b,.r,.l,.s,.r,.r,.l,.r,.s,.b]
noncomputable def NM:Code:=ac (ab Try.f19) [.r,.r,.r,.r,.r,.l,.r,.s,.b,.r,.l,.s,.r,.r,.r,.r,.r,.l,.r,.s]
noncomputable def XX:Code:=ac (ab Try.f19) [.r,.r,.r,.r,.r,.l,.r,.s,.b,.r,.l,.s,.r,.r,.r,.r,.r,.l,.r,.s,.b]
noncomputable def NN:Code:=ac (ab Try.f19) [.r,.r,.r,.r,.r,.l,.r,.s]
noncomputable def XY:Code:=ac (ab Try.f19) [.r,.r,.r,.r,.r,.l,.r,.s,.b]
noncomputable def co19:Code:=ac (ab Try.f19) []
theorem mV (k:Nat):aR Try.prog (wS k):=ah (v48 k) (ah (v49 k) (ah (v50 k) (ah (v51 k) (ah (v52 k) (ah (v53 k) (ah (v54 k) (ah (v55 k) (ah (v56 k) (ah (v57 k) (aD))))))))))
noncomputable def E7 (k m:Nat) (v:pr.V):=body Try.prog (ao Try.prog (wS k) kT) .go XW (pr.st v) (aH (wM k) (wL k m))
theorem XZ (k m:Nat) (v:pr.V):wL k (m+1) v=(E7 k m v).eval∧(E7 k m v).left=(E7 k m v).right:=⟨by kernel_rfl,by kernel_rfl⟩
theorem NO (k:Nat):aC Try.prog kT (wM k) NL :=
 am (by kernel_rfl) (aA (mV k) (aj _) (wL k) k (fun _=>rfl) (fun _=>rfl) (XZ k))
noncomputable def E8 (k m:Nat) (v:pt.V):=body Try.prog (ao Try.prog (wS k) kT) .go XX (pt.st v) (aH (wO k) (wN k m))
theorem X0 (k m:Nat) (v:pt.V):wN k (m+1) v=(E8 k m v).eval∧(E8 k m v).left=(E8 k m v).right:=⟨by kernel_rfl,by kernel_rfl⟩
theorem NP (k:Nat):aC Try.prog kT (wO k) NM :=
 am (by kernel_rfl) (aA (mV k) (aj _) (wN k) k (fun _=>rfl) (fun _=>rfl) (X0 k))
def X1 (k:Nat):aO:=(.seq .go (.seq (.sub (.seq .go (.seq .go (.seq (.seq .go (.sub (.frag (wM k)))) (.seq .go (.seq .go (.seq (.seq .go (.sub (.frag (wO k)))) .go))))))) .go))
noncomputable def E9 (k m:Nat) (v:pu.V):=body Try.prog (ao Try.prog (wS k) kT) (X1 k) XY (pu.st v) (aH (wR k) (wQ k m))
theorem X2 (k m:Nat) (v:pu.V):wQ k (m+1) v=(E9 k m v).eval∧(E9 k m v).left=(E9 k m v).right:=⟨by kernel_rfl,by kernel_rfl⟩
theorem NQ (k:Nat):aC Try.prog kT (wR k) NN :=
 am (by kernel_rfl) (aA (mV k) (aG (L:=[(wM k,NL),(wO k,NM)]) (by kernel_rfl) (.cons (NO k) (.cons (NP k) .nil))) (wQ k) k (fun _=>rfl) (fun _=>rfl) (X2 k))
def X3 (k:Nat):aO:=(.seq .go (.seq .go (.seq .go (.seq .go (.seq .go (.seq (.seq .go (.sub (.frag (wR k)))) .go))))))
noncomputable def SC (k:Nat) (x:AT (uU k).ps):=fnT Try.prog (wS k) kT Try.f19 (ab Try.f19) (X3 k) (uU k) x
theorem a9u (k:Nat) (x:AT (uU k).ps):(uU k).impl x=(SC k x).eval∧(SC k x).left=(SC k x).right:=⟨by kernel_rfl,by kernel_rfl⟩
theorem v19 (k:Nat):ai Try.prog 19∧aB Try.prog 19 (uU k) :=
 aS (n:=kT) (fn:=Try.f19) (p:=(X3 k)) (mV k) (by kernel_rfl) (aG (L:=[(wR k,NN)]) (by kernel_rfl) (.cons (NQ k) .nil)) (a9u k)
def bA (k:Nat):Nat→(List Int)→(List Int)→Int→Int→Int→fW→(List (List Int))→Option mN
 |0,_,_,_,_,_,_,_=>none
 |n+1,t1,t2,t8,t13,t14,c3,e0 =>
  bif (decide (t14<t13)) then
  (F63 k).bind fun r2 =>
  bif (decide (t8≥(0:Int))) then
  let x3:=(decide (t8<(length c3.2.1:Int)))
  bif x3 then
  let x4:=(decide (t14<(length t2:Int)))
  bif x4 then
  if 0≤t14∧t14<(length t2:Int) then
  let x5:=(decide ((getD t2 (toNat t14) (0:Int))≥(0:Int)))
  bif x5 then
  if 0≤t14∧t14<(length t2:Int) then
  if 0≤t8∧t8<(length c3.2.1:Int) then
  let x6:=(getD c3.2.1 (toNat t8) ([]:(List (List Int))))
  let x7:=(decide ((getD t2 (toNat t14) (0:Int))<(length x6:Int)))
  bif x7 then
  if 0≤t8∧t8<(length c3.2.1:Int) then
  let x8:=(getD c3.2.1 (toNat t8) ([]:(List (List Int))))
  if 0≤t14∧t14<(length t2:Int) then
  if 0≤(getD t2 (toNat t14) (0:Int))∧(getD t2 (toNat t14) (0:Int))<(length x8:Int) then
  let x9:=(getD x8 (toNat (getD t2 (toNat t14) (0:Int))) ([]:(List Int)))
  let x10:=(List.set (replicate 1 (replicate 3 (0:Int))) 0 x9)
  if (length e0+length x10)*(24*2)≤281474976710656∧length e0+length x10≤9223372036854775807 then
  let x11:=(decide (t14<(length t1:Int)))
  bif x11 then
  bif (decide (t8≥(0:Int))) then
  let x12:=(decide (t8<(length c3.1:Int)))
  bif x12 then
  if 0≤t14∧t14<(length t1:Int) then
  let x13:=(decide ((getD t1 (toNat t14) (0:Int))≥(0:Int)))
  bif x13 then
  if 0≤t14∧t14<(length t1:Int) then
  if 0≤t8∧t8<(length c3.1:Int) then
  let x14:=(getD c3.1 (toNat t8) ([]:(List Int)))
  let x15:=(decide ((getD t1 (toNat t14) (0:Int))<(length x14:Int)))
  bif x15 then
  if 0≤t8∧t8<(length c3.1:Int) then
  let x16:=(getD c3.1 (toNat t8) ([]:(List Int)))
  if 0≤t14∧t14<(length t1:Int) then
  if 0≤(getD t1 (toNat t14) (0:Int))∧(getD t1 (toNat t14) (0:Int))<(length x16:Int) then
  let x17:=(getD x16 (toNat (getD t1 (toNat t14) (0:Int))) (0:Int))
  (bA k n t1 t2 x17 t13 (wrap .i64 (t14+(1:Int))) c3 (e0++x10)).bind some
  else none
  else none
  else none
  else
  (bA k n t1 t2 t8 t13 (wrap .i64 (t14+(1:Int))) c3 (e0++x10)).bind some
  else none
  else none
  else
  (bA k n t1 t2 t8 t13 (wrap .i64 (t14+(1:Int))) c3 (e0++x10)).bind some
  else none
  else
  (bA k n t1 t2 t8 t13 (wrap .i64 (t14+(1:Int))) c3 (e0++x10)).bind some
  else
  (bA k n t1 t2 t8 t13 (wrap .i64 (t14+(1:Int))) c3 (e0++x10)).bind some
  else
  (bA k n t1 t2 t8 t13 (wrap .i64 (t14+(1:Int))) c3 (e0++x10)).bind some
  else none
  else none
  else none
  else none
  else
  let x18:=(List.set (replicate 1 (replicate 3 (0:Int))) 0 r2.1.1)
  if (length e0+length x18)*(24*2)≤281474976710656∧length e0+length x18≤9223372036854775807 then
  let x19:=(decide (t14<(length t1:Int)))
  bif x19 then
  bif (decide (t8≥(0:Int))) then
  let x20:=(decide (t8<(length c3.1:Int)))
  bif x20 then
  if 0≤t14∧t14<(length t1:Int) then
  let x21:=(decide ((getD t1 (toNat t14) (0:Int))≥(0:Int)))
  bif x21 then
  if 0≤t14∧t14<(length t1:Int) then
  if 0≤t8∧t8<(length c3.1:Int) then
  let x22:=(getD c3.1 (toNat t8) ([]:(List Int)))
  let x23:=(decide ((getD t1 (toNat t14) (0:Int))<(length x22:Int)))
  bif x23 then
  if 0≤t8∧t8<(length c3.1:Int) then
  let x24:=(getD c3.1 (toNat t8) ([]:(List Int)))
  if 0≤t14∧t14<(length t1:Int) then
  if 0≤(getD t1 (toNat t14) (0:Int))∧(getD t1 (toNat t14) (0:Int))<(length x24:Int) then
  let x25:=(getD x24 (toNat (getD t1 (toNat t14) (0:Int))) (0:Int))
  (bA k n t1 t2 x25 t13 (wrap .i64 (t14+(1:Int))) c3 (e0++x18)).bind some
  else none
  else none
  else none
  else
  (bA k n t1 t2 t8 t13 (wrap .i64 (t14+(1:Int))) c3 (e0++x18)).bind some
  else none
  else none
  else
  (bA k n t1 t2 t8 t13 (wrap .i64 (t14+(1:Int))) c3 (e0++x18)).bind some
  else none
  else
  (bA k n t1 t2 t8 t13 (wrap .i64 (t14+(1:Int))) c3 (e0++x18)).bind some
  else
  (bA k n t1 t2 t8 t13 (wrap .i64 (t14+(1:Int))) c3 (e0++x18)).bind some
  else
  (bA k n t1 t2 t8 t13 (wrap .i64 (t14+(1:Int))) c3 (e0++x18)).bind some
  else none
  else none
  else none
  else
  let x26:=(List.set (replicate 1 (replicate 3 (0:Int))) 0 r2.1.1)
  if (length e0+length x26)*(24*2)≤281474976710656∧length e0+length x26≤9223372036854775807 then
  let x27:=(decide (t14<(length t1:Int)))
  bif x27 then
  bif (decide (t8≥(0:Int))) then
  let x28:=(decide (t8<(length c3.1:Int)))
  bif x28 then
  if 0≤t14∧t14<(length t1:Int) then
  let x29:=(decide ((getD t1 (toNat t14) (0:Int))≥(0:Int)))
  bif x29 then
  if 0≤t14∧t14<(length t1:Int) then
  if 0≤t8∧t8<(length c3.1:Int) then
  let x30:=(getD c3.1 (toNat t8) ([]:(List Int)))
  let x31:=(decide ((getD t1 (toNat t14) (0:Int))<(length x30:Int)))
  bif x31 then
  if 0≤t8∧t8<(length c3.1:Int) then
  let x32:=(getD c3.1 (toNat t8) ([]:(List Int)))
  if 0≤t14∧t14<(length t1:Int) then
  if 0≤(getD t1 (toNat t14) (0:Int))∧(getD t1 (toNat t14) (0:Int))<(length x32:Int) then
  let x33:=(getD x32 (toNat (getD t1 (toNat t14) (0:Int))) (0:Int))
  (bA k n t1 t2 x33 t13 (wrap .i64 (t14+(1:Int))) c3 (e0++x26)).bind some
  else none
  else none
  else none
  else
  (bA k n t1 t2 t8 t13 (wrap .i64 (t14+(1:Int))) c3 (e0++x26)).bind some
  else none
  else none
  else
  (bA k n t1 t2 t8 t13 (wrap .i64 (t14+(1:Int))) c3 (e0++x26)).bind some
  else none
  else
  (bA k n t1 t2 t8 t13 (wrap .i64 (t14+(1:Int))) c3 (e0++x26)).bind some
  else
  (bA k n t1 t2 t8 t13 (wrap .i64 (t14+(1:Int))) c3 (e0++x26)).bind some
  else
  (bA k n t1 t2 t8 t13 (wrap .i64 (t14+(1:Int))) c3 (e0++x26)).bind some
  else none
  else none
  else
  let x34:=(List.set (replicate 1 (replicate 3 (0:Int))) 0 r2.1.1)
  if (length e0+length x34)*(24*2)≤281474976710656∧length e0+length x34≤9223372036854775807 then
  let x35:=(decide (t14<(length t1:Int)))
  bif x35 then
  bif (decide (t8≥(0:Int))) then
  let x36:=(decide (t8<(length c3.1:Int)))
  bif x36 then
  if 0≤t14∧t14<(length t1:Int) then
  let x37:=(decide ((getD t1 (toNat t14) (0:Int))≥(0:Int)))
  bif x37 then
  if 0≤t14∧t14<(length t1:Int) then
  if 0≤t8∧t8<(length c3.1:Int) then
  let x38:=(getD c3.1 (toNat t8) ([]:(List Int)))
  let x39:=(decide ((getD t1 (toNat t14) (0:Int))<(length x38:Int)))
  bif x39 then
  if 0≤t8∧t8<(length c3.1:Int) then
  let x40:=(getD c3.1 (toNat t8) ([]:(List Int)))
  if 0≤t14∧t14<(length t1:Int) then
  if 0≤(getD t1 (toNat t14) (0:Int))∧(getD t1 (toNat t14) (0:Int))<(length x40:Int) then
  let x41:=(getD x40 (toNat (getD t1 (toNat t14) (0:Int))) (0:Int))
  (bA k n t1 t2 x41 t13 (wrap .i64 (t14+(1:Int))) c3 (e0++x34)).bind some
  else none
  else none
  else none
  else
  (bA k n t1 t2 t8 t13 (wrap .i64 (t14+(1:Int))) c3 (e0++x34)).bind some
  else none
  else none
  else
  (bA k n t1 t2 t8 t13 (wrap .i64 (t14+(1:Int))) c3 (e0++x34)).bind some
  else none
  else
  (bA k n t1 t2 t8 t13 (wrap .i64 (t14+(1:Int))) c3 (e0++x34)).bind some
  else
  (bA k n t1 t2 t8 t13 (wrap .i64 (t14+(1:Int))) c3 (e0++x34)).bind some
  else
  (bA k n t1 t2 t8 t13 (wrap .i64 (t14+(1:Int))) c3 (e0++x34)).bind some
  else none
  else
  let x42:=(List.set (replicate 1 (replicate 3 (0:Int))) 0 r2.1.1)
  if (length e0+length x42)*(24*2)≤281474976710656∧length e0+length x42≤9223372036854775807 then
  let x43:=(decide (t14<(length t1:Int)))
  bif x43 then
  bif (decide (t8≥(0:Int))) then
  let x44:=(decide (t8<(length c3.1:Int)))
  bif x44 then
  if 0≤t14∧t14<(length t1:Int) then
  let x45:=(decide ((getD t1 (toNat t14) (0:Int))≥(0:Int)))
  bif x45 then
  if 0≤t14∧t14<(length t1:Int) then
  if 0≤t8∧t8<(length c3.1:Int) then
  let x46:=(getD c3.1 (toNat t8) ([]:(List Int)))
  let x47:=(decide ((getD t1 (toNat t14) (0:Int))<(length x46:Int)))
  bif x47 then
  if 0≤t8∧t8<(length c3.1:Int) then
  let x48:=(getD c3.1 (toNat t8) ([]:(List Int)))
  if 0≤t14∧t14<(length t1:Int) then
  if 0≤(getD t1 (toNat t14) (0:Int))∧(getD t1 (toNat t14) (0:Int))<(length x48:Int) then
  let x49:=(getD x48 (toNat (getD t1 (toNat t14) (0:Int))) (0:Int))
  (bA k n t1 t2 x49 t13 (wrap .i64 (t14+(1:Int))) c3 (e0++x42)).bind some
  else none
  else none
  else none
  else
  (bA k n t1 t2 t8 t13 (wrap .i64 (t14+(1:Int))) c3 (e0++x42)).bind some
  else none
  else none
  else
  (bA k n t1 t2 t8 t13 (wrap .i64 (t14+(1:Int))) c3 (e0++x42)).bind some
  else none
  else
  (bA k n t1 t2 t8 t13 (wrap .i64 (t14+(1:Int))) c3 (e0++x42)).bind some
  else
  (bA k n t1 t2 t8 t13 (wrap .i64 (t14+(1:Int))) c3 (e0++x42)).bind some
  else
  (bA k n t1 t2 t8 t13 (wrap .i64 (t14+(1:Int))) c3 (e0++x42)).bind some
  else none
  else
  let x50:=(List.set (replicate 1 (replicate 3 (0:Int))) 0 r2.1.1)
  if (length e0+length x50)*(24*2)≤281474976710656∧length e0+length x50≤9223372036854775807 then
  let x51:=(decide (t14<(length t1:Int)))
  bif x51 then
  bif (decide (t8≥(0:Int))) then
  let x52:=(decide (t8<(length c3.1:Int)))
  bif x52 then
  if 0≤t14∧t14<(length t1:Int) then
  let x53:=(decide ((getD t1 (toNat t14) (0:Int))≥(0:Int)))
  bif x53 then
  if 0≤t14∧t14<(length t1:Int) then
  if 0≤t8∧t8<(length c3.1:Int) then
  let x54:=(getD c3.1 (toNat t8) ([]:(List Int)))
  let x55:=(decide ((getD t1 (toNat t14) (0:Int))<(length x54:Int)))
  bif x55 then
  if 0≤t8∧t8<(length c3.1:Int) then
  let x56:=(getD c3.1 (toNat t8) ([]:(List Int)))
  if 0≤t14∧t14<(length t1:Int) then
  if 0≤(getD t1 (toNat t14) (0:Int))∧(getD t1 (toNat t14) (0:Int))<(length x56:Int) then
  let x57:=(getD x56 (toNat (getD t1 (toNat t14) (0:Int))) (0:Int))
  (bA k n t1 t2 x57 t13 (wrap .i64 (t14+(1:Int))) c3 (e0++x50)).bind some
  else none
  else none
  else none
  else
  (bA k n t1 t2 t8 t13 (wrap .i64 (t14+(1:Int))) c3 (e0++x50)).bind some
  else none
  else none
  else
  (bA k n t1 t2 t8 t13 (wrap .i64 (t14+(1:Int))) c3 (e0++x50)).bind some
  else none
  else
  (bA k n t1 t2 t8 t13 (wrap .i64 (t14+(1:Int))) c3 (e0++x50)).bind some
  else
  (bA k n t1 t2 t8 t13 (wrap .i64 (t14+(1:Int))) c3 (e0++x50)).bind some
  else
  (bA k n t1 t2 t8 t13 (wrap .i64 (t14+(1:Int))) c3 (e0++x50)).bind some
  else none
  else
  some ((),(e0,()))
def pv:aE:=⟨[(7,(.sl true 69 (.arr 3 (.int .i64)) none))],[(1,.val aZ),(2,.val aZ),(3,.ptr 3 []),(7,.at 2000007 []),(8,.val (.int .i64)),(13,.val (.int .i64)),(14,.val (.int .i64))],[(3,some 45,(.pair dE (.pair (.sl false 56 (.sl false 69 (.arr 3 (.int .i64)) none) none) .unit))),(2000007,none,(.sl true 69 (.arr 3 (.int .i64)) none))]⟩
def wT (k m:Nat) (v:pv.V):=bA k m v.1.1 v.1.2.1 v.1.2.2.1 v.1.2.2.2.1 v.1.2.2.2.2.1 v.2.1 v.2.2.1
def wU (k:Nat):aL:=⟨pv,[(.exit 0,⟨[(7,(.sl true 69 (.arr 3 (.int .i64)) none))],[(7,.at 2000007 [])],[(2000007,none,(.sl true 69 (.arr 3 (.int .i64)) none))]⟩)],wT k k⟩
def F26 (k:Nat) (a0:fW) (a1:(List Int)) (a2:(List Int)):Option bC :=
 let x1:=(wrap .i64 ((length a1:Int)+(1:Int)))
 (bA k k a1 a2 (0:Int) x1 (0:Int) a0 []).bind fun r58 =>
 (F55 k r58.2.1).bind fun r60 =>
 some ((r60.1.1,()),())
def uV (k:Nat):ap:=⟨[.val (.pair dE (.pair (.sl false 56 (.sl false 69 (.arr 3 (.int .i64)) none) none) .unit)),.val aZ,.val aZ],[.own (.sl true 69 (.arr 3 (.int .i64)) none)],fun x=>F26 k x.1 x.2.1 x.2.2.1⟩
def Db:Lim:=⟨117,3,false,false,[],[]⟩
def LA (k:Nat):Nat→Option ap:=aW [(55,lF k),(63,uT k)]
noncomputable def NR:Code:=ac (ab Try.f26) [.r,.r,.r,.l,.r,.s]
noncomputable def X4:Code:=ac (ab Try.f26) [.r,.r,.r,.l,.r,.s,.b]
noncomputable def co26:Code:=ac (ab Try.f26) []
theorem Fa (k:Nat):aR Try.prog (LA k):=ah (v55 k) (ah (v63 k) (aD))
noncomputable def Fb (k m:Nat) (v:pv.V):=body Try.prog (ao Try.prog (LA k) Db) .go X4 (pv.st v) (aH (wU k) (wT k m))
theorem X5 (k m:Nat) (v:pv.V):wT k (m+1) v=(Fb k m v).eval∧(Fb k m v).left=(Fb k m v).right:=⟨by kernel_rfl,by kernel_rfl⟩
theorem NS (k:Nat):aC Try.prog Db (wU k) NR :=
 am (by kernel_rfl) (aA (Fa k) (aj _) (wT k) k (fun _=>rfl) (fun _=>rfl) (X5 k))
def X6 (k:Nat):aO:=(.seq .go (.seq .go (.seq .go (.seq (.seq .go (.sub (.frag (wU k)))) .go))))
noncomputable def SD (k:Nat) (x:AT (uV k).ps):=fnT Try.prog (LA k) Db Try.f26 (ab Try.f26) (X6 k) (uV k) x
theorem a0v (k:Nat) (x:AT (uV k).ps):(uV k).impl x=(SD k x).eval∧(SD k x).left=(SD k x).right:=⟨by kernel_rfl,by kernel_rfl⟩
theorem v26 (k:Nat):ai Try.prog 26∧aB Try.prog 26 (uV k) :=
 aS (n:=Db) (fn:=Try.f26) (p:=(X6 k)) (Fa k) (by kernel_rfl) (aG (L:=[(wU k,NR)]) (by kernel_rfl) (.cons (NS k) .nil)) (a0v k)
def F30 (k:Nat):Option kn :=
 let x1:=(List.set (List.set (List.set (replicate 3 (0:Int)) 0 (1152921504606846976:Int)) 1 (1152921504606846976:Int)) 2 (1152921504606846976:Int))
 some ((x1,()),())
def uW (k:Nat):ap:=⟨[],[.val (.arr 3 (.int .i64))],fun x=>F30 k⟩
def UY:Lim:=⟨2,0,false,false,[],[]⟩
def UZ (k:Nat):Nat→Option ap:=aW []
noncomputable def co30:Code:=ac (ab Try.f30) []
theorem SE (k:Nat):aR Try.prog (UZ k):=aD
noncomputable def SF (k:Nat) (x:AT (uW k).ps):=fnT Try.prog (UZ k) UY Try.f30 (ab Try.f30) .go (uW k) x
theorem a1v (k:Nat) (x:AT (uW k).ps):(uW k).impl x=(SF k x).eval∧(SF k x).left=(SF k x).right:=⟨by kernel_rfl,by kernel_rfl⟩
theorem v30 (k:Nat):ai Try.prog 30∧aB Try.prog 30 (uW k) :=
 aS (n:=UY) (fn:=Try.f30) (p:=.go) (SE k) (by kernel_rfl) (aj _) (a1v k)
def F13 (k:Nat):Option fa :=
 (F19 k [] [] [] (1:Int) [(replicate 0 false)] (1:Int)).bind fun r1 =>
 (F19 k [] [] [] (1:Int) [(replicate 0 false)] (0:Int)).bind fun r2 =>
 let x3:=(List.set (replicate 1 (0:Int)) 0 (0:Int))
 let x4:=(List.set (List.set (replicate 2 (0:Int)) 0 (0:Int)) 1 (0:Int))
 (F26 k r1.1.1 x3 x4).bind fun r5 =>
 bif (r1.1.2.1==(0:Int)) then
 let x6:=((length r1.1.1.1:Int)==(1:Int))
 bif x6 then
 let x7:=((length r1.1.1.2.1:Int)==(1:Int))
 bif x7 then
 if 0≤(0:Int)∧(0:Int)<(length r1.1.1.2.1:Int) then
 let x8:=(length (getD r1.1.1.2.1 (toNat (0:Int)) ([]:(List (List Int)))):Int)
 bif (x8==(1:Int)) then
 bif (r2.1.2.1==(4:Int)) then
 let x9:=((length r5.1.1:Int)==(2:Int))
 bif x9 then
 if 0≤(1:Int)∧(1:Int)<(length r5.1.1:Int) then
 let x10:=(getD r5.1.1 (toNat (1:Int)) ([]:(List Int)))
 (F30 k).bind fun r11 =>
 some (((x10==r11.1.1),()),())
 else none
 else
 some ((false,()),())
 else
 some ((false,()),())
 else
 some ((false,()),())
 else none
 else
 some ((false,()),())
 else
 some ((false,()),())
 else
 some ((false,()),())
def A8 (k:Nat):ap:=⟨[],[.val .bool],fun x=>F13 k⟩
def U0:Lim:=⟨60,0,false,false,[],[]⟩
def U1 (k:Nat):Nat→Option ap:=aW [(19,uU k),(26,uV k),(30,uW k)]
noncomputable def co13:Code:=ac (ab Try.f13) []
theorem SG (k:Nat):aR Try.prog (U1 k):=ah (v19 k) (ah (v26 k) (ah (v30 k) (aD)))
noncomputable def SH (k:Nat) (x:AT (A8 k).ps):=fnT Try.prog (U1 k) U0 Try.f13 (ab Try.f13) .go (A8 k) x
theorem a2v (k:Nat) (x:AT (A8 k).ps):(A8 k).impl x=(SH k x).eval∧(SH k x).left=(SH k x).right:=⟨by kernel_rfl,by kernel_rfl⟩
theorem v13 (k:Nat):ai Try.prog 13∧aB Try.prog 13 (A8 k) :=
 aS (n:=U0) (fn:=Try.f13) (p:=.go) (SG k) (by kernel_rfl) (aj _) (a2v k)
def A9 (f35:(du→Int→Option bG)):ap:=⟨[.val oW,.val (.int .i64)],[.val (.int .i64)],fun x=>f35 x.1 x.2.1⟩
def mW (k:Nat) (f35:(du→Int→Option bG)):Nat→du→Int→Int→Int→Option EO
 |0,_,_,_,_=>none
 |n+1,t0,t1,t5,t6 =>
  let x5:=(decide (t6<(length t0:Int)))
  bif x5 then
  bif (decide (t5≤(30:Int))) then
  if 0≤t6∧t6<(length t0:Int) then
  let x6:=(getD t0 (toNat t6) (ae.mk ((0:Int),((0:Int),())) []))
  (f35 (ae.l x6) (wrap .i64 (t1+(1:Int)))).bind fun r7 =>
  let x8:=(wrap .i64 ((wrap .i64 (t5+(1:Int)))+r7.1.1))
  (mW k f35 n t0 t1 x8 (wrap .i64 (t6+(1:Int)))).bind some
  else none
  else
  some ((t5,()),())
  else
  some ((t5,()),())
def px:aE:=⟨[],[(0,.val oW),(1,.val (.int .i64)),(5,.val (.int .i64)),(6,.val (.int .i64))],[]⟩
def wV (k:Nat) (f35:(du→Int→Option bG)) (m:Nat) (v:px.V):=mW k f35 m v.1.1 v.1.2.1 v.1.2.2.1 v.1.2.2.2.1
def wW (k:Nat) (f35:(du→Int→Option bG)):aL:=⟨px,[(.exit 0,⟨[],[(5,.val (.int .i64))],[]⟩)],wV k f35 k⟩
def B35 (k:Nat) (f35:(du→Int→Option bG)) (a0:du) (a1:Int):Option bG :=
 bif (decide (a1>(5:Int))) then
 some (((1000:Int),()),())
 else
 (mW k f35 k a0 a1 (0:Int) (0:Int)).bind fun r9 =>
 some ((r9.1.1,()),())
def Fc (k:Nat) (f35:(du→Int→Option bG)):ap:=A9 (B35 k f35)
def Dc:Lim:=⟨31,2,false,false,[],[]⟩
def LB (k:Nat) (f35:(du→Int→Option bG)):Nat→Option ap:=aW [(35,A9 f35)]
noncomputable def NT:Code:=ac (ab Try.f35) [.r,.r,.r,.l,.r,.s]
noncomputable def X7:Code:=ac (ab Try.f35) [.r,.r,.r,.l,.r,.s,.b]
noncomputable def co35:Code:=ac (ab Try.f35) []
theorem Fd (k:Nat) (f35:(du→Int→Option bG)) (h35:ai Try.prog 35∧aB Try.prog 35 (A9 f35)):aR Try.prog (LB k f35):=ah h35 (aD)
noncomputable def Fe (k:Nat) (f35:(du→Int→Option bG)) (m:Nat) (v:px.V):=body Try.prog (ao Try.prog (LB k f35) Dc) .go X7 (px.st v) (aH (wW k f35) (wV k f35 m))
theorem X8 (k:Nat) (f35:(du→Int→Option bG)) (m:Nat) (v:px.V):wV k f35 (m+1) v=(Fe k f35 m v).eval∧(Fe k f35 m v).left=(Fe k f35 m v).right:=⟨by kernel_rfl,by kernel_rfl⟩
theorem NU (k:Nat) (f35:(du→Int→Option bG)) (h35:ai Try.prog 35∧aB Try.prog 35 (A9 f35)):aC Try.prog Dc (wW k f35) NT :=
 am (by kernel_rfl) (aA (Fd k f35 h35) (aj _) (wV k f35) k (fun _=>rfl) (fun _=>rfl) (X8 k f35))
def X9 (k:Nat) (f35:(du→Int→Option bG)):aO:=(.seq .go (.seq .go (.seq .go (.seq (.seq .go (.sub (.frag (wW k f35)))) .go))))
noncomputable def SI (k:Nat) (f35:(du→Int→Option bG)) (x:AT (Fc k f35).ps):=fnT Try.prog (LB k f35) Dc Try.f35 (ab Try.f35) (X9 k f35) (Fc k f35) x
theorem a3v (k:Nat) (f35:(du→Int→Option bG)) (x:AT (Fc k f35).ps):(Fc k f35).impl x=(SI k f35 x).eval∧(SI k f35 x).left=(SI k f35 x).right:=⟨by kernel_rfl,by kernel_rfl⟩
theorem b35 (k:Nat) (f35:(du→Int→Option bG)) (h35:ai Try.prog 35∧aB Try.prog 35 (A9 f35)):ai Try.prog 35∧aB Try.prog 35 (Fc k f35) :=
 aS (n:=Dc) (fn:=Try.f35) (p:=(X9 k f35)) (Fd k f35 h35) (by kernel_rfl) (aG (L:=[(wW k f35,NT)]) (by kernel_rfl) (.cons (NU k f35 h35) .nil)) (a3v k f35)
def R35:Nat→(du→Int→Option bG)
 |0=>fun _ _=>none
 |k+1=>B35 k (R35 k)
def F35 (k:Nat) (a0_:du) (a1_:Int):Option bG:=(R35 k) a0_ a1_
def Ya (k:Nat):ap:=⟨[.val oW,.val (.int .i64)],[.val (.int .i64)],fun x=>F35 k x.1 x.2.1⟩
theorem r35 (k:Nat):(ai Try.prog 35∧aB Try.prog 35 (A9 (R35 k))):=by
 induction k with
 |zero=>exact ⟨⟨Try.f35,by kernel_rfl,by kernel_rfl,by kernel_rfl⟩,fun x r h=>by cases (show (none:Option _)=some r from h)⟩
 |succ k ih=>exact b35 k (R35 k) ih
theorem v35 (k:Nat):ai Try.prog 35∧aB Try.prog 35 (Ya k):=(r35 k)
def F14 (k:Nat) (a0:du):Option fa :=
 (F35 k a0 (0:Int)).bind fun r1 =>
 some (((decide (r1.1.1≤(30:Int))),()),())
def Ba (k:Nat):ap:=⟨[.val oW],[.val .bool],fun x=>F14 k x.1⟩
def U2:Lim:=⟨6,1,false,false,[],[]⟩
def U3 (k:Nat):Nat→Option ap:=aW [(35,Ya k)]
noncomputable def co14:Code:=ac (ab Try.f14) []
theorem SJ (k:Nat):aR Try.prog (U3 k):=ah (v35 k) (aD)
noncomputable def SK (k:Nat) (x:AT (Ba k).ps):=fnT Try.prog (U3 k) U2 Try.f14 (ab Try.f14) .go (Ba k) x
theorem a4v (k:Nat) (x:AT (Ba k).ps):(Ba k).impl x=(SK k x).eval∧(SK k x).left=(SK k x).right:=⟨by kernel_rfl,by kernel_rfl⟩
theorem v14 (k:Nat):ai Try.prog 14∧aB Try.prog 14 (Ba k) :=
 aS (n:=U2) (fn:=Try.f14) (p:=.go) (SJ k) (by kernel_rfl) (aj _) (a4v k)
def F86 (k:Nat) (a0:Int) (a1:Int):Option ((dM×Unit)×Unit) :=
 let x6:=(ae.a (ae.mk ((0:Int),((0:Int),((0:Int),(ByteArray.empty,())))) [])).2.2.2.1
 let x7:=(ae.l (ae.mk ((0:Int),((0:Int),((0:Int),(ByteArray.empty,())))) []))
 let x8:=(ae.mk ((1:Int),(a0,(a1,(x6,())))) x7)
 some ((x8,()),())
def Bb (k:Nat):ap:=⟨[.val (.int .i64),.val (.int .i64)],[.val uN],fun x=>F86 k x.1 x.2.1⟩
def U4:Lim:=⟨8,2,false,false,[],[]⟩
def U5 (k:Nat):Nat→Option ap:=aW []
noncomputable def co86:Code:=ac (ab Try.f86) []
theorem SL (k:Nat):aR Try.prog (U5 k):=aD
noncomputable def SM (k:Nat) (x:AT (Bb k).ps):=fnT Try.prog (U5 k) U4 Try.f86 (ab Try.f86) .go (Bb k) x
theorem a5v (k:Nat) (x:AT (Bb k).ps):(Bb k).impl x=(SM k x).eval∧(SM k x).left=(SM k x).right:=⟨by kernel_rfl,by kernel_rfl⟩
theorem v86 (k:Nat):ai Try.prog 86∧aB Try.prog 86 (Bb k) :=
 aS (n:=U4) (fn:=Try.f86) (p:=.go) (SL k) (by kernel_rfl) (aj _) (a5v k)
def F87 (k:Nat):Option (((List ByteArray)×Unit)×Unit) :=
 let x1:=(List.set (List.set (List.set (List.set (List.set (List.set (replicate 6 ByteArray.empty) 0 (⟨#[97]⟩:ByteArray)) 1 (⟨#[118]⟩:ByteArray)) 2 (⟨#[100]⟩:ByteArray)) 3 (⟨#[115]⟩:ByteArray)) 4 (⟨#[119,49]⟩:ByteArray)) 5 (⟨#[111,116,104,101,114]⟩:ByteArray))
 some ((x1,()),())
def pz (k:Nat):ap:=⟨[],[.own (.sl true 9 .str none)],fun x=>F87 k⟩
def U6:Lim:=⟨2,0,false,false,[],[]⟩
def U7 (k:Nat):Nat→Option ap:=aW []
noncomputable def co87:Code:=ac (ab Try.f87) []
theorem SN (k:Nat):aR Try.prog (U7 k):=aD
noncomputable def SO (k:Nat) (x:AT (pz k).ps):=fnT Try.prog (U7 k) U6 Try.f87 (ab Try.f87) .go (pz k) x
theorem a6v (k:Nat) (x:AT (pz k).ps):(pz k).impl x=(SO k x).eval∧(SO k x).left=(SO k x).right:=⟨by kernel_rfl,by kernel_rfl⟩
theorem v87 (k:Nat):ai Try.prog 87∧aB Try.prog 87 (pz k) :=
 aS (n:=U6) (fn:=Try.f87) (p:=.go) (SN k) (by kernel_rfl) (aj _) (a6v k)
def F67 (k:Nat) (a0:Int) (a1:Int):Option bG :=
 if a1≠0 then
 bif (decide ((Int.tmod a0 a1)<(0:Int))) then
 some (((wrap .i64 ((Int.tmod a0 a1)+a1)),()),())
 else
 some (((Int.tmod a0 a1),()),())
 else none
def lG (k:Nat):ap:=⟨[.val (.int .i64),.val (.int .i64)],[.val (.int .i64)],fun x=>F67 k x.1 x.2.1⟩
def U8:Lim:=⟨15,2,false,false,[],[]⟩
def U9 (k:Nat):Nat→Option ap:=aW []
noncomputable def co67:Code:=ac (ab Try.f67) []
theorem SP (k:Nat):aR Try.prog (U9 k):=aD
noncomputable def SQ (k:Nat) (x:AT (lG k).ps):=fnT Try.prog (U9 k) U8 Try.f67 (ab Try.f67) .go (lG k) x
theorem a7v (k:Nat) (x:AT (lG k).ps):(lG k).impl x=(SQ k x).eval∧(SQ k x).left=(SQ k x).right:=⟨by kernel_rfl,by kernel_rfl⟩
theorem v67 (k:Nat):ai Try.prog 67∧aB Try.prog 67 (lG k) :=
 aS (n:=U8) (fn:=Try.f67) (p:=.go) (SP k) (by kernel_rfl) (aj _) (a7v k)
def Ff (f88:(Int→fX→Int→Option ko)):ap:=⟨[.val (.int .i64),.mut oY,.val (.int .i64)],[.val uN],fun x=>f88 x.1 x.2.1 x.2.2.1⟩
def B88 (k:Nat) (f88:(Int→fX→Int→Option ko)) (a0:Int) (a1:fX) (a2:Int):Option ko :=
 (F67 k a0 (16:Int)).bind fun r6 =>
 bif (decide (r6.1.1<(5:Int))) then
 (F67 k (wrap .i64 (Int.tdiv a0 (16:Int))) (50:Int)).bind fun r7 =>
 let x8:=(Int.tmod (wrap .i64 (Int.tdiv a0 (16:Int))) (5:Int))
 let x9:=(wrap .i64 ((wrap .i64 (r7.1.1+(40:Int)))+x8))
 let x10:=(ae.a (ae.mk ((0:Int),((0:Int),((0:Int),(ByteArray.empty,())))) [])).2.2.2.1
 let x11:=(ae.l (ae.mk ((0:Int),((0:Int),((0:Int),(ByteArray.empty,())))) []))
 let x12:=(ae.mk ((1:Int),((wrap .i64 (r7.1.1+(40:Int))),(x9,(x10,())))) x11)
 some ((x12,()),(a1,()))
 else
 bif (decide (a2>(3:Int))) then
 (F67 k (wrap .i64 (Int.tdiv a0 (16:Int))) (50:Int)).bind fun r13 =>
 let x14:=(Int.tmod (wrap .i64 (Int.tdiv a0 (16:Int))) (5:Int))
 let x15:=(wrap .i64 ((wrap .i64 (r13.1.1+(40:Int)))+x14))
 let x16:=(ae.a (ae.mk ((0:Int),((0:Int),((0:Int),(ByteArray.empty,())))) [])).2.2.2.1
 let x17:=(ae.l (ae.mk ((0:Int),((0:Int),((0:Int),(ByteArray.empty,())))) []))
 let x18:=(ae.mk ((1:Int),((wrap .i64 (r13.1.1+(40:Int))),(x15,(x16,())))) x17)
 some ((x18,()),(a1,()))
 else
 bif (decide (r6.1.1<(6:Int))) then
 (F67 k (wrap .i64 (Int.tdiv a0 (16:Int))) (1114112:Int)).bind fun r19 =>
 let x20:=(Int.tmod (wrap .i64 (Int.tdiv a0 (16:Int))) (9:Int))
 let x21:=(aK (wrap .i64 (r19.1.1+x20)) (1114111:Int))
 let x22:=(ae.a (ae.mk ((0:Int),((0:Int),((0:Int),(ByteArray.empty,())))) [])).2.2.2.1
 let x23:=(ae.l (ae.mk ((0:Int),((0:Int),((0:Int),(ByteArray.empty,())))) []))
 let x24:=(ae.mk ((1:Int),(r19.1.1,(x21,(x22,())))) x23)
 some ((x24,()),(a1,()))
 else
 bif (decide (r6.1.1<(8:Int))) then
 let x25:=(decide ((length a1:Int)>(0:Int)))
 bif x25 then
 (F67 k (wrap .i64 (Int.tdiv a0 (16:Int))) (length a1:Int)).bind fun r26 =>
 if 0≤r26.1.1∧r26.1.1<(length a1:Int) then
 let x27:=(getD a1 (toNat r26.1.1) (ByteArray.empty,((ae.mk ((0:Int),((0:Int),((0:Int),(ByteArray.empty,())))) []),()))).1
 let x28:=(ae.a (ae.mk ((0:Int),((0:Int),((0:Int),(ByteArray.empty,())))) [])).2.1
 let x29:=(ae.a (ae.mk ((0:Int),((0:Int),((0:Int),(ByteArray.empty,())))) [])).2.2.1
 let x30:=(ae.l (ae.mk ((0:Int),((0:Int),((0:Int),(ByteArray.empty,())))) []))
 let x31:=(ae.mk ((2:Int),(x28,(x29,(x27,())))) x30)
 some ((x31,()),(a1,()))
 else none
 else
 bif (decide (r6.1.1<(9:Int))) then
 let x32:=(ae.a (ae.mk ((0:Int),((0:Int),((0:Int),(ByteArray.empty,())))) [])).2.1
 let x33:=(ae.a (ae.mk ((0:Int),((0:Int),((0:Int),(ByteArray.empty,())))) [])).2.2.1
 let x34:=(ae.a (ae.mk ((0:Int),((0:Int),((0:Int),(ByteArray.empty,())))) [])).2.2.2.1
 let x35:=(ae.l (ae.mk ((0:Int),((0:Int),((0:Int),(ByteArray.empty,())))) []))
 let x36:=(ae.mk ((3:Int),(x32,(x33,(x34,())))) x35)
 some ((x36,()),(a1,()))
 else
 bif (decide (r6.1.1<(10:Int))) then
 (f88 (wrap .i64 (Int.tdiv a0 (16:Int))) a1 (wrap .i64 (a2+(1:Int)))).bind fun r37 =>
 let x38:=(List.set (replicate 1 (ae.mk ((0:Int),((0:Int),((0:Int),(ByteArray.empty,())))) [])) 0 r37.1.1)
 let x39:=(ae.a (ae.mk ((0:Int),((0:Int),((0:Int),(ByteArray.empty,())))) [])).2.1
 let x40:=(ae.a (ae.mk ((0:Int),((0:Int),((0:Int),(ByteArray.empty,())))) [])).2.2.1
 let x41:=(ae.a (ae.mk ((0:Int),((0:Int),((0:Int),(ByteArray.empty,())))) [])).2.2.2.1
 let x42:=(ae.mk ((4:Int),(x39,(x40,(x41,())))) x38)
 some ((x42,()),(r37.2.1,()))
 else
 let x43:=(Int.tmod (wrap .i64 (Int.tdiv a0 (16:Int))) (3:Int))
 let x44:=(wrap .i64 (Int.tdiv (wrap .i64 (Int.tdiv a0 (16:Int))) (3:Int)))
 (f88 x44 a1 (wrap .i64 (a2+(1:Int)))).bind fun r45 =>
 let x46:=(wrap .i64 (Int.tdiv (wrap .i64 (Int.tdiv a0 (16:Int))) (48:Int)))
 (f88 x46 r45.2.1 (wrap .i64 (a2+(1:Int)))).bind fun r47 =>
 let x48:=(List.set (List.set (replicate 2 (ae.mk ((0:Int),((0:Int),((0:Int),(ByteArray.empty,())))) [])) 0 r45.1.1) 1 r47.1.1)
 let x49:=(ae.a (ae.mk ((0:Int),((0:Int),((0:Int),(ByteArray.empty,())))) [])).2.1
 let x50:=(ae.a (ae.mk ((0:Int),((0:Int),((0:Int),(ByteArray.empty,())))) [])).2.2.1
 let x51:=(ae.a (ae.mk ((0:Int),((0:Int),((0:Int),(ByteArray.empty,())))) [])).2.2.2.1
 let x52:=(ae.mk ((wrap .i64 ((5:Int)+x43)),(x49,(x50,(x51,())))) x48)
 some ((x52,()),(r47.2.1,()))
 else
 bif (decide (r6.1.1<(9:Int))) then
 let x53:=(ae.a (ae.mk ((0:Int),((0:Int),((0:Int),(ByteArray.empty,())))) [])).2.1
 let x54:=(ae.a (ae.mk ((0:Int),((0:Int),((0:Int),(ByteArray.empty,())))) [])).2.2.1
 let x55:=(ae.a (ae.mk ((0:Int),((0:Int),((0:Int),(ByteArray.empty,())))) [])).2.2.2.1
 let x56:=(ae.l (ae.mk ((0:Int),((0:Int),((0:Int),(ByteArray.empty,())))) []))
 let x57:=(ae.mk ((3:Int),(x53,(x54,(x55,())))) x56)
 some ((x57,()),(a1,()))
 else
 bif (decide (r6.1.1<(10:Int))) then
 (f88 (wrap .i64 (Int.tdiv a0 (16:Int))) a1 (wrap .i64 (a2+(1:Int)))).bind fun r58 =>
 let x59:=(List.set (replicate 1 (ae.mk ((0:Int),((0:Int),((0:Int),(ByteArray.empty,())))) [])) 0 r58.1.1)
 let x60:=(ae.a (ae.mk ((0:Int),((0:Int),((0:Int),(ByteArray.empty,())))) [])).2.1
 let x61:=(ae.a (ae.mk ((0:Int),((0:Int),((0:Int),(ByteArray.empty,())))) [])).2.2.1
 let x62:=(ae.a (ae.mk ((0:Int),((0:Int),((0:Int),(ByteArray.empty,())))) [])).2.2.2.1
 let x63:=(ae.mk ((4:Int),(x60,(x61,(x62,())))) x59)
 some ((x63,()),(r58.2.1,()))
 else
 let x64:=(Int.tmod (wrap .i64 (Int.tdiv a0 (16:Int))) (3:Int))
 let x65:=(wrap .i64 (Int.tdiv (wrap .i64 (Int.tdiv a0 (16:Int))) (3:Int)))
 (f88 x65 a1 (wrap .i64 (a2+(1:Int)))).bind fun r66 =>
 let x67:=(wrap .i64 (Int.tdiv (wrap .i64 (Int.tdiv a0 (16:Int))) (48:Int)))
 (f88 x67 r66.2.1 (wrap .i64 (a2+(1:Int)))).bind fun r68 =>
 let x69:=(List.set (List.set (replicate 2 (ae.mk ((0:Int),((0:Int),((0:Int),(ByteArray.empty,())))) [])) 0 r66.1.1) 1 r68.1.1)
 let x70:=(ae.a (ae.mk ((0:Int),((0:Int),((0:Int),(ByteArray.empty,())))) [])).2.1
 let x71:=(ae.a (ae.mk ((0:Int),((0:Int),((0:Int),(ByteArray.empty,())))) [])).2.2.1
 let x72:=(ae.a (ae.mk ((0:Int),((0:Int),((0:Int),(ByteArray.empty,())))) [])).2.2.2.1
 let x73:=(ae.mk ((wrap .i64 ((5:Int)+x64)),(x70,(x71,(x72,())))) x69)
 some ((x73,()),(r68.2.1,()))
def Fg (k:Nat) (f88:(Int→fX→Int→Option ko)):ap:=Ff (B88 k f88)
def Va:Lim:=⟨91,3,false,false,[],[]⟩
def Vb (k:Nat) (f88:(Int→fX→Int→Option ko)):Nat→Option ap:=aW [(67,lG k),(88,Ff f88)]
noncomputable def co88:Code:=ac (ab Try.f88) []
theorem SR (k:Nat) (f88:(Int→fX→Int→Option ko)) (h88:ai Try.prog 88∧aB Try.prog 88 (Ff f88)):aR Try.prog (Vb k f88):=ah (v67 k) (ah h88 (aD))
noncomputable def SS (k:Nat) (f88:(Int→fX→Int→Option ko)) (x:AT (Fg k f88).ps):=fnT Try.prog (Vb k f88) Va Try.f88 (ab Try.f88) .go (Fg k f88) x
theorem a8v (k:Nat) (f88:(Int→fX→Int→Option ko)) (x:AT (Fg k f88).ps):(Fg k f88).impl x=(SS k f88 x).eval∧(SS k f88 x).left=(SS k f88 x).right:=⟨by kernel_rfl,by kernel_rfl⟩
theorem b88 (k:Nat) (f88:(Int→fX→Int→Option ko)) (h88:ai Try.prog 88∧aB Try.prog 88 (Ff f88)):ai Try.prog 88∧aB Try.prog 88 (Fg k f88) :=
 aS (n:=Va) (fn:=Try.f88) (p:=.go) (SR k f88 h88) (by kernel_rfl) (aj _) (a8v k f88)
def R88:Nat→(Int→fX→Int→Option ko)
 |0=>fun _ _ _=>none
 |k+1=>B88 k (R88 k)
def F88 (k:Nat) (a0_:Int) (a1_:fX) (a2_:Int):Option ko:=(R88 k) a0_ a1_ a2_
def Yb (k:Nat):ap:=⟨[.val (.int .i64),.mut oY,.val (.int .i64)],[.val uN],fun x=>F88 k x.1 x.2.1 x.2.2.1⟩
theorem r88 (k:Nat):(ai Try.prog 88∧aB Try.prog 88 (Ff (R88 k))):=by
 induction k with
 |zero=>exact ⟨⟨Try.f88,by kernel_rfl,by kernel_rfl,by kernel_rfl⟩,fun x r h=>by cases (show (none:Option _)=some r from h)⟩
 |succ k ih=>exact b88 k (R88 k) ih
theorem v88 (k:Nat):ai Try.prog 88∧aB Try.prog 88 (Yb k):=(r88 k)
def jL (k:Nat):Nat→(List Int)→Int→fX→Option ((Unit×Sc))
 |0,_,_,_=>none
 |n+1,t0,t4,e0 =>
  let x23:=(decide (t4<(length t0:Int)))
  bif x23 then
  bif (decide (t4<(2:Int))) then
  if 0≤t4∧t4<(length t0:Int) then
  (F87 k).bind fun r24 =>
  if 0≤(wrap .i64 ((4:Int)+t4))∧(wrap .i64 ((4:Int)+t4))<(length r24.1.1:Int) then
  let x25:=(toNat (wrap .i64 ((4:Int)+t4)))
  (F67 k (getD t0 (toNat t4) (0:Int)) (1099511627776:Int)).bind fun r26 =>
  (F88 k r26.1.1 e0 (0:Int)).bind fun r27 =>
  let x28:=(List.set (replicate 1 (ByteArray.empty,((ae.mk ((0:Int),((0:Int),((0:Int),(ByteArray.empty,())))) []),()))) 0 ((getD r24.1.1 x25 ByteArray.empty),(r27.1.1,())))
  if (length r27.2.1+length x28)*(80*2)≤281474976710656∧length r27.2.1+length x28≤9223372036854775807 then
  (jL k n t0 (wrap .i64 (t4+(1:Int))) (r27.2.1++x28)).bind some
  else none
  else none
  else none
  else
  some ((),(e0,()))
  else
  some ((),(e0,()))
def pC:aE:=⟨[(3,oY)],[(0,.val aZ),(3,.at 2000003 []),(4,.val (.int .i64))],[(2000003,none,oY)]⟩
def wX (k m:Nat) (v:pC.V):=jL k m v.1.1 v.1.2.1 v.2.1
def wY (k:Nat):aL:=⟨pC,[(.exit 0,⟨[(3,oY)],[(3,.at 2000003 [])],[(2000003,none,oY)]⟩)],wX k k⟩
def F66 (k:Nat) (a0:(List Int)):Option (Sc×Unit) :=
 (F86 k (97:Int) (97:Int)).bind fun r1 =>
 (F86 k (97:Int) (99:Int)).bind fun r2 =>
 (F86 k (48:Int) (57:Int)).bind fun r3 =>
 (F86 k (19968:Int) (20223:Int)).bind fun r4 =>
 let x5:=(List.set (List.set (replicate 2 (ae.mk ((0:Int),((0:Int),((0:Int),(ByteArray.empty,())))) [])) 0 r3.1.1) 1 r4.1.1)
 let x6:=(ae.a (ae.mk ((0:Int),((0:Int),((0:Int),(ByteArray.empty,())))) [])).2.1
 let x7:=(ae.a (ae.mk ((0:Int),((0:Int),((0:Int),(ByteArray.empty,())))) [])).2.2.1
 let x8:=(ae.a (ae.mk ((0:Int),((0:Int),((0:Int),(ByteArray.empty,())))) [])).2.2.2.1
 let x9:=(ae.mk ((5:Int),(x6,(x7,(x8,())))) x5)
 let x10:=(ae.a (ae.mk ((0:Int),((0:Int),((0:Int),(ByteArray.empty,())))) [])).2.1
 let x11:=(ae.a (ae.mk ((0:Int),((0:Int),((0:Int),(ByteArray.empty,())))) [])).2.2.1
 let x12:=(ae.a (ae.mk ((0:Int),((0:Int),((0:Int),(ByteArray.empty,())))) [])).2.2.2.1
 let x13:=(ae.l (ae.mk ((0:Int),((0:Int),((0:Int),(ByteArray.empty,())))) []))
 let x14:=(ae.a (ae.mk ((0:Int),((0:Int),((0:Int),(ByteArray.empty,())))) [])).2.1
 let x15:=(ae.a (ae.mk ((0:Int),((0:Int),((0:Int),(ByteArray.empty,())))) [])).2.2.1
 let x16:=(ae.l (ae.mk ((0:Int),((0:Int),((0:Int),(ByteArray.empty,())))) []))
 let x17:=(List.set (List.set (replicate 2 (ae.mk ((0:Int),((0:Int),((0:Int),(ByteArray.empty,())))) [])) 0 (ae.mk ((3:Int),(x10,(x11,(x12,())))) x13)) 1 (ae.mk ((2:Int),(x14,(x15,((⟨#[118]⟩:ByteArray),())))) x16))
 let x18:=(ae.a (ae.mk ((0:Int),((0:Int),((0:Int),(ByteArray.empty,())))) [])).2.1
 let x19:=(ae.a (ae.mk ((0:Int),((0:Int),((0:Int),(ByteArray.empty,())))) [])).2.2.1
 let x20:=(ae.a (ae.mk ((0:Int),((0:Int),((0:Int),(ByteArray.empty,())))) [])).2.2.2.1
 let x21:=(ae.mk ((7:Int),(x18,(x19,(x20,())))) x17)
 let x22:=(List.set (List.set (List.set (List.set (replicate 4 (ByteArray.empty,((ae.mk ((0:Int),((0:Int),((0:Int),(ByteArray.empty,())))) []),()))) 0 ((⟨#[97]⟩:ByteArray),(r1.1.1,()))) 1 ((⟨#[118]⟩:ByteArray),(r2.1.1,()))) 2 ((⟨#[100]⟩:ByteArray),(x9,()))) 3 ((⟨#[115]⟩:ByteArray),(x21,())))
 (jL k k a0 (0:Int) x22).bind fun r29 =>
 some ((r29.2.1,()),())
def Bc (k:Nat):ap:=⟨[.val aZ],[.own oY],fun x=>F66 k x.1⟩
def Dd:Lim:=⟨47,1,false,true,[],[]⟩
def LC (k:Nat):Nat→Option ap:=aW [(67,lG k),(86,Bb k),(87,pz k),(88,Yb k)]
noncomputable def NV:Code:=ac (ab Try.f66) [.r,.r,.l,.r,.s]
noncomputable def Yc:Code:=ac (ab Try.f66) [.r,.r,.l,.r,.s,.b]
noncomputable def co66:Code:=ac (ab Try.f66) []
theorem Fh (k:Nat):aR Try.prog (LC k):=ah (v67 k) (ah (v86 k) (ah (v87 k) (ah (v88 k) (aD))))
noncomputable def Fi (k m:Nat) (v:pC.V):=body Try.prog (ao Try.prog (LC k) Dd) .go Yc (pC.st v) (aH (wY k) (wX k m))
theorem Yd (k m:Nat) (v:pC.V):wX k (m+1) v=(Fi k m v).eval∧(Fi k m v).left=(Fi k m v).right:=⟨by kernel_rfl,by kernel_rfl⟩
theorem NW (k:Nat):aC Try.prog Dd (wY k) NV :=
 am (by kernel_rfl) (aA (Fh k) (aj _) (wX k) k (fun _=>rfl) (fun _=>rfl) (Yd k))
def Ye (k:Nat):aO:=(.seq .go (.seq .go (.seq (.seq .go (.sub (.frag (wY k)))) .go)))
noncomputable def ST (k:Nat) (x:AT (Bc k).ps):=fnT Try.prog (LC k) Dd Try.f66 (ab Try.f66) (Ye k) (Bc k) x
theorem a9v (k:Nat) (x:AT (Bc k).ps):(Bc k).impl x=(ST k x).eval∧(ST k x).left=(ST k x).right:=⟨by kernel_rfl,by kernel_rfl⟩
theorem v66 (k:Nat):ai Try.prog 66∧aB Try.prog 66 (Bc k) :=
 aS (n:=Dd) (fn:=Try.f66) (p:=(Ye k)) (Fh k) (by kernel_rfl) (aG (L:=[(wY k,NV)]) (by kernel_rfl) (.cons (NW k) .nil)) (a9v k)
def uX (f68:(bX→Bool→Option b6)):ap:=⟨[.val Ls,.val .bool],[.val iM],fun x=>f68 x.1 x.2.1⟩
def uY (f89:(bX→Int→Bool→Option b6)):ap:=⟨[.val Ls,.val (.int .i64),.val .bool],[.val iM],fun x=>f89 x.1 x.2.1 x.2.2.1⟩
def B68 (k:Nat) (f68:(bX→Bool→Option b6)) (f89:(bX→Int→Bool→Option b6)) (a0:bX) (a1:Bool):Option b6 :=
 (F67 k (ae.a a0).1 (20:Int)).bind fun r7 =>
 bif (decide (r7.1.1<(1:Int))) then
 let x8:=(ae.a (ae.mk ((0:Int),((0:Int),((0:Int),((0:Int),(ByteArray.empty,()))))) [])).2.1
 let x9:=(ae.a (ae.mk ((0:Int),((0:Int),((0:Int),((0:Int),(ByteArray.empty,()))))) [])).2.2.1
 let x10:=(ae.a (ae.mk ((0:Int),((0:Int),((0:Int),((0:Int),(ByteArray.empty,()))))) [])).2.2.2.1
 let x11:=(ae.a (ae.mk ((0:Int),((0:Int),((0:Int),((0:Int),(ByteArray.empty,()))))) [])).2.2.2.2.1
 let x12:=(ae.l (ae.mk ((0:Int),((0:Int),((0:Int),((0:Int),(ByteArray.empty,()))))) []))
 let x13:=(ae.mk ((1:Int),(x8,(x9,(x10,(x11,()))))) x12)
 some ((x13,()),())
 else
 bif (decide (r7.1.1<(6:Int))) then
 (F87 k).bind fun r14 =>
 (F67 k (ae.a a0).2.1 (4:Int)).bind fun r15 =>
 if 0≤r15.1.1∧r15.1.1<(length r14.1.1:Int) then
 let x16:=(getD r14.1.1 (toNat r15.1.1) ByteArray.empty)
 let x17:=(ae.a (ae.mk ((0:Int),((0:Int),((0:Int),((0:Int),(ByteArray.empty,()))))) [])).2.1
 let x18:=(ae.a (ae.mk ((0:Int),((0:Int),((0:Int),((0:Int),(ByteArray.empty,()))))) [])).2.2.1
 let x19:=(ae.a (ae.mk ((0:Int),((0:Int),((0:Int),((0:Int),(ByteArray.empty,()))))) [])).2.2.2.1
 let x20:=(ae.l (ae.mk ((0:Int),((0:Int),((0:Int),((0:Int),(ByteArray.empty,()))))) []))
 let x21:=(ae.mk ((2:Int),(x17,(x18,(x19,(x16,()))))) x20)
 some ((x21,()),())
 else none
 else
 bif (decide (r7.1.1<(8:Int))) then
 let x22:=(ae.a (ae.mk ((0:Int),((0:Int),((0:Int),((0:Int),(ByteArray.empty,()))))) [])).2.1
 let x23:=(ae.a (ae.mk ((0:Int),((0:Int),((0:Int),((0:Int),(ByteArray.empty,()))))) [])).2.2.1
 let x24:=(ae.a (ae.mk ((0:Int),((0:Int),((0:Int),((0:Int),(ByteArray.empty,()))))) [])).2.2.2.1
 let x25:=(ae.a (ae.mk ((0:Int),((0:Int),((0:Int),((0:Int),(ByteArray.empty,()))))) [])).2.2.2.2.1
 let x26:=(ae.l (ae.mk ((0:Int),((0:Int),((0:Int),((0:Int),(ByteArray.empty,()))))) []))
 let x27:=(ae.mk ((3:Int),(x22,(x23,(x24,(x25,()))))) x26)
 some ((x27,()),())
 else
 bif (decide (r7.1.1<(13:Int))) then
 let x28:=(ae.mk ((ae.a a0).1,((ae.a a0).2.1,())) (ae.l a0))
 let x29:=(ae.mk ((ae.a a0).1,((ae.a a0).2.1,())) (ae.l a0))
 (f89 x28 (0:Int) a1).bind fun r30 =>
 (f89 x29 (1:Int) a1).bind fun r31 =>
 let x32:=(List.set (List.set (replicate 2 (ae.mk ((0:Int),((0:Int),((0:Int),((0:Int),(ByteArray.empty,()))))) [])) 0 r30.1.1) 1 r31.1.1)
 let x33:=(ae.a (ae.mk ((0:Int),((0:Int),((0:Int),((0:Int),(ByteArray.empty,()))))) [])).2.1
 let x34:=(ae.a (ae.mk ((0:Int),((0:Int),((0:Int),((0:Int),(ByteArray.empty,()))))) [])).2.2.1
 let x35:=(ae.a (ae.mk ((0:Int),((0:Int),((0:Int),((0:Int),(ByteArray.empty,()))))) [])).2.2.2.1
 let x36:=(ae.a (ae.mk ((0:Int),((0:Int),((0:Int),((0:Int),(ByteArray.empty,()))))) [])).2.2.2.2.1
 let x37:=(ae.mk ((4:Int),(x33,(x34,(x35,(x36,()))))) x32)
 some ((x37,()),())
 else
 bif (decide (r7.1.1<(15:Int))) then
 let x38:=(ae.mk ((ae.a a0).1,((ae.a a0).2.1,())) (ae.l a0))
 let x39:=(ae.mk ((ae.a a0).1,((ae.a a0).2.1,())) (ae.l a0))
 (f89 x38 (0:Int) a1).bind fun r40 =>
 (f89 x39 (1:Int) a1).bind fun r41 =>
 let x42:=(List.set (List.set (replicate 2 (ae.mk ((0:Int),((0:Int),((0:Int),((0:Int),(ByteArray.empty,()))))) [])) 0 r40.1.1) 1 r41.1.1)
 let x43:=(ae.a (ae.mk ((0:Int),((0:Int),((0:Int),((0:Int),(ByteArray.empty,()))))) [])).2.1
 let x44:=(ae.a (ae.mk ((0:Int),((0:Int),((0:Int),((0:Int),(ByteArray.empty,()))))) [])).2.2.1
 let x45:=(ae.a (ae.mk ((0:Int),((0:Int),((0:Int),((0:Int),(ByteArray.empty,()))))) [])).2.2.2.1
 let x46:=(ae.a (ae.mk ((0:Int),((0:Int),((0:Int),((0:Int),(ByteArray.empty,()))))) [])).2.2.2.2.1
 let x47:=(ae.mk ((5:Int),(x43,(x44,(x45,(x46,()))))) x42)
 some ((x47,()),())
 else
 bif (decide (r7.1.1<(16:Int))) then
 let x48:=(ae.mk ((ae.a a0).1,((ae.a a0).2.1,())) (ae.l a0))
 (f89 x48 (0:Int) a1).bind fun r49 =>
 let x50:=(List.set (replicate 1 (ae.mk ((0:Int),((0:Int),((0:Int),((0:Int),(ByteArray.empty,()))))) [])) 0 r49.1.1)
 let x51:=(ae.a (ae.mk ((0:Int),((0:Int),((0:Int),((0:Int),(ByteArray.empty,()))))) [])).2.1
 let x52:=(ae.a (ae.mk ((0:Int),((0:Int),((0:Int),((0:Int),(ByteArray.empty,()))))) [])).2.2.1
 let x53:=(ae.a (ae.mk ((0:Int),((0:Int),((0:Int),((0:Int),(ByteArray.empty,()))))) [])).2.2.2.1
 let x54:=(ae.a (ae.mk ((0:Int),((0:Int),((0:Int),((0:Int),(ByteArray.empty,()))))) [])).2.2.2.2.1
 let x55:=(ae.mk ((6:Int),(x51,(x52,(x53,(x54,()))))) x50)
 some ((x55,()),())
 else
 bif (decide (r7.1.1<(18:Int))) then
 (F67 k (ae.a a0).2.1 (3:Int)).bind fun r56 =>
 let x57:=(ae.mk ((ae.a a0).1,((ae.a a0).2.1,())) (ae.l a0))
 let x58:=(wrap .i64 (Int.tdiv (ae.a a0).2.1 (3:Int)))
 (f89 x57 (0:Int) a1).bind fun r59 =>
 let x60:=(List.set (replicate 1 (ae.mk ((0:Int),((0:Int),((0:Int),((0:Int),(ByteArray.empty,()))))) [])) 0 r59.1.1)
 (F67 k x58 (3:Int)).bind fun r61 =>
 let x62:=(ae.a (ae.mk ((0:Int),((0:Int),((0:Int),((0:Int),(ByteArray.empty,()))))) [])).2.2.2.1
 let x63:=(ae.a (ae.mk ((0:Int),((0:Int),((0:Int),((0:Int),(ByteArray.empty,()))))) [])).2.2.2.2.1
 let x64:=(ae.mk ((7:Int),(r56.1.1,((wrap .i64 (r56.1.1+r61.1.1)),(x62,(x63,()))))) x60)
 some ((x64,()),())
 else
 bif a1 then
 let x65:=(ae.mk ((ae.a a0).1,((ae.a a0).2.1,())) (ae.l a0))
 (f89 x65 (0:Int) a1).bind fun r66 =>
 some ((r66.1.1,()),())
 else
 let x67:=(ae.mk ((ae.a a0).1,((ae.a a0).2.1,())) (ae.l a0))
 (f89 x67 (0:Int) a1).bind fun r68 =>
 let x69:=(List.set (replicate 1 (ae.mk ((0:Int),((0:Int),((0:Int),((0:Int),(ByteArray.empty,()))))) [])) 0 r68.1.1)
 (F67 k (ae.a a0).2.1 (7:Int)).bind fun r70 =>
 let x71:=(ae.a (ae.mk ((0:Int),((0:Int),((0:Int),((0:Int),(ByteArray.empty,()))))) [])).2.1
 let x72:=(ae.a (ae.mk ((0:Int),((0:Int),((0:Int),((0:Int),(ByteArray.empty,()))))) [])).2.2.1
 let x73:=(ae.a (ae.mk ((0:Int),((0:Int),((0:Int),((0:Int),(ByteArray.empty,()))))) [])).2.2.2.2.1
 let x74:=(ae.mk ((8:Int),(x71,(x72,(r70.1.1,(x73,()))))) x69)
 some ((x74,()),())
def Fj (k:Nat) (f68:(bX→Bool→Option b6)) (f89:(bX→Int→Bool→Option b6)):ap:=uX (B68 k f68 f89)
def Vc:Lim:=⟨88,2,false,false,[],[]⟩
def Vd (k:Nat) (f68:(bX→Bool→Option b6)) (f89:(bX→Int→Bool→Option b6)):Nat→Option ap:=aW [(67,lG k),(87,pz k),(89,uY f89)]
noncomputable def co68:Code:=ac (ab Try.f68) []
theorem SU (k:Nat) (f68:(bX→Bool→Option b6)) (f89:(bX→Int→Bool→Option b6)) (h68:ai Try.prog 68∧aB Try.prog 68 (uX f68)) (h89:ai Try.prog 89∧aB Try.prog 89 (uY f89)):aR Try.prog (Vd k f68 f89):=ah (v67 k) (ah (v87 k) (ah h89 (aD)))
noncomputable def SW (k:Nat) (f68:(bX→Bool→Option b6)) (f89:(bX→Int→Bool→Option b6)) (x:AT (Fj k f68 f89).ps):=fnT Try.prog (Vd k f68 f89) Vc Try.f68 (ab Try.f68) .go (Fj k f68 f89) x
theorem a0w (k:Nat) (f68:(bX→Bool→Option b6)) (f89:(bX→Int→Bool→Option b6)) (x:AT (Fj k f68 f89).ps):(Fj k f68 f89).impl x=(SW k f68 f89 x).eval∧(SW k f68 f89 x).left=(SW k f68 f89 x).right:=⟨by kernel_rfl,by kernel_rfl⟩
theorem b68 (k:Nat) (f68:(bX→Bool→Option b6)) (f89:(bX→Int→Bool→Option b6)) (h68:ai Try.prog 68∧aB Try.prog 68 (uX f68)) (h89:ai Try.prog 89∧aB Try.prog 89 (uY f89)):ai Try.prog 68∧aB Try.prog 68 (Fj k f68 f89) :=
 aS (n:=Vc) (fn:=Try.f68) (p:=.go) (SU k f68 f89 h68 h89) (by kernel_rfl) (aj _) (a0w k f68 f89)
def B89 (k:Nat) (f68:(bX→Bool→Option b6)) (f89:(bX→Int→Bool→Option b6)) (a0:bX) (a1:Int) (a2:Bool):Option b6 :=
 let x7:=(decide (a1<(length (ae.l a0):Int)))
 bif x7 then
 if 0≤a1∧a1<(length (ae.l a0):Int) then
 let x8:=(getD (ae.l a0) (toNat a1) (ae.mk ((0:Int),((0:Int),())) []))
 (f68 x8 a2).bind fun r9 =>
 some ((r9.1.1,()),())
 else none
 else
 (F87 k).bind fun r10 =>
 (F67 k (wrap .i64 ((ae.a a0).2.1+a1)) (4:Int)).bind fun r11 =>
 if 0≤r11.1.1∧r11.1.1<(length r10.1.1:Int) then
 let x12:=(getD r10.1.1 (toNat r11.1.1) ByteArray.empty)
 let x13:=(ae.a (ae.mk ((0:Int),((0:Int),((0:Int),((0:Int),(ByteArray.empty,()))))) [])).2.1
 let x14:=(ae.a (ae.mk ((0:Int),((0:Int),((0:Int),((0:Int),(ByteArray.empty,()))))) [])).2.2.1
 let x15:=(ae.a (ae.mk ((0:Int),((0:Int),((0:Int),((0:Int),(ByteArray.empty,()))))) [])).2.2.2.1
 let x16:=(ae.l (ae.mk ((0:Int),((0:Int),((0:Int),((0:Int),(ByteArray.empty,()))))) []))
 let x17:=(ae.mk ((2:Int),(x13,(x14,(x15,(x12,()))))) x16)
 some ((x17,()),())
 else none
def Fk (k:Nat) (f68:(bX→Bool→Option b6)) (f89:(bX→Int→Bool→Option b6)):ap:=uY (B89 k f68 f89)
def Ve:Lim:=⟨28,3,false,false,[],[]⟩
def Vf (k:Nat) (f68:(bX→Bool→Option b6)) (f89:(bX→Int→Bool→Option b6)):Nat→Option ap:=aW [(67,lG k),(68,uX f68),(87,pz k)]
noncomputable def co89:Code:=ac (ab Try.f89) []
theorem SX (k:Nat) (f68:(bX→Bool→Option b6)) (f89:(bX→Int→Bool→Option b6)) (h68:ai Try.prog 68∧aB Try.prog 68 (uX f68)) (h89:ai Try.prog 89∧aB Try.prog 89 (uY f89)):aR Try.prog (Vf k f68 f89):=ah (v67 k) (ah h68 (ah (v87 k) (aD)))
noncomputable def SY (k:Nat) (f68:(bX→Bool→Option b6)) (f89:(bX→Int→Bool→Option b6)) (x:AT (Fk k f68 f89).ps):=fnT Try.prog (Vf k f68 f89) Ve Try.f89 (ab Try.f89) .go (Fk k f68 f89) x
theorem a1w (k:Nat) (f68:(bX→Bool→Option b6)) (f89:(bX→Int→Bool→Option b6)) (x:AT (Fk k f68 f89).ps):(Fk k f68 f89).impl x=(SY k f68 f89 x).eval∧(SY k f68 f89 x).left=(SY k f68 f89 x).right:=⟨by kernel_rfl,by kernel_rfl⟩
theorem b89 (k:Nat) (f68:(bX→Bool→Option b6)) (f89:(bX→Int→Bool→Option b6)) (h68:ai Try.prog 68∧aB Try.prog 68 (uX f68)) (h89:ai Try.prog 89∧aB Try.prog 89 (uY f89)):ai Try.prog 89∧aB Try.prog 89 (Fk k f68 f89) :=
 aS (n:=Ve) (fn:=Try.f89) (p:=.go) (SX k f68 f89 h68 h89) (by kernel_rfl) (aj _) (a1w k f68 f89)
def R68:Nat→(bX→Bool→Option b6)×(bX→Int→Bool→Option b6)
 |0=>(fun _ _=>none,fun _ _ _=>none)
 |k+1=>(B68 k (R68 k).1 (R68 k).2,B89 k (R68 k).1 (R68 k).2)
def F68 (k:Nat) (a0_:bX) (a1_:Bool):Option b6:=(R68 k).1 a0_ a1_
def Yf (k:Nat):ap:=⟨[.val Ls,.val .bool],[.val iM],fun x=>F68 k x.1 x.2.1⟩
def F89 (k:Nat) (a0_:bX) (a1_:Int) (a2_:Bool):Option b6:=(R68 k).2 a0_ a1_ a2_
def a2w (k:Nat):ap:=⟨[.val Ls,.val (.int .i64),.val .bool],[.val iM],fun x=>F89 k x.1 x.2.1 x.2.2.1⟩
theorem r68 (k:Nat):(ai Try.prog 68∧aB Try.prog 68 (uX (R68 k).1))∧(ai Try.prog 89∧aB Try.prog 89 (uY (R68 k).2)):=by
 induction k with
 |zero=>exact ⟨⟨⟨Try.f68,by kernel_rfl,by kernel_rfl,by kernel_rfl⟩,fun x r h=>by cases (show (none:Option _)=some r from h)⟩,⟨⟨Try.f89,by kernel_rfl,by kernel_rfl,by kernel_rfl⟩,fun x r h=>by cases (show (none:Option _)=some r from h)⟩⟩
 |succ k ih=>exact ⟨b68 k (R68 k).1 (R68 k).2 ih.1 ih.2,b89 k (R68 k).1 (R68 k).2 ih.1 ih.2⟩
theorem v68 (k:Nat):ai Try.prog 68∧aB Try.prog 68 (Yf k):=(r68 k).1
theorem v89 (k:Nat):ai Try.prog 89∧aB Try.prog 89 (a2w k):=(r68 k).2
def jM (k:Nat):Nat→du→(List Int)→Int→aN→aN→Option ((Unit×(aN×aN×Unit)))
 |0,_,_,_,_,_=>none
 |n+1,t0,t1,t8,c6,c7 =>
  let x23:=(decide ((wrap .i64 (t8+(1:Int)))<(length t0:Int)))
  bif x23 then
  bif (decide (t8<(8:Int))) then
  let x24:=(decide ((wrap .i64 (Int.tdiv t8 (2:Int)))<(length t1:Int)))
  bif x24 then
  if 0≤(wrap .i64 (Int.tdiv t8 (2:Int)))∧(wrap .i64 (Int.tdiv t8 (2:Int)))<(length t1:Int) then
  let x25:=(getD t1 (toNat (wrap .i64 (Int.tdiv t8 (2:Int)))) (0:Int))
  (F67 k x25 (1073741824:Int)).bind fun r26 =>
  let x27:=(wrap .i64 (Int.tdiv r26.1.1 (3:Int)))
  if 0≤t8∧t8<(length t0:Int) then
  let x28:=(getD t0 (toNat t8) (ae.mk ((0:Int),((0:Int),())) []))
  if 0≤(wrap .i64 (t8+(1:Int)))∧(wrap .i64 (t8+(1:Int)))<(length t0:Int) then
  let x29:=(getD t0 (toNat (wrap .i64 (t8+(1:Int)))) (ae.mk ((0:Int),((0:Int),())) []))
  (F68 k x28 false).bind fun r30 =>
  (F68 k x29 true).bind fun r31 =>
  let x32:=(List.set (replicate 1 ((0:Int),((0:Int),((ae.mk ((0:Int),((0:Int),((0:Int),((0:Int),(ByteArray.empty,()))))) []),((ae.mk ((0:Int),((0:Int),((0:Int),((0:Int),(ByteArray.empty,()))))) []),()))))) 0 ((Int.tmod r26.1.1 (3:Int)),((Int.tmod x27 (20:Int)),(r30.1.1,(r31.1.1,())))))
  if (length c7.2.1+length x32)*(160*2)≤281474976710656∧length c7.2.1+length x32≤9223372036854775807 then
  (jM k n t0 t1 (wrap .i64 (t8+(2:Int))) c6 (c7.1,((c7.2.1++x32),c7.2.2))).bind some
  else none
  else none
  else none
  else none
  else
  let x33:=(Int.tmod (wrap .i64 (Int.tdiv t8 (3:Int))) (20:Int))
  if 0≤t8∧t8<(length t0:Int) then
  let x34:=(getD t0 (toNat t8) (ae.mk ((0:Int),((0:Int),())) []))
  if 0≤(wrap .i64 (t8+(1:Int)))∧(wrap .i64 (t8+(1:Int)))<(length t0:Int) then
  let x35:=(getD t0 (toNat (wrap .i64 (t8+(1:Int)))) (ae.mk ((0:Int),((0:Int),())) []))
  (F68 k x34 false).bind fun r36 =>
  (F68 k x35 true).bind fun r37 =>
  let x38:=(List.set (replicate 1 ((0:Int),((0:Int),((ae.mk ((0:Int),((0:Int),((0:Int),((0:Int),(ByteArray.empty,()))))) []),((ae.mk ((0:Int),((0:Int),((0:Int),((0:Int),(ByteArray.empty,()))))) []),()))))) 0 ((Int.tmod t8 (3:Int)),(x33,(r36.1.1,(r37.1.1,())))))
  if (length c7.2.1+length x38)*(160*2)≤281474976710656∧length c7.2.1+length x38≤9223372036854775807 then
  (jM k n t0 t1 (wrap .i64 (t8+(2:Int))) c6 (c7.1,((c7.2.1++x38),c7.2.2))).bind some
  else none
  else none
  else none
  else
  some ((),(c6,c7,()))
  else
  some ((),(c6,c7,()))
def pE:aE:=⟨[],[(0,.val oW),(1,.val aZ),(6,.ptr 6 []),(7,.ptr 7 []),(8,.val (.int .i64))],[(6,some 29,KD6),(7,some 29,KD6)]⟩
def wZ (k m:Nat) (v:pE.V):=jM k m v.1.1 v.1.2.1 v.1.2.2.1 v.2.1 v.2.2.1
def w5 (k:Nat):aL:=⟨pE,[(.exit 0,⟨[],[(6,.ptr 6 []),(7,.ptr 7 [])],[(6,some 29,KD6),(7,some 29,KD6)]⟩)],wZ k k⟩
def F36 (k:Nat) (a0:du) (a1:(List Int)) (a2:(List Int)):Option ((aN×Unit)×Unit) :=
 let x1:=([]:fX)
 let x2:=([]:kp)
 (F66 k a2).bind fun r3 =>
 let x4:=([]:kp)
 (jM k k a0 a1 (0:Int) (x1,(x2,())) (r3.1.1,(x4,()))).bind fun r39 =>
 some ((r39.2.2.1,()),())
def Bd (k:Nat):ap:=⟨[.val oW,.val aZ,.val aZ],[.own KD6],fun x=>F36 k x.1 x.2.1 x.2.2.1⟩
def De:Lim:=⟨59,3,false,false,[],[]⟩
def LD (k:Nat):Nat→Option ap:=aW [(66,Bc k),(67,lG k),(68,Yf k)]
noncomputable def NX:Code:=ac (ab Try.f36) [.r,.r,.l,.r,.s]
noncomputable def Yg:Code:=ac (ab Try.f36) [.r,.r,.l,.r,.s,.b]
noncomputable def co36:Code:=ac (ab Try.f36) []
theorem Fl (k:Nat):aR Try.prog (LD k):=ah (v66 k) (ah (v67 k) (ah (v68 k) (aD)))
noncomputable def Fm (k m:Nat) (v:pE.V):=body Try.prog (ao Try.prog (LD k) De) .go Yg (pE.st v) (aH (w5 k) (wZ k m))
theorem Yh (k m:Nat) (v:pE.V):wZ k (m+1) v=(Fm k m v).eval∧(Fm k m v).left=(Fm k m v).right:=⟨by kernel_rfl,by kernel_rfl⟩
theorem NY (k:Nat):aC Try.prog De (w5 k) NX :=
 am (by kernel_rfl) (aA (Fl k) (aj _) (wZ k) k (fun _=>rfl) (fun _=>rfl) (Yh k))
def Yi (k:Nat):aO:=(.seq .go (.seq .go (.seq (.seq .go (.sub (.frag (w5 k)))) .go)))
noncomputable def SZ (k:Nat) (x:AT (Bd k).ps):=fnT Try.prog (LD k) De Try.f36 (ab Try.f36) (Yi k) (Bd k) x
theorem a3w (k:Nat) (x:AT (Bd k).ps):(Bd k).impl x=(SZ k x).eval∧(SZ k x).left=(SZ k x).right:=⟨by kernel_rfl,by kernel_rfl⟩
theorem v36 (k:Nat):ai Try.prog 36∧aB Try.prog 36 (Bd k) :=
 aS (n:=De) (fn:=Try.f36) (p:=(Yi k)) (Fl k) (by kernel_rfl) (aG (L:=[(w5 k,NX)]) (by kernel_rfl) (.cons (NY k) .nil)) (a3w k)
def lY (k:Nat):Nat→bT→Int→Int→oT→bT→Option (((bT×Int×Int×Unit)×(oT×bT×Unit)))
 |0,_,_,_,_,_=>none
 |n+1,t0,t4,t6,c5,e0 =>
  bif (decide (t6>(0:Int))) then
  if 0≤(wrap .i64 (t6-(1:Int)))∧(wrap .i64 (t6-(1:Int)))<(length e0:Int) then
  let x5:=(toNat (wrap .i64 (t6-(1:Int))))
  let x6:=(getD e0 x5 ((0:Int),((0:Int),()))).1
  bif (decide (c5.1<x6)) then
  (lY k n t0 t4 (wrap .i64 (t6-(1:Int))) c5 e0).bind some
  else
  some ((t0,t4,t6,()),(c5,e0,()))
  else none
  else
  some ((t0,t4,t6,()),(c5,e0,()))
def lZ:aE:=⟨[(3,dP)],[(0,.val fb),(3,.at 2000003 []),(4,.val (.int .i64)),(5,.ptr 5 []),(6,.val (.int .i64))],[(5,some 160,(.pair (.int .i64) (.pair (.int .i64) .unit))),(2000003,none,dP)]⟩
def sB (k m:Nat) (v:lZ.V):=lY k m v.1.1 v.1.2.1 v.1.2.2.1 v.2.1 v.2.2.1
def sC (k:Nat):aL:=⟨lZ,[(.exit 2,⟨[],[(0,.val fb),(3,.at 2000003 []),(4,.val (.int .i64)),(5,.ptr 5 []),(6,.val (.int .i64))],[(5,some 160,(.pair (.int .i64) (.pair (.int .i64) .unit))),(2000003,none,dP)]⟩)],sB k k⟩
def jn (k:Nat):Nat→bT→Int→bT→Option ((Unit×EQ))
 |0,_,_,_=>none
 |n+1,t0,t4,e0 =>
  let x1:=(decide (t4<(length t0:Int)))
  bif x1 then
  if 0≤t4∧t4<(length t0:Int) then
  let x2:=(getD t0 (toNat t4) ((0:Int),((0:Int),())))
  if 0≤t4∧t4<(length t0:Int) then
  let x3:=(getD t0 (toNat t4) ((0:Int),((0:Int),())))
  let x4:=(decide ((bZ x2.1 (0:Int))>(aK x3.2.1 (1114111:Int))))
  bif x4 then
  (jn k n t0 (wrap .i64 (t4+(1:Int))) e0).bind some
  else
  (lY k k t0 t4 (length e0:Int) ((bZ x2.1 (0:Int)),((aK x3.2.1 (1114111:Int)),())) e0).bind fun r7 =>
  let y10:=r7.1.2.2.1
  let y12:=r7.2.2.1
  if 0≤(0:Int)∧(0:Int)≤y10∧y10≤(length y12:Int) then
  let x13:=(toNat y10-toNat (0:Int))
  if 0≤y10∧y10≤(length y12:Int)∧(length y12:Int)≤(length y12:Int) then
  let x14:=(toNat (length y12:Int)-toNat y10)
  let x15:=(replicate 0 ((0:Int),((0:Int),())))
  if (length x15+length (take x13 (drop (toNat (0:Int)) y12)))*(16*2)≤281474976710656∧length x15+length (take x13 (drop (toNat (0:Int)) y12))≤9223372036854775807 then
  let x16:=(x15++(take x13 (drop (toNat (0:Int)) y12)))
  let x17:=(List.set (replicate 1 ((0:Int),((0:Int),()))) 0 r7.2.1)
  if (length x16+length x17)*(16*2)≤281474976710656∧length x16+length x17≤9223372036854775807 then
  if (length (x16++x17)+length (take x14 (drop (toNat y10) y12)))*(16*2)≤281474976710656∧length (x16++x17)+length (take x14 (drop (toNat y10) y12))≤9223372036854775807 then
  let x18:=((x16++x17)++(take x14 (drop (toNat y10) y12)))
  (jn k n r7.1.1 (wrap .i64 (r7.1.2.1+(1:Int))) x18).bind some
  else none
  else none
  else none
  else none
  else none
  else none
  else none
  else
  some ((),(e0,()))
def l7:aE:=⟨[(3,dP)],[(0,.val fb),(3,.at 2000003 []),(4,.val (.int .i64))],[(2000003,none,dP)]⟩
def sD (k m:Nat) (v:l7.V):=jn k m v.1.1 v.1.2.1 v.2.1
def sE (k:Nat):aL:=⟨l7,[(.exit 0,⟨[(3,dP)],[(3,.at 2000003 [])],[(2000003,none,dP)]⟩)],sD k k⟩
def LF (k:Nat) (a0:bT):Option AZ :=
 (jn k k a0 (0:Int) []).bind fun r19 =>
 some ((r19.2.1,()),())
def sF (k:Nat):ap:=⟨[.val fb],[.own dP],fun x=>LF k x.1⟩
def l8:Lim:=⟨61,1,false,false,[],[]⟩
def w6 (k:Nat):Nat→Option ap:=aW []
noncomputable def JI:Code:=ac (ab Try.f100) [.r,.r,.l,.r,.s,.b,.r,.l,.s,.r,.r,.r,.l,.s]
noncomputable def V3:Code:=ac (ab Try.f100) [.r,.r,.l,.r,.s,.b,.r,.l,.s,.r,.r,.r,.l,.s,.b]
noncomputable def JJ:Code:=ac (ab Try.f100) [.r,.r,.l,.r,.s]
noncomputable def V4:Code:=ac (ab Try.f100) [.r,.r,.l,.r,.s,.b]
noncomputable def co100:Code:=ac (ab Try.f100) []
theorem pF (k:Nat):aR Try.prog (w6 k):=aD
noncomputable def Be (k m:Nat) (v:lZ.V):=body Try.prog (ao Try.prog (w6 k) l8) .go V3 (lZ.st v) (aH (sC k) (sB k m))
theorem V5 (k m:Nat) (v:lZ.V):sB k (m+1) v=(Be k m v).eval∧(Be k m v).left=(Be k m v).right:=⟨by kernel_rfl,by kernel_rfl⟩
theorem LG (k:Nat):aC Try.prog l8 (sC k) JI :=
 am (by kernel_rfl) (aA (pF k) (aj _) (sB k) k (fun _=>rfl) (fun _=>rfl) (V5 k))
def V6 (k:Nat):aO:=(.seq .go (.seq (.sub (.seq .go (.seq .go (.seq .go (.seq (.sub (.frag (sC k))) .go))))) .go))
noncomputable def Bf (k m:Nat) (v:l7.V):=body Try.prog (ao Try.prog (w6 k) l8) (V6 k) V4 (l7.st v) (aH (sE k) (sD k m))
theorem V7 (k m:Nat) (v:l7.V):sD k (m+1) v=(Bf k m v).eval∧(Bf k m v).left=(Bf k m v).right:=⟨by kernel_rfl,by kernel_rfl⟩
theorem LH (k:Nat):aC Try.prog l8 (sE k) JJ :=
 am (by kernel_rfl) (aA (pF k) (aG (L:=[(sC k,JI)]) (by kernel_rfl) (.cons (LG k) .nil)) (sD k) k (fun _=>rfl) (fun _=>rfl) (V7 k))
def Vg (k:Nat):aO:=(.seq .go (.seq .go (.seq (.seq .go (.sub (.frag (sE k)))) .go)))
noncomputable def LI (k:Nat) (x:AT (sF k).ps):=fnT Try.prog (w6 k) l8 Try.f100 (ab Try.f100) (Vg k) (sF k) x
theorem a2r (k:Nat) (x:AT (sF k).ps):(sF k).impl x=(LI k x).eval∧(LI k x).left=(LI k x).right:=⟨by kernel_rfl,by kernel_rfl⟩
theorem a4w (k:Nat):ai Try.prog 100∧aB Try.prog 100 (sF k) :=
 aS (n:=l8) (fn:=Try.f100) (p:=(Vg k)) (pF k) (by kernel_rfl) (aG (L:=[(sE k,JJ)]) (by kernel_rfl) (.cons (LH k) .nil)) (a2r k)
def jN (k:Nat):Nat→Int→bT→bT→Option ((Unit×EQ))
 |0,_,_,_=>none
 |n+1,t5,e0,e1 =>
  let x2:=(decide (t5<(length e0:Int)))
  bif x2 then
  let x3:=(wrap .i64 ((length e1:Int)-(1:Int)))
  bif (decide (x3≥(0:Int))) then
  if 0≤t5∧t5<(length e0:Int) then
  let x4:=(getD e0 (toNat t5) ((0:Int),((0:Int),()))).1
  if 0≤x3∧x3<(length e1:Int) then
  let x5:=(getD e1 (toNat x3) ((0:Int),((0:Int),()))).2.1
  let x6:=(decide (x4≤(wrap .i64 (x5+(1:Int)))))
  bif x6 then
  if 0≤x3∧x3<(length e1:Int) then
  let x7:=(getD e1 (toNat x3) ((0:Int),((0:Int),()))).2.1
  if 0≤t5∧t5<(length e0:Int) then
  let x8:=(getD e0 (toNat t5) ((0:Int),((0:Int),()))).2.1
  if 0≤x3∧x3<(length e1:Int) then
  let x9:=(List.set e1 (toNat x3) ((getD e1 (toNat x3) ((0:Int),((0:Int),()))).1,((bZ x7 x8),(getD e1 (toNat x3) ((0:Int),((0:Int),()))).2.2)))
  (jN k n (wrap .i64 (t5+(1:Int))) e0 x9).bind some
  else none
  else none
  else none
  else
  if 0≤t5∧t5<(length e0:Int) then
  let x10:=(getD e0 (toNat t5) ((0:Int),((0:Int),())))
  let x11:=(List.set (replicate 1 ((0:Int),((0:Int),()))) 0 x10)
  if (length e1+length x11)*(16*2)≤281474976710656∧length e1+length x11≤9223372036854775807 then
  (jN k n (wrap .i64 (t5+(1:Int))) e0 (e1++x11)).bind some
  else none
  else none
  else none
  else none
  else
  if 0≤t5∧t5<(length e0:Int) then
  let x12:=(getD e0 (toNat t5) ((0:Int),((0:Int),())))
  let x13:=(List.set (replicate 1 ((0:Int),((0:Int),()))) 0 x12)
  if (length e1+length x13)*(16*2)≤281474976710656∧length e1+length x13≤9223372036854775807 then
  (jN k n (wrap .i64 (t5+(1:Int))) e0 (e1++x13)).bind some
  else none
  else none
  else
  some ((),(e1,()))
def pG:aE:=⟨[(3,dP)],[(3,.at 2000003 []),(4,.at 1000128 []),(5,.val (.int .i64))],[(1000128,none,dP),(2000003,none,dP)]⟩
def w7 (k m:Nat) (v:pG.V):=jN k m v.1.1 v.2.1 v.2.2.1
def w8 (k:Nat):aL:=⟨pG,[(.exit 0,⟨[(3,dP)],[(3,.at 2000003 [])],[(2000003,none,dP)]⟩)],w7 k k⟩
def F90 (k:Nat) (a0:bT):Option AZ :=
 (LF k a0).bind fun r1 =>
 (jN k k (0:Int) r1.1.1 []).bind fun r14 =>
 some ((r14.2.1,()),())
def pH (k:Nat):ap:=⟨[.val fb],[.own dP],fun x=>F90 k x.1⟩
def Df:Lim:=⟨57,1,false,false,[],[]⟩
def LJ (k:Nat):Nat→Option ap:=aW [(100,sF k)]
noncomputable def NZ:Code:=ac (ab Try.f90) [.r,.r,.r,.l,.r,.s]
noncomputable def Yj:Code:=ac (ab Try.f90) [.r,.r,.r,.l,.r,.s,.b]
noncomputable def co90:Code:=ac (ab Try.f90) []
theorem Fo (k:Nat):aR Try.prog (LJ k):=ah (a4w k) (aD)
noncomputable def Fp (k m:Nat) (v:pG.V):=body Try.prog (ao Try.prog (LJ k) Df) .go Yj (pG.st v) (aH (w8 k) (w7 k m))
theorem Yk (k m:Nat) (v:pG.V):w7 k (m+1) v=(Fp k m v).eval∧(Fp k m v).left=(Fp k m v).right:=⟨by kernel_rfl,by kernel_rfl⟩
theorem N0 (k:Nat):aC Try.prog Df (w8 k) NZ :=
 am (by kernel_rfl) (aA (Fo k) (aj _) (w7 k) k (fun _=>rfl) (fun _=>rfl) (Yk k))
def Yl (k:Nat):aO:=(.seq .go (.seq .go (.seq .go (.seq (.seq .go (.sub (.frag (w8 k)))) .go))))
noncomputable def S0 (k:Nat) (x:AT (pH k).ps):=fnT Try.prog (LJ k) Df Try.f90 (ab Try.f90) (Yl k) (pH k) x
theorem a5w (k:Nat) (x:AT (pH k).ps):(pH k).impl x=(S0 k x).eval∧(S0 k x).left=(S0 k x).right:=⟨by kernel_rfl,by kernel_rfl⟩
theorem v90 (k:Nat):ai Try.prog 90∧aB Try.prog 90 (pH k) :=
 aS (n:=Df) (fn:=Try.f90) (p:=(Yl k)) (Fo k) (by kernel_rfl) (aG (L:=[(w8 k,NZ)]) (by kernel_rfl) (.cons (N0 k) .nil)) (a5w k)
def sG (k:Nat):Nat→ByteArray→Int→aN→Option ((Unit×Unit)⊕bG)
 |0,_,_,_=>none
 |n+1,t1,t5,c2 =>
  let x4:=(decide (t5<(length c2.1:Int)))
  bif x4 then
  if 0≤t5∧t5<(length c2.1:Int) then
  let x5:=(getD c2.1 (toNat t5) (ByteArray.empty,((ae.mk ((0:Int),((0:Int),((0:Int),(ByteArray.empty,())))) []),())))
  let x6:=(ByteArray.toList x5.1==ByteArray.toList t1)
  bif x6 then
  some (.inr ((t5,()),()))
  else
  (sG k n t1 (wrap .i64 (t5+(1:Int))) c2).bind some
  else none
  else
  some (.inl ((),()))
def pI:aE:=⟨[],[(1,.val .str),(2,.ptr 2 []),(5,.val (.int .i64))],[(2,some 29,KD5)]⟩
def w9 (k m:Nat) (v:pI.V):=sG k m v.1.1 v.1.2.1 v.2.1
def xa (k:Nat):aL:=⟨pI,[(.exit 0,⟨[],[],[]⟩),(.ret,⟨[],[(4,.val (.int .i64))],[]⟩)],w9 k k⟩
def F83 (k:Nat) (a0:aN) (a1:ByteArray):Option bG :=
 (sG k k a1 (0:Int) a0).bind fun r7 =>
 match r7 with
 |.inl r8 =>
  some (((-1:Int),()),())
 |.inr r8 =>
  some ((r8.1.1,()),())
def pJ (k:Nat):ap:=⟨[.val KD5,.val .str],[.val (.int .i64)],fun x=>F83 k x.1 x.2.1⟩
def Dg:Lim:=⟨22,2,false,false,[],[]⟩
def LK (k:Nat):Nat→Option ap:=aW []
noncomputable def N1:Code:=ac (ab Try.f83) [.r,.l,.r,.s]
noncomputable def Ym:Code:=ac (ab Try.f83) [.r,.l,.r,.s,.b]
noncomputable def co83:Code:=ac (ab Try.f83) []
theorem Fq (k:Nat):aR Try.prog (LK k):=aD
noncomputable def Fs (k m:Nat) (v:pI.V):=body Try.prog (ao Try.prog (LK k) Dg) .go Ym (pI.st v) (aH (xa k) (w9 k m))
theorem Yn (k m:Nat) (v:pI.V):w9 k (m+1) v=(Fs k m v).eval∧(Fs k m v).left=(Fs k m v).right:=⟨by kernel_rfl,by kernel_rfl⟩
theorem N2 (k:Nat):aC Try.prog Dg (xa k) N1 :=
 am (by kernel_rfl) (aA (Fq k) (aj _) (w9 k) k (fun _=>rfl) (fun _=>rfl) (Yn k))
def Yo (k:Nat):aO:=(.seq .go (.seq (.seq .go (.sub (.frag (xa k)))) .go))
noncomputable def S1 (k:Nat) (x:AT (pJ k).ps):=fnT Try.prog (LK k) Dg Try.f83 (ab Try.f83) (Yo k) (pJ k) x
theorem a6w (k:Nat) (x:AT (pJ k).ps):(pJ k).impl x=(S1 k x).eval∧(S1 k x).left=(S1 k x).right:=⟨by kernel_rfl,by kernel_rfl⟩
theorem v83 (k:Nat):ai Try.prog 83∧aB Try.prog 83 (pJ k) :=
 aS (n:=Dg) (fn:=Try.f83) (p:=(Yo k)) (Fq k) (by kernel_rfl) (aG (L:=[(xa k,N1)]) (by kernel_rfl) (.cons (N2 k) .nil)) (a6w k)
def mX (k:Nat):Nat→bT→Int→Int→bT→Option (((Int×Unit)×EQ))
 |0,_,_,_,_=>none
 |n+1,t0,t4,t5,e0 =>
  let x1:=(decide (t5<(length t0:Int)))
  bif x1 then
  if 0≤t5∧t5<(length t0:Int) then
  let x2:=(getD t0 (toNat t5) ((0:Int),((0:Int),())))
  let x3:=(List.set (replicate 1 ((0:Int),((0:Int),()))) 0 (t4,((wrap .i64 (x2.1-(1:Int))),())))
  if (length e0+length x3)*(16*2)≤281474976710656∧length e0+length x3≤9223372036854775807 then
  if 0≤t5∧t5<(length t0:Int) then
  let x4:=(getD t0 (toNat t5) ((0:Int),((0:Int),())))
  (mX k n t0 (wrap .i64 (x4.2.1+(1:Int))) (wrap .i64 (t5+(1:Int))) (e0++x3)).bind some
  else none
  else none
  else none
  else
  some ((t4,()),(e0,()))
def pK:aE:=⟨[(3,dP)],[(0,.val fb),(3,.at 2000003 []),(4,.val (.int .i64)),(5,.val (.int .i64))],[(2000003,none,dP)]⟩
def xb (k m:Nat) (v:pK.V):=mX k m v.1.1 v.1.2.1 v.1.2.2.1 v.2.1
def xc (k:Nat):aL:=⟨pK,[(.exit 0,⟨[(3,dP)],[(3,.at 2000003 []),(4,.val (.int .i64))],[(2000003,none,dP)]⟩)],xb k k⟩
def F91 (k:Nat) (a0:bT):Option AZ :=
 (mX k k a0 (0:Int) (0:Int) []).bind fun r5 =>
 let x8:=(List.set (replicate 1 ((0:Int),((0:Int),()))) 0 (r5.1.1,((1114111:Int),())))
 if (length r5.2.1+length x8)*(16*2)≤281474976710656∧length r5.2.1+length x8≤9223372036854775807 then
 (F90 k (r5.2.1++x8)).bind fun r9 =>
 some ((r9.1.1,()),())
 else none
def pL (k:Nat):ap:=⟨[.val fb],[.own dP],fun x=>F91 k x.1⟩
def Dh:Lim:=⟨35,1,false,false,[],[]⟩
def LL (k:Nat):Nat→Option ap:=aW [(90,pH k)]
noncomputable def N3:Code:=ac (ab Try.f91) [.r,.r,.r,.l,.r,.s]
noncomputable def Yp:Code:=ac (ab Try.f91) [.r,.r,.r,.l,.r,.s,.b]
noncomputable def co91:Code:=ac (ab Try.f91) []
theorem Ft (k:Nat):aR Try.prog (LL k):=ah (v90 k) (aD)
noncomputable def Fu (k m:Nat) (v:pK.V):=body Try.prog (ao Try.prog (LL k) Dh) .go Yp (pK.st v) (aH (xc k) (xb k m))
theorem Yq (k m:Nat) (v:pK.V):xb k (m+1) v=(Fu k m v).eval∧(Fu k m v).left=(Fu k m v).right:=⟨by kernel_rfl,by kernel_rfl⟩
theorem N4 (k:Nat):aC Try.prog Dh (xc k) N3 :=
 am (by kernel_rfl) (aA (Ft k) (aj _) (xb k) k (fun _=>rfl) (fun _=>rfl) (Yq k))
def Yr (k:Nat):aO:=(.seq .go (.seq .go (.seq .go (.seq (.seq .go (.sub (.frag (xc k)))) .go))))
noncomputable def S2 (k:Nat) (x:AT (pL k).ps):=fnT Try.prog (LL k) Dh Try.f91 (ab Try.f91) (Yr k) (pL k) x
theorem a7w (k:Nat) (x:AT (pL k).ps):(pL k).impl x=(S2 k x).eval∧(S2 k x).left=(S2 k x).right:=⟨by kernel_rfl,by kernel_rfl⟩
theorem v91 (k:Nat):ai Try.prog 91∧aB Try.prog 91 (pL k) :=
 aS (n:=Dh) (fn:=Try.f91) (p:=(Yr k)) (Ft k) (by kernel_rfl) (aG (L:=[(xc k,N3)]) (by kernel_rfl) (.cons (N4 k) .nil)) (a7w k)
def F92 (k:Nat) (a0:bT) (a1:bT):Option AZ :=
 let x1:=(replicate 0 ((0:Int),((0:Int),())))
 if (length x1+length a0)*(16*2)≤281474976710656∧length x1+length a0≤9223372036854775807 then
 if (length (x1++a0)+length a1)*(16*2)≤281474976710656∧length (x1++a0)+length a1≤9223372036854775807 then
 (F90 k ((x1++a0)++a1)).bind fun r2 =>
 some ((r2.1.1,()),())
 else none
 else none
def uZ (k:Nat):ap:=⟨[.val fb,.val fb],[.own dP],fun x=>F92 k x.1 x.2.1⟩
def Vh:Lim:=⟨11,2,false,false,[],[]⟩
def Vi (k:Nat):Nat→Option ap:=aW [(90,pH k)]
noncomputable def co92:Code:=ac (ab Try.f92) []
theorem S3 (k:Nat):aR Try.prog (Vi k):=ah (v90 k) (aD)
noncomputable def S4 (k:Nat) (x:AT (uZ k).ps):=fnT Try.prog (Vi k) Vh Try.f92 (ab Try.f92) .go (uZ k) x
theorem a8w (k:Nat) (x:AT (uZ k).ps):(uZ k).impl x=(S4 k x).eval∧(S4 k x).left=(S4 k x).right:=⟨by kernel_rfl,by kernel_rfl⟩
theorem v92 (k:Nat):ai Try.prog 92∧aB Try.prog 92 (uZ k) :=
 aS (n:=Vh) (fn:=Try.f92) (p:=.go) (S3 k) (by kernel_rfl) (aj _) (a8w k)
def F93 (k:Nat) (a0:bT) (a1:bT):Option AZ :=
 (F91 k a0).bind fun r1 =>
 (F91 k a1).bind fun r2 =>
 (F92 k r1.1.1 r2.1.1).bind fun r3 =>
 (F91 k r3.1.1).bind fun r4 =>
 some ((r4.1.1,()),())
def u7 (k:Nat):ap:=⟨[.val fb,.val fb],[.own dP],fun x=>F93 k x.1 x.2.1⟩
def Vj:Lim:=⟨11,2,false,false,[],[]⟩
def Vk (k:Nat):Nat→Option ap:=aW [(91,pL k),(92,uZ k)]
noncomputable def co93:Code:=ac (ab Try.f93) []
theorem S5 (k:Nat):aR Try.prog (Vk k):=ah (v91 k) (ah (v92 k) (aD))
noncomputable def S6 (k:Nat) (x:AT (u7 k).ps):=fnT Try.prog (Vk k) Vj Try.f93 (ab Try.f93) .go (u7 k) x
theorem a9w (k:Nat) (x:AT (u7 k).ps):(u7 k).impl x=(S6 k x).eval∧(S6 k x).left=(S6 k x).right:=⟨by kernel_rfl,by kernel_rfl⟩
theorem v93 (k:Nat):ai Try.prog 93∧aB Try.prog 93 (u7 k) :=
 aS (n:=Vj) (fn:=Try.f93) (p:=.go) (S5 k) (by kernel_rfl) (aj _) (a9w k)
def F94 (k:Nat) (a0:bT) (a1:bT):Option AZ :=
 (F91 k a1).bind fun r1 =>
 (F93 k a0 r1.1.1).bind fun r2 =>
 some ((r2.1.1,()),())
def Bg (k:Nat):ap:=⟨[.val fb,.val fb],[.own dP],fun x=>F94 k x.1 x.2.1⟩
def Vl:Lim:=⟨9,2,false,false,[],[]⟩
def Vm (k:Nat):Nat→Option ap:=aW [(91,pL k),(93,u7 k)]
noncomputable def co94:Code:=ac (ab Try.f94) []
theorem S7 (k:Nat):aR Try.prog (Vm k):=ah (v91 k) (ah (v93 k) (aD))
noncomputable def S8 (k:Nat) (x:AT (Bg k).ps):=fnT Try.prog (Vm k) Vl Try.f94 (ab Try.f94) .go (Bg k) x
theorem a0x (k:Nat) (x:AT (Bg k).ps):(Bg k).impl x=(S8 k x).eval∧(S8 k x).left=(S8 k x).right:=⟨by kernel_rfl,by kernel_rfl⟩
theorem v94 (k:Nat):ai Try.prog 94∧aB Try.prog 94 (Bg k) :=
 aS (n:=Vl) (fn:=Try.f94) (p:=.go) (S7 k) (by kernel_rfl) (aj _) (a0x k)
def Bh (f69:(dM→aN→aT→Option fo)):ap:=⟨[.val uN,.val KD5,.mut fp],[.val fb],fun x=>f69 x.1 x.2.1 x.2.2.1⟩
def sH (k:Nat) (f69:(dM→aN→aT→Option fo)):Nat→Int→aT→Xf→aN→aT→Option ((Unit×(aT×Xf×aN×aT×Unit)))
 |0,_,_,_,_,_=>none
 |n+1,t8,c2,c3,c4,e0 =>
  let x1:=(decide (t8<(length c3.2.2.2.2.1:Int)))
  bif x1 then
  if 0≤t8∧t8<(length c3.2.2.2.2.1:Int) then
  let x2:=(getD c3.2.2.2.2.1 (toNat t8) (ae.mk ((0:Int),((0:Int),((0:Int),(ByteArray.empty,())))) []))
  (f69 x2 c4 c2).bind fun r3 =>
  let x4:=(List.set (replicate 1 ([]:bT)) 0 r3.1.1)
  if (length e0+length x4)*(24*2)≤281474976710656∧length e0+length x4≤9223372036854775807 then
  (sH k f69 n (wrap .i64 (t8+(1:Int))) r3.2.1 c3 c4 (e0++x4)).bind some
  else none
  else none
  else
  some ((),(c2,c3,c4,e0,()))
def pM:aE:=⟨[(7,fp)],[(2,.at 2 []),(3,.ptr 3 []),(4,.ptr 4 []),(7,.at 2000007 []),(8,.val (.int .i64))],[(2,none,fp),(3,some 134,Xi),(4,some 29,KD5),(2000007,none,fp)]⟩
def xd (k:Nat) (f69:(dM→aN→aT→Option fo)) (m:Nat) (v:pM.V):=sH k f69 m v.1.1 v.2.1 v.2.2.1 v.2.2.2.1 v.2.2.2.2.1
def xe (k:Nat) (f69:(dM→aN→aT→Option fo)):aL:=⟨pM,[(.exit 0,⟨[(7,fp)],[(2,.at 2 []),(3,.ptr 3 []),(4,.ptr 4 []),(7,.at 2000007 [])],[(2,none,fp),(3,some 134,Xi),(4,some 29,KD5),(2000007,none,fp)]⟩)],xd k f69 k⟩
def B69 (k:Nat) (f69:(dM→aN→aT→Option fo)) (a0:dM) (a1:aN) (a2:aT):Option fo :=
 (sH k f69 k (0:Int) a2 ((ae.a a0).1,((ae.a a0).2.1,((ae.a a0).2.2.1,((ae.a a0).2.2.2.1,((ae.l a0),()))))) a1 []).bind fun r5 =>
 let y6:=r5.2.1
 let y7:=r5.2.2.1
 let y9:=r5.2.2.2.2.1
 bif (y7.1==(1:Int)) then
 let x10:=(List.set (replicate 1 ((0:Int),((0:Int),()))) 0 (y7.2.1,(y7.2.2.1,())))
 (F90 k x10).bind fun r11 =>
 some ((r11.1.1,()),(y6,()))
 else
 bif (y7.1==(2:Int)) then
 (F83 k r5.2.2.2.1 y7.2.2.2.1).bind fun r12 =>
 if 0≤r12.1.1∧r12.1.1<(length y6:Int) then
 let x13:=(getD y6 (toNat r12.1.1) ([]:bT))
 some ((x13,()),(y6,()))
 else none
 else
 bif (y7.1==(3:Int)) then
 (F91 k []).bind fun r14 =>
 some ((r14.1.1,()),(y6,()))
 else
 bif (y7.1==(4:Int)) then
 if 0≤(0:Int)∧(0:Int)<(length y9:Int) then
 let x15:=(getD y9 (toNat (0:Int)) ([]:bT))
 (F91 k x15).bind fun r16 =>
 some ((r16.1.1,()),(y6,()))
 else none
 else
 bif (y7.1==(5:Int)) then
 if 0≤(0:Int)∧(0:Int)<(length y9:Int) then
 let x17:=(getD y9 (toNat (0:Int)) ([]:bT))
 if 0≤(1:Int)∧(1:Int)<(length y9:Int) then
 let x18:=(getD y9 (toNat (1:Int)) ([]:bT))
 (F92 k x17 x18).bind fun r19 =>
 some ((r19.1.1,()),(y6,()))
 else none
 else none
 else
 bif (y7.1==(6:Int)) then
 if 0≤(0:Int)∧(0:Int)<(length y9:Int) then
 let x20:=(getD y9 (toNat (0:Int)) ([]:bT))
 if 0≤(1:Int)∧(1:Int)<(length y9:Int) then
 let x21:=(getD y9 (toNat (1:Int)) ([]:bT))
 (F93 k x20 x21).bind fun r22 =>
 some ((r22.1.1,()),(y6,()))
 else none
 else none
 else
 if 0≤(0:Int)∧(0:Int)<(length y9:Int) then
 let x23:=(getD y9 (toNat (0:Int)) ([]:bT))
 if 0≤(1:Int)∧(1:Int)<(length y9:Int) then
 let x24:=(getD y9 (toNat (1:Int)) ([]:bT))
 (F94 k x23 x24).bind fun r25 =>
 some ((r25.1.1,()),(y6,()))
 else none
 else none
def Fv (k:Nat) (f69:(dM→aN→aT→Option fo)):ap:=Bh (B69 k f69)
def Di:Lim:=⟨81,3,false,false,[37,49,55,64,73,80],[]⟩
def LM (k:Nat) (f69:(dM→aN→aT→Option fo)):Nat→Option ap:=aW [(69,Bh f69),(83,pJ k),(90,pH k),(91,pL k),(92,uZ k),(93,u7 k),(94,Bg k)]
noncomputable def N5:Code:=ac (ab Try.f69) [.r,.r,.l,.r,.s]
noncomputable def Ys:Code:=ac (ab Try.f69) [.r,.r,.l,.r,.s,.b]
noncomputable def co69:Code:=ac (ab Try.f69) []
theorem Fw (k:Nat) (f69:(dM→aN→aT→Option fo)) (h69:ai Try.prog 69∧aB Try.prog 69 (Bh f69)):aR Try.prog (LM k f69):=ah h69 (ah (v83 k) (ah (v90 k) (ah (v91 k) (ah (v92 k) (ah (v93 k) (ah (v94 k) (aD)))))))
noncomputable def Fx (k:Nat) (f69:(dM→aN→aT→Option fo)) (m:Nat) (v:pM.V):=body Try.prog (ao Try.prog (LM k f69) Di) .go Ys (pM.st v) (aH (xe k f69) (xd k f69 m))
theorem Yt (k:Nat) (f69:(dM→aN→aT→Option fo)) (m:Nat) (v:pM.V):xd k f69 (m+1) v=(Fx k f69 m v).eval∧(Fx k f69 m v).left=(Fx k f69 m v).right:=⟨by kernel_rfl,by kernel_rfl⟩
theorem N6 (k:Nat) (f69:(dM→aN→aT→Option fo)) (h69:ai Try.prog 69∧aB Try.prog 69 (Bh f69)):aC Try.prog Di (xe k f69) N5 :=
 am (by kernel_rfl) (aA (Fw k f69 h69) (aj _) (xd k f69) k (fun _=>rfl) (fun _=>rfl) (Yt k f69))
def Yu (k:Nat) (f69:(dM→aN→aT→Option fo)):aO:=(.seq .go (.seq .go (.seq (.seq .go (.sub (.frag (xe k f69)))) .go)))
noncomputable def S9 (k:Nat) (f69:(dM→aN→aT→Option fo)) (x:AT (Fv k f69).ps):=fnT Try.prog (LM k f69) Di Try.f69 (ab Try.f69) (Yu k f69) (Fv k f69) x
theorem a1x (k:Nat) (f69:(dM→aN→aT→Option fo)) (x:AT (Fv k f69).ps):(Fv k f69).impl x=(S9 k f69 x).eval∧(S9 k f69 x).left=(S9 k f69 x).right:=⟨by kernel_rfl,by kernel_rfl⟩
theorem b69 (k:Nat) (f69:(dM→aN→aT→Option fo)) (h69:ai Try.prog 69∧aB Try.prog 69 (Bh f69)):ai Try.prog 69∧aB Try.prog 69 (Fv k f69) :=
 aS (n:=Di) (fn:=Try.f69) (p:=(Yu k f69)) (Fw k f69 h69) (by kernel_rfl) (aG (L:=[(xe k f69,N5)]) (by kernel_rfl) (.cons (N6 k f69 h69) .nil)) (a1x k f69)
def R69:Nat→(dM→aN→aT→Option fo)
 |0=>fun _ _ _=>none
 |k+1=>B69 k (R69 k)
def F69 (k:Nat) (a0_:dM) (a1_:aN) (a2_:aT):Option fo:=(R69 k) a0_ a1_ a2_
def Yv (k:Nat):ap:=⟨[.val uN,.val KD5,.mut fp],[.val fb],fun x=>F69 k x.1 x.2.1 x.2.2.1⟩
theorem r69 (k:Nat):(ai Try.prog 69∧aB Try.prog 69 (Bh (R69 k))):=by
 induction k with
 |zero=>exact ⟨⟨Try.f69,by kernel_rfl,by kernel_rfl,by kernel_rfl⟩,fun x r h=>by cases (show (none:Option _)=some r from h)⟩
 |succ k ih=>exact b69 k (R69 k) ih
theorem v69 (k:Nat):ai Try.prog 69∧aB Try.prog 69 (Yv k):=(r69 k)
def mY (k:Nat):Nat→Int→aN→aT→Option ((Unit×(aT×Unit)))
 |0,_,_,_=>none
 |n+1,t4,c1,e0 =>
  let x1:=(decide (t4<(length c1.1:Int)))
  bif x1 then
  if 0≤t4∧t4<(length c1.1:Int) then
  let x2:=(getD c1.1 (toNat t4) (ByteArray.empty,((ae.mk ((0:Int),((0:Int),((0:Int),(ByteArray.empty,())))) []),())))
  (F69 k x2.2.1 c1 e0).bind fun r3 =>
  let x4:=(List.set (replicate 1 ([]:bT)) 0 r3.1.1)
  if (length r3.2.1+length x4)*(24*2)≤281474976710656∧length r3.2.1+length x4≤9223372036854775807 then
  (mY k n (wrap .i64 (t4+(1:Int))) c1 (r3.2.1++x4)).bind some
  else none
  else none
  else
  some ((),(e0,()))
def pN:aE:=⟨[(3,fp)],[(1,.ptr 1 []),(3,.at 2000003 []),(4,.val (.int .i64))],[(1,some 29,KD5),(2000003,none,fp)]⟩
def xf (k m:Nat) (v:pN.V):=mY k m v.1.1 v.2.1 v.2.2.1
def xg (k:Nat):aL:=⟨pN,[(.exit 0,⟨[(3,fp)],[(3,.at 2000003 [])],[(2000003,none,fp)]⟩)],xf k k⟩
def F37 (k:Nat) (a0:aN):Option ((aT×Unit)×Unit) :=
 (mY k k (0:Int) a0 []).bind fun r5 =>
 some ((r5.2.1,()),())
def u9 (k:Nat):ap:=⟨[.val KD5],[.own fp],fun x=>F37 k x.1⟩
def Dj:Lim:=⟨25,1,false,false,[],[]⟩
def LN (k:Nat):Nat→Option ap:=aW [(69,Yv k)]
noncomputable def N7:Code:=ac (ab Try.f37) [.r,.r,.l,.r,.s]
noncomputable def Yw:Code:=ac (ab Try.f37) [.r,.r,.l,.r,.s,.b]
noncomputable def co37:Code:=ac (ab Try.f37) []
theorem Fy (k:Nat):aR Try.prog (LN k):=ah (v69 k) (aD)
noncomputable def Fz (k m:Nat) (v:pN.V):=body Try.prog (ao Try.prog (LN k) Dj) .go Yw (pN.st v) (aH (xg k) (xf k m))
theorem Yx (k m:Nat) (v:pN.V):xf k (m+1) v=(Fz k m v).eval∧(Fz k m v).left=(Fz k m v).right:=⟨by kernel_rfl,by kernel_rfl⟩
theorem N8 (k:Nat):aC Try.prog Dj (xg k) N7 :=
 am (by kernel_rfl) (aA (Fy k) (aj _) (xf k) k (fun _=>rfl) (fun _=>rfl) (Yx k))
def Yy (k:Nat):aO:=(.seq .go (.seq .go (.seq (.seq .go (.sub (.frag (xg k)))) .go)))
noncomputable def Ta (k:Nat) (x:AT (u9 k).ps):=fnT Try.prog (LN k) Dj Try.f37 (ab Try.f37) (Yy k) (u9 k) x
theorem a2x (k:Nat) (x:AT (u9 k).ps):(u9 k).impl x=(Ta k x).eval∧(Ta k x).left=(Ta k x).right:=⟨by kernel_rfl,by kernel_rfl⟩
theorem v37 (k:Nat):ai Try.prog 37∧aB Try.prog 37 (u9 k) :=
 aS (n:=Dj) (fn:=Try.f37) (p:=(Yy k)) (Fy k) (by kernel_rfl) (aG (L:=[(xg k,N7)]) (by kernel_rfl) (.cons (N8 k) .nil)) (a2x k)
def sI (k:Nat):Nat→aT→Int→Int→Int→Int→(List Int)→(List Int)→Option ((Xb×Lr))
 |0,_,_,_,_,_,_,_=>none
 |n+1,t0,t4,t5,t7,t8,c42,e0 =>
  bif (decide (t8>(0:Int))) then
  if 0≤t7∧t7<(length c42:Int) then
  if 0≤(wrap .i64 (t8-(1:Int)))∧(wrap .i64 (t8-(1:Int)))<(length e0:Int) then
  let x10:=(toNat (wrap .i64 (t8-(1:Int))))
  let x11:=(decide ((getD c42 (toNat t7) (0:Int))<(getD e0 x10 (0:Int))))
  bif x11 then
  (sI k n t0 t4 t5 t7 (wrap .i64 (t8-(1:Int))) c42 e0).bind some
  else
  some ((t0,t4,t5,t7,t8,()),(c42,e0,()))
  else none
  else none
  else
  some ((t0,t4,t5,t7,t8,()),(c42,e0,()))
def pP:aE:=⟨[(3,aP)],[(0,.val dF),(3,.at 2000003 []),(4,.val (.int .i64)),(5,.val (.int .i64)),(6,.at 42 []),(7,.val (.int .i64)),(8,.val (.int .i64))],[(42,none,aP),(2000003,none,aP)]⟩
def xh (k m:Nat) (v:pP.V):=sI k m v.1.1 v.1.2.1 v.1.2.2.1 v.1.2.2.2.1 v.1.2.2.2.2.1 v.2.1 v.2.2.1
def xi (k:Nat):aL:=⟨pP,[(.exit 6,⟨[],[(0,.val dF),(3,.at 2000003 []),(4,.val (.int .i64)),(5,.val (.int .i64)),(6,.at 42 []),(7,.val (.int .i64)),(8,.val (.int .i64))],[(42,none,aP),(2000003,none,aP)]⟩)],xh k k⟩
def fR (k:Nat):Nat→aT→Int→Int→Int→(List Int)→(List Int)→Option (((aT×Int×Int×Unit)×((List Int)×Unit)))
 |0,_,_,_,_,_,_=>none
 |n+1,t0,t4,t5,t7,c42,e0 =>
  bif (decide (t7<(2:Int))) then
  (sI k k t0 t4 t5 t7 (length e0:Int) c42 e0).bind fun r12 =>
  let y14:=r12.1.2.1
  let y15:=r12.1.2.2.1
  let y16:=r12.1.2.2.2.1
  let y17:=r12.1.2.2.2.2.1
  let y18:=r12.2.1
  let y19:=r12.2.2.1
  if 0≤y16∧y16<(length y18:Int) then
  let x20:=(decide ((getD y18 (toNat y16) (0:Int))≤(1114111:Int)))
  bif x20 then
  bif (y17==(0:Int)) then
  if 0≤(0:Int)∧(0:Int)≤y17∧y17≤(length y19:Int) then
  let x21:=(toNat y17-toNat (0:Int))
  if 0≤y16∧y16<(length y18:Int) then
  if 0≤y17∧y17≤(length y19:Int)∧(length y19:Int)≤(length y19:Int) then
  let x22:=(toNat (length y19:Int)-toNat y17)
  if (length (replicate 0 (0:Int))+length (take x21 (drop (toNat (0:Int)) y19)))*(8*2)≤281474976710656∧length (replicate 0 (0:Int))+length (take x21 (drop (toNat (0:Int)) y19))≤9223372036854775807 then
  let x23:=((replicate 0 (0:Int))++(take x21 (drop (toNat (0:Int)) y19)))
  let x24:=(List.set (replicate 1 (0:Int)) 0 (getD y18 (toNat y16) (0:Int)))
  if (length x23+length x24)*(8*2)≤281474976710656∧length x23+length x24≤9223372036854775807 then
  if (length (x23++x24)+length (take x22 (drop (toNat y17) y19)))*(8*2)≤281474976710656∧length (x23++x24)+length (take x22 (drop (toNat y17) y19))≤9223372036854775807 then
  let x25:=((x23++x24)++(take x22 (drop (toNat y17) y19)))
  (fR k n r12.1.1 y14 y15 (wrap .i64 (y16+(1:Int))) y18 x25).bind some
  else none
  else none
  else none
  else none
  else none
  else none
  else
  if 0≤(wrap .i64 (y17-(1:Int)))∧(wrap .i64 (y17-(1:Int)))<(length y19:Int) then
  let x26:=(toNat (wrap .i64 (y17-(1:Int))))
  if 0≤y16∧y16<(length y18:Int) then
  let x27:=((getD y19 x26 (0:Int)) != (getD y18 (toNat y16) (0:Int)))
  bif x27 then
  if 0≤(0:Int)∧(0:Int)≤y17∧y17≤(length y19:Int) then
  let x28:=(toNat y17-toNat (0:Int))
  if 0≤y16∧y16<(length y18:Int) then
  if 0≤y17∧y17≤(length y19:Int)∧(length y19:Int)≤(length y19:Int) then
  let x29:=(toNat (length y19:Int)-toNat y17)
  if (length (replicate 0 (0:Int))+length (take x28 (drop (toNat (0:Int)) y19)))*(8*2)≤281474976710656∧length (replicate 0 (0:Int))+length (take x28 (drop (toNat (0:Int)) y19))≤9223372036854775807 then
  let x30:=((replicate 0 (0:Int))++(take x28 (drop (toNat (0:Int)) y19)))
  let x31:=(List.set (replicate 1 (0:Int)) 0 (getD y18 (toNat y16) (0:Int)))
  if (length x30+length x31)*(8*2)≤281474976710656∧length x30+length x31≤9223372036854775807 then
  if (length (x30++x31)+length (take x29 (drop (toNat y17) y19)))*(8*2)≤281474976710656∧length (x30++x31)+length (take x29 (drop (toNat y17) y19))≤9223372036854775807 then
  let x32:=((x30++x31)++(take x29 (drop (toNat y17) y19)))
  (fR k n r12.1.1 y14 y15 (wrap .i64 (y16+(1:Int))) y18 x32).bind some
  else none
  else none
  else none
  else none
  else none
  else none
  else
  (fR k n r12.1.1 y14 y15 (wrap .i64 (y16+(1:Int))) y18 y19).bind some
  else none
  else none
  else
  (fR k n r12.1.1 y14 y15 (wrap .i64 (y16+(1:Int))) y18 y19).bind some
  else none
  else
  some ((t0,t4,t5,()),(e0,()))
def pQ:aE:=⟨[(3,aP)],[(0,.val dF),(3,.at 2000003 []),(4,.val (.int .i64)),(5,.val (.int .i64)),(6,.at 42 []),(7,.val (.int .i64))],[(42,none,aP),(2000003,none,aP)]⟩
def xj (k m:Nat) (v:pQ.V):=fR k m v.1.1 v.1.2.1 v.1.2.2.1 v.1.2.2.2.1 v.2.1 v.2.2.1
def xk (k:Nat):aL:=⟨pQ,[(.exit 4,⟨[(3,aP)],[(0,.val dF),(3,.at 2000003 []),(4,.val (.int .i64)),(5,.val (.int .i64))],[(2000003,none,aP)]⟩)],xj k k⟩
def sJ (k:Nat):Nat→aT→Int→Int→(List Int)→Option (((aT×Int×Unit)×((List Int)×Unit)))
 |0,_,_,_,_=>none
 |n+1,t0,t4,t5,e0 =>
  if 0≤t4∧t4<(length t0:Int) then
  let x3:=(getD t0 (toNat t4) ([]:bT))
  let x4:=(decide (t5<(length x3:Int)))
  bif x4 then
  if 0≤t4∧t4<(length t0:Int) then
  let x5:=(getD t0 (toNat t4) ([]:bT))
  if 0≤t5∧t5<(length x5:Int) then
  let x6:=(getD x5 (toNat t5) ((0:Int),((0:Int),())))
  if 0≤t4∧t4<(length t0:Int) then
  let x7:=(getD t0 (toNat t4) ([]:bT))
  if 0≤t5∧t5<(length x7:Int) then
  let x8:=(getD x7 (toNat t5) ((0:Int),((0:Int),())))
  let x9:=(List.set (List.set (replicate 2 (0:Int)) 0 x6.1) 1 (wrap .i64 (x8.2.1+(1:Int))))
  (fR k k t0 t4 t5 (0:Int) x9 e0).bind fun r33 =>
  (sJ k n r33.1.1 r33.1.2.1 (wrap .i64 (r33.1.2.2.1+(1:Int))) r33.2.1).bind some
  else none
  else none
  else none
  else none
  else
  some ((t0,t4,()),(e0,()))
  else none
def pR:aE:=⟨[(3,aP)],[(0,.val dF),(3,.at 2000003 []),(4,.val (.int .i64)),(5,.val (.int .i64))],[(2000003,none,aP)]⟩
def xl (k m:Nat) (v:pR.V):=sJ k m v.1.1 v.1.2.1 v.1.2.2.1 v.2.1
def xm (k:Nat):aL:=⟨pR,[(.exit 2,⟨[(3,aP)],[(0,.val dF),(3,.at 2000003 []),(4,.val (.int .i64))],[(2000003,none,aP)]⟩)],xl k k⟩
def mZ (k:Nat):Nat→aT→Int→(List Int)→Option oV
 |0,_,_,_=>none
 |n+1,t0,t4,e0 =>
  let x2:=(decide (t4<(length t0:Int)))
  bif x2 then
  (sJ k k t0 t4 (0:Int) e0).bind fun r38 =>
  (mZ k n r38.1.1 (wrap .i64 (r38.1.2.1+(1:Int))) r38.2.1).bind some
  else
  some ((),(e0,()))
def pS:aE:=⟨[(3,aP)],[(0,.val dF),(3,.at 2000003 []),(4,.val (.int .i64))],[(2000003,none,aP)]⟩
def xn (k m:Nat) (v:pS.V):=mZ k m v.1.1 v.1.2.1 v.2.1
def xo (k:Nat):aL:=⟨pS,[(.exit 0,⟨[(3,aP)],[(3,.at 2000003 [])],[(2000003,none,aP)]⟩)],xn k k⟩
def F70 (k:Nat) (a0:aT):Option kn :=
 let x1:=(List.set (replicate 1 (0:Int)) 0 (0:Int))
 (mZ k k a0 (0:Int) x1).bind fun r42 =>
 some ((r42.2.1,()),())
def Bi (k:Nat):ap:=⟨[.val dF],[.own aP],fun x=>F70 k x.1⟩
def jc:Lim:=⟨102,1,false,true,[],[]⟩
def sK (k:Nat):Nat→Option ap:=aW []
noncomputable def N9:Code:=ac (ab Try.f70) [.r,.r,.l,.r,.s,.b,.r,.l,.s,.r,.s,.b,.r,.l,.s,.r,.r,.s,.b,.r,.l,.s,.r,.l,.s]
noncomputable def Yz:Code:=ac (ab Try.f70) [.r,.r,.l,.r,.s,.b,.r,.l,.s,.r,.s,.b,.r,.l,.s,.r,.r,.s,.b,.r,.l,.s,.r,.l,.s,.b]
noncomputable def Oa:Code:=ac (ab Try.f70) [.r,.r,.l,.r,.s,.b,.r,.l,.s,.r,.s,.b,.r,.l,.s,.r,.r,.s]
noncomputable def YA:Code:=ac (ab Try.f70) [.r,.r,.l,.r,.s,.b,.r,.l,.s,.r,.s,.b,.r,.l,.s,.r,.r,.s,.b]
noncomputable def Ob:Code:=ac (ab Try.f70) [.r,.r,.l,.r,.s,.b,.r,.l,.s,.r,.s]
noncomputable def YB:Code:=ac (ab Try.f70) [.r,.r,.l,.r,.s,.b,.r,.l,.s,.r,.s,.b]
noncomputable def Oc:Code:=ac (ab Try.f70) [.r,.r,.l,.r,.s]
noncomputable def YC:Code:=ac (ab Try.f70) [.r,.r,.l,.r,.s,.b]
noncomputable def co70:Code:=ac (ab Try.f70) []
theorem kq (k:Nat):aR Try.prog (sK k):=aD
noncomputable def FA (k m:Nat) (v:pP.V):=body Try.prog (ao Try.prog (sK k) jc) .go Yz (pP.st v) (aH (xi k) (xh k m))
theorem YD (k m:Nat) (v:pP.V):xh k (m+1) v=(FA k m v).eval∧(FA k m v).left=(FA k m v).right:=⟨by kernel_rfl,by kernel_rfl⟩
theorem Od (k:Nat):aC Try.prog jc (xi k) N9 :=
 am (by kernel_rfl) (aA (kq k) (aj _) (xh k) k (fun _=>rfl) (fun _=>rfl) (YD k))
def YE (k:Nat):aO:=(.seq .go (.seq (.sub (.seq .go (.seq (.sub (.frag (xi k))) .go))) .go))
noncomputable def FB (k m:Nat) (v:pQ.V):=body Try.prog (ao Try.prog (sK k) jc) (YE k) YA (pQ.st v) (aH (xk k) (xj k m))
theorem YF (k m:Nat) (v:pQ.V):xj k (m+1) v=(FB k m v).eval∧(FB k m v).left=(FB k m v).right:=⟨by kernel_rfl,by kernel_rfl⟩
theorem Oe (k:Nat):aC Try.prog jc (xk k) Oa :=
 am (by kernel_rfl) (aA (kq k) (aG (L:=[(xi k,N9)]) (by kernel_rfl) (.cons (Od k) .nil)) (xj k) k (fun _=>rfl) (fun _=>rfl) (YF k))
def YG (k:Nat):aO:=(.seq .go (.seq (.sub (.seq .go (.seq .go (.sub (.frag (xk k)))))) .go))
noncomputable def FC (k m:Nat) (v:pR.V):=body Try.prog (ao Try.prog (sK k) jc) (YG k) YB (pR.st v) (aH (xm k) (xl k m))
theorem YH (k m:Nat) (v:pR.V):xl k (m+1) v=(FC k m v).eval∧(FC k m v).left=(FC k m v).right:=⟨by kernel_rfl,by kernel_rfl⟩
theorem Of (k:Nat):aC Try.prog jc (xm k) Ob :=
 am (by kernel_rfl) (aA (kq k) (aG (L:=[(xk k,Oa)]) (by kernel_rfl) (.cons (Oe k) .nil)) (xl k) k (fun _=>rfl) (fun _=>rfl) (YH k))
def YI (k:Nat):aO:=(.seq .go (.seq (.sub (.seq .go (.sub (.frag (xm k))))) .go))
noncomputable def FD (k m:Nat) (v:pS.V):=body Try.prog (ao Try.prog (sK k) jc) (YI k) YC (pS.st v) (aH (xo k) (xn k m))
theorem YJ (k m:Nat) (v:pS.V):xn k (m+1) v=(FD k m v).eval∧(FD k m v).left=(FD k m v).right:=⟨by kernel_rfl,by kernel_rfl⟩
theorem Og (k:Nat):aC Try.prog jc (xo k) Oc :=
 am (by kernel_rfl) (aA (kq k) (aG (L:=[(xm k,Ob)]) (by kernel_rfl) (.cons (Of k) .nil)) (xn k) k (fun _=>rfl) (fun _=>rfl) (YJ k))
def YK (k:Nat):aO:=(.seq .go (.seq .go (.seq (.seq .go (.sub (.frag (xo k)))) .go)))
noncomputable def Tb (k:Nat) (x:AT (Bi k).ps):=fnT Try.prog (sK k) jc Try.f70 (ab Try.f70) (YK k) (Bi k) x
theorem a3x (k:Nat) (x:AT (Bi k).ps):(Bi k).impl x=(Tb k x).eval∧(Tb k x).left=(Tb k x).right:=⟨by kernel_rfl,by kernel_rfl⟩
theorem v70 (k:Nat):ai Try.prog 70∧aB Try.prog 70 (Bi k) :=
 aS (n:=jc) (fn:=Try.f70) (p:=(YK k)) (kq k) (by kernel_rfl) (aG (L:=[(xo k,Oc)]) (by kernel_rfl) (.cons (Og k) .nil)) (a3x k)
def m5 (k:Nat):Nat→bT→Int→Int→Option ((Unit×Unit)⊕fa)
 |0,_,_,_=>none
 |n+1,t0,t1,t5 =>
  let x4:=(decide (t5<(length t0:Int)))
  bif x4 then
  if 0≤t5∧t5<(length t0:Int) then
  let x5:=(getD t0 (toNat t5) ((0:Int),((0:Int),())))
  bif (decide (t1≥x5.1)) then
  if 0≤t5∧t5<(length t0:Int) then
  let x6:=(getD t0 (toNat t5) ((0:Int),((0:Int),())))
  bif (decide (t1≤x6.2.1)) then
  some (.inr ((true,()),()))
  else
  (m5 k n t0 t1 (wrap .i64 (t5+(1:Int)))).bind some
  else none
  else
  (m5 k n t0 t1 (wrap .i64 (t5+(1:Int)))).bind some
  else none
  else
  some (.inl ((),()))
def pT:aE:=⟨[],[(0,.val fb),(1,.val (.int .i64)),(5,.val (.int .i64))],[]⟩
def xp (k m:Nat) (v:pT.V):=m5 k m v.1.1 v.1.2.1 v.1.2.2.1
def xq (k:Nat):aL:=⟨pT,[(.exit 0,⟨[],[],[]⟩),(.ret,⟨[],[(4,.val .bool)],[]⟩)],xp k k⟩
def F72 (k:Nat) (a0:bT) (a1:Int):Option fa :=
 (m5 k k a0 a1 (0:Int)).bind fun r7 =>
 match r7 with
 |.inl r8 =>
  some ((false,()),())
 |.inr r8 =>
  some ((r8.1.1,()),())
def pU (k:Nat):ap:=⟨[.val fb,.val (.int .i64)],[.val .bool],fun x=>F72 k x.1 x.2.1⟩
def Dk:Lim:=⟨28,2,false,false,[],[]⟩
def LO (k:Nat):Nat→Option ap:=aW []
noncomputable def Oh:Code:=ac (ab Try.f72) [.r,.l,.r,.s]
noncomputable def YL:Code:=ac (ab Try.f72) [.r,.l,.r,.s,.b]
noncomputable def co72:Code:=ac (ab Try.f72) []
theorem FE (k:Nat):aR Try.prog (LO k):=aD
noncomputable def FF (k m:Nat) (v:pT.V):=body Try.prog (ao Try.prog (LO k) Dk) .go YL (pT.st v) (aH (xq k) (xp k m))
theorem YM (k m:Nat) (v:pT.V):xp k (m+1) v=(FF k m v).eval∧(FF k m v).left=(FF k m v).right:=⟨by kernel_rfl,by kernel_rfl⟩
theorem Oi (k:Nat):aC Try.prog Dk (xq k) Oh :=
 am (by kernel_rfl) (aA (FE k) (aj _) (xp k) k (fun _=>rfl) (fun _=>rfl) (YM k))
def YN (k:Nat):aO:=(.seq .go (.seq (.seq .go (.sub (.frag (xq k)))) .go))
noncomputable def Tc (k:Nat) (x:AT (pU k).ps):=fnT Try.prog (LO k) Dk Try.f72 (ab Try.f72) (YN k) (pU k) x
theorem a4x (k:Nat) (x:AT (pU k).ps):(pU k).impl x=(Tc k x).eval∧(Tc k x).left=(Tc k x).right:=⟨by kernel_rfl,by kernel_rfl⟩
theorem v72 (k:Nat):ai Try.prog 72∧aB Try.prog 72 (pU k) :=
 aS (n:=Dk) (fn:=Try.f72) (p:=(YN k)) (FE k) (by kernel_rfl) (aG (L:=[(xq k,Oh)]) (by kernel_rfl) (.cons (Oi k) .nil)) (a4x k)
def m6 (k:Nat):Nat→aT→Int→Int→Int→Option EO
 |0,_,_,_,_=>none
 |n+1,t0,t1,t5,t6 =>
  let x5:=(decide (t6<(length t0:Int)))
  bif x5 then
  if 0≤t6∧t6<(length t0:Int) then
  let x6:=(getD t0 (toNat t6) ([]:bT))
  (F72 k x6 t1).bind fun r7 =>
  bif r7.1.1 then
  let x8:=(wrap .i64 ((wrap .i64 ((2:Int)*t5))+(1:Int)))
  (m6 k n t0 t1 x8 (wrap .i64 (t6+(1:Int)))).bind some
  else
  (m6 k n t0 t1 (wrap .i64 ((2:Int)*t5)) (wrap .i64 (t6+(1:Int)))).bind some
  else none
  else
  some ((t5,()),())
def pV:aE:=⟨[],[(0,.val dF),(1,.val (.int .i64)),(5,.val (.int .i64)),(6,.val (.int .i64))],[]⟩
def xr (k m:Nat) (v:pV.V):=m6 k m v.1.1 v.1.2.1 v.1.2.2.1 v.1.2.2.2.1
def xt (k:Nat):aL:=⟨pV,[(.exit 0,⟨[],[(5,.val (.int .i64))],[]⟩)],xr k k⟩
def F71 (k:Nat) (a0:aT) (a1:Int):Option bG :=
 (m6 k k a0 a1 (0:Int) (0:Int)).bind fun r9 =>
 some ((r9.1.1,()),())
def Bj (k:Nat):ap:=⟨[.val dF,.val (.int .i64)],[.val (.int .i64)],fun x=>F71 k x.1 x.2.1⟩
def Dl:Lim:=⟨24,2,false,false,[],[]⟩
def LP (k:Nat):Nat→Option ap:=aW [(72,pU k)]
noncomputable def Oj:Code:=ac (ab Try.f71) [.r,.r,.l,.r,.s]
noncomputable def YO:Code:=ac (ab Try.f71) [.r,.r,.l,.r,.s,.b]
noncomputable def co71:Code:=ac (ab Try.f71) []
theorem FG (k:Nat):aR Try.prog (LP k):=ah (v72 k) (aD)
noncomputable def FH (k m:Nat) (v:pV.V):=body Try.prog (ao Try.prog (LP k) Dl) .go YO (pV.st v) (aH (xt k) (xr k m))
theorem YP (k m:Nat) (v:pV.V):xr k (m+1) v=(FH k m v).eval∧(FH k m v).left=(FH k m v).right:=⟨by kernel_rfl,by kernel_rfl⟩
theorem Ok (k:Nat):aC Try.prog Dl (xt k) Oj :=
 am (by kernel_rfl) (aA (FG k) (aj _) (xr k) k (fun _=>rfl) (fun _=>rfl) (YP k))
def YQ (k:Nat):aO:=(.seq .go (.seq .go (.seq (.seq .go (.sub (.frag (xt k)))) .go)))
noncomputable def Td (k:Nat) (x:AT (Bj k).ps):=fnT Try.prog (LP k) Dl Try.f71 (ab Try.f71) (YQ k) (Bj k) x
theorem a5x (k:Nat) (x:AT (Bj k).ps):(Bj k).impl x=(Td k x).eval∧(Td k x).left=(Td k x).right:=⟨by kernel_rfl,by kernel_rfl⟩
theorem v71 (k:Nat):ai Try.prog 71∧aB Try.prog 71 (Bj k) :=
 aS (n:=Dl) (fn:=Try.f71) (p:=(YQ k)) (FG k) (by kernel_rfl) (aG (L:=[(xt k,Oj)]) (by kernel_rfl) (.cons (Ok k) .nil)) (a5x k)
def sL (k:Nat):Nat→aT→Int→Int→Int→Int→(List Int)→(List Int)→(List Int)→(List Int)→Option ((Xb×((List Int)×(List Int)×(List Int)×(List Int)×Unit)))
 |0,_,_,_,_,_,_,_,_,_=>none
 |n+1,t0,t8,t9,t10,t11,e0,e1,e2,e3 =>
  let x5:=(decide (t11<(length e3:Int)))
  bif x5 then
  if 0≤t11∧t11<(length e3:Int) then
  let x6:=(getD e3 (toNat t11) (0:Int))
  bif (x6 != t10) then
  (sL k n t0 t8 t9 t10 (wrap .i64 (t11+(1:Int))) e0 e1 e2 e3).bind some
  else
  some ((t0,t8,t9,t10,t11,()),(e0,e1,e2,e3,()))
  else none
  else
  some ((t0,t8,t9,t10,t11,()),(e0,e1,e2,e3,()))
def pW:aE:=⟨[(4,aP),(5,aP),(6,aP)],[(0,.val dF),(4,.at 2000004 []),(5,.at 2000005 []),(6,.at 2000006 []),(7,.at 1000208 []),(8,.val (.int .i64)),(9,.val (.int .i64)),(10,.val (.int .i64)),(11,.val (.int .i64))],[(1000208,none,aP),(2000004,none,aP),(2000005,none,aP),(2000006,none,aP)]⟩
def xu (k m:Nat) (v:pW.V):=sL k m v.1.1 v.1.2.1 v.1.2.2.1 v.1.2.2.2.1 v.1.2.2.2.2.1 v.2.1 v.2.2.1 v.2.2.2.1 v.2.2.2.2.1
def xv (k:Nat):aL:=⟨pW,[(.exit 2,⟨[],[(0,.val dF),(4,.at 2000004 []),(5,.at 2000005 []),(6,.at 2000006 []),(7,.at 1000208 []),(8,.val (.int .i64)),(9,.val (.int .i64)),(10,.val (.int .i64)),(11,.val (.int .i64))],[(1000208,none,aP),(2000004,none,aP),(2000005,none,aP),(2000006,none,aP)]⟩)],xu k k⟩
def kU (k:Nat):Nat→aT→Int→Int→(List Int)→(List Int)→(List Int)→(List Int)→Option ((Unit×Lr))
 |0,_,_,_,_,_,_,_=>none
 |n+1,t0,t8,t9,e0,e1,e2,e3 =>
  let x2:=(decide (t9<(length e0:Int)))
  bif x2 then
  if 0≤t9∧t9<(length e0:Int) then
  let x3:=(getD e0 (toNat t9) (0:Int))
  (F71 k t0 x3).bind fun r4 =>
  bif (r4.1.1==t8) then
  (kU k n t0 t8 (wrap .i64 (t9+(1:Int))) e0 e1 e2 e3).bind some
  else
  (sL k k t0 r4.1.1 t9 r4.1.1 (0:Int) e0 e1 e2 e3).bind fun r7 =>
  let y10:=r7.1.2.2.1
  let y12:=r7.1.2.2.2.2.1
  let y14:=r7.2.2.1
  let y15:=r7.2.2.2.1
  let y16:=r7.2.2.2.2.1
  bif (y12==(length y16:Int)) then
  let x17:=(List.set (replicate 1 (0:Int)) 0 r7.1.2.2.2.1)
  if (length y16+length x17)*(8*2)≤281474976710656∧length y16+length x17≤9223372036854775807 then
  if 0≤y10∧y10<(length r7.2.1:Int) then
  let x18:=(List.set (replicate 1 (0:Int)) 0 (getD r7.2.1 (toNat y10) (0:Int)))
  if (length y14+length x18)*(8*2)≤281474976710656∧length y14+length x18≤9223372036854775807 then
  let x19:=(List.set (replicate 1 (0:Int)) 0 y12)
  if (length y15+length x19)*(8*2)≤281474976710656∧length y15+length x19≤9223372036854775807 then
  (kU k n r7.1.1 r7.1.2.1 (wrap .i64 (y10+(1:Int))) r7.2.1 (y14++x18) (y15++x19) (y16++x17)).bind some
  else none
  else none
  else none
  else none
  else
  if 0≤y10∧y10<(length r7.2.1:Int) then
  let x20:=(List.set (replicate 1 (0:Int)) 0 (getD r7.2.1 (toNat y10) (0:Int)))
  if (length y14+length x20)*(8*2)≤281474976710656∧length y14+length x20≤9223372036854775807 then
  let x21:=(List.set (replicate 1 (0:Int)) 0 y12)
  if (length y15+length x21)*(8*2)≤281474976710656∧length y15+length x21≤9223372036854775807 then
  (kU k n r7.1.1 r7.1.2.1 (wrap .i64 (y10+(1:Int))) r7.2.1 (y14++x20) (y15++x21) y16).bind some
  else none
  else none
  else none
  else none
  else
  some ((),(e1,e2,()))
def pX:aE:=⟨[(4,aP),(5,aP),(6,aP)],[(0,.val dF),(4,.at 2000004 []),(5,.at 2000005 []),(6,.at 2000006 []),(7,.at 1000208 []),(8,.val (.int .i64)),(9,.val (.int .i64))],[(1000208,none,aP),(2000004,none,aP),(2000005,none,aP),(2000006,none,aP)]⟩
def xw (k m:Nat) (v:pX.V):=kU k m v.1.1 v.1.2.1 v.1.2.2.1 v.2.1 v.2.2.1 v.2.2.2.1 v.2.2.2.2.1
def xx (k:Nat):aL:=⟨pX,[(.exit 0,⟨[(4,aP),(5,aP)],[(4,.at 2000004 []),(5,.at 2000005 [])],[(2000004,none,aP),(2000005,none,aP)]⟩)],xw k k⟩
def F38 (k:Nat) (a0:aT):Option (Lr×Unit) :=
 (F70 k a0).bind fun r1 =>
 (kU k k a0 (-1:Int) (0:Int) r1.1.1 [] [] []).bind fun r22 =>
 some ((r22.2.1,r22.2.2.1,()),())
def Bk (k:Nat):ap:=⟨[.val dF],[.own aP,.own aP],fun x=>F38 k x.1⟩
def sM:Lim:=⟨65,1,false,false,[],[]⟩
def Dm (k:Nat):Nat→Option ap:=aW [(70,Bi k),(71,Bj k)]
noncomputable def Ol:Code:=ac (ab Try.f38) [.r,.r,.r,.r,.l,.r,.s,.b,.r,.l,.s,.r,.r,.r,.r,.l,.s]
noncomputable def YR:Code:=ac (ab Try.f38) [.r,.r,.r,.r,.l,.r,.s,.b,.r,.l,.s,.r,.r,.r,.r,.l,.s,.b]
noncomputable def Om:Code:=ac (ab Try.f38) [.r,.r,.r,.r,.l,.r,.s]
noncomputable def YS:Code:=ac (ab Try.f38) [.r,.r,.r,.r,.l,.r,.s,.b]
noncomputable def co38:Code:=ac (ab Try.f38) []
theorem va (k:Nat):aR Try.prog (Dm k):=ah (v70 k) (ah (v71 k) (aD))
noncomputable def FI (k m:Nat) (v:pW.V):=body Try.prog (ao Try.prog (Dm k) sM) .go YR (pW.st v) (aH (xv k) (xu k m))
theorem YT (k m:Nat) (v:pW.V):xu k (m+1) v=(FI k m v).eval∧(FI k m v).left=(FI k m v).right:=⟨by kernel_rfl,by kernel_rfl⟩
theorem On (k:Nat):aC Try.prog sM (xv k) Ol :=
 am (by kernel_rfl) (aA (va k) (aj _) (xu k) k (fun _=>rfl) (fun _=>rfl) (YT k))
def YU (k:Nat):aO:=(.seq .go (.seq (.sub (.seq .go (.seq .go (.seq .go (.seq .go (.seq (.sub (.frag (xv k))) .go)))))) .go))
noncomputable def FJ (k m:Nat) (v:pX.V):=body Try.prog (ao Try.prog (Dm k) sM) (YU k) YS (pX.st v) (aH (xx k) (xw k m))
theorem YV (k m:Nat) (v:pX.V):xw k (m+1) v=(FJ k m v).eval∧(FJ k m v).left=(FJ k m v).right:=⟨by kernel_rfl,by kernel_rfl⟩
theorem Oo (k:Nat):aC Try.prog sM (xx k) Om :=
 am (by kernel_rfl) (aA (va k) (aG (L:=[(xv k,Ol)]) (by kernel_rfl) (.cons (On k) .nil)) (xw k) k (fun _=>rfl) (fun _=>rfl) (YV k))
def YW (k:Nat):aO:=(.seq .go (.seq .go (.seq .go (.seq .go (.seq (.seq .go (.sub (.frag (xx k)))) .go)))))
noncomputable def Te (k:Nat) (x:AT (Bk k).ps):=fnT Try.prog (Dm k) sM Try.f38 (ab Try.f38) (YW k) (Bk k) x
theorem a6x (k:Nat) (x:AT (Bk k).ps):(Bk k).impl x=(Te k x).eval∧(Te k x).left=(Te k x).right:=⟨by kernel_rfl,by kernel_rfl⟩
theorem v38 (k:Nat):ai Try.prog 38∧aB Try.prog 38 (Bk k) :=
 aS (n:=sM) (fn:=Try.f38) (p:=(YW k)) (va k) (by kernel_rfl) (aG (L:=[(xx k,Om)]) (by kernel_rfl) (.cons (Oo k) .nil)) (a6x k)
def sO (k:Nat):Nat→(List Int)→Int→Int→Option EO
 |0,_,_,_=>none
 |n+1,t0,t3,t4 =>
  let x3:=(decide (t4<(length t0:Int)))
  bif x3 then
  if 0≤t4∧t4<(length t0:Int) then
  let x4:=(wrap .i64 ((getD t0 (toNat t4) (0:Int))+(1:Int)))
  (sO k n t0 (bZ t3 x4) (wrap .i64 (t4+(1:Int)))).bind some
  else none
  else
  some ((t3,()),())
def pY:aE:=⟨[],[(0,.val aZ),(3,.val (.int .i64)),(4,.val (.int .i64))],[]⟩
def xy (k m:Nat) (v:pY.V):=sO k m v.1.1 v.1.2.1 v.1.2.2.1
def xz (k:Nat):aL:=⟨pY,[(.exit 0,⟨[],[(3,.val (.int .i64))],[]⟩)],xy k k⟩
def F40 (k:Nat) (a0:(List Int)):Option bG :=
 (sO k k a0 (0:Int) (0:Int)).bind fun r5 =>
 some ((r5.1.1,()),())
def vb (k:Nat):ap:=⟨[.val aZ],[.val (.int .i64)],fun x=>F40 k x.1⟩
def Dn:Lim:=⟨19,1,false,false,[],[]⟩
def LQ (k:Nat):Nat→Option ap:=aW []
noncomputable def Oq:Code:=ac (ab Try.f40) [.r,.r,.l,.r,.s]
noncomputable def YX:Code:=ac (ab Try.f40) [.r,.r,.l,.r,.s,.b]
noncomputable def co40:Code:=ac (ab Try.f40) []
theorem FK (k:Nat):aR Try.prog (LQ k):=aD
noncomputable def FL (k m:Nat) (v:pY.V):=body Try.prog (ao Try.prog (LQ k) Dn) .go YX (pY.st v) (aH (xz k) (xy k m))
theorem YY (k m:Nat) (v:pY.V):xy k (m+1) v=(FL k m v).eval∧(FL k m v).left=(FL k m v).right:=⟨by kernel_rfl,by kernel_rfl⟩
theorem Ot (k:Nat):aC Try.prog Dn (xz k) Oq :=
 am (by kernel_rfl) (aA (FK k) (aj _) (xy k) k (fun _=>rfl) (fun _=>rfl) (YY k))
def YZ (k:Nat):aO:=(.seq .go (.seq .go (.seq (.seq .go (.sub (.frag (xz k)))) .go)))
noncomputable def Tf (k:Nat) (x:AT (vb k).ps):=fnT Try.prog (LQ k) Dn Try.f40 (ab Try.f40) (YZ k) (vb k) x
theorem a7x (k:Nat) (x:AT (vb k).ps):(vb k).impl x=(Tf k x).eval∧(Tf k x).left=(Tf k x).right:=⟨by kernel_rfl,by kernel_rfl⟩
theorem v40 (k:Nat):ai Try.prog 40∧aB Try.prog 40 (vb k) :=
 aS (n:=Dn) (fn:=Try.f40) (p:=(YZ k)) (FK k) (by kernel_rfl) (aG (L:=[(xz k,Oq)]) (by kernel_rfl) (.cons (Ot k) .nil)) (a7x k)
def sP (k:Nat):Nat→aT→(List Int)→(List Int)→Int→Int→(List Bool)→(List (List Bool))→Option (((aT×(List Int)×(List Int)×Int×Unit)×((List Bool)×(List (List Bool))×Unit)))
 |0,_,_,_,_,_,_,_=>none
 |n+1,t0,t1,t2,t8,t10,c19,e0 =>
  let x3:=(decide (t10<(length t1:Int)))
  bif x3 then
  if 0≤t10∧t10<(length t2:Int) then
  if 0≤t8∧t8<(length t0:Int) then
  let x4:=(getD t0 (toNat t8) ([]:bT))
  if 0≤t10∧t10<(length t1:Int) then
  (F72 k x4 (getD t1 (toNat t10) (0:Int))).bind fun r5 =>
  if 0≤(getD t2 (toNat t10) (0:Int))∧(getD t2 (toNat t10) (0:Int))<(length c19:Int) then
  let x6:=(toNat (getD t2 (toNat t10) (0:Int)))
  (sP k n t0 t1 t2 t8 (wrap .i64 (t10+(1:Int))) (List.set c19 x6 r5.1.1) e0).bind some
  else none
  else none
  else none
  else none
  else
  some ((t0,t1,t2,t8,()),(c19,e0,()))
def pZ:aE:=⟨[(7,bp)],[(0,.val dF),(1,.val aZ),(2,.val aZ),(7,.at 2000007 []),(8,.val (.int .i64)),(9,.at 19 []),(10,.val (.int .i64))],[(19,none,b5),(2000007,none,bp)]⟩
def xA (k m:Nat) (v:pZ.V):=sP k m v.1.1 v.1.2.1 v.1.2.2.1 v.1.2.2.2.1 v.1.2.2.2.2.1 v.2.1 v.2.2.1
def xB (k:Nat):aL:=⟨pZ,[(.exit 2,⟨[],[(0,.val dF),(1,.val aZ),(2,.val aZ),(7,.at 2000007 []),(8,.val (.int .i64)),(9,.at 19 [])],[(19,none,b5),(2000007,none,bp)]⟩)],xA k k⟩
def sQ (k:Nat):Nat→aT→(List Int)→(List Int)→Int→(List (List Bool))→Option ((Unit×EP))
 |0,_,_,_,_,_=>none
 |n+1,t0,t1,t2,t8,e0 =>
  let x1:=(decide (t8<(length t0:Int)))
  bif x1 then
  (F40 k t2).bind fun r2 =>
  if (0≤r2.1.1∧r2.1.1<r2.1.1+1)∧r2.1.1≤9223372036854775807∧((1:Nat):Int)*r2.1.1≤281474976710656 then
  (sP k k t0 t1 t2 t8 (0:Int) (replicate (toNat r2.1.1) false) e0).bind fun r7 =>
  if (length r7.2.2.1+length [r7.2.1])*(24*2)≤281474976710656∧length r7.2.2.1+length [r7.2.1]≤9223372036854775807 then
  (sQ k n r7.1.1 r7.1.2.1 r7.1.2.2.1 (wrap .i64 (r7.1.2.2.2.1+(1:Int))) (r7.2.2.1++[r7.2.1])).bind some
  else none
  else none
  else
  some ((),(e0,()))
def p5:aE:=⟨[(7,bp)],[(0,.val dF),(1,.val aZ),(2,.val aZ),(7,.at 2000007 []),(8,.val (.int .i64))],[(2000007,none,bp)]⟩
def xC (k m:Nat) (v:p5.V):=sQ k m v.1.1 v.1.2.1 v.1.2.2.1 v.1.2.2.2.1 v.2.1
def xD (k:Nat):aL:=⟨p5,[(.exit 0,⟨[(7,bp)],[(7,.at 2000007 [])],[(2000007,none,bp)]⟩)],xC k k⟩
def F39 (k:Nat) (a0:aT) (a1:(List Int)) (a2:(List Int)):Option (EP×Unit) :=
 (sQ k k a0 a1 a2 (0:Int) []).bind fun r14 =>
 some ((r14.2.1,()),())
def Bl (k:Nat):ap:=⟨[.val dF,.val aZ,.val aZ],[.own bp],fun x=>F39 k x.1 x.2.1 x.2.2.1⟩
def sR:Lim:=⟨46,3,false,false,[],[]⟩
def Do (k:Nat):Nat→Option ap:=aW [(40,vb k),(72,pU k)]
noncomputable def Ou:Code:=ac (ab Try.f39) [.r,.r,.l,.r,.s,.b,.r,.l,.s,.r,.l,.r,.s]
noncomputable def Y0:Code:=ac (ab Try.f39) [.r,.r,.l,.r,.s,.b,.r,.l,.s,.r,.l,.r,.s,.b]
noncomputable def Ov:Code:=ac (ab Try.f39) [.r,.r,.l,.r,.s]
noncomputable def Y1:Code:=ac (ab Try.f39) [.r,.r,.l,.r,.s,.b]
noncomputable def co39:Code:=ac (ab Try.f39) []
theorem vc (k:Nat):aR Try.prog (Do k):=ah (v40 k) (ah (v72 k) (aD))
noncomputable def FM (k m:Nat) (v:pZ.V):=body Try.prog (ao Try.prog (Do k) sR) .go Y0 (pZ.st v) (aH (xB k) (xA k m))
theorem Y2 (k m:Nat) (v:pZ.V):xA k (m+1) v=(FM k m v).eval∧(FM k m v).left=(FM k m v).right:=⟨by kernel_rfl,by kernel_rfl⟩
theorem Ow (k:Nat):aC Try.prog sR (xB k) Ou :=
 am (by kernel_rfl) (aA (vc k) (aj _) (xA k) k (fun _=>rfl) (fun _=>rfl) (Y2 k))
def Y3 (k:Nat):aO:=(.seq .go (.seq (.sub (.seq .go (.seq (.seq .go (.sub (.frag (xB k)))) .go))) .go))
noncomputable def FN (k m:Nat) (v:p5.V):=body Try.prog (ao Try.prog (Do k) sR) (Y3 k) Y1 (p5.st v) (aH (xD k) (xC k m))
theorem Y4 (k m:Nat) (v:p5.V):xC k (m+1) v=(FN k m v).eval∧(FN k m v).left=(FN k m v).right:=⟨by kernel_rfl,by kernel_rfl⟩
theorem Ox (k:Nat):aC Try.prog sR (xD k) Ov :=
 am (by kernel_rfl) (aA (vc k) (aG (L:=[(xB k,Ou)]) (by kernel_rfl) (.cons (Ow k) .nil)) (xC k) k (fun _=>rfl) (fun _=>rfl) (Y4 k))
def Y5 (k:Nat):aO:=(.seq .go (.seq .go (.seq (.seq .go (.sub (.frag (xD k)))) .go)))
noncomputable def Tg (k:Nat) (x:AT (Bl k).ps):=fnT Try.prog (Do k) sR Try.f39 (ab Try.f39) (Y5 k) (Bl k) x
theorem a8x (k:Nat) (x:AT (Bl k).ps):(Bl k).impl x=(Tg k x).eval∧(Tg k x).left=(Tg k x).right:=⟨by kernel_rfl,by kernel_rfl⟩
theorem v39 (k:Nat):ai Try.prog 39∧aB Try.prog 39 (Bl k) :=
 aS (n:=sR) (fn:=Try.f39) (p:=(Y5 k)) (vc k) (by kernel_rfl) (aG (L:=[(xD k,Ov)]) (by kernel_rfl) (.cons (Ox k) .nil)) (a8x k)
def Bm (f73:(aV→Option bG)):ap:=⟨[.val iM],[.val (.int .i64)],fun x=>f73 x.1⟩
def m7 (k:Nat) (f73:(aV→Option bG)):Nat→Int→Int→lD→Option (((Int×Unit)×(lD×Unit)))
 |0,_,_,_=>none
 |n+1,t3,t4,c1 =>
  let x5:=(decide (t4<(length c1.2.2.2.2.2.1:Int)))
  bif x5 then
  if 0≤t4∧t4<(length c1.2.2.2.2.2.1:Int) then
  let x6:=(getD c1.2.2.2.2.2.1 (toNat t4) (ae.mk ((0:Int),((0:Int),((0:Int),((0:Int),(ByteArray.empty,()))))) []))
  (f73 x6).bind fun r7 =>
  let x8:=(aK (wrap .i64 (t3+r7.1.1)) (1000000000:Int))
  (m7 k f73 n x8 (wrap .i64 (t4+(1:Int))) c1).bind some
  else none
  else
  some ((t3,()),(c1,()))
def p6:aE:=⟨[],[(1,.ptr 1 []),(3,.val (.int .i64)),(4,.val (.int .i64))],[(1,some 65,lE)]⟩
def xE (k:Nat) (f73:(aV→Option bG)) (m:Nat) (v:p6.V):=m7 k f73 m v.1.1 v.1.2.1 v.2.1
def xF (k:Nat) (f73:(aV→Option bG)):aL:=⟨p6,[(.exit 1,⟨[],[(1,.ptr 1 []),(3,.val (.int .i64))],[(1,some 65,lE)]⟩)],xE k f73 k⟩
def B73 (k:Nat) (f73:(aV→Option bG)) (a0:aV):Option bG :=
 bif ((ae.a a0).1==(1:Int)) then
 some (((0:Int),()),())
 else
 bif ((ae.a a0).1==(2:Int)) then
 some (((1:Int),()),())
 else
 bif ((ae.a a0).1==(3:Int)) then
 some (((1:Int),()),())
 else
 (m7 k f73 k (0:Int) (0:Int) ((ae.a a0).1,((ae.a a0).2.1,((ae.a a0).2.2.1,((ae.a a0).2.2.2.1,((ae.a a0).2.2.2.2.1,((ae.l a0),()))))))).bind fun r9 =>
 bif (r9.2.1.1==(7:Int)) then
 let x12:=(aK (wrap .i64 (r9.1.1*r9.2.1.2.2.1)) (1000000000:Int))
 some ((x12,()),())
 else
 some ((r9.1.1,()),())
def FO (k:Nat) (f73:(aV→Option bG)):ap:=Bm (B73 k f73)
def Dp:Lim:=⟨37,1,false,false,[],[]⟩
def LR (k:Nat) (f73:(aV→Option bG)):Nat→Option ap:=aW [(73,Bm f73)]
noncomputable def Oy:Code:=ac (ab Try.f73) [.r,.r,.r,.l,.r,.s]
noncomputable def Y6:Code:=ac (ab Try.f73) [.r,.r,.r,.l,.r,.s,.b]
noncomputable def co73:Code:=ac (ab Try.f73) []
theorem FP (k:Nat) (f73:(aV→Option bG)) (h73:ai Try.prog 73∧aB Try.prog 73 (Bm f73)):aR Try.prog (LR k f73):=ah h73 (aD)
noncomputable def FQ (k:Nat) (f73:(aV→Option bG)) (m:Nat) (v:p6.V):=body Try.prog (ao Try.prog (LR k f73) Dp) .go Y6 (p6.st v) (aH (xF k f73) (xE k f73 m))
theorem Y7 (k:Nat) (f73:(aV→Option bG)) (m:Nat) (v:p6.V):xE k f73 (m+1) v=(FQ k f73 m v).eval∧(FQ k f73 m v).left=(FQ k f73 m v).right:=⟨by kernel_rfl,by kernel_rfl⟩
theorem Oz (k:Nat) (f73:(aV→Option bG)) (h73:ai Try.prog 73∧aB Try.prog 73 (Bm f73)):aC Try.prog Dp (xF k f73) Oy :=
 am (by kernel_rfl) (aA (FP k f73 h73) (aj _) (xE k f73) k (fun _=>rfl) (fun _=>rfl) (Y7 k f73))
def Y8 (k:Nat) (f73:(aV→Option bG)):aO:=(.seq .go (.seq .go (.seq .go (.seq (.seq .go (.sub (.frag (xF k f73)))) .go))))
noncomputable def Th (k:Nat) (f73:(aV→Option bG)) (x:AT (FO k f73).ps):=fnT Try.prog (LR k f73) Dp Try.f73 (ab Try.f73) (Y8 k f73) (FO k f73) x
theorem a9x (k:Nat) (f73:(aV→Option bG)) (x:AT (FO k f73).ps):(FO k f73).impl x=(Th k f73 x).eval∧(Th k f73 x).left=(Th k f73 x).right:=⟨by kernel_rfl,by kernel_rfl⟩
theorem b73 (k:Nat) (f73:(aV→Option bG)) (h73:ai Try.prog 73∧aB Try.prog 73 (Bm f73)):ai Try.prog 73∧aB Try.prog 73 (FO k f73) :=
 aS (n:=Dp) (fn:=Try.f73) (p:=(Y8 k f73)) (FP k f73 h73) (by kernel_rfl) (aG (L:=[(xF k f73,Oy)]) (by kernel_rfl) (.cons (Oz k f73 h73) .nil)) (a9x k f73)
def R73:Nat→(aV→Option bG)
 |0=>fun _=>none
 |k+1=>B73 k (R73 k)
def F73 (k:Nat) (a0_:aV):Option bG:=(R73 k) a0_
def Y9 (k:Nat):ap:=⟨[.val iM],[.val (.int .i64)],fun x=>F73 k x.1⟩
theorem r73 (k:Nat):(ai Try.prog 73∧aB Try.prog 73 (Bm (R73 k))):=by
 induction k with
 |zero=>exact ⟨⟨Try.f73,by kernel_rfl,by kernel_rfl,by kernel_rfl⟩,fun x r h=>by cases (show (none:Option _)=some r from h)⟩
 |succ k ih=>exact b73 k (R73 k) ih
theorem v73 (k:Nat):ai Try.prog 73∧aB Try.prog 73 (Y9 k):=(r73 k)
def m8 (k:Nat):Nat→Int→Int→aQ→aQ→Option uP
 |0,_,_,_,_=>none
 |n+1,t0,t4,c2,c3 =>
  bif (decide (t4<t0)) then
  let x4:=(List.set (replicate 1 (0:Int)) 0 (0:Int))
  if (length c3.1+length x4)*(8*2)≤281474976710656∧length c3.1+length x4≤9223372036854775807 then
  let x5:=(List.set (replicate 1 (0:Int)) 0 (1152921504606846976:Int))
  if (length c3.2.1+length x5)*(8*2)≤281474976710656∧length c3.2.1+length x5≤9223372036854775807 then
  let x6:=(List.set (replicate 1 (0:Int)) 0 (1152921504606846976:Int))
  if (length c3.2.2.1+length x6)*(8*2)≤281474976710656∧length c3.2.2.1+length x6≤9223372036854775807 then
  (m8 k n t0 (wrap .i64 (t4+(1:Int))) c2 ((c3.1++x4),((c3.2.1++x5),((c3.2.2.1++x6),c3.2.2.2)))).bind some
  else none
  else none
  else none
  else
  some ((),(c2,c3,()))
def p7:aE:=⟨[],[(0,.val (.int .i64)),(2,.ptr 2 []),(3,.ptr 3 []),(4,.val (.int .i64))],[(2,some 81,aY),(3,some 81,aY)]⟩
def xG (k m:Nat) (v:p7.V):=m8 k m v.1.1 v.1.2.1 v.2.1 v.2.2.1
def xH (k:Nat):aL:=⟨p7,[(.exit 0,⟨[],[(2,.ptr 2 []),(3,.ptr 3 [])],[(2,some 81,aY),(3,some 81,aY)]⟩)],xG k k⟩
def F96 (k:Nat) (a0:Int):Option cy :=
 (m8 k k a0 (0:Int) (([]:(List Int)),(([]:(List Int)),(([]:(List Int)),(([]:cA),((0:Int),()))))) (([]:(List Int)),(([]:(List Int)),(([]:(List Int)),(([]:cA),((1152921504606846976:Int),())))))).bind fun r7 =>
 some ((r7.2.2.1,()),())
def p8 (k:Nat):ap:=⟨[.val (.int .i64)],[.own aY],fun x=>F96 k x.1⟩
def Dq:Lim:=⟨27,1,false,false,[],[]⟩
def LS (k:Nat):Nat→Option ap:=aW []
noncomputable def OA:Code:=ac (ab Try.f96) [.r,.r,.l,.r,.s]
noncomputable def Za:Code:=ac (ab Try.f96) [.r,.r,.l,.r,.s,.b]
noncomputable def co96:Code:=ac (ab Try.f96) []
theorem FR (k:Nat):aR Try.prog (LS k):=aD
noncomputable def FS (k m:Nat) (v:p7.V):=body Try.prog (ao Try.prog (LS k) Dq) .go Za (p7.st v) (aH (xH k) (xG k m))
theorem Zb (k m:Nat) (v:p7.V):xG k (m+1) v=(FS k m v).eval∧(FS k m v).left=(FS k m v).right:=⟨by kernel_rfl,by kernel_rfl⟩
theorem OB (k:Nat):aC Try.prog Dq (xH k) OA :=
 am (by kernel_rfl) (aA (FR k) (aj _) (xG k) k (fun _=>rfl) (fun _=>rfl) (Zb k))
def Zc (k:Nat):aO:=(.seq .go (.seq .go (.seq (.seq .go (.sub (.frag (xH k)))) .go)))
noncomputable def Ti (k:Nat) (x:AT (p8 k).ps):=fnT Try.prog (LS k) Dq Try.f96 (ab Try.f96) (Zc k) (p8 k) x
theorem a0y (k:Nat) (x:AT (p8 k).ps):(p8 k).impl x=(Ti k x).eval∧(Ti k x).left=(Ti k x).right:=⟨by kernel_rfl,by kernel_rfl⟩
theorem v96 (k:Nat):ai Try.prog 96∧aB Try.prog 96 (p8 k) :=
 aS (n:=Dq) (fn:=Try.f96) (p:=(Zc k)) (FR k) (by kernel_rfl) (aG (L:=[(xH k,OA)]) (by kernel_rfl) (.cons (OB k) .nil)) (a0y k)
def F95 (k:Nat):Option cy :=
 (F96 k (0:Int)).bind fun r1 =>
 some (((r1.1.1.1,(r1.1.1.2.1,(r1.1.1.2.2.1,(r1.1.1.2.2.2.1,((0:Int),r1.1.1.2.2.2.2.2))))),()),())
def Bn (k:Nat):ap:=⟨[],[.own aY],fun x=>F95 k⟩
def Vn:Lim:=⟨5,0,false,false,[],[]⟩
def Vo (k:Nat):Nat→Option ap:=aW [(96,p8 k)]
noncomputable def co95:Code:=ac (ab Try.f95) []
theorem Tj (k:Nat):aR Try.prog (Vo k):=ah (v96 k) (aD)
noncomputable def Tl (k:Nat) (x:AT (Bn k).ps):=fnT Try.prog (Vo k) Vn Try.f95 (ab Try.f95) .go (Bn k) x
theorem a1y (k:Nat) (x:AT (Bn k).ps):(Bn k).impl x=(Tl k x).eval∧(Tl k x).left=(Tl k x).right:=⟨by kernel_rfl,by kernel_rfl⟩
theorem v95 (k:Nat):ai Try.prog 95∧aB Try.prog 95 (Bn k) :=
 aS (n:=Vn) (fn:=Try.f95) (p:=.go) (Tj k) (by kernel_rfl) (aj _) (a1y k)
def l9 (k:Nat):Nat→Int→Int→aQ→aQ→aQ→aQ→Option TY8
 |0,_,_,_,_,_,_=>none
 |n+1,t5,t7,c2,c3,c4,c6 =>
  bif (decide (t7<t5)) then
  if 0≤t7∧t7<(length c2.1:Int) then
  if 0≤t7∧t7<(length c6.1:Int) then
  let x4:=(List.set c6.1 (toNat t7) (getD c2.1 (toNat t7) (0:Int)))
  (l9 k n t5 (wrap .i64 (t7+(1:Int))) c2 c3 c4 (x4,c6.2)).bind some
  else none
  else none
  else
  some ((t5,()),(c2,c3,c4,c6,()))
def ma:aE:=⟨[],[(2,.ptr 2 []),(3,.ptr 3 []),(4,.ptr 4 []),(5,.val (.int .i64)),(6,.ptr 6 []),(7,.val (.int .i64))],[(2,some 81,ba),(3,some 81,ba),(4,some 81,aY),(6,some 81,aY)]⟩
def sS (k m:Nat) (v:ma.V):=l9 k m v.1.1 v.1.2.1 v.2.1 v.2.2.1 v.2.2.2.1 v.2.2.2.2.1
def sU (k:Nat):aL:=⟨ma,[(.exit 0,⟨[],[(2,.ptr 2 []),(3,.ptr 3 []),(4,.ptr 4 []),(5,.val (.int .i64)),(6,.ptr 6 [])],[(2,some 81,ba),(3,some 81,ba),(4,some 81,aY),(6,some 81,aY)]⟩)],sS k k⟩
def mb (k:Nat):Nat→Int→Int→aQ→aQ→aQ→aQ→Option TY8
 |0,_,_,_,_,_,_=>none
 |n+1,t5,t8,c2,c3,c4,c6 =>
  let x14:=(decide (t8<(length c3.1:Int)))
  bif x14 then
  if 0≤t8∧t8<(length c3.1:Int) then
  if 0≤(wrap .i64 (t5+t8))∧(wrap .i64 (t5+t8))<(length c6.1:Int) then
  let x15:=(toNat (wrap .i64 (t5+t8)))
  let x16:=(List.set c6.1 x15 (getD c3.1 (toNat t8) (0:Int)))
  (mb k n t5 (wrap .i64 (t8+(1:Int))) c2 c3 c4 (x16,c6.2)).bind some
  else none
  else none
  else
  some ((t5,()),(c2,c3,c4,c6,()))
def me:aE:=⟨[],[(2,.ptr 2 []),(3,.ptr 3 []),(4,.ptr 4 []),(5,.val (.int .i64)),(6,.ptr 6 []),(8,.val (.int .i64))],[(2,some 81,ba),(3,some 81,ba),(4,some 81,aY),(6,some 81,aY)]⟩
def sV (k m:Nat) (v:me.V):=mb k m v.1.1 v.1.2.1 v.2.1 v.2.2.1 v.2.2.2.1 v.2.2.2.2.1
def sW (k:Nat):aL:=⟨me,[(.exit 2,⟨[],[(2,.ptr 2 []),(3,.ptr 3 []),(4,.ptr 4 []),(5,.val (.int .i64)),(6,.ptr 6 [])],[(2,some 81,ba),(3,some 81,ba),(4,some 81,aY),(6,some 81,aY)]⟩)],sV k k⟩
def mf (k:Nat):Nat→Int→Int→aQ→aQ→aQ→Option uP
 |0,_,_,_,_,_=>none
 |n+1,t5,t9,c3,c4,c6 =>
  let x28:=(decide (t9<(length c3.2.2.2.1:Int)))
  bif x28 then
  if 0≤t9∧t9<(length c3.2.2.2.1:Int) then
  let x29:=(getD c3.2.2.2.1 (toNat t9) ((0:Int),((0:Int),((0:Int),()))))
  if 0≤t9∧t9<(length c3.2.2.2.1:Int) then
  let x30:=(getD c3.2.2.2.1 (toNat t9) ((0:Int),((0:Int),((0:Int),()))))
  if 0≤t9∧t9<(length c3.2.2.2.1:Int) then
  let x31:=(getD c3.2.2.2.1 (toNat t9) ((0:Int),((0:Int),((0:Int),()))))
  let x32:=(List.set (replicate 1 ((0:Int),((0:Int),((0:Int),())))) 0 ((wrap .i64 (x29.1+t5)),((wrap .i64 (x30.2.1+t5)),(x31.2.2.1,()))))
  if (length c6.2.2.2.1+length x32)*(24*2)≤281474976710656∧length c6.2.2.2.1+length x32≤9223372036854775807 then
  (mf k n t5 (wrap .i64 (t9+(1:Int))) c3 c4 (c6.1,(c6.2.1,(c6.2.2.1,((c6.2.2.2.1++x32),c6.2.2.2.2))))).bind some
  else none
  else none
  else none
  else none
  else
  some ((),(c4,c6,()))
def mg:aE:=⟨[],[(3,.ptr 3 []),(4,.ptr 4 []),(5,.val (.int .i64)),(6,.ptr 6 []),(9,.val (.int .i64))],[(3,some 81,ba),(4,some 81,aY),(6,some 81,aY)]⟩
def sX (k m:Nat) (v:mg.V):=mf k m v.1.1 v.1.2.1 v.2.1 v.2.2.1 v.2.2.2.1
def sY (k:Nat):aL:=⟨mg,[(.exit 4,⟨[],[(4,.ptr 4 []),(6,.ptr 6 [])],[(4,some 81,aY),(6,some 81,aY)]⟩)],sX k k⟩
def FT (k:Nat) (a0:aQ) (a1:aQ):Option cy :=
 let x1:=(wrap .i64 ((length a0.1:Int)+(length a1.1:Int)))
 (F96 k x1).bind fun r2 =>
 (l9 k k (length a0.1:Int) (0:Int) a0 a1 (([]:(List Int)),(([]:(List Int)),(([]:(List Int)),(([]:cA),((0:Int),()))))) r2.1.1).bind fun r5 =>
 (mb k k r5.1.1 (0:Int) r5.2.1 r5.2.2.1 r5.2.2.2.1 r5.2.2.2.2.1).bind fun r17 =>
 let y22:=r17.2.2.2.2.1
 if (length y22.2.2.2.1+length r17.2.1.2.2.2.1)*(24*2)≤281474976710656∧length y22.2.2.2.1+length r17.2.1.2.2.2.1≤9223372036854775807 then
 (mf k k r17.1.1 (0:Int) r17.2.2.1 r17.2.2.2.1 (y22.1,(y22.2.1,(y22.2.2.1,((y22.2.2.2.1++r17.2.1.2.2.2.1),y22.2.2.2.2))))).bind fun r33 =>
 some ((r33.2.2.1,()),())
 else none
def m9 (k:Nat):ap:=⟨[.val ba,.val ba],[.own aY],fun x=>FT k x.1 x.2.1⟩
def jo:Lim:=⟨93,2,false,false,[],[]⟩
def p9 (k:Nat):Nat→Option ap:=aW [(96,p8 k)]
noncomputable def JK:Code:=ac (ab Try.f101) [.r,.r,.r,.l,.r,.s]
noncomputable def V8:Code:=ac (ab Try.f101) [.r,.r,.r,.l,.r,.s,.b]
noncomputable def JL:Code:=ac (ab Try.f101) [.r,.r,.r,.r,.l,.r,.s]
noncomputable def V9:Code:=ac (ab Try.f101) [.r,.r,.r,.r,.l,.r,.s,.b]
noncomputable def JM:Code:=ac (ab Try.f101) [.r,.r,.r,.r,.r,.r,.l,.r,.s]
noncomputable def Wa:Code:=ac (ab Try.f101) [.r,.r,.r,.r,.r,.r,.l,.r,.s,.b]
noncomputable def co101:Code:=ac (ab Try.f101) []
theorem kV (k:Nat):aR Try.prog (p9 k):=ah (v96 k) (aD)
noncomputable def Bo (k m:Nat) (v:ma.V):=body Try.prog (ao Try.prog (p9 k) jo) .go V8 (ma.st v) (aH (sU k) (sS k m))
theorem Wb (k m:Nat) (v:ma.V):sS k (m+1) v=(Bo k m v).eval∧(Bo k m v).left=(Bo k m v).right:=⟨by kernel_rfl,by kernel_rfl⟩
theorem LU (k:Nat):aC Try.prog jo (sU k) JK :=
 am (by kernel_rfl) (aA (kV k) (aj _) (sS k) k (fun _=>rfl) (fun _=>rfl) (Wb k))
noncomputable def Bp (k m:Nat) (v:me.V):=body Try.prog (ao Try.prog (p9 k) jo) .go V9 (me.st v) (aH (sW k) (sV k m))
theorem Wc (k m:Nat) (v:me.V):sV k (m+1) v=(Bp k m v).eval∧(Bp k m v).left=(Bp k m v).right:=⟨by kernel_rfl,by kernel_rfl⟩
theorem LV (k:Nat):aC Try.prog jo (sW k) JL :=
 am (by kernel_rfl) (aA (kV k) (aj _) (sV k) k (fun _=>rfl) (fun _=>rfl) (Wc k))
noncomputable def Bq (k m:Nat) (v:mg.V):=body Try.prog (ao Try.prog (p9 k) jo) .go Wa (mg.st v) (aH (sY k) (sX k m))
theorem Wd (k m:Nat) (v:mg.V):sX k (m+1) v=(Bq k m v).eval∧(Bq k m v).left=(Bq k m v).right:=⟨by kernel_rfl,by kernel_rfl⟩
theorem LW (k:Nat):aC Try.prog jo (sY k) JM :=
 am (by kernel_rfl) (aA (kV k) (aj _) (sX k) k (fun _=>rfl) (fun _=>rfl) (Wd k))
def Vp (k:Nat):aO:=(.seq .go (.seq .go (.seq .go (.seq (.seq .go (.sub (.frag (sU k)))) (.seq (.seq .go (.sub (.frag (sW k)))) (.seq .go (.seq (.seq .go (.sub (.frag (sY k)))) .go)))))))
noncomputable def LX (k:Nat) (x:AT (m9 k).ps):=fnT Try.prog (p9 k) jo Try.f101 (ab Try.f101) (Vp k) (m9 k) x
theorem a3r (k:Nat) (x:AT (m9 k).ps):(m9 k).impl x=(LX k x).eval∧(LX k x).left=(LX k x).right:=⟨by kernel_rfl,by kernel_rfl⟩
theorem Zd (k:Nat):ai Try.prog 101∧aB Try.prog 101 (m9 k) :=
 aS (n:=jo) (fn:=Try.f101) (p:=(Vp k)) (kV k) (by kernel_rfl) (aG (L:=[(sU k,JK),(sW k,JL),(sY k,JM)]) (by kernel_rfl) (.cons (LU k) (.cons (LV k) (.cons (LW k) .nil)))) (a3r k)
def F34 (k:Nat) (a0:Int) (a1:Int):Option bG :=
 let x1:=(aK (wrap .i64 (a0+a1)) (1152921504606846976:Int))
 some ((x1,()),())
def kr (k:Nat):ap:=⟨[.val (.int .i64),.val (.int .i64)],[.val (.int .i64)],fun x=>F34 k x.1 x.2.1⟩
def Vq:Lim:=⟨9,2,false,false,[],[]⟩
def Vr (k:Nat):Nat→Option ap:=aW []
noncomputable def co34:Code:=ac (ab Try.f34) []
theorem Tm (k:Nat):aR Try.prog (Vr k):=aD
noncomputable def Tn (k:Nat) (x:AT (kr k).ps):=fnT Try.prog (Vr k) Vq Try.f34 (ab Try.f34) .go (kr k) x
theorem a2y (k:Nat) (x:AT (kr k).ps):(kr k).impl x=(Tn k x).eval∧(Tn k x).left=(Tn k x).right:=⟨by kernel_rfl,by kernel_rfl⟩
theorem v34 (k:Nat):ai Try.prog 34∧aB Try.prog 34 (kr k) :=
 aS (n:=Vq) (fn:=Try.f34) (p:=.go) (Tm k) (by kernel_rfl) (aj _) (a2y k)
def ku (k:Nat):Nat→Int→cA→(Int×oT)→Option (((Int×Unit)×(cA×(Int×oT)×Unit)))
 |0,_,_,_=>none
 |n+1,t5,c0,c3 =>
  let x6:=(decide (t5<(length c0:Int)))
  bif x6 then
  if 0≤t5∧t5<(length c0:Int) then
  let x7:=(getD c0 (toNat t5) ((0:Int),((0:Int),((0:Int),())))).1
  bif (decide (x7<c3.1)) then
  (ku k n (wrap .i64 (t5+(1:Int))) c0 c3).bind some
  else
  if 0≤t5∧t5<(length c0:Int) then
  let x8:=(getD c0 (toNat t5) ((0:Int),((0:Int),((0:Int),())))).1
  bif (x8==c3.1) then
  if 0≤t5∧t5<(length c0:Int) then
  let x9:=(getD c0 (toNat t5) ((0:Int),((0:Int),((0:Int),())))).2.1
  bif (decide (x9<c3.2.1)) then
  (ku k n (wrap .i64 (t5+(1:Int))) c0 c3).bind some
  else
  some ((t5,()),(c0,c3,()))
  else none
  else
  some ((t5,()),(c0,c3,()))
  else none
  else none
  else
  some ((t5,()),(c0,c3,()))
def mh:aE:=⟨[],[(0,.at 0 []),(3,.ptr 3 []),(5,.val (.int .i64))],[(0,none,iL),(3,some 127,A0)]⟩
def sZ (k m:Nat) (v:mh.V):=ku k m v.1.1 v.2.1 v.2.2.1
def s7 (k:Nat):aL:=⟨mh,[(.exit 0,⟨[],[(0,.at 0 []),(3,.ptr 3 []),(5,.val (.int .i64))],[(0,none,iL),(3,some 127,A0)]⟩)],sZ k k⟩
def Br (k:Nat) (a0:cA) (a1:(Int×oT)):Option ((cA×Unit)×Unit) :=
 let x1:=(decide (a1.2.2.1≥(1152921504606846976:Int)))
 bif x1 then
 some ((a0,()),())
 else
 (ku k k (0:Int) a0 a1).bind fun r10 =>
 let y11:=r10.1.1
 let y12:=r10.2.1
 let y13:=r10.2.2.1
 let x14:=(decide (y11<(length y12:Int)))
 bif x14 then
 if 0≤y11∧y11<(length y12:Int) then
 let x15:=(getD y12 (toNat y11) ((0:Int),((0:Int),((0:Int),())))).1
 bif (x15==y13.1) then
 if 0≤y11∧y11<(length y12:Int) then
 let x16:=(getD y12 (toNat y11) ((0:Int),((0:Int),((0:Int),())))).2.1
 bif (x16==y13.2.1) then
 let x17:=(replicate 0 ((0:Int),((0:Int),((0:Int),()))))
 if (length x17+length y12)*(24*2)≤281474976710656∧length x17+length y12≤9223372036854775807 then
 if 0≤y11∧y11<(length (x17++y12):Int) then
 let x18:=(getD (x17++y12) (toNat y11) ((0:Int),((0:Int),((0:Int),())))).2.2.1
 if 0≤y11∧y11<(length (x17++y12):Int) then
 let x19:=(List.set (x17++y12) (toNat y11) ((getD (x17++y12) (toNat y11) ((0:Int),((0:Int),((0:Int),())))).1,((getD (x17++y12) (toNat y11) ((0:Int),((0:Int),((0:Int),())))).2.1,((aK x18 y13.2.2.1),(getD (x17++y12) (toNat y11) ((0:Int),((0:Int),((0:Int),())))).2.2.2))))
 some ((x19,()),())
 else none
 else none
 else none
 else
 if 0≤(0:Int)∧(0:Int)≤y11∧y11≤(length y12:Int) then
 let x20:=(toNat y11-toNat (0:Int))
 if 0≤y11∧y11≤(length y12:Int)∧(length y12:Int)≤(length y12:Int) then
 let x21:=(toNat (length y12:Int)-toNat y11)
 let x22:=(replicate 0 ((0:Int),((0:Int),((0:Int),()))))
 if (length x22+length (take x20 (drop (toNat (0:Int)) y12)))*(24*2)≤281474976710656∧length x22+length (take x20 (drop (toNat (0:Int)) y12))≤9223372036854775807 then
 let x23:=(x22++(take x20 (drop (toNat (0:Int)) y12)))
 let x24:=(List.set (replicate 1 ((0:Int),((0:Int),((0:Int),())))) 0 y13)
 if (length x23+length x24)*(24*2)≤281474976710656∧length x23+length x24≤9223372036854775807 then
 if (length (x23++x24)+length (take x21 (drop (toNat y11) y12)))*(24*2)≤281474976710656∧length (x23++x24)+length (take x21 (drop (toNat y11) y12))≤9223372036854775807 then
 let x25:=((x23++x24)++(take x21 (drop (toNat y11) y12)))
 some ((x25,()),())
 else none
 else none
 else none
 else none
 else none
 else none
 else
 if 0≤(0:Int)∧(0:Int)≤y11∧y11≤(length y12:Int) then
 let x26:=(toNat y11-toNat (0:Int))
 if 0≤y11∧y11≤(length y12:Int)∧(length y12:Int)≤(length y12:Int) then
 let x27:=(toNat (length y12:Int)-toNat y11)
 let x28:=(replicate 0 ((0:Int),((0:Int),((0:Int),()))))
 if (length x28+length (take x26 (drop (toNat (0:Int)) y12)))*(24*2)≤281474976710656∧length x28+length (take x26 (drop (toNat (0:Int)) y12))≤9223372036854775807 then
 let x29:=(x28++(take x26 (drop (toNat (0:Int)) y12)))
 let x30:=(List.set (replicate 1 ((0:Int),((0:Int),((0:Int),())))) 0 y13)
 if (length x29+length x30)*(24*2)≤281474976710656∧length x29+length x30≤9223372036854775807 then
 if (length (x29++x30)+length (take x27 (drop (toNat y11) y12)))*(24*2)≤281474976710656∧length (x29++x30)+length (take x27 (drop (toNat y11) y12))≤9223372036854775807 then
 let x31:=((x29++x30)++(take x27 (drop (toNat y11) y12)))
 some ((x31,()),())
 else none
 else none
 else none
 else none
 else none
 else none
 else
 if 0≤(0:Int)∧(0:Int)≤y11∧y11≤(length y12:Int) then
 let x32:=(toNat y11-toNat (0:Int))
 if 0≤y11∧y11≤(length y12:Int)∧(length y12:Int)≤(length y12:Int) then
 let x33:=(toNat (length y12:Int)-toNat y11)
 let x34:=(replicate 0 ((0:Int),((0:Int),((0:Int),()))))
 if (length x34+length (take x32 (drop (toNat (0:Int)) y12)))*(24*2)≤281474976710656∧length x34+length (take x32 (drop (toNat (0:Int)) y12))≤9223372036854775807 then
 let x35:=(x34++(take x32 (drop (toNat (0:Int)) y12)))
 let x36:=(List.set (replicate 1 ((0:Int),((0:Int),((0:Int),())))) 0 y13)
 if (length x35+length x36)*(24*2)≤281474976710656∧length x35+length x36≤9223372036854775807 then
 if (length (x35++x36)+length (take x33 (drop (toNat y11) y12)))*(24*2)≤281474976710656∧length (x35++x36)+length (take x33 (drop (toNat y11) y12))≤9223372036854775807 then
 let x37:=((x35++x36)++(take x33 (drop (toNat y11) y12)))
 some ((x37,()),())
 else none
 else none
 else none
 else none
 else none
def na (k:Nat):ap:=⟨[.own iL,.val A0],[.own iL],fun x=>Br k x.1 x.2.1⟩
def xI:Lim:=⟨99,2,false,false,[],[]⟩
def FU (k:Nat):Nat→Option ap:=aW []
noncomputable def JN:Code:=ac (ab Try.f102) [.r,.r,.r,.l,.s]
noncomputable def We:Code:=ac (ab Try.f102) [.r,.r,.r,.l,.s,.b]
noncomputable def co102:Code:=ac (ab Try.f102) []
theorem Cs (k:Nat):aR Try.prog (FU k):=aD
noncomputable def Bs (k m:Nat) (v:mh.V):=body Try.prog (ao Try.prog (FU k) xI) .go We (mh.st v) (aH (s7 k) (sZ k m))
theorem Wf (k m:Nat) (v:mh.V):sZ k (m+1) v=(Bs k m v).eval∧(Bs k m v).left=(Bs k m v).right:=⟨by kernel_rfl,by kernel_rfl⟩
theorem LY (k:Nat):aC Try.prog xI (s7 k) JN :=
 am (by kernel_rfl) (aA (Cs k) (aj _) (sZ k) k (fun _=>rfl) (fun _=>rfl) (Wf k))
def Vs (k:Nat):aO:=(.seq .go (.seq .go (.seq .go (.seq (.sub (.frag (s7 k))) .go))))
noncomputable def LZ (k:Nat) (x:AT (na k).ps):=fnT Try.prog (FU k) xI Try.f102 (ab Try.f102) (Vs k) (na k) x
theorem a4r (k:Nat) (x:AT (na k).ps):(na k).impl x=(LZ k x).eval∧(LZ k x).left=(LZ k x).right:=⟨by kernel_rfl,by kernel_rfl⟩
theorem Ze (k:Nat):ai Try.prog 102∧aB Try.prog 102 (na k) :=
 aS (n:=xI) (fn:=Try.f102) (p:=(Vs k)) (Cs k) (by kernel_rfl) (aG (L:=[(s7 k,JN)]) (by kernel_rfl) (.cons (LY k) .nil)) (a4r k)
end Go.Proofs.YtgmmopbpldgpcaaE

