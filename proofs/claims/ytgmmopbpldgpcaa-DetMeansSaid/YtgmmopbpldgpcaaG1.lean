/- Functions of the program, as Lean functions, with their contracts; printed by gen.py. Conditions: none. -/
import Derived.Test.YtgmmopbpldgpcaaG0
set_option linter.unusedVariables false
namespace Go.Proofs.YtgmmopbpldgpcaaE
open Kd
open List (length getD replicate take drop)
open Int (toNat)
open IntKind (wrap)
set_option maxRecDepth 20000
def s8 (k:Nat):Nat→Int→Int→Int→aQ→aQ→aQ→aQ→Option (((Int×Int×Unit)×(aQ×aQ×aQ×aQ×Unit)))
 |0,_,_,_,_,_,_,_=>none
 |n+1,t5,t7,t8,c2,c3,c4,c6 =>
  let x10:=(decide (t8<(length c3.1:Int)))
  bif x10 then
  if 0≤t7∧t7<(length c2.2.2.1:Int) then
  let x11:=(getD c2.2.2.1 (toNat t7) (0:Int))
  if 0≤t8∧t8<(length c3.2.1:Int) then
  (F34 k x11 (getD c3.2.1 (toNat t8) (0:Int))).bind fun r12 =>
  (Br k c6.2.2.2.1 (t7,((wrap .i64 (t5+t8)),(r12.1.1,())))).bind fun r13 =>
  (s8 k n t5 t7 (wrap .i64 (t8+(1:Int))) c2 c3 c4 (c6.1,(c6.2.1,(c6.2.2.1,(r13.1.1,c6.2.2.2.2))))).bind some
  else none
  else none
  else
  some ((t5,t7,()),(c2,c3,c4,c6,()))
def qb:aE:=⟨[],[(2,.ptr 2 []),(3,.ptr 3 []),(4,.ptr 4 []),(5,.val (.int .i64)),(6,.ptr 6 []),(7,.val (.int .i64)),(8,.val (.int .i64))],[(2,some 81,ba),(3,some 81,ba),(4,some 81,aY),(6,some 81,aY)]⟩
def xJ (k m:Nat) (v:qb.V):=s8 k m v.1.1 v.1.2.1 v.1.2.2.1 v.2.1 v.2.2.1 v.2.2.2.1 v.2.2.2.2.1
def xK (k:Nat):aL:=⟨qb,[(.exit 2,⟨[],[(2,.ptr 2 []),(3,.ptr 3 []),(4,.ptr 4 []),(5,.val (.int .i64)),(6,.ptr 6 []),(7,.val (.int .i64))],[(2,some 81,ba),(3,some 81,ba),(4,some 81,aY),(6,some 81,aY)]⟩)],xJ k k⟩
def s9 (k:Nat):Nat→Int→Int→aQ→aQ→aQ→aQ→Option TY8
 |0,_,_,_,_,_,_=>none
 |n+1,t5,t7,c2,c3,c4,c6 =>
  bif (decide (t7<t5)) then
  if 0≤t7∧t7<(length c2.2.1:Int) then
  if 0≤t7∧t7<(length c2.2.2.1:Int) then
  let x21:=(getD c2.2.2.1 (toNat t7) (0:Int))
  (F34 k x21 c3.2.2.2.2.1).bind fun r22 =>
  if 0≤t7∧t7<(length c6.2.1:Int) then
  let x23:=(List.set c6.2.1 (toNat t7) (getD c2.2.1 (toNat t7) (0:Int)))
  if 0≤t7∧t7<(length c6.2.2.1:Int) then
  (s8 k k t5 t7 (0:Int) c2 c3 c4 (c6.1,(x23,((List.set c6.2.2.1 (toNat t7) r22.1.1),c6.2.2.2)))).bind fun r24 =>
  (s9 k n r24.1.1 (wrap .i64 (r24.1.2.1+(1:Int))) r24.2.1 r24.2.2.1 r24.2.2.2.1 r24.2.2.2.2.1).bind some
  else none
  else none
  else none
  else none
  else
  some ((t5,()),(c2,c3,c4,c6,()))
def qc:aE:=⟨[],[(2,.ptr 2 []),(3,.ptr 3 []),(4,.ptr 4 []),(5,.val (.int .i64)),(6,.ptr 6 []),(7,.val (.int .i64))],[(2,some 81,ba),(3,some 81,ba),(4,some 81,aY),(6,some 81,aY)]⟩
def xL (k m:Nat) (v:qc.V):=s9 k m v.1.1 v.1.2.1 v.2.1 v.2.2.1 v.2.2.2.1 v.2.2.2.2.1
def xM (k:Nat):aL:=⟨qc,[(.exit 0,⟨[],[(2,.ptr 2 []),(3,.ptr 3 []),(4,.ptr 4 []),(5,.val (.int .i64)),(6,.ptr 6 [])],[(2,some 81,ba),(3,some 81,ba),(4,some 81,aY),(6,some 81,aY)]⟩)],xL k k⟩
def ta (k:Nat):Nat→Int→Int→aQ→aQ→aQ→aQ→Option uP
 |0,_,_,_,_,_,_=>none
 |n+1,t5,t9,c2,c3,c4,c6 =>
  let x42:=(decide (t9<(length c3.1:Int)))
  bif x42 then
  if 0≤t9∧t9<(length c3.2.1:Int) then
  if 0≤t9∧t9<(length c3.2.2.1:Int) then
  let x43:=(getD c3.2.2.1 (toNat t9) (0:Int))
  (F34 k c2.2.2.2.2.1 (getD c3.2.1 (toNat t9) (0:Int))).bind fun r44 =>
  if 0≤(wrap .i64 (t5+t9))∧(wrap .i64 (t5+t9))<(length c6.2.1:Int) then
  let x45:=(toNat (wrap .i64 (t5+t9)))
  if 0≤(wrap .i64 (t5+t9))∧(wrap .i64 (t5+t9))<(length c6.2.2.1:Int) then
  let x46:=(toNat (wrap .i64 (t5+t9)))
  (ta k n t5 (wrap .i64 (t9+(1:Int))) c2 c3 c4 (c6.1,((List.set c6.2.1 x45 r44.1.1),((List.set c6.2.2.1 x46 x43),c6.2.2.2)))).bind some
  else none
  else none
  else none
  else none
  else
  some ((),(c4,c6,()))
def qd:aE:=⟨[],[(2,.ptr 2 []),(3,.ptr 3 []),(4,.ptr 4 []),(5,.val (.int .i64)),(6,.ptr 6 []),(9,.val (.int .i64))],[(2,some 81,ba),(3,some 81,ba),(4,some 81,aY),(6,some 81,aY)]⟩
def xN (k m:Nat) (v:qd.V):=ta k m v.1.1 v.1.2.1 v.2.1 v.2.2.1 v.2.2.2.1 v.2.2.2.2.1
def xO (k:Nat):aL:=⟨qd,[(.exit 4,⟨[],[(4,.ptr 4 []),(6,.ptr 6 [])],[(4,some 81,aY),(6,some 81,aY)]⟩)],xN k k⟩
def F97 (k:Nat) (a0:aQ) (a1:aQ):Option cy :=
 (FT k a0 a1).bind fun r1 =>
 (F34 k a0.2.2.2.2.1 a1.2.2.2.2.1).bind fun r2 =>
 (s9 k k (length a0.1:Int) (0:Int) a0 a1 (([]:(List Int)),(([]:(List Int)),(([]:(List Int)),(([]:cA),((0:Int),()))))) (r1.1.1.1,(r1.1.1.2.1,(r1.1.1.2.2.1,(r1.1.1.2.2.2.1,(r2.1.1,r1.1.1.2.2.2.2.2)))))).bind fun r31 =>
 (ta k k r31.1.1 (0:Int) r31.2.1 r31.2.2.1 r31.2.2.2.1 r31.2.2.2.2.1).bind fun r47 =>
 some ((r47.2.2.1,()),())
def Bt (k:Nat):ap:=⟨[.val ba,.val ba],[.own aY],fun x=>F97 k x.1 x.2.1⟩
def kW:Lim:=⟨108,2,false,false,[],[]⟩
def xP (k:Nat):Nat→Option ap:=aW [(34,kr k),(101,m9 k),(102,na k)]
noncomputable def OC:Code:=ac (ab Try.f97) [.r,.r,.r,.r,.l,.r,.s,.b,.r,.l,.s,.r,.r,.s]
noncomputable def Zg:Code:=ac (ab Try.f97) [.r,.r,.r,.r,.l,.r,.s,.b,.r,.l,.s,.r,.r,.s,.b]
noncomputable def OD:Code:=ac (ab Try.f97) [.r,.r,.r,.r,.l,.r,.s]
noncomputable def Zh:Code:=ac (ab Try.f97) [.r,.r,.r,.r,.l,.r,.s,.b]
noncomputable def OE:Code:=ac (ab Try.f97) [.r,.r,.r,.r,.r,.l,.r,.s]
noncomputable def Zi:Code:=ac (ab Try.f97) [.r,.r,.r,.r,.r,.l,.r,.s,.b]
noncomputable def co97:Code:=ac (ab Try.f97) []
theorem nc (k:Nat):aR Try.prog (xP k):=ah (v34 k) (ah (Zd k) (ah (Ze k) (aD)))
noncomputable def FV (k m:Nat) (v:qb.V):=body Try.prog (ao Try.prog (xP k) kW) .go Zg (qb.st v) (aH (xK k) (xJ k m))
theorem Zj (k m:Nat) (v:qb.V):xJ k (m+1) v=(FV k m v).eval∧(FV k m v).left=(FV k m v).right:=⟨by kernel_rfl,by kernel_rfl⟩
theorem OF (k:Nat):aC Try.prog kW (xK k) OC :=
 am (by kernel_rfl) (aA (nc k) (aj _) (xJ k) k (fun _=>rfl) (fun _=>rfl) (Zj k))
def Zk (k:Nat):aO:=(.seq .go (.seq (.sub (.seq .go (.seq .go (.sub (.frag (xK k)))))) .go))
noncomputable def FW (k m:Nat) (v:qc.V):=body Try.prog (ao Try.prog (xP k) kW) (Zk k) Zh (qc.st v) (aH (xM k) (xL k m))
theorem Zl (k m:Nat) (v:qc.V):xL k (m+1) v=(FW k m v).eval∧(FW k m v).left=(FW k m v).right:=⟨by kernel_rfl,by kernel_rfl⟩
theorem OG (k:Nat):aC Try.prog kW (xM k) OD :=
 am (by kernel_rfl) (aA (nc k) (aG (L:=[(xK k,OC)]) (by kernel_rfl) (.cons (OF k) .nil)) (xL k) k (fun _=>rfl) (fun _=>rfl) (Zl k))
noncomputable def FX (k m:Nat) (v:qd.V):=body Try.prog (ao Try.prog (xP k) kW) .go Zi (qd.st v) (aH (xO k) (xN k m))
theorem Zm (k m:Nat) (v:qd.V):xN k (m+1) v=(FX k m v).eval∧(FX k m v).left=(FX k m v).right:=⟨by kernel_rfl,by kernel_rfl⟩
theorem OH (k:Nat):aC Try.prog kW (xO k) OE :=
 am (by kernel_rfl) (aA (nc k) (aj _) (xN k) k (fun _=>rfl) (fun _=>rfl) (Zm k))
def Zn (k:Nat):aO:=(.seq .go (.seq .go (.seq .go (.seq .go (.seq (.seq .go (.sub (.frag (xM k)))) (.seq (.seq .go (.sub (.frag (xO k)))) .go))))))
noncomputable def To (k:Nat) (x:AT (Bt k).ps):=fnT Try.prog (xP k) kW Try.f97 (ab Try.f97) (Zn k) (Bt k) x
theorem a3y (k:Nat) (x:AT (Bt k).ps):(Bt k).impl x=(To k x).eval∧(To k x).left=(To k x).right:=⟨by kernel_rfl,by kernel_rfl⟩
theorem v97 (k:Nat):ai Try.prog 97∧aB Try.prog 97 (Bt k) :=
 aS (n:=kW) (fn:=Try.f97) (p:=(Zn k)) (nc k) (by kernel_rfl) (aG (L:=[(xM k,OD),(xO k,OE)]) (by kernel_rfl) (.cons (OG k) (.cons (OH k) .nil))) (a3y k)
def tc (k:Nat):Nat→Int→Int→aQ→aQ→aQ→aQ→Option (((Int×Unit)×(aQ×aQ×aQ×Unit)))
 |0,_,_,_,_,_,_=>none
 |n+1,t5,t7,c2,c3,c4,c6 =>
  bif (decide (t7<t5)) then
  if 0≤t7∧t7<(length c2.2.1:Int) then
  if 0≤t7∧t7<(length c2.2.2.1:Int) then
  let x4:=(getD c2.2.2.1 (toNat t7) (0:Int))
  if 0≤t7∧t7<(length c6.2.1:Int) then
  let x5:=(List.set c6.2.1 (toNat t7) (getD c2.2.1 (toNat t7) (0:Int)))
  if 0≤t7∧t7<(length c6.2.2.1:Int) then
  (tc k n t5 (wrap .i64 (t7+(1:Int))) c2 c3 c4 (c6.1,(x5,((List.set c6.2.2.1 (toNat t7) x4),c6.2.2.2)))).bind some
  else none
  else none
  else none
  else none
  else
  some ((t5,()),(c3,c4,c6,()))
def qe:aE:=⟨[],[(2,.ptr 2 []),(3,.ptr 3 []),(4,.ptr 4 []),(5,.val (.int .i64)),(6,.ptr 6 []),(7,.val (.int .i64))],[(2,some 81,ba),(3,some 81,ba),(4,some 81,aY),(6,some 81,aY)]⟩
def xQ (k m:Nat) (v:qe.V):=tc k m v.1.1 v.1.2.1 v.2.1 v.2.2.1 v.2.2.2.1 v.2.2.2.2.1
def xR (k:Nat):aL:=⟨qe,[(.exit 0,⟨[],[(3,.ptr 3 []),(4,.ptr 4 []),(5,.val (.int .i64)),(6,.ptr 6 [])],[(3,some 81,ba),(4,some 81,aY),(6,some 81,aY)]⟩)],xQ k k⟩
def td (k:Nat):Nat→Int→Int→aQ→aQ→aQ→Option uP
 |0,_,_,_,_,_=>none
 |n+1,t5,t8,c3,c4,c6 =>
  let x16:=(decide (t8<(length c3.1:Int)))
  bif x16 then
  if 0≤t8∧t8<(length c3.2.1:Int) then
  if 0≤t8∧t8<(length c3.2.2.1:Int) then
  let x17:=(getD c3.2.2.1 (toNat t8) (0:Int))
  if 0≤(wrap .i64 (t5+t8))∧(wrap .i64 (t5+t8))<(length c6.2.1:Int) then
  let x18:=(toNat (wrap .i64 (t5+t8)))
  let x19:=(List.set c6.2.1 x18 (getD c3.2.1 (toNat t8) (0:Int)))
  if 0≤(wrap .i64 (t5+t8))∧(wrap .i64 (t5+t8))<(length c6.2.2.1:Int) then
  let x20:=(toNat (wrap .i64 (t5+t8)))
  (td k n t5 (wrap .i64 (t8+(1:Int))) c3 c4 (c6.1,(x19,((List.set c6.2.2.1 x20 x17),c6.2.2.2)))).bind some
  else none
  else none
  else none
  else none
  else
  some ((),(c4,c6,()))
def qf:aE:=⟨[],[(3,.ptr 3 []),(4,.ptr 4 []),(5,.val (.int .i64)),(6,.ptr 6 []),(8,.val (.int .i64))],[(3,some 81,ba),(4,some 81,aY),(6,some 81,aY)]⟩
def xS (k m:Nat) (v:qf.V):=td k m v.1.1 v.1.2.1 v.2.1 v.2.2.1 v.2.2.2.1
def xT (k:Nat):aL:=⟨qf,[(.exit 2,⟨[],[(4,.ptr 4 []),(6,.ptr 6 [])],[(4,some 81,aY),(6,some 81,aY)]⟩)],xS k k⟩
def F98 (k:Nat) (a0:aQ) (a1:aQ):Option cy :=
 (FT k a0 a1).bind fun r1 =>
 (tc k k (length a0.1:Int) (0:Int) a0 a1 (([]:(List Int)),(([]:(List Int)),(([]:(List Int)),(([]:cA),((0:Int),()))))) (r1.1.1.1,(r1.1.1.2.1,(r1.1.1.2.2.1,(r1.1.1.2.2.2.1,((aK a0.2.2.2.2.1 a1.2.2.2.2.1),r1.1.1.2.2.2.2.2)))))).bind fun r6 =>
 (td k k r6.1.1 (0:Int) r6.2.1 r6.2.2.1 r6.2.2.2.1).bind fun r21 =>
 some ((r21.2.2.1,()),())
def Bu (k:Nat):ap:=⟨[.val ba,.val ba],[.own aY],fun x=>F98 k x.1 x.2.1⟩
def tf:Lim:=⟨74,2,false,false,[],[]⟩
def Dr (k:Nat):Nat→Option ap:=aW [(101,m9 k)]
noncomputable def OI:Code:=ac (ab Try.f98) [.r,.r,.r,.r,.l,.r,.s]
noncomputable def Zp:Code:=ac (ab Try.f98) [.r,.r,.r,.r,.l,.r,.s,.b]
noncomputable def OJ:Code:=ac (ab Try.f98) [.r,.r,.r,.r,.r,.l,.r,.s]
noncomputable def Zq:Code:=ac (ab Try.f98) [.r,.r,.r,.r,.r,.l,.r,.s,.b]
noncomputable def co98:Code:=ac (ab Try.f98) []
theorem vd (k:Nat):aR Try.prog (Dr k):=ah (Zd k) (aD)
noncomputable def FY (k m:Nat) (v:qe.V):=body Try.prog (ao Try.prog (Dr k) tf) .go Zp (qe.st v) (aH (xR k) (xQ k m))
theorem Zr (k m:Nat) (v:qe.V):xQ k (m+1) v=(FY k m v).eval∧(FY k m v).left=(FY k m v).right:=⟨by kernel_rfl,by kernel_rfl⟩
theorem OK (k:Nat):aC Try.prog tf (xR k) OI :=
 am (by kernel_rfl) (aA (vd k) (aj _) (xQ k) k (fun _=>rfl) (fun _=>rfl) (Zr k))
noncomputable def FZ (k m:Nat) (v:qf.V):=body Try.prog (ao Try.prog (Dr k) tf) .go Zq (qf.st v) (aH (xT k) (xS k m))
theorem Zs (k m:Nat) (v:qf.V):xS k (m+1) v=(FZ k m v).eval∧(FZ k m v).left=(FZ k m v).right:=⟨by kernel_rfl,by kernel_rfl⟩
theorem OL (k:Nat):aC Try.prog tf (xT k) OJ :=
 am (by kernel_rfl) (aA (vd k) (aj _) (xS k) k (fun _=>rfl) (fun _=>rfl) (Zs k))
def Zt (k:Nat):aO:=(.seq .go (.seq .go (.seq .go (.seq .go (.seq (.seq .go (.sub (.frag (xR k)))) (.seq (.seq .go (.sub (.frag (xT k)))) .go))))))
noncomputable def Tp (k:Nat) (x:AT (Bu k).ps):=fnT Try.prog (Dr k) tf Try.f98 (ab Try.f98) (Zt k) (Bu k) x
theorem a4y (k:Nat) (x:AT (Bu k).ps):(Bu k).impl x=(Tp k x).eval∧(Tp k x).left=(Tp k x).right:=⟨by kernel_rfl,by kernel_rfl⟩
theorem v98 (k:Nat):ai Try.prog 98∧aB Try.prog 98 (Bu k) :=
 aS (n:=tf) (fn:=Try.f98) (p:=(Zt k)) (vd k) (by kernel_rfl) (aG (L:=[(xR k,OI),(xT k,OJ)]) (by kernel_rfl) (.cons (OK k) (.cons (OL k) .nil))) (a4y k)
def tg (k:Nat):Nat→Int→Int→aQ→aQ→cA→Option (((Int×Unit)×Xk))
 |0,_,_,_,_,_=>none
 |n+1,t4,t5,c1,c2,e0 =>
  let x3:=(decide (t5<(length c1.1:Int)))
  bif x3 then
  if 0≤t4∧t4<(length c1.2.2.1:Int) then
  let x4:=(getD c1.2.2.1 (toNat t4) (0:Int))
  if 0≤t5∧t5<(length c1.2.1:Int) then
  (F34 k x4 (getD c1.2.1 (toNat t5) (0:Int))).bind fun r5 =>
  (Br k e0 (t4,(t5,(r5.1.1,())))).bind fun r6 =>
  (tg k n t4 (wrap .i64 (t5+(1:Int))) c1 c2 r6.1.1).bind some
  else none
  else none
  else
  some ((t4,()),(c1,c2,e0,()))
def qh:aE:=⟨[(3,iL)],[(1,.ptr 1 []),(2,.ptr 2 []),(3,.at 2000003 []),(4,.val (.int .i64)),(5,.val (.int .i64))],[(1,some 81,aY),(2,some 81,aY),(2000003,none,iL)]⟩
def xU (k m:Nat) (v:qh.V):=tg k m v.1.1 v.1.2.1 v.2.1 v.2.2.1 v.2.2.2.1
def xV (k:Nat):aL:=⟨qh,[(.exit 2,⟨[(3,iL)],[(1,.ptr 1 []),(2,.ptr 2 []),(3,.at 2000003 []),(4,.val (.int .i64))],[(1,some 81,aY),(2,some 81,aY),(2000003,none,iL)]⟩)],xU k k⟩
def ng (k:Nat):Nat→Int→aQ→aQ→cA→Option ((Unit×Xk))
 |0,_,_,_,_=>none
 |n+1,t4,c1,c2,e0 =>
  let x2:=(decide (t4<(length c1.1:Int)))
  bif x2 then
  (tg k k t4 (0:Int) c1 c2 e0).bind fun r7 =>
  (ng k n (wrap .i64 (r7.1.1+(1:Int))) r7.2.1 r7.2.2.1 r7.2.2.2.1).bind some
  else
  some ((),(c1,c2,e0,()))
def qj:aE:=⟨[(3,iL)],[(1,.ptr 1 []),(2,.ptr 2 []),(3,.at 2000003 []),(4,.val (.int .i64))],[(1,some 81,aY),(2,some 81,aY),(2000003,none,iL)]⟩
def xW (k m:Nat) (v:qj.V):=ng k m v.1.1 v.2.1 v.2.2.1 v.2.2.2.1
def xX (k:Nat):aL:=⟨qj,[(.exit 0,⟨[(3,iL)],[(1,.ptr 1 []),(2,.ptr 2 []),(3,.at 2000003 [])],[(1,some 81,aY),(2,some 81,aY),(2000003,none,iL)]⟩)],xW k k⟩
def F99 (k:Nat) (a0:aQ):Option cy :=
 let x1:=(replicate 0 ((0:Int),((0:Int),((0:Int),()))))
 if (length x1+length a0.2.2.2.1)*(24*2)≤281474976710656∧length x1+length a0.2.2.2.1≤9223372036854775807 then
 (ng k k (0:Int) (a0.1,(a0.2.1,(a0.2.2.1,(a0.2.2.2.1,((0:Int),a0.2.2.2.2.2))))) (([]:(List Int)),(([]:(List Int)),(([]:(List Int)),(([]:cA),((0:Int),()))))) (x1++a0.2.2.2.1)).bind fun r12 =>
 some (((r12.2.1.1,(r12.2.1.2.1,(r12.2.1.2.2.1,(r12.2.2.2.1,r12.2.1.2.2.2.2)))),()),())
 else none
def Bv (k:Nat):ap:=⟨[.own aY],[.own aY],fun x=>F99 k x.1⟩
def tn:Lim:=⟨44,1,false,false,[],[]⟩
def Ds (k:Nat):Nat→Option ap:=aW [(34,kr k),(102,na k)]
noncomputable def OM:Code:=ac (ab Try.f99) [.r,.r,.r,.l,.r,.s,.b,.r,.l,.s,.r,.s]
noncomputable def Zu:Code:=ac (ab Try.f99) [.r,.r,.r,.l,.r,.s,.b,.r,.l,.s,.r,.s,.b]
noncomputable def ON:Code:=ac (ab Try.f99) [.r,.r,.r,.l,.r,.s]
noncomputable def Zv:Code:=ac (ab Try.f99) [.r,.r,.r,.l,.r,.s,.b]
noncomputable def co99:Code:=ac (ab Try.f99) []
theorem ve (k:Nat):aR Try.prog (Ds k):=ah (v34 k) (ah (Ze k) (aD))
noncomputable def F0 (k m:Nat) (v:qh.V):=body Try.prog (ao Try.prog (Ds k) tn) .go Zu (qh.st v) (aH (xV k) (xU k m))
theorem Zw (k m:Nat) (v:qh.V):xU k (m+1) v=(F0 k m v).eval∧(F0 k m v).left=(F0 k m v).right:=⟨by kernel_rfl,by kernel_rfl⟩
theorem OO (k:Nat):aC Try.prog tn (xV k) OM :=
 am (by kernel_rfl) (aA (ve k) (aj _) (xU k) k (fun _=>rfl) (fun _=>rfl) (Zw k))
def Zx (k:Nat):aO:=(.seq .go (.seq (.sub (.seq .go (.sub (.frag (xV k))))) .go))
noncomputable def F1 (k m:Nat) (v:qj.V):=body Try.prog (ao Try.prog (Ds k) tn) (Zx k) Zv (qj.st v) (aH (xX k) (xW k m))
theorem Zy (k m:Nat) (v:qj.V):xW k (m+1) v=(F1 k m v).eval∧(F1 k m v).left=(F1 k m v).right:=⟨by kernel_rfl,by kernel_rfl⟩
theorem OP (k:Nat):aC Try.prog tn (xX k) ON :=
 am (by kernel_rfl) (aA (ve k) (aG (L:=[(xV k,OM)]) (by kernel_rfl) (.cons (OO k) .nil)) (xW k) k (fun _=>rfl) (fun _=>rfl) (Zy k))
def Zz (k:Nat):aO:=(.seq .go (.seq .go (.seq .go (.seq (.seq .go (.sub (.frag (xX k)))) .go))))
noncomputable def Tq (k:Nat) (x:AT (Bv k).ps):=fnT Try.prog (Ds k) tn Try.f99 (ab Try.f99) (Zz k) (Bv k) x
theorem a5y (k:Nat) (x:AT (Bv k).ps):(Bv k).impl x=(Tq k x).eval∧(Tq k x).left=(Tq k x).right:=⟨by kernel_rfl,by kernel_rfl⟩
theorem v99 (k:Nat):ai Try.prog 99∧aB Try.prog 99 (Bv k) :=
 aS (n:=tn) (fn:=Try.f99) (p:=(Zz k)) (ve k) (by kernel_rfl) (aG (L:=[(xX k,ON)]) (by kernel_rfl) (.cons (OP k) .nil)) (a5y k)
def vf (f74:(aV→aN→Option cy)):ap:=⟨[.val iM,.val KD5],[.own aY],fun x=>f74 x.1 x.2.1⟩
def nh (k:Nat) (f74:(aV→aN→Option cy)):Nat→Int→lD→aQ→aQ→Option uP
 |0,_,_,_,_=>none
 |n+1,t7,c2,c4,c6 =>
  let x30:=(decide (t7<(length c6.2.1:Int)))
  bif x30 then
  if 0≤t7∧t7<(length c6.2.1:Int) then
  (F34 k (getD c6.2.1 (toNat t7) (0:Int)) c2.2.2.2.1).bind fun r31 =>
  if 0≤t7∧t7<(length c6.2.1:Int) then
  (nh k f74 n (wrap .i64 (t7+(1:Int))) c2 c4 (c6.1,((List.set c6.2.1 (toNat t7) r31.1.1),c6.2.2))).bind some
  else none
  else none
  else
  some ((),(c4,c6,()))
def qk:aE:=⟨[],[(2,.ptr 2 []),(4,.ptr 4 []),(6,.ptr 6 []),(7,.val (.int .i64))],[(2,some 65,lE),(4,some 81,aY),(6,some 81,aY)]⟩
def xY (k:Nat) (f74:(aV→aN→Option cy)) (m:Nat) (v:qk.V):=nh k f74 m v.1.1 v.2.1 v.2.2.1 v.2.2.2.1
def xZ (k:Nat) (f74:(aV→aN→Option cy)):aL:=⟨qk,[(.exit 1,⟨[],[(4,.ptr 4 []),(6,.ptr 6 [])],[(4,some 81,aY),(6,some 81,aY)]⟩)],xY k f74 k⟩
def jO (k:Nat) (f74:(aV→aN→Option cy)):Nat→Int→lD→aQ→aQ→aQ→Option uP
 |0,_,_,_,_,_=>none
 |n+1,t10,c2,c4,c8,c9 =>
  bif (decide (t10≥(1:Int))) then
  (F97 k c9 c8).bind fun r39 =>
  bif (decide (t10>c2.2.1)) then
  (jO k f74 n (wrap .i64 (t10-(1:Int))) c2 c4 (r39.1.1.1,(r39.1.1.2.1,(r39.1.1.2.2.1,(r39.1.1.2.2.2.1,((0:Int),r39.1.1.2.2.2.2.2))))) c9).bind some
  else
  (jO k f74 n (wrap .i64 (t10-(1:Int))) c2 c4 r39.1.1 c9).bind some
  else
  some ((),(c4,c8,()))
def ql:aE:=⟨[],[(2,.ptr 2 []),(4,.ptr 4 []),(8,.ptr 8 []),(9,.ptr 9 []),(10,.val (.int .i64))],[(2,some 65,lE),(4,some 81,aY),(8,some 81,aY),(9,some 81,aY)]⟩
def ya (k:Nat) (f74:(aV→aN→Option cy)) (m:Nat) (v:ql.V):=jO k f74 m v.1.1 v.2.1 v.2.2.1 v.2.2.2.1 v.2.2.2.2.1
def yb (k:Nat) (f74:(aV→aN→Option cy)):aL:=⟨ql,[(.exit 3,⟨[],[(4,.ptr 4 []),(8,.ptr 8 [])],[(4,some 81,aY),(8,some 81,aY)]⟩)],ya k f74 k⟩
def B74 (k:Nat) (f74:(aV→aN→Option cy)) (a0:aV) (a1:aN):Option cy :=
 bif ((ae.a a0).1==(1:Int)) then
 (F95 k).bind fun r1 =>
 some ((r1.1.1,()),())
 else
 bif ((ae.a a0).1==(2:Int)) then
 (F96 k (1:Int)).bind fun r2 =>
 if 0≤(0:Int)∧(0:Int)<(length r2.1.1.1:Int) then
 let x3:=(List.set r2.1.1.1 (toNat (0:Int)) (-1:Int))
 if 0≤(0:Int)∧(0:Int)<(length r2.1.1.2.1:Int) then
 let x4:=(List.set r2.1.1.2.1 (toNat (0:Int)) (0:Int))
 if 0≤(0:Int)∧(0:Int)<(length r2.1.1.2.2.1:Int) then
 let x5:=(List.set r2.1.1.2.2.1 (toNat (0:Int)) (0:Int))
 bif ((ae.a a0).1==(2:Int)) then
 (F83 k a1 (ae.a a0).2.2.2.2.1).bind fun r6 =>
 if 0≤(0:Int)∧(0:Int)<(length x3:Int) then
 some ((((List.set x3 (toNat (0:Int)) r6.1.1),(x4,(x5,r2.1.1.2.2.2))),()),())
 else none
 else
 some (((x3,(x4,(x5,r2.1.1.2.2.2))),()),())
 else none
 else none
 else none
 else
 bif ((ae.a a0).1==(3:Int)) then
 (F96 k (1:Int)).bind fun r7 =>
 if 0≤(0:Int)∧(0:Int)<(length r7.1.1.1:Int) then
 let x8:=(List.set r7.1.1.1 (toNat (0:Int)) (-1:Int))
 if 0≤(0:Int)∧(0:Int)<(length r7.1.1.2.1:Int) then
 let x9:=(List.set r7.1.1.2.1 (toNat (0:Int)) (0:Int))
 if 0≤(0:Int)∧(0:Int)<(length r7.1.1.2.2.1:Int) then
 let x10:=(List.set r7.1.1.2.2.1 (toNat (0:Int)) (0:Int))
 bif ((ae.a a0).1==(2:Int)) then
 (F83 k a1 (ae.a a0).2.2.2.2.1).bind fun r11 =>
 if 0≤(0:Int)∧(0:Int)<(length x8:Int) then
 some ((((List.set x8 (toNat (0:Int)) r11.1.1),(x9,(x10,r7.1.1.2.2.2))),()),())
 else none
 else
 some (((x8,(x9,(x10,r7.1.1.2.2.2))),()),())
 else none
 else none
 else none
 else
 bif ((ae.a a0).1==(4:Int)) then
 if 0≤(0:Int)∧(0:Int)<(length (ae.l a0):Int) then
 let x12:=(getD (ae.l a0) (toNat (0:Int)) (ae.mk ((0:Int),((0:Int),((0:Int),((0:Int),(ByteArray.empty,()))))) []))
 if 0≤(1:Int)∧(1:Int)<(length (ae.l a0):Int) then
 let x13:=(getD (ae.l a0) (toNat (1:Int)) (ae.mk ((0:Int),((0:Int),((0:Int),((0:Int),(ByteArray.empty,()))))) []))
 (f74 x12 a1).bind fun r14 =>
 (f74 x13 a1).bind fun r15 =>
 (F97 k r14.1.1 r15.1.1).bind fun r16 =>
 some ((r16.1.1,()),())
 else none
 else none
 else
 bif ((ae.a a0).1==(5:Int)) then
 if 0≤(0:Int)∧(0:Int)<(length (ae.l a0):Int) then
 let x17:=(getD (ae.l a0) (toNat (0:Int)) (ae.mk ((0:Int),((0:Int),((0:Int),((0:Int),(ByteArray.empty,()))))) []))
 if 0≤(1:Int)∧(1:Int)<(length (ae.l a0):Int) then
 let x18:=(getD (ae.l a0) (toNat (1:Int)) (ae.mk ((0:Int),((0:Int),((0:Int),((0:Int),(ByteArray.empty,()))))) []))
 (f74 x17 a1).bind fun r19 =>
 (f74 x18 a1).bind fun r20 =>
 (F98 k r19.1.1 r20.1.1).bind fun r21 =>
 some ((r21.1.1,()),())
 else none
 else none
 else
 bif ((ae.a a0).1==(6:Int)) then
 if 0≤(0:Int)∧(0:Int)<(length (ae.l a0):Int) then
 let x22:=(getD (ae.l a0) (toNat (0:Int)) (ae.mk ((0:Int),((0:Int),((0:Int),((0:Int),(ByteArray.empty,()))))) []))
 (f74 x22 a1).bind fun r23 =>
 (F99 k r23.1.1).bind fun r24 =>
 some ((r24.1.1,()),())
 else none
 else
 bif ((ae.a a0).1==(8:Int)) then
 if 0≤(0:Int)∧(0:Int)<(length (ae.l a0):Int) then
 let x25:=(getD (ae.l a0) (toNat (0:Int)) (ae.mk ((0:Int),((0:Int),((0:Int),((0:Int),(ByteArray.empty,()))))) []))
 (f74 x25 a1).bind fun r26 =>
 (F34 k r26.1.1.2.2.2.2.1 (ae.a a0).2.2.2.1).bind fun r27 =>
 (nh k f74 k (0:Int) ((ae.a a0).1,((ae.a a0).2.1,((ae.a a0).2.2.1,((ae.a a0).2.2.2.1,((ae.a a0).2.2.2.2.1,((ae.l a0),())))))) (([]:(List Int)),(([]:(List Int)),(([]:(List Int)),(([]:cA),((0:Int),()))))) (r26.1.1.1,(r26.1.1.2.1,(r26.1.1.2.2.1,(r26.1.1.2.2.2.1,(r27.1.1,r26.1.1.2.2.2.2.2)))))).bind fun r32 =>
 some ((r32.2.2.1,()),())
 else none
 else
 if 0≤(0:Int)∧(0:Int)<(length (ae.l a0):Int) then
 let x35:=(getD (ae.l a0) (toNat (0:Int)) (ae.mk ((0:Int),((0:Int),((0:Int),((0:Int),(ByteArray.empty,()))))) []))
 (F95 k).bind fun r36 =>
 (f74 x35 a1).bind fun r37 =>
 (jO k f74 k (ae.a a0).2.2.1 ((ae.a a0).1,((ae.a a0).2.1,((ae.a a0).2.2.1,((ae.a a0).2.2.2.1,((ae.a a0).2.2.2.2.1,((ae.l a0),())))))) (([]:(List Int)),(([]:(List Int)),(([]:(List Int)),(([]:cA),((0:Int),()))))) r36.1.1 r37.1.1).bind fun r40 =>
 some ((r40.2.2.1,()),())
 else none
def F2 (k:Nat) (f74:(aV→aN→Option cy)):ap:=vf (B74 k f74)
def tp:Lim:=⟨135,2,false,false,[],[]⟩
def Dt (k:Nat) (f74:(aV→aN→Option cy)):Nat→Option ap:=aW [(34,kr k),(74,vf f74),(83,pJ k),(95,Bn k),(96,p8 k),(97,Bt k),(98,Bu k),(99,Bv k)]
noncomputable def OQ:Code:=ac (ab Try.f74) [.r,.l,.r,.s,.r,.r,.r,.r,.r,.r,.r,.r,.r,.r,.r,.l,.r,.r,.l,.r,.s]
noncomputable def ZA:Code:=ac (ab Try.f74) [.r,.l,.r,.s,.r,.r,.r,.r,.r,.r,.r,.r,.r,.r,.r,.l,.r,.r,.l,.r,.s,.b]
noncomputable def OR:Code:=ac (ab Try.f74) [.r,.r,.r,.l,.r,.s]
noncomputable def ZB:Code:=ac (ab Try.f74) [.r,.r,.r,.l,.r,.s,.b]
noncomputable def co74:Code:=ac (ab Try.f74) []
theorem vg (k:Nat) (f74:(aV→aN→Option cy)) (h74:ai Try.prog 74∧aB Try.prog 74 (vf f74)):aR Try.prog (Dt k f74):=ah (v34 k) (ah h74 (ah (v83 k) (ah (v95 k) (ah (v96 k) (ah (v97 k) (ah (v98 k) (ah (v99 k) (aD))))))))
noncomputable def F3 (k:Nat) (f74:(aV→aN→Option cy)) (m:Nat) (v:qk.V):=body Try.prog (ao Try.prog (Dt k f74) tp) .go ZA (qk.st v) (aH (xZ k f74) (xY k f74 m))
theorem ZC (k:Nat) (f74:(aV→aN→Option cy)) (m:Nat) (v:qk.V):xY k f74 (m+1) v=(F3 k f74 m v).eval∧(F3 k f74 m v).left=(F3 k f74 m v).right:=⟨by kernel_rfl,by kernel_rfl⟩
theorem OS (k:Nat) (f74:(aV→aN→Option cy)) (h74:ai Try.prog 74∧aB Try.prog 74 (vf f74)):aC Try.prog tp (xZ k f74) OQ :=
 am (by kernel_rfl) (aA (vg k f74 h74) (aj _) (xY k f74) k (fun _=>rfl) (fun _=>rfl) (ZC k f74))
noncomputable def F5 (k:Nat) (f74:(aV→aN→Option cy)) (m:Nat) (v:ql.V):=body Try.prog (ao Try.prog (Dt k f74) tp) .go ZB (ql.st v) (aH (yb k f74) (ya k f74 m))
theorem ZD (k:Nat) (f74:(aV→aN→Option cy)) (m:Nat) (v:ql.V):ya k f74 (m+1) v=(F5 k f74 m v).eval∧(F5 k f74 m v).left=(F5 k f74 m v).right:=⟨by kernel_rfl,by kernel_rfl⟩
theorem OU (k:Nat) (f74:(aV→aN→Option cy)) (h74:ai Try.prog 74∧aB Try.prog 74 (vf f74)):aC Try.prog tp (yb k f74) OR :=
 am (by kernel_rfl) (aA (vg k f74 h74) (aj _) (ya k f74) k (fun _=>rfl) (fun _=>rfl) (ZD k f74))
def ZE (k:Nat) (f74:(aV→aN→Option cy)):aO:=(.seq .go (.seq (.seq .go (.sub (.seq .go (.seq .go (.seq .go (.seq .go (.seq .go (.seq .go (.seq .go (.seq .go (.seq .go (.seq .go (.seq .go (.seq (.seq .go (.seq .go (.seq (.seq .go (.sub (.frag (xZ k f74)))) .go))) .go)))))))))))))) (.seq .go (.seq (.seq .go (.sub (.frag (yb k f74)))) .go))))
noncomputable def Ts (k:Nat) (f74:(aV→aN→Option cy)) (x:AT (F2 k f74).ps):=fnT Try.prog (Dt k f74) tp Try.f74 (ab Try.f74) (ZE k f74) (F2 k f74) x
theorem a6y (k:Nat) (f74:(aV→aN→Option cy)) (x:AT (F2 k f74).ps):(F2 k f74).impl x=(Ts k f74 x).eval∧(Ts k f74 x).left=(Ts k f74 x).right:=⟨by kernel_rfl,by kernel_rfl⟩
theorem b74 (k:Nat) (f74:(aV→aN→Option cy)) (h74:ai Try.prog 74∧aB Try.prog 74 (vf f74)):ai Try.prog 74∧aB Try.prog 74 (F2 k f74) :=
 aS (n:=tp) (fn:=Try.f74) (p:=(ZE k f74)) (vg k f74 h74) (by kernel_rfl) (aG (L:=[(xZ k f74,OQ),(yb k f74,OR)]) (by kernel_rfl) (.cons (OS k f74 h74) (.cons (OU k f74 h74) .nil))) (a6y k f74)
def R74:Nat→(aV→aN→Option cy)
 |0=>fun _ _=>none
 |k+1=>B74 k (R74 k)
def F74 (k:Nat) (a0_:aV) (a1_:aN):Option cy:=(R74 k) a0_ a1_
def ZF (k:Nat):ap:=⟨[.val iM,.val KD5],[.own aY],fun x=>F74 k x.1 x.2.1⟩
theorem r74 (k:Nat):(ai Try.prog 74∧aB Try.prog 74 (vf (R74 k))):=by
 induction k with
 |zero=>exact ⟨⟨Try.f74,by kernel_rfl,by kernel_rfl,by kernel_rfl⟩,fun x r h=>by cases (show (none:Option _)=some r from h)⟩
 |succ k ih=>exact b74 k (R74 k) ih
theorem v74 (k:Nat):ai Try.prog 74∧aB Try.prog 74 (ZF k):=(r74 k)
def F41 (k:Nat) (a0:aV) (a1:aN):Option ((aQ×Bool×Unit)×Unit) :=
 let x1:=(ae.mk ((ae.a a0).1,((ae.a a0).2.1,((ae.a a0).2.2.1,((ae.a a0).2.2.2.1,((ae.a a0).2.2.2.2.1,()))))) (ae.l a0))
 (F73 k x1).bind fun r2 =>
 bif (decide (r2.1.1>(120:Int))) then
 some (((([]:(List Int)),(([]:(List Int)),(([]:(List Int)),(([]:cA),((0:Int),()))))),false,()),())
 else
 let x3:=(ae.mk ((ae.a a0).1,((ae.a a0).2.1,((ae.a a0).2.2.1,((ae.a a0).2.2.2.1,((ae.a a0).2.2.2.2.1,()))))) (ae.l a0))
 (F74 k x3 a1).bind fun r4 =>
 some ((r4.1.1,true,()),())
def Bw (k:Nat):ap:=⟨[.val iM,.val KD5],[.own aY,.val .bool],fun x=>F41 k x.1 x.2.1⟩
def Vt:Lim:=⟨13,2,false,false,[],[]⟩
def Vu (k:Nat):Nat→Option ap:=aW [(73,Y9 k),(74,ZF k)]
noncomputable def co41:Code:=ac (ab Try.f41) []
theorem Tt (k:Nat):aR Try.prog (Vu k):=ah (v73 k) (ah (v74 k) (aD))
noncomputable def Tu (k:Nat) (x:AT (Bw k).ps):=fnT Try.prog (Vu k) Vt Try.f41 (ab Try.f41) .go (Bw k) x
theorem a7y (k:Nat) (x:AT (Bw k).ps):(Bw k).impl x=(Tu k x).eval∧(Tu k x).left=(Tu k x).right:=⟨by kernel_rfl,by kernel_rfl⟩
theorem v41 (k:Nat):ai Try.prog 41∧aB Try.prog 41 (Bw k) :=
 aS (n:=Vt) (fn:=Try.f41) (p:=.go) (Tt k) (by kernel_rfl) (aj _) (a7y k)
def ni (k:Nat):Nat→(List (List Bool))→Int→Int→aQ→Option ((Unit×Unit)⊕fa)
 |0,_,_,_,_=>none
 |n+1,t1,t2,t7,c3 =>
  if 0≤t2∧t2<(length c3.1:Int) then
  if 0≤(getD c3.1 (toNat t2) (0:Int))∧(getD c3.1 (toNat t2) (0:Int))<(length t1:Int) then
  let x5:=(getD t1 (toNat (getD c3.1 (toNat t2) (0:Int))) ([]:(List Bool)))
  let x6:=(decide (t7<(length x5:Int)))
  bif x6 then
  if 0≤t2∧t2<(length c3.1:Int) then
  if 0≤(getD c3.1 (toNat t2) (0:Int))∧(getD c3.1 (toNat t2) (0:Int))<(length t1:Int) then
  let x7:=(getD t1 (toNat (getD c3.1 (toNat t2) (0:Int))) ([]:(List Bool)))
  if 0≤t7∧t7<(length x7:Int) then
  bif (getD x7 (toNat t7) false) then
  some (.inr ((true,()),()))
  else
  (ni k n t1 t2 (wrap .i64 (t7+(1:Int))) c3).bind some
  else none
  else none
  else none
  else
  some (.inl ((),()))
  else none
  else none
def qm:aE:=⟨[],[(1,.val bJ),(2,.val (.int .i64)),(3,.ptr 3 []),(7,.val (.int .i64))],[(3,some 81,ba)]⟩
def yc (k m:Nat) (v:qm.V):=ni k m v.1.1 v.1.2.1 v.1.2.2.1 v.2.1
def yd (k:Nat):aL:=⟨qm,[(.exit 0,⟨[],[],[]⟩),(.ret,⟨[],[(6,.val .bool)],[]⟩)],yc k k⟩
def F75 (k:Nat) (a0:aQ) (a1:(List (List Bool))) (a2:Int):Option fa :=
 if 0≤a2∧a2<(length a0.1:Int) then
 let x1:=(decide ((getD a0.1 (toNat a2) (0:Int))<(0:Int)))
 bif x1 then
 some ((true,()),())
 else
 (ni k k a1 a2 (0:Int) a0).bind fun r8 =>
 match r8 with
 |.inl r9 =>
  some ((false,()),())
 |.inr r9 =>
  some ((r9.1.1,()),())
 else none
def Bx (k:Nat):ap:=⟨[.val ba,.val bJ,.val (.int .i64)],[.val .bool],fun x=>F75 k x.1 x.2.1 x.2.2.1⟩
def Du:Lim:=⟨38,3,false,false,[],[]⟩
def L0 (k:Nat):Nat→Option ap:=aW []
noncomputable def OV:Code:=ac (ab Try.f75) [.r,.r,.l,.r,.s]
noncomputable def ZG:Code:=ac (ab Try.f75) [.r,.r,.l,.r,.s,.b]
noncomputable def co75:Code:=ac (ab Try.f75) []
theorem F6 (k:Nat):aR Try.prog (L0 k):=aD
noncomputable def F7 (k m:Nat) (v:qm.V):=body Try.prog (ao Try.prog (L0 k) Du) .go ZG (qm.st v) (aH (yd k) (yc k m))
theorem ZH (k m:Nat) (v:qm.V):yc k (m+1) v=(F7 k m v).eval∧(F7 k m v).left=(F7 k m v).right:=⟨by kernel_rfl,by kernel_rfl⟩
theorem OW (k:Nat):aC Try.prog Du (yd k) OV :=
 am (by kernel_rfl) (aA (F6 k) (aj _) (yc k) k (fun _=>rfl) (fun _=>rfl) (ZH k))
def ZI (k:Nat):aO:=(.seq .go (.seq .go (.seq (.seq .go (.sub (.frag (yd k)))) .go)))
noncomputable def Tv (k:Nat) (x:AT (Bx k).ps):=fnT Try.prog (L0 k) Du Try.f75 (ab Try.f75) (ZI k) (Bx k) x
theorem a8y (k:Nat) (x:AT (Bx k).ps):(Bx k).impl x=(Tv k x).eval∧(Tv k x).left=(Tv k x).right:=⟨by kernel_rfl,by kernel_rfl⟩
theorem v75 (k:Nat):ai Try.prog 75∧aB Try.prog 75 (Bx k) :=
 aS (n:=Du) (fn:=Try.f75) (p:=(ZI k)) (F6 k) (by kernel_rfl) (aG (L:=[(yd k,OV)]) (by kernel_rfl) (.cons (OW k) .nil)) (a8y k)
def jd (k:Nat):Nat→(List (List Bool))→Int→Int→aQ→aQ→(List Bool)→(List Bool)→(List Bool)→Option (((Int×Unit)×Xl))
 |0,_,_,_,_,_,_,_,_=>none
 |n+1,t1,t5,t9,c2,c4,c22,c24,c26 =>
  bif (decide (t9<t5)) then
  (F75 k c2 t1 t9).bind fun r13 =>
  if 0≤t9∧t9<(length c26:Int) then
  if 0≤t9∧t9<(length (List.set c26 (toNat t9) r13.1.1):Int) then
  let x14:=(getD (List.set c26 (toNat t9) r13.1.1) (toNat t9) false)
  bif x14 then
  if 0≤t9∧t9<(length c2.2.1:Int) then
  let x15:=(decide ((getD c2.2.1 (toNat t9) (0:Int))<(1152921504606846976:Int)))
  if 0≤t9∧t9<(length (List.set c26 (toNat t9) r13.1.1):Int) then
  let x16:=(getD (List.set c26 (toNat t9) r13.1.1) (toNat t9) false)
  bif x16 then
  if 0≤t9∧t9<(length c2.2.2.1:Int) then
  let x17:=(getD c2.2.2.1 (toNat t9) (0:Int))
  if 0≤t9∧t9<(length c22:Int) then
  if 0≤t9∧t9<(length c24:Int) then
  let x18:=(List.set c24 (toNat t9) (decide (x17<(1152921504606846976:Int))))
  (jd k n t1 t5 (wrap .i64 (t9+(1:Int))) c2 c4 (List.set c22 (toNat t9) x15) x18 (List.set c26 (toNat t9) r13.1.1)).bind some
  else none
  else none
  else none
  else
  if 0≤t9∧t9<(length c22:Int) then
  if 0≤t9∧t9<(length c24:Int) then
  (jd k n t1 t5 (wrap .i64 (t9+(1:Int))) c2 c4 (List.set c22 (toNat t9) x15) (List.set c24 (toNat t9) false) (List.set c26 (toNat t9) r13.1.1)).bind some
  else none
  else none
  else none
  else none
  else
  if 0≤t9∧t9<(length (List.set c26 (toNat t9) r13.1.1):Int) then
  let x19:=(getD (List.set c26 (toNat t9) r13.1.1) (toNat t9) false)
  bif x19 then
  if 0≤t9∧t9<(length c2.2.2.1:Int) then
  let x20:=(getD c2.2.2.1 (toNat t9) (0:Int))
  if 0≤t9∧t9<(length c22:Int) then
  if 0≤t9∧t9<(length c24:Int) then
  let x21:=(List.set c24 (toNat t9) (decide (x20<(1152921504606846976:Int))))
  (jd k n t1 t5 (wrap .i64 (t9+(1:Int))) c2 c4 (List.set c22 (toNat t9) false) x21 (List.set c26 (toNat t9) r13.1.1)).bind some
  else none
  else none
  else none
  else
  if 0≤t9∧t9<(length c22:Int) then
  if 0≤t9∧t9<(length c24:Int) then
  (jd k n t1 t5 (wrap .i64 (t9+(1:Int))) c2 c4 (List.set c22 (toNat t9) false) (List.set c24 (toNat t9) false) (List.set c26 (toNat t9) r13.1.1)).bind some
  else none
  else none
  else none
  else none
  else none
  else
  some ((t5,()),(c2,c4,c22,c24,c26,()))
def qo:aE:=⟨[],[(1,.val bJ),(2,.ptr 2 []),(4,.ptr 4 []),(5,.val (.int .i64)),(6,.at 22 []),(7,.at 24 []),(8,.at 26 []),(9,.val (.int .i64))],[(2,some 81,ba),(4,some 81,aY),(22,none,b5),(24,none,b5),(26,none,b5)]⟩
def ye (k m:Nat) (v:qo.V):=jd k m v.1.1 v.1.2.1 v.1.2.2.1 v.2.1 v.2.2.1 v.2.2.2.1 v.2.2.2.2.1 v.2.2.2.2.2.1
def yf (k:Nat):aL:=⟨qo,[(.exit 0,⟨[],[(2,.ptr 2 []),(4,.ptr 4 []),(5,.val (.int .i64)),(6,.at 22 []),(7,.at 24 []),(8,.at 26 [])],[(2,some 81,ba),(4,some 81,aY),(22,none,b5),(24,none,b5),(26,none,b5)]⟩)],ye k k⟩
def cJ (k:Nat):Nat→Int→Bool→Int→aQ→aQ→(List Bool)→(List Bool)→(List Bool)→Option (((Int×Bool×Unit)×Xl))
 |0,_,_,_,_,_,_,_,_=>none
 |n+1,t5,t10,t11,c2,c4,c22,c24,c26 =>
  let x31:=(decide (t11<(length c2.2.2.2.1:Int)))
  bif x31 then
  if 0≤t11∧t11<(length c2.2.2.2.1:Int) then
  let x32:=(getD c2.2.2.2.1 (toNat t11) ((0:Int),((0:Int),((0:Int),()))))
  if 0≤x32.1∧x32.1<(length c22:Int) then
  bif (getD c22 (toNat x32.1) false) then
  if 0≤x32.2.1∧x32.2.1<(length c26:Int) then
  bif (getD c26 (toNat x32.2.1) false) then
  if 0≤x32.2.1∧x32.2.1<(length c22:Int) then
  bif (!(getD c22 (toNat x32.2.1) false)) then
  if 0≤x32.2.1∧x32.2.1<(length c22:Int) then
  if 0≤x32.2.1∧x32.2.1<(length c24:Int) then
  bif (getD c24 (toNat x32.2.1) false) then
  if 0≤x32.1∧x32.1<(length c26:Int) then
  bif (getD c26 (toNat x32.1) false) then
  if 0≤x32.1∧x32.1<(length c24:Int) then
  bif (!(getD c24 (toNat x32.1) false)) then
  if 0≤x32.1∧x32.1<(length c24:Int) then
  (cJ k n t5 true (wrap .i64 (t11+(1:Int))) c2 c4 (List.set c22 (toNat x32.2.1) true) (List.set c24 (toNat x32.1) true) c26).bind some
  else none
  else
  (cJ k n t5 true (wrap .i64 (t11+(1:Int))) c2 c4 (List.set c22 (toNat x32.2.1) true) c24 c26).bind some
  else none
  else
  (cJ k n t5 true (wrap .i64 (t11+(1:Int))) c2 c4 (List.set c22 (toNat x32.2.1) true) c24 c26).bind some
  else none
  else
  (cJ k n t5 true (wrap .i64 (t11+(1:Int))) c2 c4 (List.set c22 (toNat x32.2.1) true) c24 c26).bind some
  else none
  else none
  else
  if 0≤x32.2.1∧x32.2.1<(length c24:Int) then
  bif (getD c24 (toNat x32.2.1) false) then
  if 0≤x32.1∧x32.1<(length c26:Int) then
  bif (getD c26 (toNat x32.1) false) then
  if 0≤x32.1∧x32.1<(length c24:Int) then
  bif (!(getD c24 (toNat x32.1) false)) then
  if 0≤x32.1∧x32.1<(length c24:Int) then
  (cJ k n t5 true (wrap .i64 (t11+(1:Int))) c2 c4 c22 (List.set c24 (toNat x32.1) true) c26).bind some
  else none
  else
  (cJ k n t5 t10 (wrap .i64 (t11+(1:Int))) c2 c4 c22 c24 c26).bind some
  else none
  else
  (cJ k n t5 t10 (wrap .i64 (t11+(1:Int))) c2 c4 c22 c24 c26).bind some
  else none
  else
  (cJ k n t5 t10 (wrap .i64 (t11+(1:Int))) c2 c4 c22 c24 c26).bind some
  else none
  else none
  else
  if 0≤x32.2.1∧x32.2.1<(length c24:Int) then
  bif (getD c24 (toNat x32.2.1) false) then
  if 0≤x32.1∧x32.1<(length c26:Int) then
  bif (getD c26 (toNat x32.1) false) then
  if 0≤x32.1∧x32.1<(length c24:Int) then
  bif (!(getD c24 (toNat x32.1) false)) then
  if 0≤x32.1∧x32.1<(length c24:Int) then
  (cJ k n t5 true (wrap .i64 (t11+(1:Int))) c2 c4 c22 (List.set c24 (toNat x32.1) true) c26).bind some
  else none
  else
  (cJ k n t5 t10 (wrap .i64 (t11+(1:Int))) c2 c4 c22 c24 c26).bind some
  else none
  else
  (cJ k n t5 t10 (wrap .i64 (t11+(1:Int))) c2 c4 c22 c24 c26).bind some
  else none
  else
  (cJ k n t5 t10 (wrap .i64 (t11+(1:Int))) c2 c4 c22 c24 c26).bind some
  else none
  else none
  else
  if 0≤x32.2.1∧x32.2.1<(length c24:Int) then
  bif (getD c24 (toNat x32.2.1) false) then
  if 0≤x32.1∧x32.1<(length c26:Int) then
  bif (getD c26 (toNat x32.1) false) then
  if 0≤x32.1∧x32.1<(length c24:Int) then
  bif (!(getD c24 (toNat x32.1) false)) then
  if 0≤x32.1∧x32.1<(length c24:Int) then
  (cJ k n t5 true (wrap .i64 (t11+(1:Int))) c2 c4 c22 (List.set c24 (toNat x32.1) true) c26).bind some
  else none
  else
  (cJ k n t5 t10 (wrap .i64 (t11+(1:Int))) c2 c4 c22 c24 c26).bind some
  else none
  else
  (cJ k n t5 t10 (wrap .i64 (t11+(1:Int))) c2 c4 c22 c24 c26).bind some
  else none
  else
  (cJ k n t5 t10 (wrap .i64 (t11+(1:Int))) c2 c4 c22 c24 c26).bind some
  else none
  else none
  else none
  else
  some ((t5,t10,()),(c2,c4,c22,c24,c26,()))
def qp:aE:=⟨[],[(2,.ptr 2 []),(4,.ptr 4 []),(5,.val (.int .i64)),(6,.at 22 []),(7,.at 24 []),(8,.at 26 []),(10,.val .bool),(11,.val (.int .i64))],[(2,some 81,ba),(4,some 81,aY),(22,none,b5),(24,none,b5),(26,none,b5)]⟩
def yg (k m:Nat) (v:qp.V):=cJ k m v.1.1 v.1.2.1 v.1.2.2.1 v.2.1 v.2.2.1 v.2.2.2.1 v.2.2.2.2.1 v.2.2.2.2.2.1
def yh (k:Nat):aL:=⟨qp,[(.exit 4,⟨[],[(2,.ptr 2 []),(4,.ptr 4 []),(5,.val (.int .i64)),(6,.at 22 []),(7,.at 24 []),(8,.at 26 []),(10,.val .bool)],[(2,some 81,ba),(4,some 81,aY),(22,none,b5),(24,none,b5),(26,none,b5)]⟩)],yg k k⟩
def kX (k:Nat):Nat→Int→Bool→aQ→aQ→(List Bool)→(List Bool)→(List Bool)→Option (((Int×Unit)×(aQ×aQ×(List Bool)×(List Bool)×Unit)))
 |0,_,_,_,_,_,_,_=>none
 |n+1,t5,t10,c2,c4,c22,c24,c26 =>
  bif t10 then
  (cJ k k t5 false (0:Int) c2 c4 c22 c24 c26).bind fun r41 =>
  (kX k n r41.1.1 r41.1.2.1 r41.2.1 r41.2.2.1 r41.2.2.2.1 r41.2.2.2.2.1 r41.2.2.2.2.2.1).bind some
  else
  some ((t5,()),(c2,c4,c22,c24,()))
def qq:aE:=⟨[],[(2,.ptr 2 []),(4,.ptr 4 []),(5,.val (.int .i64)),(6,.at 22 []),(7,.at 24 []),(8,.at 26 []),(10,.val .bool)],[(2,some 81,ba),(4,some 81,aY),(22,none,b5),(24,none,b5),(26,none,b5)]⟩
def yi (k m:Nat) (v:qq.V):=kX k m v.1.1 v.1.2.1 v.2.1 v.2.2.1 v.2.2.2.1 v.2.2.2.2.1 v.2.2.2.2.2.1
def yj (k:Nat):aL:=⟨qq,[(.exit 2,⟨[],[(2,.ptr 2 []),(4,.ptr 4 []),(5,.val (.int .i64)),(6,.at 22 []),(7,.at 24 [])],[(2,some 81,ba),(4,some 81,aY),(22,none,b5),(24,none,b5)]⟩)],yi k k⟩
def jP (k:Nat):Nat→Int→Int→aQ→aQ→aQ→(List Bool)→(List Bool)→(List Int)→Option ((Unit×(aQ×aQ×aQ×(List Int)×Unit)))
 |0,_,_,_,_,_,_,_,_=>none
 |n+1,t5,t15,c2,c4,c13,c22,c24,c134 =>
  bif (decide (t15<t5)) then
  if 0≤t15∧t15<(length c134:Int) then
  if 0≤t15∧t15<(length c22:Int) then
  bif (getD c22 (toNat t15) false) then
  if 0≤t15∧t15<(length c24:Int) then
  bif (getD c24 (toNat t15) false) then
  if 0≤t15∧t15<(length (List.set c134 (toNat t15) (-1:Int)):Int) then
  let x60:=(List.set (List.set c134 (toNat t15) (-1:Int)) (toNat t15) (length c13.1:Int))
  if 0≤t15∧t15<(length c2.1:Int) then
  if 0≤t15∧t15<(length c2.2.1:Int) then
  if 0≤t15∧t15<(length c2.2.2.1:Int) then
  let x61:=(getD c2.2.2.1 (toNat t15) (0:Int))
  let x62:=(List.set (replicate 1 (0:Int)) 0 (getD c2.1 (toNat t15) (0:Int)))
  if (length c13.1+length x62)*(8*2)≤281474976710656∧length c13.1+length x62≤9223372036854775807 then
  let x63:=(List.set (replicate 1 (0:Int)) 0 (getD c2.2.1 (toNat t15) (0:Int)))
  if (length c13.2.1+length x63)*(8*2)≤281474976710656∧length c13.2.1+length x63≤9223372036854775807 then
  let x64:=(List.set (replicate 1 (0:Int)) 0 x61)
  if (length c13.2.2.1+length x64)*(8*2)≤281474976710656∧length c13.2.2.1+length x64≤9223372036854775807 then
  (jP k n t5 (wrap .i64 (t15+(1:Int))) c2 c4 ((c13.1++x62),((c13.2.1++x63),((c13.2.2.1++x64),c13.2.2.2))) c22 c24 x60).bind some
  else none
  else none
  else none
  else none
  else none
  else none
  else none
  else
  (jP k n t5 (wrap .i64 (t15+(1:Int))) c2 c4 c13 c22 c24 (List.set c134 (toNat t15) (-1:Int))).bind some
  else none
  else
  (jP k n t5 (wrap .i64 (t15+(1:Int))) c2 c4 c13 c22 c24 (List.set c134 (toNat t15) (-1:Int))).bind some
  else none
  else none
  else
  some ((),(c2,c4,c13,c134,()))
def qr:aE:=⟨[],[(2,.ptr 2 []),(4,.ptr 4 []),(5,.val (.int .i64)),(6,.at 22 []),(7,.at 24 []),(13,.ptr 13 []),(14,.at 134 []),(15,.val (.int .i64))],[(2,some 81,ba),(4,some 81,aY),(13,some 81,aY),(22,none,b5),(24,none,b5),(134,none,aP)]⟩
def yk (k m:Nat) (v:qr.V):=jP k m v.1.1 v.1.2.1 v.2.1 v.2.2.1 v.2.2.2.1 v.2.2.2.2.1 v.2.2.2.2.2.1 v.2.2.2.2.2.2.1
def yl (k:Nat):aL:=⟨qr,[(.exit 6,⟨[],[(2,.ptr 2 []),(4,.ptr 4 []),(13,.ptr 13 []),(14,.at 134 [])],[(2,some 81,ba),(4,some 81,aY),(13,some 81,aY),(134,none,aP)]⟩)],yk k k⟩
def je (k:Nat):Nat→Int→aQ→aQ→aQ→(List Int)→Option uP
 |0,_,_,_,_,_=>none
 |n+1,t16,c2,c4,c13,c134 =>
  let x76:=(decide (t16<(length c2.2.2.2.1:Int)))
  bif x76 then
  if 0≤t16∧t16<(length c2.2.2.2.1:Int) then
  let x77:=(getD c2.2.2.2.1 (toNat t16) ((0:Int),((0:Int),((0:Int),()))))
  if 0≤x77.1∧x77.1<(length c134:Int) then
  let x78:=(decide ((getD c134 (toNat x77.1) (0:Int))≥(0:Int)))
  bif x78 then
  if 0≤x77.2.1∧x77.2.1<(length c134:Int) then
  let x79:=(getD c134 (toNat x77.2.1) (0:Int))
  bif (decide (x79≥(0:Int))) then
  if 0≤x77.1∧x77.1<(length c134:Int) then
  if 0≤x77.2.1∧x77.2.1<(length c134:Int) then
  let x80:=(getD c134 (toNat x77.2.1) (0:Int))
  let x81:=(List.set (replicate 1 ((0:Int),((0:Int),((0:Int),())))) 0 ((getD c134 (toNat x77.1) (0:Int)),(x80,(x77.2.2.1,()))))
  if (length c13.2.2.2.1+length x81)*(24*2)≤281474976710656∧length c13.2.2.2.1+length x81≤9223372036854775807 then
  (je k n (wrap .i64 (t16+(1:Int))) c2 c4 (c13.1,(c13.2.1,(c13.2.2.1,((c13.2.2.2.1++x81),c13.2.2.2.2)))) c134).bind some
  else none
  else none
  else none
  else
  (je k n (wrap .i64 (t16+(1:Int))) c2 c4 c13 c134).bind some
  else none
  else
  (je k n (wrap .i64 (t16+(1:Int))) c2 c4 c13 c134).bind some
  else none
  else none
  else
  some ((),(c4,c13,()))
def qs:aE:=⟨[],[(2,.ptr 2 []),(4,.ptr 4 []),(13,.ptr 13 []),(14,.at 134 []),(16,.val (.int .i64))],[(2,some 81,ba),(4,some 81,aY),(13,some 81,aY),(134,none,aP)]⟩
def ym (k m:Nat) (v:qs.V):=je k m v.1.1 v.2.1 v.2.2.1 v.2.2.2.1 v.2.2.2.2.1
def yn (k:Nat):aL:=⟨qs,[(.exit 8,⟨[],[(4,.ptr 4 []),(13,.ptr 13 [])],[(4,some 81,aY),(13,some 81,aY)]⟩)],ym k k⟩
def F42 (k:Nat) (a0:aQ) (a1:(List (List Bool))):Option cy :=
 if (0≤(length a0.1:Int)∧(length a0.1:Int)<(length a0.1:Int)+1)∧(length a0.1:Int)≤9223372036854775807∧((1:Nat):Int)*(length a0.1:Int)≤281474976710656 then
 let x1:=(replicate (toNat (length a0.1:Int)) false)
 if (0≤(length a0.1:Int)∧(length a0.1:Int)<(length a0.1:Int)+1)∧(length a0.1:Int)≤9223372036854775807∧((1:Nat):Int)*(length a0.1:Int)≤281474976710656 then
 let x2:=(replicate (toNat (length a0.1:Int)) false)
 if (0≤(length a0.1:Int)∧(length a0.1:Int)<(length a0.1:Int)+1)∧(length a0.1:Int)≤9223372036854775807∧((1:Nat):Int)*(length a0.1:Int)≤281474976710656 then
 let x3:=(replicate (toNat (length a0.1:Int)) false)
 (jd k k a1 (length a0.1:Int) (0:Int) a0 (([]:(List Int)),(([]:(List Int)),(([]:(List Int)),(([]:cA),((0:Int),()))))) x1 x2 x3).bind fun r22 =>
 (kX k k r22.1.1 true r22.2.1 r22.2.2.1 r22.2.2.2.1 r22.2.2.2.2.1 r22.2.2.2.2.2.1).bind fun r49 =>
 let y50:=r49.1.1
 if (0≤y50∧y50<y50+1)∧y50≤9223372036854775807∧((8:Nat):Int)*y50≤281474976710656 then
 (jP k k y50 (0:Int) r49.2.1 r49.2.2.1 (([]:(List Int)),(([]:(List Int)),(([]:(List Int)),(([]:cA),(r49.2.1.2.2.2.2.1,()))))) r49.2.2.2.1 r49.2.2.2.2.1 (replicate (toNat y50) (0:Int))).bind fun r65 =>
 (je k k (0:Int) r65.2.1 r65.2.2.1 r65.2.2.2.1 r65.2.2.2.2.1).bind fun r82 =>
 some ((r82.2.2.1,()),())
 else none
 else none
 else none
 else none
def By (k:Nat):ap:=⟨[.val ba,.val bJ],[.own aY],fun x=>F42 k x.1 x.2.1⟩
def gt:Lim:=⟨234,2,false,false,[],[]⟩
def nj (k:Nat):Nat→Option ap:=aW [(75,Bx k)]
noncomputable def OX:Code:=ac (ab Try.f42) [.r,.r,.r,.r,.l,.r,.s]
noncomputable def ZJ:Code:=ac (ab Try.f42) [.r,.r,.r,.r,.l,.r,.s,.b]
noncomputable def OY:Code:=ac (ab Try.f42) [.r,.r,.r,.r,.r,.l,.r,.s,.b,.r,.s,.r,.r,.s]
noncomputable def ZK:Code:=ac (ab Try.f42) [.r,.r,.r,.r,.r,.l,.r,.s,.b,.r,.s,.r,.r,.s,.b]
noncomputable def OZ:Code:=ac (ab Try.f42) [.r,.r,.r,.r,.r,.l,.r,.s]
noncomputable def ZL:Code:=ac (ab Try.f42) [.r,.r,.r,.r,.r,.l,.r,.s,.b]
noncomputable def O0:Code:=ac (ab Try.f42) [.r,.r,.r,.r,.r,.r,.r,.r,.l,.r,.s]
noncomputable def ZM:Code:=ac (ab Try.f42) [.r,.r,.r,.r,.r,.r,.r,.r,.l,.r,.s,.b]
noncomputable def O1:Code:=ac (ab Try.f42) [.r,.r,.r,.r,.r,.r,.r,.r,.r,.l,.r,.s]
noncomputable def ZN:Code:=ac (ab Try.f42) [.r,.r,.r,.r,.r,.r,.r,.r,.r,.l,.r,.s,.b]
noncomputable def co42:Code:=ac (ab Try.f42) []
theorem iN (k:Nat):aR Try.prog (nj k):=ah (v75 k) (aD)
noncomputable def F8 (k m:Nat) (v:qo.V):=body Try.prog (ao Try.prog (nj k) gt) .go ZJ (qo.st v) (aH (yf k) (ye k m))
theorem ZO (k m:Nat) (v:qo.V):ye k (m+1) v=(F8 k m v).eval∧(F8 k m v).left=(F8 k m v).right:=⟨by kernel_rfl,by kernel_rfl⟩
theorem O2 (k:Nat):aC Try.prog gt (yf k) OX :=
 am (by kernel_rfl) (aA (iN k) (aj _) (ye k) k (fun _=>rfl) (fun _=>rfl) (ZO k))
noncomputable def F9 (k m:Nat) (v:qp.V):=body Try.prog (ao Try.prog (nj k) gt) .go ZK (qp.st v) (aH (yh k) (yg k m))
theorem ZP (k m:Nat) (v:qp.V):yg k (m+1) v=(F9 k m v).eval∧(F9 k m v).left=(F9 k m v).right:=⟨by kernel_rfl,by kernel_rfl⟩
theorem O3 (k:Nat):aC Try.prog gt (yh k) OY :=
 am (by kernel_rfl) (aA (iN k) (aj _) (yg k) k (fun _=>rfl) (fun _=>rfl) (ZP k))
def ZQ (k:Nat):aO:=(.seq .go (.sub (.seq .go (.seq .go (.sub (.frag (yh k)))))))
noncomputable def Ga (k m:Nat) (v:qq.V):=body Try.prog (ao Try.prog (nj k) gt) (ZQ k) ZL (qq.st v) (aH (yj k) (yi k m))
theorem ZR (k m:Nat) (v:qq.V):yi k (m+1) v=(Ga k m v).eval∧(Ga k m v).left=(Ga k m v).right:=⟨by kernel_rfl,by kernel_rfl⟩
theorem O4 (k:Nat):aC Try.prog gt (yj k) OZ :=
 am (by kernel_rfl) (aA (iN k) (aG (L:=[(yh k,OY)]) (by kernel_rfl) (.cons (O3 k) .nil)) (yi k) k (fun _=>rfl) (fun _=>rfl) (ZR k))
noncomputable def Gb (k m:Nat) (v:qr.V):=body Try.prog (ao Try.prog (nj k) gt) .go ZM (qr.st v) (aH (yl k) (yk k m))
theorem ZS (k m:Nat) (v:qr.V):yk k (m+1) v=(Gb k m v).eval∧(Gb k m v).left=(Gb k m v).right:=⟨by kernel_rfl,by kernel_rfl⟩
theorem O5 (k:Nat):aC Try.prog gt (yl k) O0 :=
 am (by kernel_rfl) (aA (iN k) (aj _) (yk k) k (fun _=>rfl) (fun _=>rfl) (ZS k))
noncomputable def Gc (k m:Nat) (v:qs.V):=body Try.prog (ao Try.prog (nj k) gt) .go ZN (qs.st v) (aH (yn k) (ym k m))
theorem ZT (k m:Nat) (v:qs.V):ym k (m+1) v=(Gc k m v).eval∧(Gc k m v).left=(Gc k m v).right:=⟨by kernel_rfl,by kernel_rfl⟩
theorem O6 (k:Nat):aC Try.prog gt (yn k) O1 :=
 am (by kernel_rfl) (aA (iN k) (aj _) (ym k) k (fun _=>rfl) (fun _=>rfl) (ZT k))
def ZU (k:Nat):aO:=(.seq .go (.seq .go (.seq .go (.seq .go (.seq (.seq .go (.sub (.frag (yf k)))) (.seq (.seq .go (.sub (.frag (yj k)))) (.seq .go (.seq .go (.seq (.seq .go (.sub (.frag (yl k)))) (.seq (.seq .go (.sub (.frag (yn k)))) .go))))))))))
noncomputable def Tw (k:Nat) (x:AT (By k).ps):=fnT Try.prog (nj k) gt Try.f42 (ab Try.f42) (ZU k) (By k) x
theorem a9y (k:Nat) (x:AT (By k).ps):(By k).impl x=(Tw k x).eval∧(Tw k x).left=(Tw k x).right:=⟨by kernel_rfl,by kernel_rfl⟩
theorem v42 (k:Nat):ai Try.prog 42∧aB Try.prog 42 (By k) :=
 aS (n:=gt) (fn:=Try.f42) (p:=(ZU k)) (iN k) (by kernel_rfl) (aG (L:=[(yf k,OX),(yj k,OZ),(yl k,O0),(yn k,O1)]) (by kernel_rfl) (.cons (O2 k) (.cons (O4 k) (.cons (O5 k) (.cons (O6 k) .nil))))) (a9y k)
def nk (k:Nat):Nat→Int→TY3→TY3→Option ((Unit×(TY3×TY3×Unit))⊕((Bool×Unit)×(TY3×Unit)))
 |0,_,_,_=>none
 |n+1,t10,c6,c8 =>
  let x25:=(decide (t10<(length c8.1.2.1:Int)))
  bif x25 then
  if 0≤t10∧t10<(length c8.1.2.1:Int) then
  let x26:=(getD c8.1.2.1 (toNat t10) ((0:Int),((0:Int),((ae.mk ((0:Int),((0:Int),((0:Int),((0:Int),(ByteArray.empty,()))))) []),((ae.mk ((0:Int),((0:Int),((0:Int),((0:Int),(ByteArray.empty,()))))) []),())))))
  (F41 k x26.2.2.1 c8.1).bind fun r27 =>
  if 0≤t10∧t10<(length c8.1.2.1:Int) then
  let x28:=(getD c8.1.2.1 (toNat t10) ((0:Int),((0:Int),((ae.mk ((0:Int),((0:Int),((0:Int),((0:Int),(ByteArray.empty,()))))) []),((ae.mk ((0:Int),((0:Int),((0:Int),((0:Int),(ByteArray.empty,()))))) []),())))))
  (F41 k x28.2.2.2.1 c8.1).bind fun r29 =>
  bif (!r27.1.2.1) then
  some (.inr ((false,()),(c8,())))
  else
  bif (!r29.1.2.1) then
  some (.inr ((false,()),(c8,())))
  else
  (F42 k r27.1.1 c8.2.2.2.1).bind fun r30 =>
  let x31:=(List.set (replicate 1 (([]:(List Int)),(([]:(List Int)),(([]:(List Int)),(([]:cA),((0:Int),())))))) 0 r30.1.1)
  if (length c8.2.2.2.2.1+length x31)*(104*2)≤281474976710656∧length c8.2.2.2.2.1+length x31≤9223372036854775807 then
  (F42 k r29.1.1 c8.2.2.2.1).bind fun r32 =>
  let x33:=(List.set (replicate 1 (([]:(List Int)),(([]:(List Int)),(([]:(List Int)),(([]:cA),((0:Int),())))))) 0 r32.1.1)
  if (length c8.2.2.2.2.2.1+length x33)*(104*2)≤281474976710656∧length c8.2.2.2.2.2.1+length x33≤9223372036854775807 then
  (nk k n (wrap .i64 (t10+(1:Int))) c6 (c8.1,(c8.2.1,(c8.2.2.1,(c8.2.2.2.1,((c8.2.2.2.2.1++x31),((c8.2.2.2.2.2.1++x33),c8.2.2.2.2.2.2))))))).bind some
  else none
  else none
  else none
  else none
  else
  some (.inl ((),(c6,c8,())))
def qt:aE:=⟨[],[(6,.ptr 6 []),(8,.ptr 8 []),(10,.val (.int .i64))],[(6,some 33,KD2),(8,some 33,KD1)]⟩
def yo (k m:Nat) (v:qt.V):=nk k m v.1.1 v.2.1 v.2.2.1
def yp (k:Nat):aL:=⟨qt,[(.exit 0,⟨[],[(6,.ptr 6 []),(8,.ptr 8 [])],[(6,some 33,KD2),(8,some 33,KD1)]⟩),(.ret,⟨[],[(6,.ptr 6 []),(7,.val .bool)],[(6,some 33,KD1)]⟩)],yo k k⟩
def F15 (k:Nat) (a0:du) (a1:(List Int)) (a2:(List Int)):Option ((TY3×Bool×Unit)×Unit) :=
 let x1:=([]:fX)
 let x2:=([]:kp)
 let x3:=([]:bR)
 let x4:=([]:bR)
 (F36 k a0 a1 a2).bind fun r5 =>
 let x6:=([]:bR)
 let x7:=([]:bR)
 (F37 k r5.1.1).bind fun r12 =>
 (F38 k r12.1.1).bind fun r13 =>
 (F39 k r12.1.1 r13.1.1 r13.1.2.1).bind fun r14 =>
 (F40 k r13.1.2.1).bind fun r15 =>
 (nk k k (0:Int) ((x1,(x2,())),(([]:(List Int)),(([]:(List Int)),(([]:(List (List Bool))),(x3,(x4,((0:Int),()))))))) (r5.1.1,(r13.1.1,(r13.1.2.1,(r14.1.1,(x6,(x7,(r15.1.1,())))))))).bind fun r34 =>
 match r34 with
 |.inl r35 =>
  some ((r35.2.2.1,true,()),())
 |.inr r35 =>
  some ((r35.2.1,r35.1.1,()),())
def Bz (k:Nat):ap:=⟨[.val oW,.val aZ,.val aZ],[.own KD1,.val .bool],fun x=>F15 k x.1 x.2.1 x.2.2.1⟩
def Dv:Lim:=⟨101,3,false,false,[18,87,95],[(19,KD1)]⟩
def L1 (k:Nat):Nat→Option ap:=aW [(36,Bd k),(37,u9 k),(38,Bk k),(39,Bl k),(40,vb k),(41,Bw k),(42,By k)]
noncomputable def O7:Code:=ac (ab Try.f15) [.r,.r,.r,.r,.r,.r,.l,.r,.s]
noncomputable def ZV:Code:=ac (ab Try.f15) [.r,.r,.r,.r,.r,.r,.l,.r,.s,.b]
noncomputable def co15:Code:=ac (ab Try.f15) []
theorem Gd (k:Nat):aR Try.prog (L1 k):=ah (v36 k) (ah (v37 k) (ah (v38 k) (ah (v39 k) (ah (v40 k) (ah (v41 k) (ah (v42 k) (aD)))))))
noncomputable def Ge (k m:Nat) (v:qt.V):=body Try.prog (ao Try.prog (L1 k) Dv) .go ZV (qt.st v) (aH (yp k) (yo k m))
theorem ZW (k m:Nat) (v:qt.V):yo k (m+1) v=(Ge k m v).eval∧(Ge k m v).left=(Ge k m v).right:=⟨by kernel_rfl,by kernel_rfl⟩
theorem O8 (k:Nat):aC Try.prog Dv (yp k) O7 :=
 am (by kernel_rfl) (aA (Gd k) (aj _) (yo k) k (fun _=>rfl) (fun _=>rfl) (ZW k))
def ZX (k:Nat):aO:=(.seq .go (.seq .go (.seq .go (.seq .go (.seq .go (.seq .go (.seq (.seq .go (.sub (.frag (yp k)))) .go)))))))
noncomputable def Tx (k:Nat) (x:AT (Bz k).ps):=fnT Try.prog (L1 k) Dv Try.f15 (ab Try.f15) (ZX k) (Bz k) x
theorem a0z (k:Nat) (x:AT (Bz k).ps):(Bz k).impl x=(Tx k x).eval∧(Tx k x).left=(Tx k x).right:=⟨by kernel_rfl,by kernel_rfl⟩
theorem v15 (k:Nat):ai Try.prog 15∧aB Try.prog 15 (Bz k) :=
 aS (n:=Dv) (fn:=Try.f15) (p:=(ZX k)) (Gd k) (by kernel_rfl) (aG (L:=[(yp k,O7)]) (by kernel_rfl) (.cons (O8 k) .nil)) (a0z k)
def tq (k:Nat):Nat→Int→Int→aQ→(List (List Bool))→Option Xg
 |0,_,_,_,_=>none
 |n+1,t3,t5,c1,c16 =>
  bif (decide (t5<t3)) then
  if (0≤t3∧t3<t3+1)∧t3≤9223372036854775807∧((1:Nat):Int)*t3≤281474976710656 then
  if 0≤t5∧t5<(length c16:Int) then
  let x4:=(List.set c16 (toNat t5) (replicate (toNat t3) false))
  if 0≤t5∧t5<(length x4:Int) then
  if 0≤t5∧t5<(length (getD x4 (toNat t5) ([]:(List Bool))):Int) then
  let x5:=(List.set x4 (toNat t5) (List.set (getD x4 (toNat t5) ([]:(List Bool))) (toNat t5) true))
  (tq k n t3 (wrap .i64 (t5+(1:Int))) c1 x5).bind some
  else none
  else none
  else none
  else none
  else
  some ((t3,()),(c1,c16,()))
def qu:aE:=⟨[],[(1,.ptr 1 []),(3,.val (.int .i64)),(4,.at 16 []),(5,.val (.int .i64))],[(1,some 81,ba),(16,none,bp)]⟩
def yq (k m:Nat) (v:qu.V):=tq k m v.1.1 v.1.2.1 v.2.1 v.2.2.1
def yr (k:Nat):aL:=⟨qu,[(.exit 0,⟨[],[(1,.ptr 1 []),(3,.val (.int .i64)),(4,.at 16 [])],[(1,some 81,ba),(16,none,bp)]⟩)],yq k k⟩
def tr (k:Nat):Nat→Int→Int→aQ→(List (List Bool))→Option Xg
 |0,_,_,_,_=>none
 |n+1,t3,t6,c1,c16 =>
  let x14:=(decide (t6<(length c1.2.2.2.1:Int)))
  bif x14 then
  if 0≤t6∧t6<(length c1.2.2.2.1:Int) then
  let x15:=(getD c1.2.2.2.1 (toNat t6) ((0:Int),((0:Int),((0:Int),()))))
  if 0≤x15.1∧x15.1<(length c16:Int) then
  if 0≤t6∧t6<(length c1.2.2.2.1:Int) then
  let x16:=(getD c1.2.2.2.1 (toNat t6) ((0:Int),((0:Int),((0:Int),()))))
  if 0≤x16.2.1∧x16.2.1<(length (getD c16 (toNat x15.1) ([]:(List Bool))):Int) then
  let x17:=(List.set c16 (toNat x15.1) (List.set (getD c16 (toNat x15.1) ([]:(List Bool))) (toNat x16.2.1) true))
  (tr k n t3 (wrap .i64 (t6+(1:Int))) c1 x17).bind some
  else none
  else none
  else none
  else none
  else
  some ((t3,()),(c1,c16,()))
def qv:aE:=⟨[],[(1,.ptr 1 []),(3,.val (.int .i64)),(4,.at 16 []),(6,.val (.int .i64))],[(1,some 81,ba),(16,none,bp)]⟩
def yt (k m:Nat) (v:qv.V):=tr k m v.1.1 v.1.2.1 v.2.1 v.2.2.1
def yu (k:Nat):aL:=⟨qv,[(.exit 2,⟨[],[(1,.ptr 1 []),(3,.val (.int .i64)),(4,.at 16 [])],[(1,some 81,ba),(16,none,bp)]⟩)],yt k k⟩
def kY (k:Nat):Nat→Int→Int→Int→Int→aQ→(List (List Bool))→Option (((Int×Int×Int×Unit)×Lu))
 |0,_,_,_,_,_,_=>none
 |n+1,t3,t7,t8,t9,c1,c16 =>
  bif (decide (t9<t3)) then
  if 0≤t8∧t8<(length c16:Int) then
  if 0≤t8∧t8<(length c16:Int) then
  if 0≤t9∧t9<(length (getD c16 (toNat t8) ([]:(List Bool))):Int) then
  let x28:=(getD (getD c16 (toNat t8) ([]:(List Bool))) (toNat t9) false)
  bif x28 then
  if 0≤t9∧t9<(length (getD c16 (toNat t8) ([]:(List Bool))):Int) then
  let x29:=(List.set c16 (toNat t8) (List.set (getD c16 (toNat t8) ([]:(List Bool))) (toNat t9) true))
  (kY k n t3 t7 t8 (wrap .i64 (t9+(1:Int))) c1 x29).bind some
  else none
  else
  if 0≤t8∧t8<(length c16:Int) then
  if 0≤t7∧t7<(length (getD c16 (toNat t8) ([]:(List Bool))):Int) then
  let x30:=(getD (getD c16 (toNat t8) ([]:(List Bool))) (toNat t7) false)
  bif x30 then
  if 0≤t7∧t7<(length c16:Int) then
  if 0≤t9∧t9<(length (getD c16 (toNat t7) ([]:(List Bool))):Int) then
  let x31:=(getD (getD c16 (toNat t7) ([]:(List Bool))) (toNat t9) false)
  if 0≤t9∧t9<(length (getD c16 (toNat t8) ([]:(List Bool))):Int) then
  let x32:=(List.set c16 (toNat t8) (List.set (getD c16 (toNat t8) ([]:(List Bool))) (toNat t9) x31))
  (kY k n t3 t7 t8 (wrap .i64 (t9+(1:Int))) c1 x32).bind some
  else none
  else none
  else none
  else
  if 0≤t9∧t9<(length (getD c16 (toNat t8) ([]:(List Bool))):Int) then
  let x33:=(List.set c16 (toNat t8) (List.set (getD c16 (toNat t8) ([]:(List Bool))) (toNat t9) false))
  (kY k n t3 t7 t8 (wrap .i64 (t9+(1:Int))) c1 x33).bind some
  else none
  else none
  else none
  else none
  else none
  else none
  else
  some ((t3,t7,t8,()),(c1,c16,()))
def qw:aE:=⟨[],[(1,.ptr 1 []),(3,.val (.int .i64)),(4,.at 16 []),(7,.val (.int .i64)),(8,.val (.int .i64)),(9,.val (.int .i64))],[(1,some 81,ba),(16,none,bp)]⟩
def yv (k m:Nat) (v:qw.V):=kY k m v.1.1 v.1.2.1 v.1.2.2.1 v.1.2.2.2.1 v.2.1 v.2.2.1
def yw (k:Nat):aL:=⟨qw,[(.exit 8,⟨[],[(1,.ptr 1 []),(3,.val (.int .i64)),(4,.at 16 []),(7,.val (.int .i64)),(8,.val (.int .i64))],[(1,some 81,ba),(16,none,bp)]⟩)],yv k k⟩
def tu (k:Nat):Nat→Int→Int→Int→aQ→(List (List Bool))→Option (((Int×Int×Unit)×Lu))
 |0,_,_,_,_,_=>none
 |n+1,t3,t7,t8,c1,c16 =>
  bif (decide (t8<t3)) then
  (kY k k t3 t7 t8 (0:Int) c1 c16).bind fun r40 =>
  (tu k n r40.1.1 r40.1.2.1 (wrap .i64 (r40.1.2.2.1+(1:Int))) r40.2.1 r40.2.2.1).bind some
  else
  some ((t3,t7,()),(c1,c16,()))
def qy:aE:=⟨[],[(1,.ptr 1 []),(3,.val (.int .i64)),(4,.at 16 []),(7,.val (.int .i64)),(8,.val (.int .i64))],[(1,some 81,ba),(16,none,bp)]⟩
def yx (k m:Nat) (v:qy.V):=tu k m v.1.1 v.1.2.1 v.1.2.2.1 v.2.1 v.2.2.1
def yz (k:Nat):aL:=⟨qy,[(.exit 6,⟨[],[(1,.ptr 1 []),(3,.val (.int .i64)),(4,.at 16 []),(7,.val (.int .i64))],[(1,some 81,ba),(16,none,bp)]⟩)],yx k k⟩
def tv (k:Nat):Nat→Int→Int→aQ→(List (List Bool))→Option ((Unit×Lu))
 |0,_,_,_,_=>none
 |n+1,t3,t7,c1,c16 =>
  bif (decide (t7<t3)) then
  (tu k k t3 t7 (0:Int) c1 c16).bind fun r51 =>
  (tv k n r51.1.1 (wrap .i64 (r51.1.2.1+(1:Int))) r51.2.1 r51.2.2.1).bind some
  else
  some ((),(c1,c16,()))
def qA:aE:=⟨[],[(1,.ptr 1 []),(3,.val (.int .i64)),(4,.at 16 []),(7,.val (.int .i64))],[(1,some 81,ba),(16,none,bp)]⟩
def yA (k m:Nat) (v:qA.V):=tv k m v.1.1 v.1.2.1 v.2.1 v.2.2.1
def yB (k:Nat):aL:=⟨qA,[(.exit 4,⟨[],[(1,.ptr 1 []),(4,.at 16 [])],[(1,some 81,ba),(16,none,bp)]⟩)],yA k k⟩
def kZ (k:Nat):Nat→Int→aQ→(List (List Bool))→Option ((Unit×Unit)⊕fa)
 |0,_,_,_=>none
 |n+1,t10,c1,c16 =>
  let x62:=(decide (t10<(length c1.2.2.2.1:Int)))
  bif x62 then
  if 0≤t10∧t10<(length c1.2.2.2.1:Int) then
  let x63:=(getD c1.2.2.2.1 (toNat t10) ((0:Int),((0:Int),((0:Int),()))))
  bif (decide (x63.2.2.1>(0:Int))) then
  if 0≤x63.2.1∧x63.2.1<(length c16:Int) then
  if 0≤x63.1∧x63.1<(length (getD c16 (toNat x63.2.1) ([]:(List Bool))):Int) then
  let x64:=(getD (getD c16 (toNat x63.2.1) ([]:(List Bool))) (toNat x63.1) false)
  bif x64 then
  some (.inr ((true,()),()))
  else
  (kZ k n (wrap .i64 (t10+(1:Int))) c1 c16).bind some
  else none
  else none
  else
  (kZ k n (wrap .i64 (t10+(1:Int))) c1 c16).bind some
  else none
  else
  some (.inl ((),()))
def qB:aE:=⟨[],[(1,.ptr 1 []),(4,.at 16 []),(10,.val (.int .i64))],[(1,some 81,ba),(16,none,bp)]⟩
def yC (k m:Nat) (v:qB.V):=kZ k m v.1.1 v.2.1 v.2.2.1
def yD (k:Nat):aL:=⟨qB,[(.exit 10,⟨[],[],[]⟩),(.ret,⟨[],[(2,.val .bool)],[]⟩)],yC k k⟩
def F43 (k:Nat) (a0:aQ):Option fa :=
 if (0≤(length a0.1:Int)∧(length a0.1:Int)<(length a0.1:Int)+1)∧(length a0.1:Int)≤9223372036854775807∧((24:Nat):Int)*(length a0.1:Int)≤281474976710656 then
 let x1:=(replicate (toNat (length a0.1:Int)) ([]:(List Bool)))
 (tq k k (length a0.1:Int) (0:Int) a0 x1).bind fun r6 =>
 (tr k k r6.1.1 (0:Int) r6.2.1 r6.2.2.1).bind fun r18 =>
 (tv k k r18.1.1 (0:Int) r18.2.1 r18.2.2.1).bind fun r56 =>
 (kZ k k (0:Int) r56.2.1 r56.2.2.1).bind fun r65 =>
 match r65 with
 |.inl r66 =>
  some ((false,()),())
 |.inr r66 =>
  some ((r66.1.1,()),())
 else none
def BA (k:Nat):ap:=⟨[.val ba],[.val .bool],fun x=>F43 k x.1⟩
def fv:Lim:=⟨128,1,false,false,[],[]⟩
def k7 (k:Nat):Nat→Option ap:=aW []
noncomputable def O9:Code:=ac (ab Try.f43) [.r,.r,.r,.l,.r,.s]
noncomputable def ZY:Code:=ac (ab Try.f43) [.r,.r,.r,.l,.r,.s,.b]
noncomputable def Pa:Code:=ac (ab Try.f43) [.r,.r,.r,.r,.l,.r,.s]
noncomputable def ZZ:Code:=ac (ab Try.f43) [.r,.r,.r,.r,.l,.r,.s,.b]
noncomputable def Pb:Code:=ac (ab Try.f43) [.r,.r,.r,.r,.r,.l,.r,.s,.b,.r,.l,.s,.r,.s,.b,.r,.l,.s,.r,.s]
noncomputable def Z0:Code:=ac (ab Try.f43) [.r,.r,.r,.r,.r,.l,.r,.s,.b,.r,.l,.s,.r,.s,.b,.r,.l,.s,.r,.s,.b]
noncomputable def Pe:Code:=ac (ab Try.f43) [.r,.r,.r,.r,.r,.l,.r,.s,.b,.r,.l,.s,.r,.s]
noncomputable def Z1:Code:=ac (ab Try.f43) [.r,.r,.r,.r,.r,.l,.r,.s,.b,.r,.l,.s,.r,.s,.b]
noncomputable def Pf:Code:=ac (ab Try.f43) [.r,.r,.r,.r,.r,.l,.r,.s]
noncomputable def Z2:Code:=ac (ab Try.f43) [.r,.r,.r,.r,.r,.l,.r,.s,.b]
noncomputable def Pg:Code:=ac (ab Try.f43) [.r,.r,.r,.r,.r,.r,.l,.r,.s]
noncomputable def Z3:Code:=ac (ab Try.f43) [.r,.r,.r,.r,.r,.r,.l,.r,.s,.b]
noncomputable def co43:Code:=ac (ab Try.f43) []
theorem gJ (k:Nat):aR Try.prog (k7 k):=aD
noncomputable def Gf (k m:Nat) (v:qu.V):=body Try.prog (ao Try.prog (k7 k) fv) .go ZY (qu.st v) (aH (yr k) (yq k m))
theorem Z4 (k m:Nat) (v:qu.V):yq k (m+1) v=(Gf k m v).eval∧(Gf k m v).left=(Gf k m v).right:=⟨by kernel_rfl,by kernel_rfl⟩
theorem Ph (k:Nat):aC Try.prog fv (yr k) O9 :=
 am (by kernel_rfl) (aA (gJ k) (aj _) (yq k) k (fun _=>rfl) (fun _=>rfl) (Z4 k))
noncomputable def Gg (k m:Nat) (v:qv.V):=body Try.prog (ao Try.prog (k7 k) fv) .go ZZ (qv.st v) (aH (yu k) (yt k m))
theorem Z5 (k m:Nat) (v:qv.V):yt k (m+1) v=(Gg k m v).eval∧(Gg k m v).left=(Gg k m v).right:=⟨by kernel_rfl,by kernel_rfl⟩
theorem Pi (k:Nat):aC Try.prog fv (yu k) Pa :=
 am (by kernel_rfl) (aA (gJ k) (aj _) (yt k) k (fun _=>rfl) (fun _=>rfl) (Z5 k))
noncomputable def Gh (k m:Nat) (v:qw.V):=body Try.prog (ao Try.prog (k7 k) fv) .go Z0 (qw.st v) (aH (yw k) (yv k m))
theorem Z6 (k m:Nat) (v:qw.V):yv k (m+1) v=(Gh k m v).eval∧(Gh k m v).left=(Gh k m v).right:=⟨by kernel_rfl,by kernel_rfl⟩
theorem Pj (k:Nat):aC Try.prog fv (yw k) Pb :=
 am (by kernel_rfl) (aA (gJ k) (aj _) (yv k) k (fun _=>rfl) (fun _=>rfl) (Z6 k))
def Z7 (k:Nat):aO:=(.seq .go (.seq (.sub (.seq .go (.sub (.frag (yw k))))) .go))
noncomputable def Gi (k m:Nat) (v:qy.V):=body Try.prog (ao Try.prog (k7 k) fv) (Z7 k) Z1 (qy.st v) (aH (yz k) (yx k m))
theorem Z8 (k m:Nat) (v:qy.V):yx k (m+1) v=(Gi k m v).eval∧(Gi k m v).left=(Gi k m v).right:=⟨by kernel_rfl,by kernel_rfl⟩
theorem Pk (k:Nat):aC Try.prog fv (yz k) Pe :=
 am (by kernel_rfl) (aA (gJ k) (aG (L:=[(yw k,Pb)]) (by kernel_rfl) (.cons (Pj k) .nil)) (yx k) k (fun _=>rfl) (fun _=>rfl) (Z8 k))
def Z9 (k:Nat):aO:=(.seq .go (.seq (.sub (.seq .go (.sub (.frag (yz k))))) .go))
noncomputable def Gj (k m:Nat) (v:qA.V):=body Try.prog (ao Try.prog (k7 k) fv) (Z9 k) Z2 (qA.st v) (aH (yB k) (yA k m))
theorem a0a (k m:Nat) (v:qA.V):yA k (m+1) v=(Gj k m v).eval∧(Gj k m v).left=(Gj k m v).right:=⟨by kernel_rfl,by kernel_rfl⟩
theorem Pl (k:Nat):aC Try.prog fv (yB k) Pf :=
 am (by kernel_rfl) (aA (gJ k) (aG (L:=[(yz k,Pe)]) (by kernel_rfl) (.cons (Pk k) .nil)) (yA k) k (fun _=>rfl) (fun _=>rfl) (a0a k))
noncomputable def Gk (k m:Nat) (v:qB.V):=body Try.prog (ao Try.prog (k7 k) fv) .go Z3 (qB.st v) (aH (yD k) (yC k m))
theorem a1a (k m:Nat) (v:qB.V):yC k (m+1) v=(Gk k m v).eval∧(Gk k m v).left=(Gk k m v).right:=⟨by kernel_rfl,by kernel_rfl⟩
theorem Pm (k:Nat):aC Try.prog fv (yD k) Pg :=
 am (by kernel_rfl) (aA (gJ k) (aj _) (yC k) k (fun _=>rfl) (fun _=>rfl) (a1a k))
def a2a (k:Nat):aO:=(.seq .go (.seq .go (.seq .go (.seq (.seq .go (.sub (.frag (yr k)))) (.seq (.seq .go (.sub (.frag (yu k)))) (.seq (.seq .go (.sub (.frag (yB k)))) (.seq (.seq .go (.sub (.frag (yD k)))) .go)))))))
noncomputable def Ty (k:Nat) (x:AT (BA k).ps):=fnT Try.prog (k7 k) fv Try.f43 (ab Try.f43) (a2a k) (BA k) x
theorem a1z (k:Nat) (x:AT (BA k).ps):(BA k).impl x=(Ty k x).eval∧(Ty k x).left=(Ty k x).right:=⟨by kernel_rfl,by kernel_rfl⟩
theorem v43 (k:Nat):ai Try.prog 43∧aB Try.prog 43 (BA k) :=
 aS (n:=fv) (fn:=Try.f43) (p:=(a2a k)) (gJ k) (by kernel_rfl) (aG (L:=[(yr k,O9),(yu k,Pa),(yB k,Pf),(yD k,Pg)]) (by kernel_rfl) (.cons (Ph k) (.cons (Pi k) (.cons (Pl k) (.cons (Pm k) .nil))))) (a1z k)
def nn (k:Nat):Nat→Int→TY3→Option ((Unit×Unit)⊕fa)
 |0,_,_=>none
 |n+1,t3,c1 =>
  let x4:=(decide (t3<(length c1.2.2.2.2.1:Int)))
  bif x4 then
  if 0≤t3∧t3<(length c1.2.2.2.2.1:Int) then
  let x5:=(getD c1.2.2.2.2.1 (toNat t3) (([]:(List Int)),(([]:(List Int)),(([]:(List Int)),(([]:cA),((0:Int),()))))))
  (F43 k x5).bind fun r6 =>
  bif r6.1.1 then
  some (.inr ((false,()),()))
  else
  (nn k n (wrap .i64 (t3+(1:Int))) c1).bind some
  else none
  else
  some (.inl ((),()))
def qC:aE:=⟨[],[(1,.ptr 1 []),(3,.val (.int .i64))],[(1,some 33,KD0)]⟩
def yE (k m:Nat) (v:qC.V):=nn k m v.1.1 v.2.1
def yF (k:Nat):aL:=⟨qC,[(.exit 0,⟨[],[],[]⟩),(.ret,⟨[],[(2,.val .bool)],[]⟩)],yE k k⟩
def F16 (k:Nat) (a0:TY3):Option fa :=
 (nn k k (0:Int) a0).bind fun r7 =>
 match r7 with
 |.inl r8 =>
  some ((true,()),())
 |.inr r8 =>
  some ((r8.1.1,()),())
def BB (k:Nat):ap:=⟨[.val KD0],[.val .bool],fun x=>F16 k x.1⟩
def Dw:Lim:=⟨17,1,false,false,[],[]⟩
def L2 (k:Nat):Nat→Option ap:=aW [(43,BA k)]
noncomputable def Pn:Code:=ac (ab Try.f16) [.r,.l,.r,.s]
noncomputable def a3a:Code:=ac (ab Try.f16) [.r,.l,.r,.s,.b]
noncomputable def co16:Code:=ac (ab Try.f16) []
theorem Gl (k:Nat):aR Try.prog (L2 k):=ah (v43 k) (aD)
noncomputable def Gm (k m:Nat) (v:qC.V):=body Try.prog (ao Try.prog (L2 k) Dw) .go a3a (qC.st v) (aH (yF k) (yE k m))
theorem a4a (k m:Nat) (v:qC.V):yE k (m+1) v=(Gm k m v).eval∧(Gm k m v).left=(Gm k m v).right:=⟨by kernel_rfl,by kernel_rfl⟩
theorem Po (k:Nat):aC Try.prog Dw (yF k) Pn :=
 am (by kernel_rfl) (aA (Gl k) (aj _) (yE k) k (fun _=>rfl) (fun _=>rfl) (a4a k))
def a5a (k:Nat):aO:=(.seq .go (.seq (.seq .go (.sub (.frag (yF k)))) .go))
noncomputable def Tz (k:Nat) (x:AT (BB k).ps):=fnT Try.prog (L2 k) Dw Try.f16 (ab Try.f16) (a5a k) (BB k) x
theorem a2z (k:Nat) (x:AT (BB k).ps):(BB k).impl x=(Tz k x).eval∧(Tz k x).left=(Tz k x).right:=⟨by kernel_rfl,by kernel_rfl⟩
theorem v16 (k:Nat):ai Try.prog 16∧aB Try.prog 16 (BB k) :=
 aS (n:=Dw) (fn:=Try.f16) (p:=(a5a k)) (Gl k) (by kernel_rfl) (aG (L:=[(yF k,Pn)]) (by kernel_rfl) (.cons (Po k) .nil)) (a2z k)
def F76 (k:Nat) (a0:aQ) (a1:(List (List Bool))) (a2:Int) (a3:Int):Option fa :=
 if 0≤a2∧a2<(length a0.1:Int) then
 let x1:=(decide ((getD a0.1 (toNat a2) (0:Int))<(0:Int)))
 bif x1 then
 some ((true,()),())
 else
 if 0≤a2∧a2<(length a0.1:Int) then
 if 0≤(getD a0.1 (toNat a2) (0:Int))∧(getD a0.1 (toNat a2) (0:Int))<(length a1:Int) then
 let x2:=(getD a1 (toNat (getD a0.1 (toNat a2) (0:Int))) ([]:(List Bool)))
 if 0≤a3∧a3<(length x2:Int) then
 some (((getD x2 (toNat a3) false),()),())
 else none
 else none
 else none
 else none
def BC (k:Nat):ap:=⟨[.val ba,.val bJ,.val (.int .i64),.val (.int .i64)],[.val .bool],fun x=>F76 k x.1 x.2.1 x.2.2.1 x.2.2.2.1⟩
def Vv:Lim:=⟨28,4,false,false,[],[]⟩
def Vw (k:Nat):Nat→Option ap:=aW []
noncomputable def co76:Code:=ac (ab Try.f76) []
theorem TA (k:Nat):aR Try.prog (Vw k):=aD
noncomputable def TB (k:Nat) (x:AT (BC k).ps):=fnT Try.prog (Vw k) Vv Try.f76 (ab Try.f76) .go (BC k) x
theorem a3z (k:Nat) (x:AT (BC k).ps):(BC k).impl x=(TB k x).eval∧(TB k x).left=(TB k x).right:=⟨by kernel_rfl,by kernel_rfl⟩
theorem v76 (k:Nat):ai Try.prog 76∧aB Try.prog 76 (BC k) :=
 aS (n:=Vv) (fn:=Try.f76) (p:=.go) (TA k) (by kernel_rfl) (aj _) (a3z k)
def np (k:Nat):Nat→bR→(List (List Bool))→(List (List Bool))→Int→Int→Int→aQ→(List Bool)→(List (List Bool))→Option ((Xh×(aQ×(List Bool)×(List (List Bool))×Unit)))
 |0,_,_,_,_,_,_,_,_,_=>none
 |n+1,t0,t1,t2,t3,t10,t13,c11,c29,e0 =>
  let x4:=(decide (t13<(length c29:Int)))
  bif x4 then
  (F76 k c11 t1 t13 t3).bind fun r5 =>
  bif r5.1.1 then
  if 0≤t13∧t13<(length c11.2.2.1:Int) then
  let x6:=(getD c11.2.2.1 (toNat t13) (0:Int))
  if 0≤t13∧t13<(length c29:Int) then
  let x7:=(List.set c29 (toNat t13) (decide (x6<(1152921504606846976:Int))))
  (np k n t0 t1 t2 t3 t10 (wrap .i64 (t13+(1:Int))) c11 x7 e0).bind some
  else none
  else none
  else
  if 0≤t13∧t13<(length c29:Int) then
  (np k n t0 t1 t2 t3 t10 (wrap .i64 (t13+(1:Int))) c11 (List.set c29 (toNat t13) false) e0).bind some
  else none
  else
  some ((t0,t1,t2,t3,t10,()),(c11,c29,e0,()))
def qD:aE:=⟨[(9,bp)],[(0,.val cd),(1,.val bJ),(2,.val bJ),(3,.val (.int .i64)),(9,.at 2000009 []),(10,.val (.int .i64)),(11,.ptr 11 []),(12,.at 29 []),(13,.val (.int .i64))],[(11,some 81,ba),(29,none,b5),(2000009,none,bp)]⟩
def yG (k m:Nat) (v:qD.V):=np k m v.1.1 v.1.2.1 v.1.2.2.1 v.1.2.2.2.1 v.1.2.2.2.2.1 v.1.2.2.2.2.2.1 v.2.1 v.2.2.1 v.2.2.2.1
def yH (k:Nat):aL:=⟨qD,[(.exit 2,⟨[],[(0,.val cd),(1,.val bJ),(2,.val bJ),(3,.val (.int .i64)),(9,.at 2000009 []),(10,.val (.int .i64)),(11,.ptr 11 []),(12,.at 29 [])],[(11,some 81,ba),(29,none,b5),(2000009,none,bp)]⟩)],yG k k⟩
def k8 (k:Nat):Nat→bR→(List (List Bool))→(List (List Bool))→Int→Int→Int→aQ→(List Bool)→(List (List Bool))→Option ((Xh×((List Bool)×(List (List Bool))×Unit)))
 |0,_,_,_,_,_,_,_,_,_=>none
 |n+1,t0,t1,t2,t3,t10,t14,c11,c29,e0 =>
  let x17:=(decide (t14<(length c11.2.2.2.1:Int)))
  bif x17 then
  if 0≤t14∧t14<(length c11.2.2.2.1:Int) then
  let x18:=(getD c11.2.2.2.1 (toNat t14) ((0:Int),((0:Int),((0:Int),()))))
  (F76 k c11 t1 x18.1 t3).bind fun r19 =>
  bif r19.1.1 then
  if 0≤t10∧t10<(length t2:Int) then
  let x20:=(getD t2 (toNat t10) ([]:(List Bool)))
  if 0≤x18.2.1∧x18.2.1<(length x20:Int) then
  bif (getD x20 (toNat x18.2.1) false) then
  if 0≤x18.1∧x18.1<(length c29:Int) then
  (k8 k n t0 t1 t2 t3 t10 (wrap .i64 (t14+(1:Int))) c11 (List.set c29 (toNat x18.1) true) e0).bind some
  else none
  else
  (k8 k n t0 t1 t2 t3 t10 (wrap .i64 (t14+(1:Int))) c11 c29 e0).bind some
  else none
  else none
  else
  (k8 k n t0 t1 t2 t3 t10 (wrap .i64 (t14+(1:Int))) c11 c29 e0).bind some
  else none
  else
  some ((t0,t1,t2,t3,t10,()),(c29,e0,()))
def qE:aE:=⟨[(9,bp)],[(0,.val cd),(1,.val bJ),(2,.val bJ),(3,.val (.int .i64)),(9,.at 2000009 []),(10,.val (.int .i64)),(11,.ptr 11 []),(12,.at 29 []),(14,.val (.int .i64))],[(11,some 81,ba),(29,none,b5),(2000009,none,bp)]⟩
def yI (k m:Nat) (v:qE.V):=k8 k m v.1.1 v.1.2.1 v.1.2.2.1 v.1.2.2.2.1 v.1.2.2.2.2.1 v.1.2.2.2.2.2.1 v.2.1 v.2.2.1 v.2.2.2.1
def yJ (k:Nat):aL:=⟨qE,[(.exit 4,⟨[],[(0,.val cd),(1,.val bJ),(2,.val bJ),(3,.val (.int .i64)),(9,.at 2000009 []),(10,.val (.int .i64)),(12,.at 29 [])],[(29,none,b5),(2000009,none,bp)]⟩)],yI k k⟩
def tw (k:Nat):Nat→bR→(List (List Bool))→(List (List Bool))→Int→Int→(List (List Bool))→Option ((Unit×EP))
 |0,_,_,_,_,_,_=>none
 |n+1,t0,t1,t2,t3,t10,e0 =>
  let x1:=(decide (t10<(length t0:Int)))
  bif x1 then
  if 0≤t10∧t10<(length t0:Int) then
  let x2:=(getD t0 (toNat t10) (([]:(List Int)),(([]:(List Int)),(([]:(List Int)),(([]:cA),((0:Int),()))))))
  if (0≤(length x2.1:Int)∧(length x2.1:Int)<(length x2.1:Int)+1)∧(length x2.1:Int)≤9223372036854775807∧((1:Nat):Int)*(length x2.1:Int)≤281474976710656 then
  let x3:=(replicate (toNat (length x2.1:Int)) false)
  (np k k t0 t1 t2 t3 t10 (0:Int) x2 x3 e0).bind fun r8 =>
  (k8 k k r8.1.1 r8.1.2.1 r8.1.2.2.1 r8.1.2.2.2.1 r8.1.2.2.2.2.1 (0:Int) r8.2.1 r8.2.2.1 r8.2.2.2.1).bind fun r21 =>
  if (length r21.2.2.1+length [r21.2.1])*(24*2)≤281474976710656∧length r21.2.2.1+length [r21.2.1]≤9223372036854775807 then
  (tw k n r21.1.1 r21.1.2.1 r21.1.2.2.1 r21.1.2.2.2.1 (wrap .i64 (r21.1.2.2.2.2.1+(1:Int))) (r21.2.2.1++[r21.2.1])).bind some
  else none
  else none
  else none
  else
  some ((),(e0,()))
def qF:aE:=⟨[(9,bp)],[(0,.val cd),(1,.val bJ),(2,.val bJ),(3,.val (.int .i64)),(9,.at 2000009 []),(10,.val (.int .i64))],[(2000009,none,bp)]⟩
def yK (k m:Nat) (v:qF.V):=tw k m v.1.1 v.1.2.1 v.1.2.2.1 v.1.2.2.2.1 v.1.2.2.2.2.1 v.2.1
def yL (k:Nat):aL:=⟨qF,[(.exit 0,⟨[(9,bp)],[(9,.at 2000009 [])],[(2000009,none,bp)]⟩)],yK k k⟩
def F44 (k:Nat) (a0:bR) (a1:(List (List Bool))) (a2:(List (List Bool))) (a3:Int):Option (EP×Unit) :=
 (tw k k a0 a1 a2 a3 (0:Int) []).bind fun r29 =>
 some ((r29.2.1,()),())
def BD (k:Nat):ap:=⟨[.val cd,.val bJ,.val bJ,.val (.int .i64)],[.own bp],fun x=>F44 k x.1 x.2.1 x.2.2.1 x.2.2.2.1⟩
def k9:Lim:=⟨89,4,false,false,[],[]⟩
def yM (k:Nat):Nat→Option ap:=aW [(76,BC k)]
noncomputable def Pp:Code:=ac (ab Try.f44) [.r,.r,.l,.r,.s,.b,.r,.l,.s,.r,.r,.l,.r,.s]
noncomputable def a6a:Code:=ac (ab Try.f44) [.r,.r,.l,.r,.s,.b,.r,.l,.s,.r,.r,.l,.r,.s,.b]
noncomputable def Pq:Code:=ac (ab Try.f44) [.r,.r,.l,.r,.s,.b,.r,.l,.s,.r,.r,.r,.l,.r,.s]
noncomputable def a7a:Code:=ac (ab Try.f44) [.r,.r,.l,.r,.s,.b,.r,.l,.s,.r,.r,.r,.l,.r,.s,.b]
noncomputable def Pr:Code:=ac (ab Try.f44) [.r,.r,.l,.r,.s]
noncomputable def a8a:Code:=ac (ab Try.f44) [.r,.r,.l,.r,.s,.b]
noncomputable def co44:Code:=ac (ab Try.f44) []
theorem nu (k:Nat):aR Try.prog (yM k):=ah (v76 k) (aD)
noncomputable def Gn (k m:Nat) (v:qD.V):=body Try.prog (ao Try.prog (yM k) k9) .go a6a (qD.st v) (aH (yH k) (yG k m))
theorem a9a (k m:Nat) (v:qD.V):yG k (m+1) v=(Gn k m v).eval∧(Gn k m v).left=(Gn k m v).right:=⟨by kernel_rfl,by kernel_rfl⟩
theorem Ps (k:Nat):aC Try.prog k9 (yH k) Pp :=
 am (by kernel_rfl) (aA (nu k) (aj _) (yG k) k (fun _=>rfl) (fun _=>rfl) (a9a k))
noncomputable def Gp (k m:Nat) (v:qE.V):=body Try.prog (ao Try.prog (yM k) k9) .go a7a (qE.st v) (aH (yJ k) (yI k m))
theorem a0b (k m:Nat) (v:qE.V):yI k (m+1) v=(Gp k m v).eval∧(Gp k m v).left=(Gp k m v).right:=⟨by kernel_rfl,by kernel_rfl⟩
theorem Pt (k:Nat):aC Try.prog k9 (yJ k) Pq :=
 am (by kernel_rfl) (aA (nu k) (aj _) (yI k) k (fun _=>rfl) (fun _=>rfl) (a0b k))
def a1b (k:Nat):aO:=(.seq .go (.seq (.sub (.seq .go (.seq .go (.seq (.seq .go (.sub (.frag (yH k)))) (.seq (.seq .go (.sub (.frag (yJ k)))) .go))))) .go))
noncomputable def Gq (k m:Nat) (v:qF.V):=body Try.prog (ao Try.prog (yM k) k9) (a1b k) a8a (qF.st v) (aH (yL k) (yK k m))
theorem a2b (k m:Nat) (v:qF.V):yK k (m+1) v=(Gq k m v).eval∧(Gq k m v).left=(Gq k m v).right:=⟨by kernel_rfl,by kernel_rfl⟩
theorem Pu (k:Nat):aC Try.prog k9 (yL k) Pr :=
 am (by kernel_rfl) (aA (nu k) (aG (L:=[(yH k,Pp),(yJ k,Pq)]) (by kernel_rfl) (.cons (Ps k) (.cons (Pt k) .nil))) (yK k) k (fun _=>rfl) (fun _=>rfl) (a2b k))
def a3b (k:Nat):aO:=(.seq .go (.seq .go (.seq (.seq .go (.sub (.frag (yL k)))) .go)))
noncomputable def TD (k:Nat) (x:AT (BD k).ps):=fnT Try.prog (yM k) k9 Try.f44 (ab Try.f44) (a3b k) (BD k) x
theorem a4z (k:Nat) (x:AT (BD k).ps):(BD k).impl x=(TD k x).eval∧(TD k x).left=(TD k x).right:=⟨by kernel_rfl,by kernel_rfl⟩
theorem v44 (k:Nat):ai Try.prog 44∧aB Try.prog 44 (BD k) :=
 aS (n:=k9) (fn:=Try.f44) (p:=(a3b k)) (nu k) (by kernel_rfl) (aG (L:=[(yL k,Pr)]) (by kernel_rfl) (.cons (Pu k) .nil)) (a4z k)
def tx (k:Nat):Nat→(List Bool)→(List Bool)→Int→Option ((Unit×Unit)⊕fa)
 |0,_,_,_=>none
 |n+1,t0,t1,t5 =>
  let x4:=(decide (t5<(length t0:Int)))
  bif x4 then
  if 0≤t5∧t5<(length t0:Int) then
  if 0≤t5∧t5<(length t1:Int) then
  let x5:=(!((getD t0 (toNat t5) false)==(getD t1 (toNat t5) false)))
  bif x5 then
  some (.inr ((false,()),()))
  else
  (tx k n t0 t1 (wrap .i64 (t5+(1:Int)))).bind some
  else none
  else none
  else
  some (.inl ((),()))
def qG:aE:=⟨[],[(0,.val uM),(1,.val uM),(5,.val (.int .i64))],[]⟩
def yN (k m:Nat) (v:qG.V):=tx k m v.1.1 v.1.2.1 v.1.2.2.1
def yO (k:Nat):aL:=⟨qG,[(.exit 0,⟨[],[],[]⟩),(.ret,⟨[],[(4,.val .bool)],[]⟩)],yN k k⟩
def F47 (k:Nat) (a0:(List Bool)) (a1:(List Bool)):Option fa :=
 let x1:=((length a0:Int) != (length a1:Int))
 bif x1 then
 some ((false,()),())
 else
 (tx k k a0 a1 (0:Int)).bind fun r6 =>
 match r6 with
 |.inl r7 =>
  some ((true,()),())
 |.inr r7 =>
  some ((r7.1.1,()),())
def vh (k:Nat):ap:=⟨[.val uM,.val uM],[.val .bool],fun x=>F47 k x.1 x.2.1⟩
def Dx:Lim:=⟨26,2,false,false,[],[]⟩
def L3 (k:Nat):Nat→Option ap:=aW []
noncomputable def Pv:Code:=ac (ab Try.f47) [.r,.r,.l,.r,.s]
noncomputable def a4b:Code:=ac (ab Try.f47) [.r,.r,.l,.r,.s,.b]
noncomputable def co47:Code:=ac (ab Try.f47) []
theorem Gr (k:Nat):aR Try.prog (L3 k):=aD
noncomputable def Gs (k m:Nat) (v:qG.V):=body Try.prog (ao Try.prog (L3 k) Dx) .go a4b (qG.st v) (aH (yO k) (yN k m))
theorem a5b (k m:Nat) (v:qG.V):yN k (m+1) v=(Gs k m v).eval∧(Gs k m v).left=(Gs k m v).right:=⟨by kernel_rfl,by kernel_rfl⟩
theorem Pw (k:Nat):aC Try.prog Dx (yO k) Pv :=
 am (by kernel_rfl) (aA (Gr k) (aj _) (yN k) k (fun _=>rfl) (fun _=>rfl) (a5b k))
def a6b (k:Nat):aO:=(.seq .go (.seq .go (.seq (.seq .go (.sub (.frag (yO k)))) .go)))
noncomputable def TE (k:Nat) (x:AT (vh k).ps):=fnT Try.prog (L3 k) Dx Try.f47 (ab Try.f47) (a6b k) (vh k) x
theorem a5z (k:Nat) (x:AT (vh k).ps):(vh k).impl x=(TE k x).eval∧(TE k x).left=(TE k x).right:=⟨by kernel_rfl,by kernel_rfl⟩
theorem v47 (k:Nat):ai Try.prog 47∧aB Try.prog 47 (vh k) :=
 aS (n:=Dx) (fn:=Try.f47) (p:=(a6b k)) (Gr k) (by kernel_rfl) (aG (L:=[(yO k,Pv)]) (by kernel_rfl) (.cons (Pw k) .nil)) (a5z k)
def tz (k:Nat):Nat→(List (List Bool))→(List (List Bool))→Int→Option ((Unit×Unit)⊕fa)
 |0,_,_,_=>none
 |n+1,t0,t1,t5 =>
  let x5:=(decide (t5<(length t0:Int)))
  bif x5 then
  if 0≤t5∧t5<(length t0:Int) then
  let x6:=(getD t0 (toNat t5) ([]:(List Bool)))
  if 0≤t5∧t5<(length t1:Int) then
  let x7:=(getD t1 (toNat t5) ([]:(List Bool)))
  (F47 k x6 x7).bind fun r8 =>
  bif (!r8.1.1) then
  some (.inr ((false,()),()))
  else
  (tz k n t0 t1 (wrap .i64 (t5+(1:Int)))).bind some
  else none
  else none
  else
  some (.inl ((),()))
def qH:aE:=⟨[],[(0,.val bJ),(1,.val bJ),(5,.val (.int .i64))],[]⟩
def yP (k m:Nat) (v:qH.V):=tz k m v.1.1 v.1.2.1 v.1.2.2.1
def yQ (k:Nat):aL:=⟨qH,[(.exit 0,⟨[],[],[]⟩),(.ret,⟨[],[(4,.val .bool)],[]⟩)],yP k k⟩
def F45 (k:Nat) (a0:(List (List Bool))) (a1:(List (List Bool))):Option fa :=
 (tz k k a0 a1 (0:Int)).bind fun r9 =>
 match r9 with
 |.inl r10 =>
  some ((true,()),())
 |.inr r10 =>
  some ((r10.1.1,()),())
def BE (k:Nat):ap:=⟨[.val bJ,.val bJ],[.val .bool],fun x=>F45 k x.1 x.2.1⟩
def Dy:Lim:=⟨22,2,false,false,[],[]⟩
def L4 (k:Nat):Nat→Option ap:=aW [(47,vh k)]
noncomputable def Px:Code:=ac (ab Try.f45) [.r,.l,.r,.s]
noncomputable def a7b:Code:=ac (ab Try.f45) [.r,.l,.r,.s,.b]
noncomputable def co45:Code:=ac (ab Try.f45) []
theorem Gt (k:Nat):aR Try.prog (L4 k):=ah (v47 k) (aD)
noncomputable def Gu (k m:Nat) (v:qH.V):=body Try.prog (ao Try.prog (L4 k) Dy) .go a7b (qH.st v) (aH (yQ k) (yP k m))
theorem a8b (k m:Nat) (v:qH.V):yP k (m+1) v=(Gu k m v).eval∧(Gu k m v).left=(Gu k m v).right:=⟨by kernel_rfl,by kernel_rfl⟩
theorem Py (k:Nat):aC Try.prog Dy (yQ k) Px :=
 am (by kernel_rfl) (aA (Gt k) (aj _) (yP k) k (fun _=>rfl) (fun _=>rfl) (a8b k))
def a9b (k:Nat):aO:=(.seq .go (.seq (.seq .go (.sub (.frag (yQ k)))) .go))
noncomputable def TF (k:Nat) (x:AT (BE k).ps):=fnT Try.prog (L4 k) Dy Try.f45 (ab Try.f45) (a9b k) (BE k) x
theorem a6z (k:Nat) (x:AT (BE k).ps):(BE k).impl x=(TF k x).eval∧(TF k x).left=(TF k x).right:=⟨by kernel_rfl,by kernel_rfl⟩
theorem v45 (k:Nat):ai Try.prog 45∧aB Try.prog 45 (BE k) :=
 aS (n:=Dy) (fn:=Try.f45) (p:=(a9b k)) (Gt k) (by kernel_rfl) (aG (L:=[(yQ k,Px)]) (by kernel_rfl) (.cons (Py k) .nil)) (a6z k)
def lc (k:Nat):Nat→bR→(List (List Bool))→Int→Bool→Int→(List Bool)→Option (((bR×(List (List Bool))×Int×Bool×Unit)×((List Bool)×Unit)))
 |0,_,_,_,_,_,_=>none
 |n+1,t0,t1,t6,t7,t8,e0 =>
  if 0≤t6∧t6<(length t1:Int) then
  let x4:=(getD t1 (toNat t6) ([]:(List Bool)))
  let x5:=(decide (t8<(length x4:Int)))
  bif x5 then
  bif t7 then
  (lc k n t0 t1 t6 true (wrap .i64 (t8+(1:Int))) e0).bind some
  else
  if 0≤t6∧t6<(length t1:Int) then
  let x6:=(getD t1 (toNat t6) ([]:(List Bool)))
  if 0≤t8∧t8<(length x6:Int) then
  bif (getD x6 (toNat t8) false) then
  if 0≤t6∧t6<(length t0:Int) then
  let x7:=(getD t0 (toNat t6) (([]:(List Int)),(([]:(List Int)),(([]:(List Int)),(([]:cA),((0:Int),()))))))
  if 0≤t8∧t8<(length x7.2.1:Int) then
  let x8:=(decide ((getD x7.2.1 (toNat t8) (0:Int))<(1152921504606846976:Int)))
  (lc k n t0 t1 t6 x8 (wrap .i64 (t8+(1:Int))) e0).bind some
  else none
  else none
  else
  (lc k n t0 t1 t6 false (wrap .i64 (t8+(1:Int))) e0).bind some
  else none
  else none
  else
  some ((t0,t1,t6,t7,()),(e0,()))
  else none
def qI:aE:=⟨[(5,b5)],[(0,.val cd),(1,.val bJ),(5,.at 2000005 []),(6,.val (.int .i64)),(7,.val .bool),(8,.val (.int .i64))],[(2000005,none,b5)]⟩
def yR (k m:Nat) (v:qI.V):=lc k m v.1.1 v.1.2.1 v.1.2.2.1 v.1.2.2.2.1 v.1.2.2.2.2.1 v.2.1
def yS (k:Nat):aL:=⟨qI,[(.exit 2,⟨[],[(0,.val cd),(1,.val bJ),(5,.at 2000005 []),(6,.val (.int .i64)),(7,.val .bool)],[(2000005,none,b5)]⟩)],yR k k⟩
def tA (k:Nat):Nat→bR→(List (List Bool))→Int→(List Bool)→Option ((Unit×((List Bool)×Unit)))
 |0,_,_,_,_=>none
 |n+1,t0,t1,t6,e0 =>
  let x1:=(decide (t6<(length t0:Int)))
  bif x1 then
  if 0≤t6∧t6<(length t0:Int) then
  let x2:=(getD t0 (toNat t6) (([]:(List Int)),(([]:(List Int)),(([]:(List Int)),(([]:cA),((0:Int),()))))))
  let x3:=(decide (x2.2.2.2.2.1<(1152921504606846976:Int)))
  (lc k k t0 t1 t6 x3 (0:Int) e0).bind fun r9 =>
  let y13:=r9.1.2.2.2.1
  if (length r9.2.1+length (List.set (replicate 1 false) 0 y13))*(1*2)≤281474976710656∧length r9.2.1+length (List.set (replicate 1 false) 0 y13)≤9223372036854775807 then
  let x15:=(r9.2.1++(List.set (replicate 1 false) 0 y13))
  (tA k n r9.1.1 r9.1.2.1 (wrap .i64 (r9.1.2.2.1+(1:Int))) x15).bind some
  else none
  else none
  else
  some ((),(e0,()))
def qJ:aE:=⟨[(5,b5)],[(0,.val cd),(1,.val bJ),(5,.at 2000005 []),(6,.val (.int .i64))],[(2000005,none,b5)]⟩
def yT (k m:Nat) (v:qJ.V):=tA k m v.1.1 v.1.2.1 v.1.2.2.1 v.2.1
def yU (k:Nat):aL:=⟨qJ,[(.exit 0,⟨[(5,b5)],[(5,.at 2000005 [])],[(2000005,none,b5)]⟩)],yT k k⟩
def F46 (k:Nat) (a0:bR) (a1:(List (List Bool))):Option (((List Bool)×Unit)×Unit) :=
 (tA k k a0 a1 (0:Int) []).bind fun r16 =>
 some ((r16.2.1,()),())
def BF (k:Nat):ap:=⟨[.val cd,.val bJ],[.own b5],fun x=>F46 k x.1 x.2.1⟩
def tB:Lim:=⟨56,2,false,false,[],[]⟩
def Dz (k:Nat):Nat→Option ap:=aW []
noncomputable def Pz:Code:=ac (ab Try.f46) [.r,.r,.l,.r,.s,.b,.r,.l,.s,.r,.l,.r,.s]
noncomputable def a0c:Code:=ac (ab Try.f46) [.r,.r,.l,.r,.s,.b,.r,.l,.s,.r,.l,.r,.s,.b]
noncomputable def PA:Code:=ac (ab Try.f46) [.r,.r,.l,.r,.s]
noncomputable def a1c:Code:=ac (ab Try.f46) [.r,.r,.l,.r,.s,.b]
noncomputable def co46:Code:=ac (ab Try.f46) []
theorem vi (k:Nat):aR Try.prog (Dz k):=aD
noncomputable def Gv (k m:Nat) (v:qI.V):=body Try.prog (ao Try.prog (Dz k) tB) .go a0c (qI.st v) (aH (yS k) (yR k m))
theorem a2c (k m:Nat) (v:qI.V):yR k (m+1) v=(Gv k m v).eval∧(Gv k m v).left=(Gv k m v).right:=⟨by kernel_rfl,by kernel_rfl⟩
theorem PB (k:Nat):aC Try.prog tB (yS k) Pz :=
 am (by kernel_rfl) (aA (vi k) (aj _) (yR k) k (fun _=>rfl) (fun _=>rfl) (a2c k))
def a3c (k:Nat):aO:=(.seq .go (.seq (.sub (.seq .go (.seq (.seq .go (.sub (.frag (yS k)))) .go))) .go))
noncomputable def Gw (k m:Nat) (v:qJ.V):=body Try.prog (ao Try.prog (Dz k) tB) (a3c k) a1c (qJ.st v) (aH (yU k) (yT k m))
theorem a4c (k m:Nat) (v:qJ.V):yT k (m+1) v=(Gw k m v).eval∧(Gw k m v).left=(Gw k m v).right:=⟨by kernel_rfl,by kernel_rfl⟩
theorem PC (k:Nat):aC Try.prog tB (yU k) PA :=
 am (by kernel_rfl) (aA (vi k) (aG (L:=[(yS k,Pz)]) (by kernel_rfl) (.cons (PB k) .nil)) (yT k) k (fun _=>rfl) (fun _=>rfl) (a4c k))
def a5c (k:Nat):aO:=(.seq .go (.seq .go (.seq (.seq .go (.sub (.frag (yU k)))) .go)))
noncomputable def TG (k:Nat) (x:AT (BF k).ps):=fnT Try.prog (Dz k) tB Try.f46 (ab Try.f46) (a5c k) (BF k) x
theorem a7z (k:Nat) (x:AT (BF k).ps):(BF k).impl x=(TG k x).eval∧(TG k x).left=(TG k x).right:=⟨by kernel_rfl,by kernel_rfl⟩
theorem v46 (k:Nat):ai Try.prog 46∧aB Try.prog 46 (BF k) :=
 aS (n:=tB) (fn:=Try.f46) (p:=(a5c k)) (vi k) (by kernel_rfl) (aG (L:=[(yU k,PA)]) (by kernel_rfl) (.cons (PC k) .nil)) (a7z k)
def tC (k:Nat):Nat→bR→(List (List Bool))→Int→Int→Int→dK→(List (List Bool))→Option (((bR×(List (List Bool))×Int×Int×Unit)×(dK×(List (List Bool))×Unit)))
 |0,_,_,_,_,_,_,_=>none
 |n+1,t0,t1,t2,t3,t12,c8,e0 =>
  let x1:=(decide (t12<(length t0:Int)))
  bif x1 then
  if 0≤t12∧t12<(length t0:Int) then
  let x2:=(getD t0 (toNat t12) (([]:(List Int)),(([]:(List Int)),(([]:(List Int)),(([]:cA),((0:Int),()))))))
  if (0≤(length x2.1:Int)∧(length x2.1:Int)<(length x2.1:Int)+1)∧(length x2.1:Int)≤9223372036854775807∧((1:Nat):Int)*(length x2.1:Int)≤281474976710656 then
  let x3:=(replicate (toNat (length x2.1:Int)) false)
  if (length e0+length [x3])*(24*2)≤281474976710656∧length e0+length [x3]≤9223372036854775807 then
  (tC k n t0 t1 t2 t3 (wrap .i64 (t12+(1:Int))) c8 (e0++[x3])).bind some
  else none
  else none
  else none
  else
  some ((t0,t1,t2,t3,()),(c8,e0,()))
def qL:aE:=⟨[(11,bp)],[(0,.val cd),(1,.val bJ),(2,.val (.int .i64)),(3,.val (.int .i64)),(8,.ptr 8 []),(11,.at 2000011 []),(12,.val (.int .i64))],[(8,some 39,eM),(2000011,none,bp)]⟩
def yV (k m:Nat) (v:qL.V):=tC k m v.1.1 v.1.2.1 v.1.2.2.1 v.1.2.2.2.1 v.1.2.2.2.2.1 v.2.1 v.2.2.1
def yW (k:Nat):aL:=⟨qL,[(.exit 0,⟨[(11,bp)],[(0,.val cd),(1,.val bJ),(2,.val (.int .i64)),(3,.val (.int .i64)),(8,.ptr 8 []),(11,.at 2000011 [])],[(8,some 39,eM),(2000011,none,bp)]⟩)],yV k k⟩
def tD (k:Nat):Nat→bR→(List (List Bool))→Int→Int→Int→Int→Int→Int→Bool→dK→dK→(List (List Bool))→(List (List (List Bool)))→(List (List Bool))→(List Int)→Option (((bR×(List (List Bool))×Int×Int×Int×Int×Int×Int×Bool×Unit)×(dK×dK×(List (List Bool))×(List (List (List Bool)))×(List (List Bool))×(List Int)×Unit)))
 |0,_,_,_,_,_,_,_,_,_,_,_,_,_,_,_=>none
 |n+1,t0,t1,t2,t3,t16,t18,t20,t53,t54,c8,c14,e0,e1,e2,e3 =>
  let x15:=(decide (t20<(length e1:Int)))
  bif x15 then
  if 0≤t20∧t20<(length e1:Int) then
  (F45 k (getD e1 (toNat t20) ([]:(List (List Bool)))) e0).bind fun r16 =>
  bif (!r16.1.1) then
  (tD k n t0 t1 t2 t3 t16 t18 (wrap .i64 (t20+(1:Int))) t53 t54 c8 c14 e0 e1 e2 e3).bind some
  else
  some ((t0,t1,t2,t3,t16,t18,t20,t53,t54,()),(c8,c14,e0,e1,e2,e3,()))
  else none
  else
  some ((t0,t1,t2,t3,t16,t18,t20,t53,t54,()),(c8,c14,e0,e1,e2,e3,()))
def qM:aE:=⟨[(13,lC),(15,bp),(17,aP)],[(0,.val cd),(1,.val bJ),(2,.val (.int .i64)),(3,.val (.int .i64)),(8,.ptr 8 []),(13,.at 2000013 []),(14,.ptr 14 []),(15,.at 2000015 []),(16,.val (.int .i64)),(17,.at 2000017 []),(18,.val (.int .i64)),(19,.at 1001104 []),(20,.val (.int .i64)),(53,.val (.int .i64)),(54,.val .bool)],[(8,some 39,eM),(14,some 39,eM),(1001104,none,bp),(2000013,none,lC),(2000015,none,bp),(2000017,none,aP)]⟩
def yX (k m:Nat) (v:qM.V):=tD k m v.1.1 v.1.2.1 v.1.2.2.1 v.1.2.2.2.1 v.1.2.2.2.2.1 v.1.2.2.2.2.2.1 v.1.2.2.2.2.2.2.1 v.1.2.2.2.2.2.2.2.1 v.1.2.2.2.2.2.2.2.2.1 v.2.1 v.2.2.1 v.2.2.2.1 v.2.2.2.2.1 v.2.2.2.2.2.1 v.2.2.2.2.2.2.1
def yY (k:Nat):aL:=⟨qM,[(.exit 6,⟨[],[(0,.val cd),(1,.val bJ),(2,.val (.int .i64)),(3,.val (.int .i64)),(8,.ptr 8 []),(13,.at 2000013 []),(14,.ptr 14 []),(15,.at 2000015 []),(16,.val (.int .i64)),(17,.at 2000017 []),(18,.val (.int .i64)),(19,.at 1001104 []),(20,.val (.int .i64)),(53,.val (.int .i64)),(54,.val .bool)],[(8,some 39,eM),(14,some 39,eM),(1001104,none,bp),(2000013,none,lC),(2000015,none,bp),(2000017,none,aP)]⟩)],yX k k⟩
def nv (k:Nat):Nat→bR→(List (List Bool))→Int→Int→Int→Int→Int→Bool→dK→dK→(List (List (List Bool)))→(List (List Bool))→(List Int)→Option (((bR×(List (List Bool))×Int×Int×Int×Int×Bool×Unit)×(dK×dK×(List (List (List Bool)))×(List (List Bool))×(List Int)×Unit)))
 |0,_,_,_,_,_,_,_,_,_,_,_,_,_=>none
 |n+1,t0,t1,t2,t3,t16,t18,t53,t54,c8,c14,e0,e1,e2 =>
  bif (decide (t18<t2)) then
  if 0≤t16∧t16<(length e0:Int) then
  (F44 k t0 t1 (getD e0 (toNat t16) ([]:(List (List Bool)))) t18).bind fun r14 =>
  (tD k k t0 t1 t2 t3 t16 t18 (0:Int) t53 t54 c8 c14 r14.1.1 e0 e1 e2).bind fun r17 =>
  let y24:=r17.1.2.2.2.2.2.2.1
  let y25:=r17.1.2.2.2.2.2.2.2.1
  let y26:=r17.1.2.2.2.2.2.2.2.2.1
  let y30:=r17.2.2.2.2.1
  let y32:=r17.2.2.2.2.2.2.1
  bif (y24==(length y30:Int)) then
  if (length y30+length [r17.2.2.2.1])*(24*2)≤281474976710656∧length y30+length [r17.2.2.2.1]≤9223372036854775807 then
  let x33:=(List.set (replicate 1 (0:Int)) 0 y24)
  if (length y32+length x33)*(8*2)≤281474976710656∧length y32+length x33≤9223372036854775807 then
  (nv k n r17.1.1 r17.1.2.1 r17.1.2.2.1 r17.1.2.2.2.1 r17.1.2.2.2.2.1 (wrap .i64 (r17.1.2.2.2.2.2.1+(1:Int))) y25 y26 r17.2.1 r17.2.2.1 (y30++[r17.2.2.2.1]) r17.2.2.2.2.2.1 (y32++x33)).bind some
  else none
  else none
  else
  let x34:=(List.set (replicate 1 (0:Int)) 0 y24)
  if (length y32+length x34)*(8*2)≤281474976710656∧length y32+length x34≤9223372036854775807 then
  (nv k n r17.1.1 r17.1.2.1 r17.1.2.2.1 r17.1.2.2.2.1 r17.1.2.2.2.2.1 (wrap .i64 (r17.1.2.2.2.2.2.1+(1:Int))) y25 y26 r17.2.1 r17.2.2.1 y30 r17.2.2.2.2.2.1 (y32++x34)).bind some
  else none
  else none
  else
  some ((t0,t1,t2,t3,t16,t53,t54,()),(c8,c14,e0,e1,e2,()))
def qN:aE:=⟨[(13,lC),(15,bp),(17,aP)],[(0,.val cd),(1,.val bJ),(2,.val (.int .i64)),(3,.val (.int .i64)),(8,.ptr 8 []),(13,.at 2000013 []),(14,.ptr 14 []),(15,.at 2000015 []),(16,.val (.int .i64)),(17,.at 2000017 []),(18,.val (.int .i64)),(53,.val (.int .i64)),(54,.val .bool)],[(8,some 39,eM),(14,some 39,eM),(2000013,none,lC),(2000015,none,bp),(2000017,none,aP)]⟩
def yZ (k m:Nat) (v:qN.V):=nv k m v.1.1 v.1.2.1 v.1.2.2.1 v.1.2.2.2.1 v.1.2.2.2.2.1 v.1.2.2.2.2.2.1 v.1.2.2.2.2.2.2.1 v.1.2.2.2.2.2.2.2.1 v.2.1 v.2.2.1 v.2.2.2.1 v.2.2.2.2.1 v.2.2.2.2.2.1
def y4 (k:Nat):aL:=⟨qN,[(.exit 4,⟨[],[(0,.val cd),(1,.val bJ),(2,.val (.int .i64)),(3,.val (.int .i64)),(8,.ptr 8 []),(13,.at 2000013 []),(14,.ptr 14 []),(15,.at 2000015 []),(16,.val (.int .i64)),(17,.at 2000017 []),(53,.val (.int .i64)),(54,.val .bool)],[(8,some 39,eM),(14,some 39,eM),(2000013,none,lC),(2000015,none,bp),(2000017,none,aP)]⟩)],yZ k k⟩
def tE (k:Nat):Nat→bR→(List (List Bool))→Int→Int→Int→Int→Int→Bool→dK→dK→(List Bool)→(List (List (List Bool)))→(List (List Bool))→(List Int)→Option (((bR×(List (List Bool))×Int×Int×Int×Int×Int×Bool×Unit)×(dK×dK×(List Bool)×(List (List (List Bool)))×(List (List Bool))×(List Int)×Unit)))
 |0,_,_,_,_,_,_,_,_,_,_,_,_,_,_=>none
 |n+1,t0,t1,t2,t3,t16,t22,t53,t54,c8,c14,e0,e1,e2,e3 =>
  let x49:=(decide (t22<(length e2:Int)))
  bif x49 then
  if 0≤t22∧t22<(length e2:Int) then
  (F47 k (getD e2 (toNat t22) ([]:(List Bool))) e0).bind fun r50 =>
  bif (!r50.1.1) then
  (tE k n t0 t1 t2 t3 t16 (wrap .i64 (t22+(1:Int))) t53 t54 c8 c14 e0 e1 e2 e3).bind some
  else
  some ((t0,t1,t2,t3,t16,t22,t53,t54,()),(c8,c14,e0,e1,e2,e3,()))
  else none
  else
  some ((t0,t1,t2,t3,t16,t22,t53,t54,()),(c8,c14,e0,e1,e2,e3,()))
def qO:aE:=⟨[(15,bp)],[(0,.val cd),(1,.val bJ),(2,.val (.int .i64)),(3,.val (.int .i64)),(8,.ptr 8 []),(13,.at 2000013 []),(14,.ptr 14 []),(15,.at 2000015 []),(16,.val (.int .i64)),(17,.at 2000017 []),(21,.at 1001632 []),(22,.val (.int .i64)),(53,.val (.int .i64)),(54,.val .bool)],[(8,some 39,eM),(14,some 39,eM),(1001632,none,b5),(2000013,none,lC),(2000015,none,bp),(2000017,none,aP)]⟩
def y5 (k m:Nat) (v:qO.V):=tE k m v.1.1 v.1.2.1 v.1.2.2.1 v.1.2.2.2.1 v.1.2.2.2.2.1 v.1.2.2.2.2.2.1 v.1.2.2.2.2.2.2.1 v.1.2.2.2.2.2.2.2.1 v.2.1 v.2.2.1 v.2.2.2.1 v.2.2.2.2.1 v.2.2.2.2.2.1 v.2.2.2.2.2.2.1
def za (k:Nat):aL:=⟨qO,[(.exit 8,⟨[],[(0,.val cd),(1,.val bJ),(2,.val (.int .i64)),(3,.val (.int .i64)),(8,.ptr 8 []),(13,.at 2000013 []),(14,.ptr 14 []),(15,.at 2000015 []),(16,.val (.int .i64)),(17,.at 2000017 []),(21,.at 1001632 []),(22,.val (.int .i64)),(53,.val (.int .i64)),(54,.val .bool)],[(8,some 39,eM),(14,some 39,eM),(1001632,none,b5),(2000013,none,lC),(2000015,none,bp),(2000017,none,aP)]⟩)],y5 k k⟩
def nw (k:Nat):Nat→bR→(List (List Bool))→Int→Int→Int→dK→dK→(List (List (List Bool)))→(List (List Bool))→Option ((Unit×(dK×dK×(List (List Bool))×Unit))⊕((Int×Unit)×(dK×Unit)))
 |0,_,_,_,_,_,_,_,_,_=>none
 |n+1,t0,t1,t2,t3,t16,c8,c14,e0,e1 =>
  let x11:=(decide (t16<(length e0:Int)))
  bif x11 then
  let x12:=(decide ((length e0:Int)>t3))
  bif x12 then
  some (.inr (((4:Int),()),((([]:(List (List Int))),(([]:(List Int)),())),())))
  else
  let x13:=(decide ((length e0:Int)>(100000:Int)))
  bif x13 then
  some (.inr (((4:Int),()),((([]:(List (List Int))),(([]:(List Int)),())),())))
  else
  (nv k k t0 t1 t2 t3 t16 (0:Int) (length e0:Int) x13 c8 c14 e0 e1 []).bind fun r35 =>
  let y40:=r35.1.2.2.2.2.1
  if 0≤y40∧y40<(length r35.2.2.2.1:Int) then
  (F46 k r35.1.1 (getD r35.2.2.2.1 (toNat y40) ([]:(List (List Bool))))).bind fun r48 =>
  (tE k k r35.1.1 r35.1.2.1 r35.1.2.2.1 r35.1.2.2.2.1 y40 (0:Int) r35.1.2.2.2.2.2.1 r35.1.2.2.2.2.2.2.1 r35.2.1 r35.2.2.1 r48.1.1 r35.2.2.2.1 r35.2.2.2.2.1 r35.2.2.2.2.2.1).bind fun r51 =>
  let y57:=r51.1.2.2.2.2.2.1
  let y61:=r51.2.2.1
  let y64:=r51.2.2.2.2.2.1
  let y65:=r51.2.2.2.2.2.2.1
  bif (y57==(length y64:Int)) then
  if (length y64+length [r51.2.2.2.1])*(24*2)≤281474976710656∧length y64+length [r51.2.2.2.1]≤9223372036854775807 then
  if (length y61.1+length [y65])*(24*2)≤281474976710656∧length y61.1+length [y65]≤9223372036854775807 then
  let x66:=(List.set (replicate 1 (0:Int)) 0 y57)
  if (length y61.2.1+length x66)*(8*2)≤281474976710656∧length y61.2.1+length x66≤9223372036854775807 then
  (nw k n r51.1.1 r51.1.2.1 r51.1.2.2.1 r51.1.2.2.2.1 (wrap .i64 (r51.1.2.2.2.2.1+(1:Int))) r51.2.1 ((y61.1++[y65]),((y61.2.1++x66),y61.2.2)) r51.2.2.2.2.1 (y64++[r51.2.2.2.1])).bind some
  else none
  else none
  else none
  else
  if (length y61.1+length [y65])*(24*2)≤281474976710656∧length y61.1+length [y65]≤9223372036854775807 then
  let x67:=(List.set (replicate 1 (0:Int)) 0 y57)
  if (length y61.2.1+length x67)*(8*2)≤281474976710656∧length y61.2.1+length x67≤9223372036854775807 then
  (nw k n r51.1.1 r51.1.2.1 r51.1.2.2.1 r51.1.2.2.2.1 (wrap .i64 (r51.1.2.2.2.2.1+(1:Int))) r51.2.1 ((y61.1++[y65]),((y61.2.1++x67),y61.2.2)) r51.2.2.2.2.1 y64).bind some
  else none
  else none
  else none
  else
  some (.inl ((),(c8,c14,e1,())))
def qP:aE:=⟨[(13,lC),(15,bp)],[(0,.val cd),(1,.val bJ),(2,.val (.int .i64)),(3,.val (.int .i64)),(8,.ptr 8 []),(13,.at 2000013 []),(14,.ptr 14 []),(15,.at 2000015 []),(16,.val (.int .i64))],[(8,some 39,eM),(14,some 39,eM),(2000013,none,lC),(2000015,none,bp)]⟩
def zb (k m:Nat) (v:qP.V):=nw k m v.1.1 v.1.2.1 v.1.2.2.1 v.1.2.2.2.1 v.1.2.2.2.2.1 v.2.1 v.2.2.1 v.2.2.2.1 v.2.2.2.2.1
def zc (k:Nat):aL:=⟨qP,[(.exit 2,⟨[(15,bp)],[(8,.ptr 8 []),(14,.ptr 14 []),(15,.at 2000015 [])],[(8,some 39,eM),(14,some 39,eM),(2000015,none,bp)]⟩),(.ret,⟨[],[(8,.ptr 8 []),(9,.nilS),(10,.val (.int .i64))],[(8,some 39,eM)]⟩)],zb k k⟩
def F17 (k:Nat) (a0:bR) (a1:(List (List Bool))) (a2:Int) (a3:Int):Option ((dK×(List (List Bool))×Int×Unit)×Unit) :=
 (tC k k a0 a1 a2 a3 (0:Int) (([]:(List (List Int))),(([]:(List Int)),())) []).bind fun r4 =>
 (nw k k r4.1.1 r4.1.2.1 r4.1.2.2.1 r4.1.2.2.2.1 (0:Int) r4.2.1 (([]:(List (List Int))),(([]:(List Int)),())) [r4.2.2.1] []).bind fun r68 =>
 match r68 with
 |.inl r69 =>
  some ((r69.2.2.1,r69.2.2.2.1,(0:Int),()),())
 |.inr r69 =>
  some ((r69.2.1,[],r69.1.1,()),())
def BG (k:Nat):ap:=⟨[.val cd,.val bJ,.val (.int .i64),.val (.int .i64)],[.own eM,.own bp,.val (.int .i64)],fun x=>F17 k x.1 x.2.1 x.2.2.1 x.2.2.2.1⟩
def gv:Lim:=⟨140,4,false,false,[],[]⟩
def ny (k:Nat):Nat→Option ap:=aW [(44,BD k),(45,BE k),(46,BF k),(47,vh k)]
noncomputable def PE:Code:=ac (ab Try.f17) [.r,.r,.l,.r,.s]
noncomputable def a6c:Code:=ac (ab Try.f17) [.r,.r,.l,.r,.s,.b]
noncomputable def PF:Code:=ac (ab Try.f17) [.r,.r,.r,.r,.r,.r,.l,.r,.s,.b,.r,.l,.s,.r,.r,.l,.r,.s,.b,.r,.l,.s,.r,.r,.l,.s]
noncomputable def a7c:Code:=ac (ab Try.f17) [.r,.r,.r,.r,.r,.r,.l,.r,.s,.b,.r,.l,.s,.r,.r,.l,.r,.s,.b,.r,.l,.s,.r,.r,.l,.s,.b]
noncomputable def PG:Code:=ac (ab Try.f17) [.r,.r,.r,.r,.r,.r,.l,.r,.s,.b,.r,.l,.s,.r,.r,.l,.r,.s]
noncomputable def a8c:Code:=ac (ab Try.f17) [.r,.r,.r,.r,.r,.r,.l,.r,.s,.b,.r,.l,.s,.r,.r,.l,.r,.s,.b]
noncomputable def PH:Code:=ac (ab Try.f17) [.r,.r,.r,.r,.r,.r,.l,.r,.s,.b,.r,.l,.s,.r,.r,.r,.r,.r,.l,.s]
noncomputable def a9c:Code:=ac (ab Try.f17) [.r,.r,.r,.r,.r,.r,.l,.r,.s,.b,.r,.l,.s,.r,.r,.r,.r,.r,.l,.s,.b]
noncomputable def PI:Code:=ac (ab Try.f17) [.r,.r,.r,.r,.r,.r,.l,.r,.s]
noncomputable def a0d:Code:=ac (ab Try.f17) [.r,.r,.r,.r,.r,.r,.l,.r,.s,.b]
noncomputable def co17:Code:=ac (ab Try.f17) []
theorem iO (k:Nat):aR Try.prog (ny k):=ah (v44 k) (ah (v45 k) (ah (v46 k) (ah (v47 k) (aD))))
noncomputable def Gx (k m:Nat) (v:qL.V):=body Try.prog (ao Try.prog (ny k) gv) .go a6c (qL.st v) (aH (yW k) (yV k m))
theorem a1d (k m:Nat) (v:qL.V):yV k (m+1) v=(Gx k m v).eval∧(Gx k m v).left=(Gx k m v).right:=⟨by kernel_rfl,by kernel_rfl⟩
theorem PJ (k:Nat):aC Try.prog gv (yW k) PE :=
 am (by kernel_rfl) (aA (iO k) (aj _) (yV k) k (fun _=>rfl) (fun _=>rfl) (a1d k))
noncomputable def Gy (k m:Nat) (v:qM.V):=body Try.prog (ao Try.prog (ny k) gv) .go a7c (qM.st v) (aH (yY k) (yX k m))
theorem a2d (k m:Nat) (v:qM.V):yX k (m+1) v=(Gy k m v).eval∧(Gy k m v).left=(Gy k m v).right:=⟨by kernel_rfl,by kernel_rfl⟩
theorem PK (k:Nat):aC Try.prog gv (yY k) PF :=
 am (by kernel_rfl) (aA (iO k) (aj _) (yX k) k (fun _=>rfl) (fun _=>rfl) (a2d k))
def a3d (k:Nat):aO:=(.seq .go (.seq (.sub (.seq .go (.seq .go (.seq (.sub (.frag (yY k))) .go)))) .go))
noncomputable def Gz (k m:Nat) (v:qN.V):=body Try.prog (ao Try.prog (ny k) gv) (a3d k) a8c (qN.st v) (aH (y4 k) (yZ k m))
theorem a4d (k m:Nat) (v:qN.V):yZ k (m+1) v=(Gz k m v).eval∧(Gz k m v).left=(Gz k m v).right:=⟨by kernel_rfl,by kernel_rfl⟩
theorem PL (k:Nat):aC Try.prog gv (y4 k) PG :=
 am (by kernel_rfl) (aA (iO k) (aG (L:=[(yY k,PF)]) (by kernel_rfl) (.cons (PK k) .nil)) (yZ k) k (fun _=>rfl) (fun _=>rfl) (a4d k))
noncomputable def GA (k m:Nat) (v:qO.V):=body Try.prog (ao Try.prog (ny k) gv) .go a9c (qO.st v) (aH (za k) (y5 k m))
theorem a5d (k m:Nat) (v:qO.V):y5 k (m+1) v=(GA k m v).eval∧(GA k m v).left=(GA k m v).right:=⟨by kernel_rfl,by kernel_rfl⟩
theorem PM (k:Nat):aC Try.prog gv (za k) PH :=
 am (by kernel_rfl) (aA (iO k) (aj _) (y5 k) k (fun _=>rfl) (fun _=>rfl) (a5d k))
def a6d (k:Nat):aO:=(.seq .go (.seq (.sub (.seq .go (.seq .go (.seq (.seq .go (.sub (.frag (y4 k)))) (.seq .go (.seq .go (.seq (.sub (.frag (za k))) .go))))))) .go))
noncomputable def GB (k m:Nat) (v:qP.V):=body Try.prog (ao Try.prog (ny k) gv) (a6d k) a0d (qP.st v) (aH (zc k) (zb k m))
theorem a7d (k m:Nat) (v:qP.V):zb k (m+1) v=(GB k m v).eval∧(GB k m v).left=(GB k m v).right:=⟨by kernel_rfl,by kernel_rfl⟩
theorem PN (k:Nat):aC Try.prog gv (zc k) PI :=
 am (by kernel_rfl) (aA (iO k) (aG (L:=[(y4 k,PG),(za k,PH)]) (by kernel_rfl) (.cons (PL k) (.cons (PM k) .nil))) (zb k) k (fun _=>rfl) (fun _=>rfl) (a7d k))
def a8d (k:Nat):aO:=(.seq .go (.seq .go (.seq (.seq .go (.sub (.frag (yW k)))) (.seq .go (.seq .go (.seq .go (.seq (.seq .go (.sub (.frag (zc k)))) .go)))))))
noncomputable def TH (k:Nat) (x:AT (BG k).ps):=fnT Try.prog (ny k) gv Try.f17 (ab Try.f17) (a8d k) (BG k) x
theorem a8z (k:Nat) (x:AT (BG k).ps):(BG k).impl x=(TH k x).eval∧(TH k x).left=(TH k x).right:=⟨by kernel_rfl,by kernel_rfl⟩
theorem v17 (k:Nat):ai Try.prog 17∧aB Try.prog 17 (BG k) :=
 aS (n:=gv) (fn:=Try.f17) (p:=(a8d k)) (iO k) (by kernel_rfl) (aG (L:=[(yW k,PE),(zc k,PI)]) (by kernel_rfl) (.cons (PJ k) (.cons (PN k) .nil))) (a8z k)
def F62 (k:Nat) (a0:Int) (a1:Int):Option bG :=
 if a1≠0 then
 bif (decide ((Int.tmod a0 a1)<(0:Int))) then
 some (((wrap .i64 ((Int.tmod a0 a1)+a1)),()),())
 else
 some (((Int.tmod a0 a1),()),())
 else none
def BH (k:Nat):ap:=⟨[.val (.int .i64),.val (.int .i64)],[.val (.int .i64)],fun x=>F62 k x.1 x.2.1⟩
def Vx:Lim:=⟨15,2,false,false,[],[]⟩
def Vy (k:Nat):Nat→Option ap:=aW []
noncomputable def co62:Code:=ac (ab Try.f62) []
theorem TI (k:Nat):aR Try.prog (Vy k):=aD
noncomputable def TJ (k:Nat) (x:AT (BH k).ps):=fnT Try.prog (Vy k) Vx Try.f62 (ab Try.f62) .go (BH k) x
theorem a9z (k:Nat) (x:AT (BH k).ps):(BH k).impl x=(TJ k x).eval∧(TJ k x).left=(TJ k x).right:=⟨by kernel_rfl,by kernel_rfl⟩
theorem v62 (k:Nat):ai Try.prog 62∧aB Try.prog 62 (BH k) :=
 aS (n:=Vx) (fn:=Try.f62) (p:=.go) (TI k) (by kernel_rfl) (aj _) (a9z k)
def tF (k:Nat):Nat→(List Int)→Int→Int→(List Int)→Option oV
 |0,_,_,_,_=>none
 |n+1,t0,t1,t6,e0 =>
  let x1:=(decide (t6<(length t0:Int)))
  bif x1 then
  bif (decide (t6<t1)) then
  let x2:=(List.set (List.set (List.set (List.set (List.set (List.set (List.set (List.set (List.set (List.set (List.set (List.set (replicate 12 (0:Int)) 0 (97:Int)) 1 (97:Int)) 2 (98:Int)) 3 (99:Int)) 4 (49:Int)) 5 (55:Int)) 6 (32:Int)) 7 (120:Int)) 8 (19969:Int)) 9 (128512:Int)) 10 (45:Int)) 11 (50:Int))
  if 0≤t6∧t6<(length t0:Int) then
  (F62 k (getD t0 (toNat t6) (0:Int)) (12:Int)).bind fun r3 =>
  if 0≤r3.1.1∧r3.1.1<(length x2:Int) then
  let x4:=(List.set (replicate 1 (0:Int)) 0 (getD x2 (toNat r3.1.1) (0:Int)))
  if (length e0+length x4)*(8*2)≤281474976710656∧length e0+length x4≤9223372036854775807 then
  (tF k n t0 t1 (wrap .i64 (t6+(1:Int))) (e0++x4)).bind some
  else none
  else none
  else none
  else
  some ((),(e0,()))
  else
  some ((),(e0,()))
def qQ:aE:=⟨[(5,aP)],[(0,.val aZ),(1,.val (.int .i64)),(5,.at 2000005 []),(6,.val (.int .i64))],[(2000005,none,aP)]⟩
def ze (k m:Nat) (v:qQ.V):=tF k m v.1.1 v.1.2.1 v.1.2.2.1 v.2.1
def zh (k:Nat):aL:=⟨qQ,[(.exit 0,⟨[(5,aP)],[(5,.at 2000005 [])],[(2000005,none,aP)]⟩)],ze k k⟩
def F23 (k:Nat) (a0:(List Int)) (a1:Int):Option kn :=
 (tF k k a0 a1 (0:Int) []).bind fun r5 =>
 some ((r5.2.1,()),())
def BI (k:Nat):ap:=⟨[.val aZ,.val (.int .i64)],[.own aP],fun x=>F23 k x.1 x.2.1⟩
def DA:Lim:=⟨30,2,false,false,[],[]⟩
def L5 (k:Nat):Nat→Option ap:=aW [(62,BH k)]
noncomputable def PO:Code:=ac (ab Try.f23) [.r,.r,.l,.r,.s]
noncomputable def a9d:Code:=ac (ab Try.f23) [.r,.r,.l,.r,.s,.b]
noncomputable def co23:Code:=ac (ab Try.f23) []
theorem GC (k:Nat):aR Try.prog (L5 k):=ah (v62 k) (aD)
noncomputable def GD (k m:Nat) (v:qQ.V):=body Try.prog (ao Try.prog (L5 k) DA) .go a9d (qQ.st v) (aH (zh k) (ze k m))
theorem a0e (k m:Nat) (v:qQ.V):ze k (m+1) v=(GD k m v).eval∧(GD k m v).left=(GD k m v).right:=⟨by kernel_rfl,by kernel_rfl⟩
theorem PP (k:Nat):aC Try.prog DA (zh k) PO :=
 am (by kernel_rfl) (aA (GC k) (aj _) (ze k) k (fun _=>rfl) (fun _=>rfl) (a0e k))
def a1e (k:Nat):aO:=(.seq .go (.seq .go (.seq (.seq .go (.sub (.frag (zh k)))) .go)))
noncomputable def TK (k:Nat) (x:AT (BI k).ps):=fnT Try.prog (L5 k) DA Try.f23 (ab Try.f23) (a1e k) (BI k) x
theorem a0A (k:Nat) (x:AT (BI k).ps):(BI k).impl x=(TK k x).eval∧(TK k x).left=(TK k x).right:=⟨by kernel_rfl,by kernel_rfl⟩
theorem v23 (k:Nat):ai Try.prog 23∧aB Try.prog 23 (BI k) :=
 aS (n:=DA) (fn:=Try.f23) (p:=(a1e k)) (GC k) (by kernel_rfl) (aG (L:=[(zh k,PO)]) (by kernel_rfl) (.cons (PP k) .nil)) (a0A k)
def tG (k:Nat):Nat→(List Int)→(List Int)→Int→Int→Option ((((List Int)×Int×Unit)×Unit))
 |0,_,_,_,_=>none
 |n+1,t0,t1,t2,t7 =>
  let x3:=(decide ((wrap .i64 (t7+(1:Int)))<(length t0:Int)))
  bif x3 then
  if 0≤(wrap .i64 (t7+(1:Int)))∧(wrap .i64 (t7+(1:Int)))<(length t0:Int) then
  let x4:=(getD t0 (toNat (wrap .i64 (t7+(1:Int)))) (0:Int))
  bif (decide (x4≤t2)) then
  (tG k n t0 t1 t2 (wrap .i64 (t7+(1:Int)))).bind some
  else
  some ((t1,t7,()),())
  else none
  else
  some ((t1,t7,()),())
def qR:aE:=⟨[],[(0,.val aZ),(1,.val aZ),(2,.val (.int .i64)),(7,.val (.int .i64))],[]⟩
def zk (k m:Nat) (v:qR.V):=tG k m v.1.1 v.1.2.1 v.1.2.2.1 v.1.2.2.2.1
def zl (k:Nat):aL:=⟨qR,[(.exit 0,⟨[],[(1,.val aZ),(7,.val (.int .i64))],[]⟩)],zk k k⟩
def F61 (k:Nat) (a0:(List Int)) (a1:(List Int)) (a2:Int):Option bG :=
 (tG k k a0 a1 a2 (0:Int)).bind fun r5 =>
 if 0≤r5.1.2.1∧r5.1.2.1<(length r5.1.1:Int) then
 some (((getD r5.1.1 (toNat r5.1.2.1) (0:Int)),()),())
 else none
def BJ (k:Nat):ap:=⟨[.val aZ,.val aZ,.val (.int .i64)],[.val (.int .i64)],fun x=>F61 k x.1 x.2.1 x.2.2.1⟩
def DB:Lim:=⟨28,3,false,false,[],[]⟩
def L6 (k:Nat):Nat→Option ap:=aW []
noncomputable def PQ:Code:=ac (ab Try.f61) [.r,.r,.l,.s]
noncomputable def a2e:Code:=ac (ab Try.f61) [.r,.r,.l,.s,.b]
noncomputable def co61:Code:=ac (ab Try.f61) []
theorem GE (k:Nat):aR Try.prog (L6 k):=aD
noncomputable def GF (k m:Nat) (v:qR.V):=body Try.prog (ao Try.prog (L6 k) DB) .go a2e (qR.st v) (aH (zl k) (zk k m))
theorem a3e (k m:Nat) (v:qR.V):zk k (m+1) v=(GF k m v).eval∧(GF k m v).left=(GF k m v).right:=⟨by kernel_rfl,by kernel_rfl⟩
theorem PR (k:Nat):aC Try.prog DB (zl k) PQ :=
 am (by kernel_rfl) (aA (GE k) (aj _) (zk k) k (fun _=>rfl) (fun _=>rfl) (a3e k))
def a4e (k:Nat):aO:=(.seq .go (.seq .go (.seq (.sub (.frag (zl k))) .go)))
noncomputable def TL (k:Nat) (x:AT (BJ k).ps):=fnT Try.prog (L6 k) DB Try.f61 (ab Try.f61) (a4e k) (BJ k) x
theorem a1A (k:Nat) (x:AT (BJ k).ps):(BJ k).impl x=(TL k x).eval∧(TL k x).left=(TL k x).right:=⟨by kernel_rfl,by kernel_rfl⟩
theorem v61 (k:Nat):ai Try.prog 61∧aB Try.prog 61 (BJ k) :=
 aS (n:=DB) (fn:=Try.f61) (p:=(a4e k)) (GE k) (by kernel_rfl) (aG (L:=[(zl k,PQ)]) (by kernel_rfl) (.cons (PR k) .nil)) (a1A k)
def nA (k:Nat):Nat→(List Int)→Int→TY3→(List Int)→Option oV
 |0,_,_,_,_=>none
 |n+1,t1,t6,c2,e0 =>
  let x1:=(decide (t6<(length t1:Int)))
  bif x1 then
  if 0≤t6∧t6<(length t1:Int) then
  (F61 k c2.2.1 c2.2.2.1 (getD t1 (toNat t6) (0:Int))).bind fun r2 =>
  let x3:=(List.set (replicate 1 (0:Int)) 0 r2.1.1)
  if (length e0+length x3)*(8*2)≤281474976710656∧length e0+length x3≤9223372036854775807 then
  (nA k n t1 (wrap .i64 (t6+(1:Int))) c2 (e0++x3)).bind some
  else none
  else none
  else
  some ((),(e0,()))
def qS:aE:=⟨[(5,aP)],[(1,.val aZ),(2,.ptr 2 []),(5,.at 2000005 []),(6,.val (.int .i64))],[(2,some 33,KD0),(2000005,none,aP)]⟩
def zm (k m:Nat) (v:qS.V):=nA k m v.1.1 v.1.2.1 v.2.1 v.2.2.1
def zn (k:Nat):aL:=⟨qS,[(.exit 0,⟨[(5,aP)],[(5,.at 2000005 [])],[(2000005,none,aP)]⟩)],zm k k⟩
def F22 (k:Nat) (a0:TY3) (a1:(List Int)):Option kn :=
 (nA k k a1 (0:Int) a0 []).bind fun r4 =>
 some ((r4.2.1,()),())
def BK (k:Nat):ap:=⟨[.val KD0,.val aZ],[.own aP],fun x=>F22 k x.1 x.2.1⟩
def DC:Lim:=⟨26,2,false,false,[],[]⟩
def L7 (k:Nat):Nat→Option ap:=aW [(61,BJ k)]
noncomputable def PS:Code:=ac (ab Try.f22) [.r,.r,.l,.r,.s]
noncomputable def a5e:Code:=ac (ab Try.f22) [.r,.r,.l,.r,.s,.b]
noncomputable def co22:Code:=ac (ab Try.f22) []
theorem GG (k:Nat):aR Try.prog (L7 k):=ah (v61 k) (aD)
noncomputable def GH (k m:Nat) (v:qS.V):=body Try.prog (ao Try.prog (L7 k) DC) .go a5e (qS.st v) (aH (zn k) (zm k m))
theorem a6e (k m:Nat) (v:qS.V):zm k (m+1) v=(GH k m v).eval∧(GH k m v).left=(GH k m v).right:=⟨by kernel_rfl,by kernel_rfl⟩
theorem PU (k:Nat):aC Try.prog DC (zn k) PS :=
 am (by kernel_rfl) (aA (GG k) (aj _) (zm k) k (fun _=>rfl) (fun _=>rfl) (a6e k))
def a7e (k:Nat):aO:=(.seq .go (.seq .go (.seq (.seq .go (.sub (.frag (zn k)))) .go)))
noncomputable def TM (k:Nat) (x:AT (BK k).ps):=fnT Try.prog (L7 k) DC Try.f22 (ab Try.f22) (a7e k) (BK k) x
theorem a2A (k:Nat) (x:AT (BK k).ps):(BK k).impl x=(TM k x).eval∧(TM k x).left=(TM k x).right:=⟨by kernel_rfl,by kernel_rfl⟩
theorem v22 (k:Nat):ai Try.prog 22∧aB Try.prog 22 (BK k) :=
 aS (n:=DC) (fn:=Try.f22) (p:=(a7e k)) (GG k) (by kernel_rfl) (aG (L:=[(zn k,PS)]) (by kernel_rfl) (.cons (PU k) .nil)) (a2A k)
def tH (k:Nat):Nat→(List Int)→Int→Int→dK→(List Int)→Option oV
 |0,_,_,_,_,_=>none
 |n+1,t1,t6,t7,c2,c11 =>
  bif (decide (t7≥(0:Int))) then
  if 0≤t6∧t6<(length c2.1:Int) then
  let x9:=(getD c2.1 (toNat t6) ([]:(List Int)))
  if 0≤t7∧t7<(length t1:Int) then
  if 0≤(getD t1 (toNat t7) (0:Int))∧(getD t1 (toNat t7) (0:Int))<(length x9:Int) then
  let x10:=(getD x9 (toNat (getD t1 (toNat t7) (0:Int))) (0:Int))
  if 0≤x10∧x10<(length c2.2.1:Int) then
  if 0≤t7∧t7<(length c11:Int) then
  let x11:=(List.set c11 (toNat t7) (getD c2.2.1 (toNat x10) (0:Int)))
  (tH k n t1 x10 (wrap .i64 (t7-(1:Int))) c2 x11).bind some
  else none
  else none
  else none
  else none
  else none
  else
  some ((),(c11,()))
def qT:aE:=⟨[],[(1,.val aZ),(2,.ptr 2 []),(5,.at 11 []),(6,.val (.int .i64)),(7,.val (.int .i64))],[(2,some 39,Xe),(11,none,aP)]⟩
def zp (k m:Nat) (v:qT.V):=tH k m v.1.1 v.1.2.1 v.1.2.2.1 v.2.1 v.2.2.1
def zq (k:Nat):aL:=⟨qT,[(.exit 0,⟨[],[(5,.at 11 [])],[(11,none,aP)]⟩)],zp k k⟩
def F24 (k:Nat) (a0:dK) (a1:(List Int)):Option kn :=
 let x1:=(wrap .i64 ((length a1:Int)+(1:Int)))
 if (0≤x1∧x1<x1+1)∧x1≤9223372036854775807∧((8:Nat):Int)*x1≤281474976710656 then
 if 0≤(0:Int)∧(0:Int)<(length a0.2.1:Int) then
 let x2:=(getD a0.2.1 (toNat (0:Int)) (0:Int))
 if 0≤(length a1:Int)∧(length a1:Int)<(length (replicate (toNat x1) (0:Int)):Int) then
 let x3:=(toNat (length a1:Int))
 let x4:=(List.set (replicate (toNat x1) (0:Int)) x3 x2)
 let x5:=(wrap .i64 ((length a1:Int)-(1:Int)))
 (tH k k a1 (0:Int) x5 a0 x4).bind fun r12 =>
 some ((r12.2.1,()),())
 else none
 else none
 else none
def BL (k:Nat):ap:=⟨[.val Xe,.val aZ],[.own aP],fun x=>F24 k x.1 x.2.1⟩
def DD:Lim:=⟨48,2,false,false,[],[]⟩
def L8 (k:Nat):Nat→Option ap:=aW []
noncomputable def PV:Code:=ac (ab Try.f24) [.r,.r,.r,.r,.l,.r,.s]
noncomputable def a8e:Code:=ac (ab Try.f24) [.r,.r,.r,.r,.l,.r,.s,.b]
noncomputable def co24:Code:=ac (ab Try.f24) []
theorem GI (k:Nat):aR Try.prog (L8 k):=aD
noncomputable def GJ (k m:Nat) (v:qT.V):=body Try.prog (ao Try.prog (L8 k) DD) .go a8e (qT.st v) (aH (zq k) (zp k m))
theorem a9e (k m:Nat) (v:qT.V):zp k (m+1) v=(GJ k m v).eval∧(GJ k m v).left=(GJ k m v).right:=⟨by kernel_rfl,by kernel_rfl⟩
theorem PW (k:Nat):aC Try.prog DD (zq k) PV :=
 am (by kernel_rfl) (aA (GI k) (aj _) (zp k) k (fun _=>rfl) (fun _=>rfl) (a9e k))
def a0f (k:Nat):aO:=(.seq .go (.seq .go (.seq .go (.seq .go (.seq (.seq .go (.sub (.frag (zq k)))) .go)))))
noncomputable def TN (k:Nat) (x:AT (BL k).ps):=fnT Try.prog (L8 k) DD Try.f24 (ab Try.f24) (a0f k) (BL k) x
theorem a3A (k:Nat) (x:AT (BL k).ps):(BL k).impl x=(TN k x).eval∧(TN k x).left=(TN k x).right:=⟨by kernel_rfl,by kernel_rfl⟩
theorem v24 (k:Nat):ai Try.prog 24∧aB Try.prog 24 (BL k) :=
 aS (n:=DD) (fn:=Try.f24) (p:=(a0f k)) (GI k) (by kernel_rfl) (aG (L:=[(zq k,PV)]) (by kernel_rfl) (.cons (PW k) .nil)) (a3A k)
def tI (k:Nat):Nat→Int→Int→Int→(List (List Int))→Option (((Int×Int×Unit)×((List (List Int))×Unit)))
 |0,_,_,_,_=>none
 |n+1,t0,t4,t5,c7 =>
  bif (decide (t5<t0)) then
  if 0≤t4∧t4<(length c7:Int) then
  if 0≤t5∧t5<(length (getD c7 (toNat t4) ([]:(List Int))):Int) then
  let x4:=(List.set c7 (toNat t4) (List.set (getD c7 (toNat t4) ([]:(List Int))) (toNat t5) (1152921504606846976:Int)))
  (tI k n t0 t4 (wrap .i64 (t5+(1:Int))) x4).bind some
  else none
  else none
  else
  some ((t0,t4,()),(c7,()))
def qU:aE:=⟨[],[(0,.val (.int .i64)),(3,.at 7 []),(4,.val (.int .i64)),(5,.val (.int .i64))],[(7,none,bj)]⟩
def zr (k m:Nat) (v:qU.V):=tI k m v.1.1 v.1.2.1 v.1.2.2.1 v.2.1
def zt (k:Nat):aL:=⟨qU,[(.exit 2,⟨[],[(0,.val (.int .i64)),(3,.at 7 []),(4,.val (.int .i64))],[(7,none,bj)]⟩)],zr k k⟩
def tJ (k:Nat):Nat→Int→Int→(List (List Int))→Option mN
 |0,_,_,_=>none
 |n+1,t0,t4,c7 =>
  bif (decide (t4<t0)) then
  if (0≤t0∧t0<t0+1)∧t0≤9223372036854775807∧((8:Nat):Int)*t0≤281474976710656 then
  if 0≤t4∧t4<(length c7:Int) then
  let x9:=(List.set c7 (toNat t4) (replicate (toNat t0) (0:Int)))
  (tI k k t0 t4 (0:Int) x9).bind fun r10 =>
  (tJ k n r10.1.1 (wrap .i64 (r10.1.2.1+(1:Int))) r10.2.1).bind some
  else none
  else none
  else
  some ((),(c7,()))
def qV:aE:=⟨[],[(0,.val (.int .i64)),(3,.at 7 []),(4,.val (.int .i64))],[(7,none,bj)]⟩
def zw (k m:Nat) (v:qV.V):=tJ k m v.1.1 v.1.2.1 v.2.1
def zx (k:Nat):aL:=⟨qV,[(.exit 0,⟨[],[(3,.at 7 [])],[(7,none,bj)]⟩)],zw k k⟩
def F82 (k:Nat) (a0:Int):Option bC :=
 if (0≤a0∧a0<a0+1)∧a0≤9223372036854775807∧((24:Nat):Int)*a0≤281474976710656 then
 let x1:=(replicate (toNat a0) ([]:(List Int)))
 (tJ k k a0 (0:Int) x1).bind fun r14 =>
 some ((r14.2.1,()),())
 else none
def nB (k:Nat):ap:=⟨[.val (.int .i64)],[.own bj],fun x=>F82 k x.1⟩
def tK:Lim:=⟨30,1,false,false,[],[]⟩
def DE (k:Nat):Nat→Option ap:=aW []
noncomputable def PX:Code:=ac (ab Try.f82) [.r,.r,.l,.r,.s,.b,.r,.l,.s,.r,.r,.s]
noncomputable def a1f:Code:=ac (ab Try.f82) [.r,.r,.l,.r,.s,.b,.r,.l,.s,.r,.r,.s,.b]
noncomputable def PY:Code:=ac (ab Try.f82) [.r,.r,.l,.r,.s]
noncomputable def a2f:Code:=ac (ab Try.f82) [.r,.r,.l,.r,.s,.b]
noncomputable def co82:Code:=ac (ab Try.f82) []
theorem vj (k:Nat):aR Try.prog (DE k):=aD
noncomputable def GK (k m:Nat) (v:qU.V):=body Try.prog (ao Try.prog (DE k) tK) .go a1f (qU.st v) (aH (zt k) (zr k m))
theorem a3f (k m:Nat) (v:qU.V):zr k (m+1) v=(GK k m v).eval∧(GK k m v).left=(GK k m v).right:=⟨by kernel_rfl,by kernel_rfl⟩
theorem PZ (k:Nat):aC Try.prog tK (zt k) PX :=
 am (by kernel_rfl) (aA (vj k) (aj _) (zr k) k (fun _=>rfl) (fun _=>rfl) (a3f k))
def a4f (k:Nat):aO:=(.seq .go (.seq (.sub (.seq .go (.seq .go (.sub (.frag (zt k)))))) .go))
noncomputable def GL (k m:Nat) (v:qV.V):=body Try.prog (ao Try.prog (DE k) tK) (a4f k) a2f (qV.st v) (aH (zx k) (zw k m))
theorem a5f (k m:Nat) (v:qV.V):zw k (m+1) v=(GL k m v).eval∧(GL k m v).left=(GL k m v).right:=⟨by kernel_rfl,by kernel_rfl⟩
theorem P0 (k:Nat):aC Try.prog tK (zx k) PY :=
 am (by kernel_rfl) (aA (vj k) (aG (L:=[(zt k,PX)]) (by kernel_rfl) (.cons (PZ k) .nil)) (zw k) k (fun _=>rfl) (fun _=>rfl) (a5f k))
def a6f (k:Nat):aO:=(.seq .go (.seq .go (.seq (.seq .go (.sub (.frag (zx k)))) .go)))
noncomputable def TO (k:Nat) (x:AT (nB k).ps):=fnT Try.prog (DE k) tK Try.f82 (ab Try.f82) (a6f k) (nB k) x
theorem a4A (k:Nat) (x:AT (nB k).ps):(nB k).impl x=(TO k x).eval∧(TO k x).left=(TO k x).right:=⟨by kernel_rfl,by kernel_rfl⟩
theorem v82 (k:Nat):ai Try.prog 82∧aB Try.prog 82 (nB k) :=
 aS (n:=tK) (fn:=Try.f82) (p:=(a6f k)) (vj k) (by kernel_rfl) (aG (L:=[(zx k,PY)]) (by kernel_rfl) (.cons (P0 k) .nil)) (a4A k)
def tL (k:Nat):Nat→Int→Int→(List (List Int))→Option mN
 |0,_,_,_=>none
 |n+1,t0,t4,e0 =>
  bif (decide (t4<t0)) then
  if 0≤t4∧t4<(length e0:Int) then
  if 0≤t4∧t4<(length (getD e0 (toNat t4) ([]:(List Int))):Int) then
  let x3:=(List.set e0 (toNat t4) (List.set (getD e0 (toNat t4) ([]:(List Int))) (toNat t4) (0:Int)))
  (tL k n t0 (wrap .i64 (t4+(1:Int))) x3).bind some
  else none
  else none
  else
  some ((),(e0,()))
def qW:aE:=⟨[],[(0,.val (.int .i64)),(3,.at 1000096 []),(4,.val (.int .i64))],[(1000096,none,bj)]⟩
def zA (k m:Nat) (v:qW.V):=tL k m v.1.1 v.1.2.1 v.2.1
def zB (k:Nat):aL:=⟨qW,[(.exit 0,⟨[],[(3,.at 1000096 [])],[(1000096,none,bj)]⟩)],zA k k⟩
def F81 (k:Nat) (a0:Int):Option bC :=
 (F82 k a0).bind fun r1 =>
 (tL k k a0 (0:Int) r1.1.1).bind fun r4 =>
 some ((r4.2.1,()),())
def BM (k:Nat):ap:=⟨[.val (.int .i64)],[.own bj],fun x=>F81 k x.1⟩
def DF:Lim:=⟨19,1,false,false,[],[]⟩
def L9 (k:Nat):Nat→Option ap:=aW [(82,nB k)]
noncomputable def P2:Code:=ac (ab Try.f81) [.r,.r,.l,.r,.s]
noncomputable def a7f:Code:=ac (ab Try.f81) [.r,.r,.l,.r,.s,.b]
noncomputable def co81:Code:=ac (ab Try.f81) []
theorem GM (k:Nat):aR Try.prog (L9 k):=ah (v82 k) (aD)
noncomputable def GN (k m:Nat) (v:qW.V):=body Try.prog (ao Try.prog (L9 k) DF) .go a7f (qW.st v) (aH (zB k) (zA k m))
theorem a8f (k m:Nat) (v:qW.V):zA k (m+1) v=(GN k m v).eval∧(GN k m v).left=(GN k m v).right:=⟨by kernel_rfl,by kernel_rfl⟩
theorem P3 (k:Nat):aC Try.prog DF (zB k) P2 :=
 am (by kernel_rfl) (aA (GM k) (aj _) (zA k) k (fun _=>rfl) (fun _=>rfl) (a8f k))
def a9f (k:Nat):aO:=(.seq .go (.seq .go (.seq (.seq .go (.sub (.frag (zB k)))) .go)))
noncomputable def TP (k:Nat) (x:AT (BM k).ps):=fnT Try.prog (L9 k) DF Try.f81 (ab Try.f81) (a9f k) (BM k) x
theorem a5A (k:Nat) (x:AT (BM k).ps):(BM k).impl x=(TP k x).eval∧(TP k x).left=(TP k x).right:=⟨by kernel_rfl,by kernel_rfl⟩
theorem v81 (k:Nat):ai Try.prog 81∧aB Try.prog 81 (BM k) :=
 aS (n:=DF) (fn:=Try.f81) (p:=(a9f k)) (GM k) (by kernel_rfl) (aG (L:=[(zB k,P2)]) (by kernel_rfl) (.cons (P3 k) .nil)) (a5A k)
def tM (k:Nat):Nat→(List (List Int))→(List (List Int))→Int→Int→(List (List Int))→Option Xd
 |0,_,_,_,_,_=>none
 |n+1,t0,t1,t6,t7,e0 =>
  let x8:=(decide (t7<(length t0:Int)))
  bif x8 then
  if 0≤t6∧t6<(length e0:Int) then
  if 0≤t6∧t6<(length t0:Int) then
  let x9:=(getD t0 (toNat t6) ([]:(List Int)))
  if 0≤t7∧t7<(length x9:Int) then
  if 0≤t6∧t6<(length t1:Int) then
  let x10:=(getD t1 (toNat t6) ([]:(List Int)))
  if 0≤t7∧t7<(length x10:Int) then
  let x11:=(aK (getD x9 (toNat t7) (0:Int)) (getD x10 (toNat t7) (0:Int)))
  if 0≤t7∧t7<(length (getD e0 (toNat t6) ([]:(List Int))):Int) then
  let x12:=(List.set e0 (toNat t6) (List.set (getD e0 (toNat t6) ([]:(List Int))) (toNat t7) x11))
  (tM k n t0 t1 t6 (wrap .i64 (t7+(1:Int))) x12).bind some
  else none
  else none
  else none
  else none
  else none
  else none
  else
  some ((t0,t1,t6,()),(e0,()))
def qX:aE:=⟨[],[(0,.val dE),(1,.val dE),(5,.at 1000160 []),(6,.val (.int .i64)),(7,.val (.int .i64))],[(1000160,none,bj)]⟩
def zC (k m:Nat) (v:qX.V):=tM k m v.1.1 v.1.2.1 v.1.2.2.1 v.1.2.2.2.1 v.2.1
def zD (k:Nat):aL:=⟨qX,[(.exit 2,⟨[],[(0,.val dE),(1,.val dE),(5,.at 1000160 []),(6,.val (.int .i64))],[(1000160,none,bj)]⟩)],zC k k⟩
def tN (k:Nat):Nat→(List (List Int))→(List (List Int))→Int→(List (List Int))→Option mN
 |0,_,_,_,_=>none
 |n+1,t0,t1,t6,e0 =>
  let x18:=(decide (t6<(length t0:Int)))
  bif x18 then
  (tM k k t0 t1 t6 (0:Int) e0).bind fun r19 =>
  (tN k n r19.1.1 r19.1.2.1 (wrap .i64 (r19.1.2.2.1+(1:Int))) r19.2.1).bind some
  else
  some ((),(e0,()))
def qY:aE:=⟨[],[(0,.val dE),(1,.val dE),(5,.at 1000160 []),(6,.val (.int .i64))],[(1000160,none,bj)]⟩
def zE (k m:Nat) (v:qY.V):=tN k m v.1.1 v.1.2.1 v.1.2.2.1 v.2.1
def zF (k:Nat):aL:=⟨qY,[(.exit 0,⟨[],[(5,.at 1000160 [])],[(1000160,none,bj)]⟩)],zE k k⟩
def F84 (k:Nat) (a0:(List (List Int))) (a1:(List (List Int))):Option bC :=
 (F82 k (length a0:Int)).bind fun r1 =>
 (tN k k a0 a1 (0:Int) r1.1.1).bind fun r24 =>
 some ((r24.2.1,()),())
def BN (k:Nat):ap:=⟨[.val dE,.val dE],[.own bj],fun x=>F84 k x.1 x.2.1⟩
def tO:Lim:=⟨45,2,false,false,[],[]⟩
def DG (k:Nat):Nat→Option ap:=aW [(82,nB k)]
noncomputable def P4:Code:=ac (ab Try.f84) [.r,.r,.l,.r,.s,.b,.r,.l,.s,.r,.s]
noncomputable def a0g:Code:=ac (ab Try.f84) [.r,.r,.l,.r,.s,.b,.r,.l,.s,.r,.s,.b]
noncomputable def P5:Code:=ac (ab Try.f84) [.r,.r,.l,.r,.s]
noncomputable def a1g:Code:=ac (ab Try.f84) [.r,.r,.l,.r,.s,.b]
noncomputable def co84:Code:=ac (ab Try.f84) []
theorem vk (k:Nat):aR Try.prog (DG k):=ah (v82 k) (aD)
noncomputable def GO (k m:Nat) (v:qX.V):=body Try.prog (ao Try.prog (DG k) tO) .go a0g (qX.st v) (aH (zD k) (zC k m))
theorem a2g (k m:Nat) (v:qX.V):zC k (m+1) v=(GO k m v).eval∧(GO k m v).left=(GO k m v).right:=⟨by kernel_rfl,by kernel_rfl⟩
theorem P6 (k:Nat):aC Try.prog tO (zD k) P4 :=
 am (by kernel_rfl) (aA (vk k) (aj _) (zC k) k (fun _=>rfl) (fun _=>rfl) (a2g k))
def a3g (k:Nat):aO:=(.seq .go (.seq (.sub (.seq .go (.sub (.frag (zD k))))) .go))
noncomputable def GP (k m:Nat) (v:qY.V):=body Try.prog (ao Try.prog (DG k) tO) (a3g k) a1g (qY.st v) (aH (zF k) (zE k m))
theorem a4g (k m:Nat) (v:qY.V):zE k (m+1) v=(GP k m v).eval∧(GP k m v).left=(GP k m v).right:=⟨by kernel_rfl,by kernel_rfl⟩
theorem P7 (k:Nat):aC Try.prog tO (zF k) P5 :=
 am (by kernel_rfl) (aA (vk k) (aG (L:=[(zD k,P4)]) (by kernel_rfl) (.cons (P6 k) .nil)) (zE k) k (fun _=>rfl) (fun _=>rfl) (a4g k))
def a5g (k:Nat):aO:=(.seq .go (.seq .go (.seq (.seq .go (.sub (.frag (zF k)))) .go)))
noncomputable def TQ (k:Nat) (x:AT (BN k).ps):=fnT Try.prog (DG k) tO Try.f84 (ab Try.f84) (a5g k) (BN k) x
theorem a6A (k:Nat) (x:AT (BN k).ps):(BN k).impl x=(TQ k x).eval∧(TQ k x).left=(TQ k x).right:=⟨by kernel_rfl,by kernel_rfl⟩
theorem v84 (k:Nat):ai Try.prog 84∧aB Try.prog 84 (BN k) :=
 aS (n:=tO) (fn:=Try.f84) (p:=(a5g k)) (vk k) (by kernel_rfl) (aG (L:=[(zF k,P5)]) (by kernel_rfl) (.cons (P7 k) .nil)) (a6A k)
def tP (k:Nat):Nat→(List (List Int))→(List (List Int))→Int→Int→Int→(List (List Int))→Option ((((List (List Int))×(List (List Int))×Int×Int×Unit)×((List (List Int))×Unit)))
 |0,_,_,_,_,_,_=>none
 |n+1,t0,t1,t6,t7,t8,e0 =>
  let x10:=(decide (t8<(length t0:Int)))
  bif x10 then
  if 0≤t6∧t6<(length e0:Int) then
  if 0≤t6∧t6<(length e0:Int) then
  if 0≤t8∧t8<(length (getD e0 (toNat t6) ([]:(List Int))):Int) then
  let x11:=(getD (getD e0 (toNat t6) ([]:(List Int))) (toNat t8) (0:Int))
  if 0≤t6∧t6<(length t0:Int) then
  let x12:=(getD t0 (toNat t6) ([]:(List Int)))
  if 0≤t7∧t7<(length x12:Int) then
  if 0≤t7∧t7<(length t1:Int) then
  let x13:=(getD t1 (toNat t7) ([]:(List Int)))
  if 0≤t8∧t8<(length x13:Int) then
  (F34 k (getD x12 (toNat t7) (0:Int)) (getD x13 (toNat t8) (0:Int))).bind fun r14 =>
  if 0≤t8∧t8<(length (getD e0 (toNat t6) ([]:(List Int))):Int) then
  let x15:=(List.set e0 (toNat t6) (List.set (getD e0 (toNat t6) ([]:(List Int))) (toNat t8) (aK x11 r14.1.1)))
  (tP k n t0 t1 t6 t7 (wrap .i64 (t8+(1:Int))) x15).bind some
  else none
  else none
  else none
  else none
  else none
  else none
  else none
  else none
  else
  some ((t0,t1,t6,t7,()),(e0,()))
def qZ:aE:=⟨[],[(0,.val dE),(1,.val dE),(5,.at 1000176 []),(6,.val (.int .i64)),(7,.val (.int .i64)),(8,.val (.int .i64))],[(1000176,none,bj)]⟩
def zG (k m:Nat) (v:qZ.V):=tP k m v.1.1 v.1.2.1 v.1.2.2.1 v.1.2.2.2.1 v.1.2.2.2.2.1 v.2.1
def zH (k:Nat):aL:=⟨qZ,[(.exit 4,⟨[],[(0,.val dE),(1,.val dE),(5,.at 1000176 []),(6,.val (.int .i64)),(7,.val (.int .i64))],[(1000176,none,bj)]⟩)],zG k k⟩
def tQ (k:Nat):Nat→(List (List Int))→(List (List Int))→Int→Int→(List (List Int))→Option Xd
 |0,_,_,_,_,_=>none
 |n+1,t0,t1,t6,t7,e0 =>
  let x22:=(decide (t7<(length t0:Int)))
  bif x22 then
  (tP k k t0 t1 t6 t7 t7 e0).bind fun r23 =>
  (tQ k n r23.1.1 r23.1.2.1 r23.1.2.2.1 (wrap .i64 (r23.1.2.2.2.1+(1:Int))) r23.2.1).bind some
  else
  some ((t0,t1,t6,()),(e0,()))
def q8:aE:=⟨[],[(0,.val dE),(1,.val dE),(5,.at 1000176 []),(6,.val (.int .i64)),(7,.val (.int .i64))],[(1000176,none,bj)]⟩
def zI (k m:Nat) (v:q8.V):=tQ k m v.1.1 v.1.2.1 v.1.2.2.1 v.1.2.2.2.1 v.2.1
def zJ (k:Nat):aL:=⟨q8,[(.exit 2,⟨[],[(0,.val dE),(1,.val dE),(5,.at 1000176 []),(6,.val (.int .i64))],[(1000176,none,bj)]⟩)],zI k k⟩
def tR (k:Nat):Nat→(List (List Int))→(List (List Int))→Int→(List (List Int))→Option mN
 |0,_,_,_,_=>none
 |n+1,t0,t1,t6,e0 =>
  let x34:=(decide (t6<(length t0:Int)))
  bif x34 then
  (tQ k k t0 t1 t6 t6 e0).bind fun r35 =>
  (tR k n r35.1.1 r35.1.2.1 (wrap .i64 (r35.1.2.2.1+(1:Int))) r35.2.1).bind some
  else
  some ((),(e0,()))
def q9:aE:=⟨[],[(0,.val dE),(1,.val dE),(5,.at 1000176 []),(6,.val (.int .i64))],[(1000176,none,bj)]⟩
def zK (k m:Nat) (v:q9.V):=tR k m v.1.1 v.1.2.1 v.1.2.2.1 v.2.1
def zL (k:Nat):aL:=⟨q9,[(.exit 0,⟨[],[(5,.at 1000176 [])],[(1000176,none,bj)]⟩)],zK k k⟩
def F85 (k:Nat) (a0:(List (List Int))) (a1:(List (List Int))):Option bC :=
 (F82 k (length a0:Int)).bind fun r1 =>
 (tR k k a0 a1 (0:Int) r1.1.1).bind fun r40 =>
 some ((r40.2.1,()),())
def BO (k:Nat):ap:=⟨[.val dE,.val dE],[.own bj],fun x=>F85 k x.1 x.2.1⟩
def ld:Lim:=⟨62,2,false,false,[],[]⟩
def zM (k:Nat):Nat→Option ap:=aW [(34,kr k),(82,nB k)]
noncomputable def P8:Code:=ac (ab Try.f85) [.r,.r,.l,.r,.s,.b,.r,.l,.s,.r,.s,.b,.r,.l,.s,.r,.s]
noncomputable def a6g:Code:=ac (ab Try.f85) [.r,.r,.l,.r,.s,.b,.r,.l,.s,.r,.s,.b,.r,.l,.s,.r,.s,.b]
noncomputable def P9:Code:=ac (ab Try.f85) [.r,.r,.l,.r,.s,.b,.r,.l,.s,.r,.s]
noncomputable def a7g:Code:=ac (ab Try.f85) [.r,.r,.l,.r,.s,.b,.r,.l,.s,.r,.s,.b]
noncomputable def Qa:Code:=ac (ab Try.f85) [.r,.r,.l,.r,.s]
noncomputable def a8g:Code:=ac (ab Try.f85) [.r,.r,.l,.r,.s,.b]
noncomputable def co85:Code:=ac (ab Try.f85) []
theorem nC (k:Nat):aR Try.prog (zM k):=ah (v34 k) (ah (v82 k) (aD))
noncomputable def GQ (k m:Nat) (v:qZ.V):=body Try.prog (ao Try.prog (zM k) ld) .go a6g (qZ.st v) (aH (zH k) (zG k m))
theorem a9g (k m:Nat) (v:qZ.V):zG k (m+1) v=(GQ k m v).eval∧(GQ k m v).left=(GQ k m v).right:=⟨by kernel_rfl,by kernel_rfl⟩
theorem Qb (k:Nat):aC Try.prog ld (zH k) P8 :=
 am (by kernel_rfl) (aA (nC k) (aj _) (zG k) k (fun _=>rfl) (fun _=>rfl) (a9g k))
def a0h (k:Nat):aO:=(.seq .go (.seq (.sub (.seq .go (.sub (.frag (zH k))))) .go))
noncomputable def GR (k m:Nat) (v:q8.V):=body Try.prog (ao Try.prog (zM k) ld) (a0h k) a7g (q8.st v) (aH (zJ k) (zI k m))
theorem a1h (k m:Nat) (v:q8.V):zI k (m+1) v=(GR k m v).eval∧(GR k m v).left=(GR k m v).right:=⟨by kernel_rfl,by kernel_rfl⟩
theorem Qc (k:Nat):aC Try.prog ld (zJ k) P9 :=
 am (by kernel_rfl) (aA (nC k) (aG (L:=[(zH k,P8)]) (by kernel_rfl) (.cons (Qb k) .nil)) (zI k) k (fun _=>rfl) (fun _=>rfl) (a1h k))
def a2h (k:Nat):aO:=(.seq .go (.seq (.sub (.seq .go (.sub (.frag (zJ k))))) .go))
noncomputable def GT (k m:Nat) (v:q9.V):=body Try.prog (ao Try.prog (zM k) ld) (a2h k) a8g (q9.st v) (aH (zL k) (zK k m))
theorem a3h (k m:Nat) (v:q9.V):zK k (m+1) v=(GT k m v).eval∧(GT k m v).left=(GT k m v).right:=⟨by kernel_rfl,by kernel_rfl⟩
theorem Qd (k:Nat):aC Try.prog ld (zL k) Qa :=
 am (by kernel_rfl) (aA (nC k) (aG (L:=[(zJ k,P9)]) (by kernel_rfl) (.cons (Qc k) .nil)) (zK k) k (fun _=>rfl) (fun _=>rfl) (a3h k))
def a4h (k:Nat):aO:=(.seq .go (.seq .go (.seq (.seq .go (.sub (.frag (zL k)))) .go)))
noncomputable def TR (k:Nat) (x:AT (BO k).ps):=fnT Try.prog (zM k) ld Try.f85 (ab Try.f85) (a4h k) (BO k) x
theorem a7A (k:Nat) (x:AT (BO k).ps):(BO k).impl x=(TR k x).eval∧(TR k x).left=(TR k x).right:=⟨by kernel_rfl,by kernel_rfl⟩
theorem v85 (k:Nat):ai Try.prog 85∧aB Try.prog 85 (BO k) :=
 aS (n:=ld) (fn:=Try.f85) (p:=(a4h k)) (nC k) (by kernel_rfl) (aG (L:=[(zL k,Qa)]) (by kernel_rfl) (.cons (Qd k) .nil)) (a7A k)
def lH (f64:(aV→aN→aT→(List Int)→Option bC)):ap:=⟨[.val iM,.val KD5,.val dF,.val aZ],[.own bj],fun x=>f64 x.1 x.2.1 x.2.2.1 x.2.2.2.1⟩
def nD (k:Nat) (f64:(aV→aN→aT→(List Int)→Option bC)):Nat→aT→(List Int)→Int→Int→lD→aN→(List (List (List Int)))→Option (((aT×(List Int)×Int×Unit)×(lD×aN×(List (List (List Int)))×Unit)))
 |0,_,_,_,_,_,_,_=>none
 |n+1,t2,t3,t9,t11,c4,c5,e0 =>
  let x2:=(decide (t11<(length c4.2.2.2.2.2.1:Int)))
  bif x2 then
  if 0≤t11∧t11<(length c4.2.2.2.2.2.1:Int) then
  let x3:=(getD c4.2.2.2.2.2.1 (toNat t11) (ae.mk ((0:Int),((0:Int),((0:Int),((0:Int),(ByteArray.empty,()))))) []))
  (f64 x3 c5 t2 t3).bind fun r4 =>
  if (length e0+length [r4.1.1])*(24*2)≤281474976710656∧length e0+length [r4.1.1]≤9223372036854775807 then
  (nD k f64 n t2 t3 t9 (wrap .i64 (t11+(1:Int))) c4 c5 (e0++[r4.1.1])).bind some
  else none
  else none
  else
  some ((t2,t3,t9,()),(c4,c5,e0,()))
def rh:aE:=⟨[(10,oX)],[(2,.val dF),(3,.val aZ),(4,.ptr 4 []),(5,.ptr 5 []),(9,.val (.int .i64)),(10,.at 2000010 []),(11,.val (.int .i64))],[(4,some 65,lE),(5,some 29,KD5),(2000010,none,oX)]⟩
def zN (k:Nat) (f64:(aV→aN→aT→(List Int)→Option bC)) (m:Nat) (v:rh.V):=nD k f64 m v.1.1 v.1.2.1 v.1.2.2.1 v.1.2.2.2.1 v.2.1 v.2.2.1 v.2.2.2.1
def zO (k:Nat) (f64:(aV→aN→aT→(List Int)→Option bC)):aL:=⟨rh,[(.exit 0,⟨[(10,oX)],[(2,.val dF),(3,.val aZ),(4,.ptr 4 []),(5,.ptr 5 []),(9,.val (.int .i64)),(10,.at 2000010 [])],[(4,some 65,lE),(5,some 29,KD5),(2000010,none,oX)]⟩)],zN k f64 k⟩
def ip (k:Nat) (f64:(aV→aN→aT→(List Int)→Option bC)):Nat→aT→(List Int)→Int→Int→lD→aN→(List (List Int))→Option mN
 |0,_,_,_,_,_,_,_=>none
 |n+1,t2,t3,t9,t13,c4,c5,e0 =>
  let x14:=(decide ((wrap .i64 (t13+(1:Int)))<t9))
  bif x14 then
  bif (c4.1==(3:Int)) then
  if 0≤t13∧t13<(length e0:Int) then
  if 0≤(wrap .i64 (t13+(1:Int)))∧(wrap .i64 (t13+(1:Int)))<(length (getD e0 (toNat t13) ([]:(List Int))):Int) then
  let x15:=(toNat (wrap .i64 (t13+(1:Int))))
  let x16:=(List.set e0 (toNat t13) (List.set (getD e0 (toNat t13) ([]:(List Int))) x15 (0:Int)))
  (ip k f64 n t2 t3 t9 (wrap .i64 (t13+(1:Int))) c4 c5 x16).bind some
  else none
  else none
  else
  if 0≤t13∧t13<(length t3:Int) then
  (F83 k c5 c4.2.2.2.2.1).bind fun r17 =>
  if 0≤r17.1.1∧r17.1.1<(length t2:Int) then
  let x18:=(getD t2 (toNat r17.1.1) ([]:bT))
  (F72 k x18 (getD t3 (toNat t13) (0:Int))).bind fun r19 =>
  bif r19.1.1 then
  if 0≤t13∧t13<(length e0:Int) then
  if 0≤(wrap .i64 (t13+(1:Int)))∧(wrap .i64 (t13+(1:Int)))<(length (getD e0 (toNat t13) ([]:(List Int))):Int) then
  let x20:=(toNat (wrap .i64 (t13+(1:Int))))
  let x21:=(List.set e0 (toNat t13) (List.set (getD e0 (toNat t13) ([]:(List Int))) x20 (0:Int)))
  (ip k f64 n t2 t3 t9 (wrap .i64 (t13+(1:Int))) c4 c5 x21).bind some
  else none
  else none
  else
  (ip k f64 n t2 t3 t9 (wrap .i64 (t13+(1:Int))) c4 c5 e0).bind some
  else none
  else none
  else
  some ((),(e0,()))
def ri:aE:=⟨[],[(2,.val dF),(3,.val aZ),(4,.ptr 4 []),(5,.ptr 5 []),(9,.val (.int .i64)),(12,.at 1000864 []),(13,.val (.int .i64))],[(4,some 65,lE),(5,some 29,KD5),(1000864,none,bj)]⟩
def zP (k:Nat) (f64:(aV→aN→aT→(List Int)→Option bC)) (m:Nat) (v:ri.V):=ip k f64 m v.1.1 v.1.2.1 v.1.2.2.1 v.1.2.2.2.1 v.2.1 v.2.2.1 v.2.2.2.1
def zQ (k:Nat) (f64:(aV→aN→aT→(List Int)→Option bC)):aL:=⟨ri,[(.exit 3,⟨[],[(12,.at 1000864 [])],[(1000864,none,bj)]⟩)],zP k f64 k⟩
def tS (k:Nat) (f64:(aV→aN→aT→(List Int)→Option bC)):Nat→Int→Int→Int→lD→(List (List Int))→(List (List (List Int)))→Option (((Int×Int×Unit)×(lD×(List (List Int))×(List (List (List Int)))×Unit)))
 |0,_,_,_,_,_,_=>none
 |n+1,t9,t15,t16,c4,e0,e1 =>
  bif (decide (t16<t9)) then
  if 0≤t15∧t15<(length e0:Int) then
  if 0≤(0:Int)∧(0:Int)<(length e1:Int) then
  if 0≤t15∧t15<(length (getD e1 (toNat (0:Int)) ([]:(List (List Int)))):Int) then
  if 0≤t16∧t16<(length (getD (getD e1 (toNat (0:Int)) ([]:(List (List Int)))) (toNat t15) ([]:(List Int))):Int) then
  let x30:=(getD (getD (getD e1 (toNat (0:Int)) ([]:(List (List Int)))) (toNat t15) ([]:(List Int))) (toNat t16) (0:Int))
  (F34 k x30 c4.2.2.2.1).bind fun r31 =>
  if 0≤t16∧t16<(length (getD e0 (toNat t15) ([]:(List Int))):Int) then
  let x32:=(List.set e0 (toNat t15) (List.set (getD e0 (toNat t15) ([]:(List Int))) (toNat t16) r31.1.1))
  (tS k f64 n t9 t15 (wrap .i64 (t16+(1:Int))) c4 x32 e1).bind some
  else none
  else none
  else none
  else none
  else none
  else
  some ((t9,t15,()),(c4,e0,e1,()))
def rj:aE:=⟨[],[(4,.ptr 4 []),(9,.val (.int .i64)),(10,.at 2000010 []),(14,.at 1001712 []),(15,.val (.int .i64)),(16,.val (.int .i64))],[(4,some 65,lE),(1001712,none,bj),(2000010,none,oX)]⟩
def zR (k:Nat) (f64:(aV→aN→aT→(List Int)→Option bC)) (m:Nat) (v:rj.V):=tS k f64 m v.1.1 v.1.2.1 v.1.2.2.1 v.2.1 v.2.2.1 v.2.2.2.1
def zS (k:Nat) (f64:(aV→aN→aT→(List Int)→Option bC)):aL:=⟨rj,[(.exit 7,⟨[],[(4,.ptr 4 []),(9,.val (.int .i64)),(10,.at 2000010 []),(14,.at 1001712 []),(15,.val (.int .i64))],[(4,some 65,lE),(1001712,none,bj),(2000010,none,oX)]⟩)],zR k f64 k⟩
def tT (k:Nat) (f64:(aV→aN→aT→(List Int)→Option bC)):Nat→Int→Int→lD→(List (List Int))→(List (List (List Int)))→Option mN
 |0,_,_,_,_,_=>none
 |n+1,t9,t15,c4,e0,e1 =>
  bif (decide (t15<t9)) then
  (tS k f64 k t9 t15 t15 c4 e0 e1).bind fun r33 =>
  (tT k f64 n r33.1.1 (wrap .i64 (r33.1.2.1+(1:Int))) r33.2.1 r33.2.2.1 r33.2.2.2.1).bind some
  else
  some ((),(e0,()))
def rk:aE:=⟨[],[(4,.ptr 4 []),(9,.val (.int .i64)),(10,.at 2000010 []),(14,.at 1001712 []),(15,.val (.int .i64))],[(4,some 65,lE),(1001712,none,bj),(2000010,none,oX)]⟩
def zT (k:Nat) (f64:(aV→aN→aT→(List Int)→Option bC)) (m:Nat) (v:rk.V):=tT k f64 m v.1.1 v.1.2.1 v.2.1 v.2.2.1 v.2.2.2.1
def zU (k:Nat) (f64:(aV→aN→aT→(List Int)→Option bC)):aL:=⟨rk,[(.exit 5,⟨[],[(14,.at 1001712 [])],[(1001712,none,bj)]⟩)],zT k f64 k⟩
def lg (k:Nat) (f64:(aV→aN→aT→(List Int)→Option bC)):Nat→Int→Int→Int→(List (List (List Int)))→(List (List Int))→(List (List Int))→Option mN
 |0,_,_,_,_,_,_=>none
 |n+1,t17,t18,t21,e0,e1,e2 =>
  bif (decide (t21≤t18)) then
  bif (decide (t21≥t17)) then
  (F84 k e1 e2).bind fun r43 =>
  if 0≤(0:Int)∧(0:Int)<(length e0:Int) then
  (F85 k e2 (getD e0 (toNat (0:Int)) ([]:(List (List Int))))).bind fun r44 =>
  (lg k f64 n t17 t18 (wrap .i64 (t21+(1:Int))) e0 r43.1.1 r44.1.1).bind some
  else none
  else
  if 0≤(0:Int)∧(0:Int)<(length e0:Int) then
  (F85 k e2 (getD e0 (toNat (0:Int)) ([]:(List (List Int))))).bind fun r45 =>
  (lg k f64 n t17 t18 (wrap .i64 (t21+(1:Int))) e0 e1 r45.1.1).bind some
  else none
  else
  some ((),(e1,()))
def rm:aE:=⟨[(19,bj),(20,bj)],[(10,.at 2000010 []),(17,.val (.int .i64)),(18,.val (.int .i64)),(19,.at 2000019 []),(20,.at 2000020 []),(21,.val (.int .i64))],[(2000010,none,oX),(2000019,none,bj),(2000020,none,bj)]⟩
def zV (k:Nat) (f64:(aV→aN→aT→(List Int)→Option bC)) (m:Nat) (v:rm.V):=lg k f64 m v.1.1 v.1.2.1 v.1.2.2.1 v.2.1 v.2.2.1 v.2.2.2.1
def zW (k:Nat) (f64:(aV→aN→aT→(List Int)→Option bC)):aL:=⟨rm,[(.exit 9,⟨[(19,bj)],[(19,.at 2000019 [])],[(2000019,none,bj)]⟩)],zV k f64 k⟩
def B64 (k:Nat) (f64:(aV→aN→aT→(List Int)→Option bC)) (a0:aV) (a1:aN) (a2:aT) (a3:(List Int)):Option bC :=
 let x1:=(wrap .i64 ((length a3:Int)+(1:Int)))
 (nD k f64 k a2 a3 x1 (0:Int) ((ae.a a0).1,((ae.a a0).2.1,((ae.a a0).2.2.1,((ae.a a0).2.2.2.1,((ae.a a0).2.2.2.2.1,((ae.l a0),())))))) a1 []).bind fun r5 =>
 let y8:=r5.1.2.2.1
 let y9:=r5.2.1
 let y11:=r5.2.2.2.1
 bif (y9.1==(1:Int)) then
 (F81 k y8).bind fun r12 =>
 some ((r12.1.1,()),())
 else
 bif (y9.1==(2:Int)) then
 (F82 k y8).bind fun r13 =>
 (ip k f64 k r5.1.1 r5.1.2.1 y8 (0:Int) y9 r5.2.2.1 r13.1.1).bind fun r22 =>
 some ((r22.2.1,()),())
 else
 bif (y9.1==(3:Int)) then
 (F82 k y8).bind fun r24 =>
 (ip k f64 k r5.1.1 r5.1.2.1 y8 (0:Int) y9 r5.2.2.1 r24.1.1).bind fun r25 =>
 some ((r25.2.1,()),())
 else
 bif (y9.1==(5:Int)) then
 if 0≤(0:Int)∧(0:Int)<(length y11:Int) then
 if 0≤(1:Int)∧(1:Int)<(length y11:Int) then
 (F84 k (getD y11 (toNat (0:Int)) ([]:(List (List Int)))) (getD y11 (toNat (1:Int)) ([]:(List (List Int))))).bind fun r27 =>
 some ((r27.1.1,()),())
 else none
 else none
 else
 bif (y9.1==(4:Int)) then
 if 0≤(0:Int)∧(0:Int)<(length y11:Int) then
 if 0≤(1:Int)∧(1:Int)<(length y11:Int) then
 (F85 k (getD y11 (toNat (0:Int)) ([]:(List (List Int)))) (getD y11 (toNat (1:Int)) ([]:(List (List Int))))).bind fun r28 =>
 some ((r28.1.1,()),())
 else none
 else none
 else
 bif (y9.1==(8:Int)) then
 (F82 k y8).bind fun r29 =>
 (tT k f64 k y8 (0:Int) y9 r29.1.1 y11).bind fun r39 =>
 some ((r39.2.1,()),())
 else
 bif (y9.1==(6:Int)) then
 (F82 k y8).bind fun r41 =>
 (F81 k y8).bind fun r42 =>
 (lg k f64 k (0:Int) y8 (0:Int) y11 r41.1.1 r42.1.1).bind fun r46 =>
 some ((r46.2.1,()),())
 else
 (F82 k y8).bind fun r48 =>
 (F81 k y8).bind fun r49 =>
 (lg k f64 k y9.2.1 y9.2.2.1 (0:Int) y11 r48.1.1 r49.1.1).bind fun r50 =>
 some ((r50.2.1,()),())
def GU (k:Nat) (f64:(aV→aN→aT→(List Int)→Option bC)):ap:=lH (B64 k f64)
def gw:Lim:=⟨167,4,false,false,[],[]⟩
def nE (k:Nat) (f64:(aV→aN→aT→(List Int)→Option bC)):Nat→Option ap:=aW [(34,kr k),(64,lH f64),(72,pU k),(81,BM k),(82,nB k),(83,pJ k),(84,BN k),(85,BO k)]
noncomputable def Qe:Code:=ac (ab Try.f64) [.r,.r,.r,.l,.r,.s]
noncomputable def a5h:Code:=ac (ab Try.f64) [.r,.r,.r,.l,.r,.s,.b]
noncomputable def Qf:Code:=ac (ab Try.f64) [.r,.r,.r,.r,.l,.r,.s,.r,.r,.r,.l,.r,.l,.r,.s]
noncomputable def a6h:Code:=ac (ab Try.f64) [.r,.r,.r,.r,.l,.r,.s,.r,.r,.r,.l,.r,.l,.r,.s,.b]
noncomputable def Qg:Code:=ac (ab Try.f64) [.r,.r,.r,.r,.l,.r,.s,.r,.r,.r,.r,.r,.r,.r,.r,.r,.l,.r,.l,.r,.s,.b,.r,.l,.s,.r,.s]
noncomputable def a7h:Code:=ac (ab Try.f64) [.r,.r,.r,.r,.l,.r,.s,.r,.r,.r,.r,.r,.r,.r,.r,.r,.l,.r,.l,.r,.s,.b,.r,.l,.s,.r,.s,.b]
noncomputable def Qh:Code:=ac (ab Try.f64) [.r,.r,.r,.r,.l,.r,.s,.r,.r,.r,.r,.r,.r,.r,.r,.r,.l,.r,.l,.r,.s]
noncomputable def a8h:Code:=ac (ab Try.f64) [.r,.r,.r,.r,.l,.r,.s,.r,.r,.r,.r,.r,.r,.r,.r,.r,.l,.r,.l,.r,.s,.b]
noncomputable def Qi:Code:=ac (ab Try.f64) [.r,.r,.r,.r,.r,.r,.r,.r,.l,.r,.s]
noncomputable def a9h:Code:=ac (ab Try.f64) [.r,.r,.r,.r,.r,.r,.r,.r,.l,.r,.s,.b]
noncomputable def co64:Code:=ac (ab Try.f64) []
theorem iP (k:Nat) (f64:(aV→aN→aT→(List Int)→Option bC)) (h64:ai Try.prog 64∧aB Try.prog 64 (lH f64)):aR Try.prog (nE k f64):=ah (v34 k) (ah h64 (ah (v72 k) (ah (v81 k) (ah (v82 k) (ah (v83 k) (ah (v84 k) (ah (v85 k) (aD))))))))
noncomputable def GV (k:Nat) (f64:(aV→aN→aT→(List Int)→Option bC)) (m:Nat) (v:rh.V):=body Try.prog (ao Try.prog (nE k f64) gw) .go a5h (rh.st v) (aH (zO k f64) (zN k f64 m))
theorem a0i (k:Nat) (f64:(aV→aN→aT→(List Int)→Option bC)) (m:Nat) (v:rh.V):zN k f64 (m+1) v=(GV k f64 m v).eval∧(GV k f64 m v).left=(GV k f64 m v).right:=⟨by kernel_rfl,by kernel_rfl⟩
theorem Qj (k:Nat) (f64:(aV→aN→aT→(List Int)→Option bC)) (h64:ai Try.prog 64∧aB Try.prog 64 (lH f64)):aC Try.prog gw (zO k f64) Qe :=
 am (by kernel_rfl) (aA (iP k f64 h64) (aj _) (zN k f64) k (fun _=>rfl) (fun _=>rfl) (a0i k f64))
noncomputable def GW (k:Nat) (f64:(aV→aN→aT→(List Int)→Option bC)) (m:Nat) (v:ri.V):=body Try.prog (ao Try.prog (nE k f64) gw) .go a6h (ri.st v) (aH (zQ k f64) (zP k f64 m))
theorem a1i (k:Nat) (f64:(aV→aN→aT→(List Int)→Option bC)) (m:Nat) (v:ri.V):zP k f64 (m+1) v=(GW k f64 m v).eval∧(GW k f64 m v).left=(GW k f64 m v).right:=⟨by kernel_rfl,by kernel_rfl⟩
theorem Qk (k:Nat) (f64:(aV→aN→aT→(List Int)→Option bC)) (h64:ai Try.prog 64∧aB Try.prog 64 (lH f64)):aC Try.prog gw (zQ k f64) Qf :=
 am (by kernel_rfl) (aA (iP k f64 h64) (aj _) (zP k f64) k (fun _=>rfl) (fun _=>rfl) (a1i k f64))
noncomputable def GX (k:Nat) (f64:(aV→aN→aT→(List Int)→Option bC)) (m:Nat) (v:rj.V):=body Try.prog (ao Try.prog (nE k f64) gw) .go a7h (rj.st v) (aH (zS k f64) (zR k f64 m))
theorem a2i (k:Nat) (f64:(aV→aN→aT→(List Int)→Option bC)) (m:Nat) (v:rj.V):zR k f64 (m+1) v=(GX k f64 m v).eval∧(GX k f64 m v).left=(GX k f64 m v).right:=⟨by kernel_rfl,by kernel_rfl⟩
theorem Ql (k:Nat) (f64:(aV→aN→aT→(List Int)→Option bC)) (h64:ai Try.prog 64∧aB Try.prog 64 (lH f64)):aC Try.prog gw (zS k f64) Qg :=
 am (by kernel_rfl) (aA (iP k f64 h64) (aj _) (zR k f64) k (fun _=>rfl) (fun _=>rfl) (a2i k f64))
def a3i (k:Nat) (f64:(aV→aN→aT→(List Int)→Option bC)):aO:=(.seq .go (.seq (.sub (.seq .go (.sub (.frag (zS k f64))))) .go))
noncomputable def GY (k:Nat) (f64:(aV→aN→aT→(List Int)→Option bC)) (m:Nat) (v:rk.V):=body Try.prog (ao Try.prog (nE k f64) gw) (a3i k f64) a8h (rk.st v) (aH (zU k f64) (zT k f64 m))
theorem a4i (k:Nat) (f64:(aV→aN→aT→(List Int)→Option bC)) (m:Nat) (v:rk.V):zT k f64 (m+1) v=(GY k f64 m v).eval∧(GY k f64 m v).left=(GY k f64 m v).right:=⟨by kernel_rfl,by kernel_rfl⟩
theorem Qm (k:Nat) (f64:(aV→aN→aT→(List Int)→Option bC)) (h64:ai Try.prog 64∧aB Try.prog 64 (lH f64)):aC Try.prog gw (zU k f64) Qh :=
 am (by kernel_rfl) (aA (iP k f64 h64) (aG (L:=[(zS k f64,Qg)]) (by kernel_rfl) (.cons (Ql k f64 h64) .nil)) (zT k f64) k (fun _=>rfl) (fun _=>rfl) (a4i k f64))
noncomputable def GZ (k:Nat) (f64:(aV→aN→aT→(List Int)→Option bC)) (m:Nat) (v:rm.V):=body Try.prog (ao Try.prog (nE k f64) gw) .go a9h (rm.st v) (aH (zW k f64) (zV k f64 m))
theorem a5i (k:Nat) (f64:(aV→aN→aT→(List Int)→Option bC)) (m:Nat) (v:rm.V):zV k f64 (m+1) v=(GZ k f64 m v).eval∧(GZ k f64 m v).left=(GZ k f64 m v).right:=⟨by kernel_rfl,by kernel_rfl⟩
theorem Qn (k:Nat) (f64:(aV→aN→aT→(List Int)→Option bC)) (h64:ai Try.prog 64∧aB Try.prog 64 (lH f64)):aC Try.prog gw (zW k f64) Qi :=
 am (by kernel_rfl) (aA (iP k f64 h64) (aj _) (zV k f64) k (fun _=>rfl) (fun _=>rfl) (a5i k f64))
def a6i (k:Nat) (f64:(aV→aN→aT→(List Int)→Option bC)):aO:=(.seq .go (.seq .go (.seq .go (.seq (.seq .go (.sub (.frag (zO k f64)))) (.seq (.seq .go (.sub (.seq .go (.seq .go (.seq .go (.seq (.seq .go (.seq (.seq .go (.sub (.frag (zQ k f64)))) .go)) (.seq .go (.seq .go (.seq .go (.seq .go (.seq .go (.seq (.seq .go (.seq (.seq .go (.sub (.frag (zU k f64)))) .go)) .go)))))))))))) (.seq .go (.seq .go (.seq .go (.seq (.seq .go (.sub (.frag (zW k f64)))) .go)))))))))
noncomputable def TT (k:Nat) (f64:(aV→aN→aT→(List Int)→Option bC)) (x:AT (GU k f64).ps):=fnT Try.prog (nE k f64) gw Try.f64 (ab Try.f64) (a6i k f64) (GU k f64) x
theorem a8A (k:Nat) (f64:(aV→aN→aT→(List Int)→Option bC)) (x:AT (GU k f64).ps):(GU k f64).impl x=(TT k f64 x).eval∧(TT k f64 x).left=(TT k f64 x).right:=⟨by kernel_rfl,by kernel_rfl⟩
theorem b64 (k:Nat) (f64:(aV→aN→aT→(List Int)→Option bC)) (h64:ai Try.prog 64∧aB Try.prog 64 (lH f64)):ai Try.prog 64∧aB Try.prog 64 (GU k f64) :=
 aS (n:=gw) (fn:=Try.f64) (p:=(a6i k f64)) (iP k f64 h64) (by kernel_rfl) (aG (L:=[(zO k f64,Qe),(zQ k f64,Qf),(zU k f64,Qh),(zW k f64,Qi)]) (by kernel_rfl) (.cons (Qj k f64 h64) (.cons (Qk k f64 h64) (.cons (Qm k f64 h64) (.cons (Qn k f64 h64) .nil))))) (a8A k f64)
def R64:Nat→(aV→aN→aT→(List Int)→Option bC)
 |0=>fun _ _ _ _=>none
 |k+1=>B64 k (R64 k)
def F64 (k:Nat) (a0_:aV) (a1_:aN) (a2_:aT) (a3_:(List Int)):Option bC:=(R64 k) a0_ a1_ a2_ a3_
def a7i (k:Nat):ap:=⟨[.val iM,.val KD5,.val dF,.val aZ],[.own bj],fun x=>F64 k x.1 x.2.1 x.2.2.1 x.2.2.2.1⟩
theorem r64 (k:Nat):(ai Try.prog 64∧aB Try.prog 64 (lH (R64 k))):=by
 induction k with
 |zero=>exact ⟨⟨Try.f64,by kernel_rfl,by kernel_rfl,by kernel_rfl⟩,fun x r h=>by cases (show (none:Option _)=some r from h)⟩
 |succ k ih=>exact b64 k (R64 k) ih
theorem v64 (k:Nat):ai Try.prog 64∧aB Try.prog 64 (a7i k):=(r64 k)
def tU (k:Nat):Nat→(List Int)→Int→aN→(List (List Int))→Option ((((List Int)×Unit)×(aN×(List (List Int))×Unit)))
 |0,_,_,_,_=>none
 |n+1,t1,t6,c2,c19 =>
  let x5:=(decide (t6≤(length t1:Int)))
  bif x5 then
  (F30 k).bind fun r6 =>
  if 0≤t6∧t6<(length c19:Int) then
  (tU k n t1 (wrap .i64 (t6+(1:Int))) c2 (List.set c19 (toNat t6) r6.1.1)).bind some
  else none
  else
  some ((t1,()),(c2,c19,()))
def rq:aE:=⟨[],[(1,.val aZ),(2,.ptr 2 []),(5,.at 19 []),(6,.val (.int .i64))],[(2,some 29,KD5),(19,none,(.sl true 69 (.arr 3 (.int .i64)) none))]⟩
def zX (k m:Nat) (v:rq.V):=tU k m v.1.1 v.1.2.1 v.2.1 v.2.2.1
def zY (k:Nat):aL:=⟨rq,[(.exit 0,⟨[],[(1,.val aZ),(2,.ptr 2 []),(5,.at 19 [])],[(2,some 29,KD5),(19,none,(.sl true 69 (.arr 3 (.int .i64)) none))]⟩)],zX k k⟩
def nF (k:Nat):Nat→(List Int)→Int→Int→Bool→Int→Int→aN→Lv→(List (List Int))→aT→(List (List Int))→(List (List Int))→Option ((((List Int)×Int×Int×Bool×Int×Unit)×(aN×Lv×(List (List Int))×aT×(List (List Int))×(List (List Int))×Unit)))
 |0,_,_,_,_,_,_,_,_,_,_,_,_=>none
 |n+1,t1,t8,t12,t13,t14,t15,c2,c9,c19,e0,e1,e2 =>
  let x23:=(decide (t15≤(length t1:Int)))
  bif x23 then
  bif t13 then
  if 0≤t15∧t15<(length e1:Int) then
  if 0≤t12∧t12<(length (getD e1 (toNat t15) ([]:(List Int))):Int) then
  let x24:=(getD (getD e1 (toNat t15) ([]:(List Int))) (toNat t12) (0:Int))
  (nF k n t1 t8 t12 true (aK t14 x24) (wrap .i64 (t15+(1:Int))) c2 c9 c19 e0 e1 e2).bind some
  else none
  else none
  else
  if 0≤t12∧t12<(length e2:Int) then
  if 0≤t15∧t15<(length (getD e2 (toNat t12) ([]:(List Int))):Int) then
  let x25:=(getD (getD e2 (toNat t12) ([]:(List Int))) (toNat t15) (0:Int))
  if 0≤t15∧t15<(length e1:Int) then
  if 0≤t12∧t12<(length (getD e1 (toNat t15) ([]:(List Int))):Int) then
  let x26:=(getD (getD e1 (toNat t15) ([]:(List Int))) (toNat t12) (0:Int))
  (nF k n t1 t8 t12 (decide (x25<(1152921504606846976:Int))) (aK t14 x26) (wrap .i64 (t15+(1:Int))) c2 c9 c19 e0 e1 e2).bind some
  else none
  else none
  else none
  else none
  else
  some ((t1,t8,t12,t13,t14,()),(c2,c9,c19,e0,e1,e2,()))
def rr:aE:=⟨[],[(1,.val aZ),(2,.ptr 2 []),(5,.at 19 []),(7,.at 1000496 []),(8,.val (.int .i64)),(9,.ptr 9 []),(10,.at 1000784 []),(11,.at 1000880 []),(12,.val (.int .i64)),(13,.val .bool),(14,.val (.int .i64)),(15,.val (.int .i64))],[(2,some 29,KD5),(9,some 67,ER),(19,none,(.sl true 69 (.arr 3 (.int .i64)) none)),(1000496,none,fp),(1000784,none,bj),(1000880,none,bj)]⟩
def zZ (k m:Nat) (v:rr.V):=nF k m v.1.1 v.1.2.1 v.1.2.2.1 v.1.2.2.2.1 v.1.2.2.2.2.1 v.1.2.2.2.2.2.1 v.2.1 v.2.2.1 v.2.2.2.1 v.2.2.2.2.1 v.2.2.2.2.2.1 v.2.2.2.2.2.2.1
def z4 (k:Nat):aL:=⟨rr,[(.exit 6,⟨[],[(1,.val aZ),(2,.ptr 2 []),(5,.at 19 []),(7,.at 1000496 []),(8,.val (.int .i64)),(9,.ptr 9 []),(10,.at 1000784 []),(11,.at 1000880 []),(12,.val (.int .i64)),(13,.val .bool),(14,.val (.int .i64))],[(2,some 29,KD5),(9,some 67,ER),(19,none,(.sl true 69 (.arr 3 (.int .i64)) none)),(1000496,none,fp),(1000784,none,bj),(1000880,none,bj)]⟩)],zZ k k⟩
def nG (k:Nat):Nat→(List Int)→Int→Int→aN→Lv→(List (List Int))→aT→(List (List Int))→(List (List Int))→Option ((((List Int)×Int×Unit)×(aN×(List (List Int))×aT×Unit)))
 |0,_,_,_,_,_,_,_,_,_=>none
 |n+1,t1,t8,t12,c2,c9,c19,e0,e1,e2 =>
  let x42:=(decide (t12≤(length t1:Int)))
  bif x42 then
  (nF k k t1 t8 t12 false (1152921504606846976:Int) (0:Int) c2 c9 c19 e0 e1 e2).bind fun r43 =>
  let y46:=r43.1.2.2.1
  let y50:=r43.2.2.1
  let y51:=r43.2.2.2.1
  bif r43.1.2.2.2.1 then
  if 0≤y46∧y46<(length y51:Int) then
  if 0≤y50.1∧y50.1<((3:Nat):Int) then
  let x55:=(getD (getD y51 (toNat y46) ([]:(List Int))) (toNat y50.1) (0:Int))
  if 0≤y46∧y46<(length y51:Int) then
  (F34 k y50.2.1 r43.1.2.2.2.2.1).bind fun r56 =>
  if 0≤y50.1∧y50.1<((3:Nat):Int) then
  let x57:=(List.set y51 (toNat y46) (List.set (getD y51 (toNat y46) ([]:(List Int))) (toNat y50.1) (aK x55 r56.1.1)))
  (nG k n r43.1.1 r43.1.2.1 (wrap .i64 (y46+(1:Int))) r43.2.1 y50 x57 r43.2.2.2.2.1 r43.2.2.2.2.2.1 r43.2.2.2.2.2.2.1).bind some
  else none
  else none
  else none
  else none
  else
  (nG k n r43.1.1 r43.1.2.1 (wrap .i64 (y46+(1:Int))) r43.2.1 y50 y51 r43.2.2.2.2.1 r43.2.2.2.2.2.1 r43.2.2.2.2.2.2.1).bind some
  else
  some ((t1,t8,()),(c2,c19,e0,()))
def rt:aE:=⟨[],[(1,.val aZ),(2,.ptr 2 []),(5,.at 19 []),(7,.at 1000496 []),(8,.val (.int .i64)),(9,.ptr 9 []),(10,.at 1000784 []),(11,.at 1000880 []),(12,.val (.int .i64))],[(2,some 29,KD5),(9,some 67,ER),(19,none,(.sl true 69 (.arr 3 (.int .i64)) none)),(1000496,none,fp),(1000784,none,bj),(1000880,none,bj)]⟩
def z5 (k m:Nat) (v:rt.V):=nG k m v.1.1 v.1.2.1 v.1.2.2.1 v.2.1 v.2.2.1 v.2.2.2.1 v.2.2.2.2.1 v.2.2.2.2.2.1 v.2.2.2.2.2.2.1
def z6 (k:Nat):aL:=⟨rt,[(.exit 4,⟨[],[(1,.val aZ),(2,.ptr 2 []),(5,.at 19 []),(7,.at 1000496 []),(8,.val (.int .i64))],[(2,some 29,KD5),(19,none,(.sl true 69 (.arr 3 (.int .i64)) none)),(1000496,none,fp)]⟩)],z5 k k⟩
def tV (k:Nat):Nat→(List Int)→Int→aN→(List (List Int))→aT→Option mN
 |0,_,_,_,_,_=>none
 |n+1,t1,t8,c2,c19,e0 =>
  let x64:=(decide (t8<(length c2.2.1:Int)))
  bif x64 then
  if 0≤t8∧t8<(length c2.2.1:Int) then
  let x65:=(getD c2.2.1 (toNat t8) ((0:Int),((0:Int),((ae.mk ((0:Int),((0:Int),((0:Int),((0:Int),(ByteArray.empty,()))))) []),((ae.mk ((0:Int),((0:Int),((0:Int),((0:Int),(ByteArray.empty,()))))) []),())))))
  (F64 k x65.2.2.1 c2 e0 t1).bind fun r68 =>
  (F64 k x65.2.2.2.1 c2 e0 t1).bind fun r69 =>
  (nG k k t1 t8 (0:Int) c2 x65 c19 e0 r68.1.1 r69.1.1).bind fun r70 =>
  (tV k n r70.1.1 (wrap .i64 (r70.1.2.1+(1:Int))) r70.2.1 r70.2.2.1 r70.2.2.2.1).bind some
  else none
  else
  some ((),(c19,()))
def ru:aE:=⟨[],[(1,.val aZ),(2,.ptr 2 []),(5,.at 19 []),(7,.at 1000496 []),(8,.val (.int .i64))],[(2,some 29,KD5),(19,none,(.sl true 69 (.arr 3 (.int .i64)) none)),(1000496,none,fp)]⟩
def z7 (k m:Nat) (v:ru.V):=tV k m v.1.1 v.1.2.1 v.2.1 v.2.2.1 v.2.2.2.1
def z8 (k:Nat):aL:=⟨ru,[(.exit 2,⟨[],[(5,.at 19 [])],[(19,none,(.sl true 69 (.arr 3 (.int .i64)) none))]⟩)],z7 k k⟩
def F28 (k:Nat) (a0:aN) (a1:(List Int)):Option bC :=
 let x1:=(wrap .i64 ((length a1:Int)+(1:Int)))
 if (0≤x1∧x1<x1+1)∧x1≤9223372036854775807∧((24:Nat):Int)*x1≤281474976710656 then
 let x2:=(replicate (toNat x1) (replicate 3 (0:Int)))
 (tU k k a1 (0:Int) a0 x2).bind fun r7 =>
 (F37 k r7.2.1).bind fun r11 =>
 (tV k k r7.1.1 (0:Int) r7.2.1 r7.2.2.1 r11.1.1).bind fun r76 =>
 some ((r76.2.1,()),())
 else none
def BP (k:Nat):ap:=⟨[.val KD5,.val aZ],[.own (.sl true 69 (.arr 3 (.int .i64)) none)],fun x=>F28 k x.1 x.2.1⟩
def jf:Lim:=⟨108,2,false,false,[],[]⟩
def tW (k:Nat):Nat→Option ap:=aW [(30,uW k),(34,kr k),(37,u9 k),(64,a7i k)]
noncomputable def Qo:Code:=ac (ab Try.f28) [.r,.r,.l,.r,.s]
noncomputable def a8i:Code:=ac (ab Try.f28) [.r,.r,.l,.r,.s,.b]
noncomputable def Qp:Code:=ac (ab Try.f28) [.r,.r,.r,.r,.l,.r,.s,.b,.r,.l,.s,.r,.r,.r,.s,.b,.r,.l,.s,.r,.l,.r,.s]
noncomputable def a9i:Code:=ac (ab Try.f28) [.r,.r,.r,.r,.l,.r,.s,.b,.r,.l,.s,.r,.r,.r,.s,.b,.r,.l,.s,.r,.l,.r,.s,.b]
noncomputable def Qq:Code:=ac (ab Try.f28) [.r,.r,.r,.r,.l,.r,.s,.b,.r,.l,.s,.r,.r,.r,.s]
noncomputable def a0j:Code:=ac (ab Try.f28) [.r,.r,.r,.r,.l,.r,.s,.b,.r,.l,.s,.r,.r,.r,.s,.b]
noncomputable def Qr:Code:=ac (ab Try.f28) [.r,.r,.r,.r,.l,.r,.s]
noncomputable def a1j:Code:=ac (ab Try.f28) [.r,.r,.r,.r,.l,.r,.s,.b]
noncomputable def co28:Code:=ac (ab Try.f28) []
theorem kv (k:Nat):aR Try.prog (tW k):=ah (v30 k) (ah (v34 k) (ah (v37 k) (ah (v64 k) (aD))))
noncomputable def G0 (k m:Nat) (v:rq.V):=body Try.prog (ao Try.prog (tW k) jf) .go a8i (rq.st v) (aH (zY k) (zX k m))
theorem a2j (k m:Nat) (v:rq.V):zX k (m+1) v=(G0 k m v).eval∧(G0 k m v).left=(G0 k m v).right:=⟨by kernel_rfl,by kernel_rfl⟩
theorem Qs (k:Nat):aC Try.prog jf (zY k) Qo :=
 am (by kernel_rfl) (aA (kv k) (aj _) (zX k) k (fun _=>rfl) (fun _=>rfl) (a2j k))
noncomputable def G1 (k m:Nat) (v:rr.V):=body Try.prog (ao Try.prog (tW k) jf) .go a9i (rr.st v) (aH (z4 k) (zZ k m))
theorem a3j (k m:Nat) (v:rr.V):zZ k (m+1) v=(G1 k m v).eval∧(G1 k m v).left=(G1 k m v).right:=⟨by kernel_rfl,by kernel_rfl⟩
theorem Qt (k:Nat):aC Try.prog jf (z4 k) Qp :=
 am (by kernel_rfl) (aA (kv k) (aj _) (zZ k) k (fun _=>rfl) (fun _=>rfl) (a3j k))
def a4j (k:Nat):aO:=(.seq .go (.seq (.sub (.seq .go (.seq (.seq .go (.sub (.frag (z4 k)))) .go))) .go))
noncomputable def G2 (k m:Nat) (v:rt.V):=body Try.prog (ao Try.prog (tW k) jf) (a4j k) a0j (rt.st v) (aH (z6 k) (z5 k m))
theorem a5j (k m:Nat) (v:rt.V):z5 k (m+1) v=(G2 k m v).eval∧(G2 k m v).left=(G2 k m v).right:=⟨by kernel_rfl,by kernel_rfl⟩
theorem Qu (k:Nat):aC Try.prog jf (z6 k) Qq :=
 am (by kernel_rfl) (aA (kv k) (aG (L:=[(z4 k,Qp)]) (by kernel_rfl) (.cons (Qt k) .nil)) (z5 k) k (fun _=>rfl) (fun _=>rfl) (a5j k))
def a6j (k:Nat):aO:=(.seq .go (.seq (.sub (.seq .go (.seq .go (.seq .go (.sub (.frag (z6 k))))))) .go))
noncomputable def G3 (k m:Nat) (v:ru.V):=body Try.prog (ao Try.prog (tW k) jf) (a6j k) a1j (ru.st v) (aH (z8 k) (z7 k m))
theorem a7j (k m:Nat) (v:ru.V):z7 k (m+1) v=(G3 k m v).eval∧(G3 k m v).left=(G3 k m v).right:=⟨by kernel_rfl,by kernel_rfl⟩
theorem Qv (k:Nat):aC Try.prog jf (z8 k) Qr :=
 am (by kernel_rfl) (aA (kv k) (aG (L:=[(z6 k,Qq)]) (by kernel_rfl) (.cons (Qu k) .nil)) (z7 k) k (fun _=>rfl) (fun _=>rfl) (a7j k))
def a8j (k:Nat):aO:=(.seq .go (.seq .go (.seq (.seq .go (.sub (.frag (zY k)))) (.seq .go (.seq (.seq .go (.sub (.frag (z8 k)))) .go)))))
noncomputable def TU (k:Nat) (x:AT (BP k).ps):=fnT Try.prog (tW k) jf Try.f28 (ab Try.f28) (a8j k) (BP k) x
theorem a9A (k:Nat) (x:AT (BP k).ps):(BP k).impl x=(TU k x).eval∧(TU k x).left=(TU k x).right:=⟨by kernel_rfl,by kernel_rfl⟩
theorem v28 (k:Nat):ai Try.prog 28∧aB Try.prog 28 (BP k) :=
 aS (n:=jf) (fn:=Try.f28) (p:=(a8j k)) (kv k) (by kernel_rfl) (aG (L:=[(zY k,Qo),(z8 k,Qr)]) (by kernel_rfl) (.cons (Qs k) (.cons (Qv k) .nil))) (a9A k)
def tX (k:Nat):Nat→(List (List Int))→(List (List Int))→Int→Option ((Unit×Unit)⊕fa)
 |0,_,_,_=>none
 |n+1,t0,t1,t5 =>
  let x5:=(decide (t5<(length t0:Int)))
  bif x5 then
  if 0≤t5∧t5<(length t0:Int) then
  let x6:=(getD t0 (toNat t5) ([]:(List Int)))
  if 0≤t5∧t5<(length t1:Int) then
  let x7:=(getD t1 (toNat t5) ([]:(List Int)))
  bif (!(x6==x7)) then
  some (.inr ((false,()),()))
  else
  (tX k n t0 t1 (wrap .i64 (t5+(1:Int)))).bind some
  else none
  else none
  else
  some (.inl ((),()))
def rv:aE:=⟨[],[(0,.val (.sl false 69 (.arr 3 (.int .i64)) none)),(1,.val (.sl false 69 (.arr 3 (.int .i64)) none)),(5,.val (.int .i64))],[]⟩
def z9 (k m:Nat) (v:rv.V):=tX k m v.1.1 v.1.2.1 v.1.2.2.1
def Aa (k:Nat):aL:=⟨rv,[(.exit 0,⟨[],[],[]⟩),(.ret,⟨[],[(4,.val .bool)],[]⟩)],z9 k k⟩
def F25 (k:Nat) (a0:(List (List Int))) (a1:(List (List Int))):Option fa :=
 let x1:=((length a0:Int) != (length a1:Int))
 bif x1 then
 some ((false,()),())
 else
 (tX k k a0 a1 (0:Int)).bind fun r8 =>
 match r8 with
 |.inl r9 =>
  some ((true,()),())
 |.inr r9 =>
  some ((r9.1.1,()),())
def BQ (k:Nat):ap:=⟨[.val (.sl false 69 (.arr 3 (.int .i64)) none),.val (.sl false 69 (.arr 3 (.int .i64)) none)],[.val .bool],fun x=>F25 k x.1 x.2.1⟩
def DH:Lim:=⟨26,2,false,false,[],[]⟩
def Ma (k:Nat):Nat→Option ap:=aW []
noncomputable def Qw:Code:=ac (ab Try.f25) [.r,.r,.l,.r,.s]
noncomputable def a9j:Code:=ac (ab Try.f25) [.r,.r,.l,.r,.s,.b]
noncomputable def co25:Code:=ac (ab Try.f25) []
theorem G4 (k:Nat):aR Try.prog (Ma k):=aD
noncomputable def G5 (k m:Nat) (v:rv.V):=body Try.prog (ao Try.prog (Ma k) DH) .go a9j (rv.st v) (aH (Aa k) (z9 k m))
theorem a0k (k m:Nat) (v:rv.V):z9 k (m+1) v=(G5 k m v).eval∧(G5 k m v).left=(G5 k m v).right:=⟨by kernel_rfl,by kernel_rfl⟩
theorem Qx (k:Nat):aC Try.prog DH (Aa k) Qw :=
 am (by kernel_rfl) (aA (G4 k) (aj _) (z9 k) k (fun _=>rfl) (fun _=>rfl) (a0k k))
def a1k (k:Nat):aO:=(.seq .go (.seq .go (.seq (.seq .go (.sub (.frag (Aa k)))) .go)))
noncomputable def TV (k:Nat) (x:AT (BQ k).ps):=fnT Try.prog (Ma k) DH Try.f25 (ab Try.f25) (a1k k) (BQ k) x
theorem a0B (k:Nat) (x:AT (BQ k).ps):(BQ k).impl x=(TV k x).eval∧(TV k x).left=(TV k x).right:=⟨by kernel_rfl,by kernel_rfl⟩
theorem v25 (k:Nat):ai Try.prog 25∧aB Try.prog 25 (BQ k) :=
 aS (n:=DH) (fn:=Try.f25) (p:=(a1k k)) (G4 k) (by kernel_rfl) (aG (L:=[(Aa k,Qw)]) (by kernel_rfl) (.cons (Qx k) .nil)) (a0B k)
def F4 (k:Nat) (a0:du) (a1:(List Int)) (a2:(List Int)) (a3:(List Int)):Option fa :=
 (F13 k).bind fun r1 =>
 bif (!r1.1.1) then
 some ((false,()),())
 else
 (F14 k a0).bind fun r2 =>
 bif (!r2.1.1) then
 some ((true,()),())
 else
 (F15 k a0 a1 a2).bind fun r3 =>
 bif (!r3.1.2.1) then
 some ((true,()),())
 else
 (F16 k r3.1.1).bind fun r8 =>
 bif (!r8.1.1) then
 some ((true,()),())
 else
 (F17 k r3.1.1.2.2.2.2.2.1 r3.1.1.2.2.2.1 r3.1.1.2.2.2.2.2.2.1 (60:Int)).bind fun r9 =>
 bif (r9.1.2.2.1 != (0:Int)) then
 some ((true,()),())
 else
 (F19 k r3.1.1.1.2.1 r3.1.1.2.2.2.2.1 r3.1.1.2.2.2.1 r3.1.1.2.2.2.2.2.2.1 r9.1.2.1 (80:Int)).bind fun r10 =>
 bif (r10.1.2.1 != (0:Int)) then
 some (((r10.1.2.1==(4:Int)),()),())
 else
 (F23 k a3 (6:Int)).bind fun r11 =>
 (F22 k r3.1.1 r11.1.1).bind fun r12 =>
 (F24 k r9.1.1 r12.1.1).bind fun r13 =>
 (F26 k r10.1.1 r12.1.1 r13.1.1).bind fun r14 =>
 (F28 k r3.1.1.1 r11.1.1).bind fun r15 =>
 (F25 k r14.1.1 r15.1.1).bind fun r16 =>
 some ((r16.1.1,()),())
def sp4 (k:Nat):ap:=⟨[.val oW,.val aZ,.val aZ,.val aZ],[.val .bool],fun x=>F4 k x.1 x.2.1 x.2.2.1 x.2.2.2.1⟩
def a2k:Lim:=⟨84,4,false,false,[],[]⟩
def a3k (k:Nat):Nat→Option ap:=aW [(13,A8 k),(14,Ba k),(15,Bz k),(16,BB k),(17,BG k),(19,uU k),(22,BK k),(23,BI k),(24,BL k),(25,BQ k),(26,uV k),(28,BP k)]
noncomputable def co4:Code:=ac (ab Try.f4) []
theorem Wg (k:Nat):aR Try.prog (a3k k):=ah (v13 k) (ah (v14 k) (ah (v15 k) (ah (v16 k) (ah (v17 k) (ah (v19 k) (ah (v22 k) (ah (v23 k) (ah (v24 k) (ah (v25 k) (ah (v26 k) (ah (v28 k) (aD))))))))))))
noncomputable def bo4 (k:Nat) (x:AT (sp4 k).ps):=fnT Try.prog (a3k k) a2k Try.f4 (ab Try.f4) .go (sp4 k) x
theorem vv4 (k:Nat) (x:AT (sp4 k).ps):(sp4 k).impl x=(bo4 k x).eval∧(bo4 k x).left=(bo4 k x).right:=⟨by kernel_rfl,by kernel_rfl⟩
theorem v4 (k:Nat):ai Try.prog 4∧aB Try.prog 4 (sp4 k) :=
 aS (n:=a2k) (fn:=Try.f4) (p:=.go) (Wg k) (by kernel_rfl) (aj _) (vv4 k)
end Go.Proofs.YtgmmopbpldgpcaaE

