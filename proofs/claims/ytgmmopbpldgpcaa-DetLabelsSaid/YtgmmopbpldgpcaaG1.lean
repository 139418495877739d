/- Functions of the program, as Lean functions, with their contracts; printed by gen.py. Conditions: none. -/
import Derived.Test.YtgmmopbpldgpcaaG0
set_option linter.unusedVariables false
namespace Go.Proofs.YtgmmopbpldgpcaaE
open Kd
open List (length getD replicate take drop)
open Int (toNat)
open IntKind (wrap)
set_option maxRecDepth 20000
def F97_0 (k:Nat):Nat→Int→Int→Int→TY33→TY33→TY33→TY33→Option (((Int×Int×Unit)×(TY33×TY33×TY33×TY33×Unit)))
 |0,_,_,_,_,_,_,_=>none
 |n+1,t5,t7,t8,c2,c3,c4,c6 =>
  let x10:=(decide (t8<(length c3.1:Int)))
  bif x10 then
  if 0≤t7∧t7<(length c2.2.2.1:Int) then
  let x11:=(getD c2.2.2.1 (toNat t7) (0:Int))
  if 0≤t8∧t8<(length c3.2.1:Int) then
  (F34 k x11 (getD c3.2.1 (toNat t8) (0:Int))).bind fun r12 =>
  (F102 k c6.2.2.2.1 (t7,((wrap .i64 (t5+t8)),(r12.1.1,())))).bind fun r13 =>
  (F97_0 k n t5 t7 (wrap .i64 (t8+(1:Int))) c2 c3 c4 (c6.1,(c6.2.1,(c6.2.2.1,(r13.1.1,c6.2.2.2.2))))).bind some
  else none
  else none
  else
  some ((t5,t7,()),(c2,c3,c4,c6,()))
def sq97_0:Shape:=⟨[],[(2,.ptr 2 []),(3,.ptr 3 []),(4,.ptr 4 []),(5,.val (.int .i64)),(6,.ptr 6 []),(7,.val (.int .i64)),(8,.val (.int .i64))],[(2,some 81,KD15),(3,some 81,KD15),(4,some 81,KD16),(6,some 81,KD16)]⟩
def fu97_0 (k m:Nat) (v:sq97_0.V):=F97_0 k m v.1.1 v.1.2.1 v.1.2.2.1 v.2.1 v.2.2.1 v.2.2.2.1 v.2.2.2.2.1
def fr97_0 (k:Nat):Frag:=⟨sq97_0,[(.exit 2,⟨[],[(2,.ptr 2 []),(3,.ptr 3 []),(4,.ptr 4 []),(5,.val (.int .i64)),(6,.ptr 6 []),(7,.val (.int .i64))],[(2,some 81,KD15),(3,some 81,KD15),(4,some 81,KD16),(6,some 81,KD16)]⟩)],fu97_0 k k⟩
def F97_1 (k:Nat):Nat→Int→Int→TY33→TY33→TY33→TY33→Option TY8
 |0,_,_,_,_,_,_=>none
 |n+1,t5,t7,c2,c3,c4,c6 =>
  bif (decide (t7<t5)) then
  if 0≤t7∧t7<(length c2.2.1:Int) then
  if 0≤t7∧t7<(length c2.2.2.1:Int) then
  let x21:=(getD c2.2.2.1 (toNat t7) (0:Int))
  (F34 k x21 c3.2.2.2.2.1).bind fun r22 =>
  if 0≤t7∧t7<(length c6.2.1:Int) then
  let x23:=(List.set c6.2.1 (toNat t7) (getD c2.2.1 (toNat t7) (0:Int)))
  if 0≤t7∧t7<(length c6.2.2.1:Int) then
  (F97_0 k k t5 t7 (0:Int) c2 c3 c4 (c6.1,(x23,((List.set c6.2.2.1 (toNat t7) r22.1.1),c6.2.2.2)))).bind fun r24 =>
  (F97_1 k n r24.1.1 (wrap .i64 (r24.1.2.1+(1:Int))) r24.2.1 r24.2.2.1 r24.2.2.2.1 r24.2.2.2.2.1).bind some
  else none
  else none
  else none
  else none
  else
  some ((t5,()),(c2,c3,c4,c6,()))
def sq97_1:Shape:=⟨[],[(2,.ptr 2 []),(3,.ptr 3 []),(4,.ptr 4 []),(5,.val (.int .i64)),(6,.ptr 6 []),(7,.val (.int .i64))],[(2,some 81,KD15),(3,some 81,KD15),(4,some 81,KD16),(6,some 81,KD16)]⟩
def fu97_1 (k m:Nat) (v:sq97_1.V):=F97_1 k m v.1.1 v.1.2.1 v.2.1 v.2.2.1 v.2.2.2.1 v.2.2.2.2.1
def fr97_1 (k:Nat):Frag:=⟨sq97_1,[(.exit 0,⟨[],[(2,.ptr 2 []),(3,.ptr 3 []),(4,.ptr 4 []),(5,.val (.int .i64)),(6,.ptr 6 [])],[(2,some 81,KD15),(3,some 81,KD15),(4,some 81,KD16),(6,some 81,KD16)]⟩)],fu97_1 k k⟩
def F97_2 (k:Nat):Nat→Int→Int→TY33→TY33→TY33→TY33→Option TY17
 |0,_,_,_,_,_,_=>none
 |n+1,t5,t9,c2,c3,c4,c6 =>
  let x42:=(decide (t9<(length c3.1:Int)))
  bif x42 then
  if 0≤t9∧t9<(length c3.2.1:Int) then
  if 0≤t9∧t9<(length c3.2.2.1:Int) then
  let x43:=(getD c3.2.2.1 (toNat t9) (0:Int))
  (F34 k c2.2.2.2.2.1 (getD c3.2.1 (toNat t9) (0:Int))).bind fun r44 =>
  if 0≤(wrap .i64 (t5+t9))∧(wrap .i64 (t5+t9))<(length c6.2.1:Int) then
  let x45:=(toNat (wrap .i64 (t5+t9)))
  if 0≤(wrap .i64 (t5+t9))∧(wrap .i64 (t5+t9))<(length c6.2.2.1:Int) then
  let x46:=(toNat (wrap .i64 (t5+t9)))
  (F97_2 k n t5 (wrap .i64 (t9+(1:Int))) c2 c3 c4 (c6.1,((List.set c6.2.1 x45 r44.1.1),((List.set c6.2.2.1 x46 x43),c6.2.2.2)))).bind some
  else none
  else none
  else none
  else none
  else
  some ((),(c4,c6,()))
def sq97_2:Shape:=⟨[],[(2,.ptr 2 []),(3,.ptr 3 []),(4,.ptr 4 []),(5,.val (.int .i64)),(6,.ptr 6 []),(9,.val (.int .i64))],[(2,some 81,KD15),(3,some 81,KD15),(4,some 81,KD16),(6,some 81,KD16)]⟩
def fu97_2 (k m:Nat) (v:sq97_2.V):=F97_2 k m v.1.1 v.1.2.1 v.2.1 v.2.2.1 v.2.2.2.1 v.2.2.2.2.1
def fr97_2 (k:Nat):Frag:=⟨sq97_2,[(.exit 4,⟨[],[(4,.ptr 4 []),(6,.ptr 6 [])],[(4,some 81,KD16),(6,some 81,KD16)]⟩)],fu97_2 k k⟩
def F97 (k:Nat) (a0:TY33) (a1:TY33):Option TY29 :=
 (F101 k a0 a1).bind fun r1 =>
 (F34 k a0.2.2.2.2.1 a1.2.2.2.2.1).bind fun r2 =>
 (F97_1 k k (length a0.1:Int) (0:Int) a0 a1 (([]:(List Int)),(([]:(List Int)),(([]:(List Int)),(([]:TY58),((0:Int),()))))) (r1.1.1.1,(r1.1.1.2.1,(r1.1.1.2.2.1,(r1.1.1.2.2.2.1,(r2.1.1,r1.1.1.2.2.2.2.2)))))).bind fun r31 =>
 (F97_2 k k r31.1.1 (0:Int) r31.2.1 r31.2.2.1 r31.2.2.2.1 r31.2.2.2.2.1).bind fun r47 =>
 some ((r47.2.2.1,()),())
def sp97 (k:Nat):Spec:=⟨[.val KD15,.val KD15],[.own KD16],fun x=>F97 k x.1 x.2.1⟩
def lim97:Lim:=⟨108,2,false,false,[],[]⟩
def cfg97 (k:Nat):Nat→Option Spec:=cfgL [(34,sp34 k),(101,sp101 k),(102,sp102 k)]
noncomputable def co97_0:Code:=codeAt (bodyOf Try.f97) [.r,.r,.r,.r,.l,.r,.s,.b,.r,.l,.s,.r,.r,.s]
noncomputable def cb97_0:Code:=codeAt (bodyOf Try.f97) [.r,.r,.r,.r,.l,.r,.s,.b,.r,.l,.s,.r,.r,.s,.b]
noncomputable def co97_1:Code:=codeAt (bodyOf Try.f97) [.r,.r,.r,.r,.l,.r,.s]
noncomputable def cb97_1:Code:=codeAt (bodyOf Try.f97) [.r,.r,.r,.r,.l,.r,.s,.b]
noncomputable def co97_2:Code:=codeAt (bodyOf Try.f97) [.r,.r,.r,.r,.r,.l,.r,.s]
noncomputable def cb97_2:Code:=codeAt (bodyOf Try.f97) [.r,.r,.r,.r,.r,.l,.r,.s,.b]
noncomputable def co97:Code:=codeAt (bodyOf Try.f97) []
theorem cfg97_ok (k:Nat):CfgOK Try.prog (cfg97 k):=cfgL_cons (v34 k) (cfgL_cons (v101 k) (cfgL_cons (v102 k) (cfgL_nil)))
noncomputable def bo97_0 (k m:Nat) (v:sq97_0.V):=body Try.prog (stepper Try.prog (cfg97 k) lim97) .go cb97_0 (sq97_0.st v) (loopK (fr97_0 k) (fu97_0 k m))
theorem pp97_0 (k m:Nat) (v:sq97_0.V):fu97_0 k (m+1) v=(bo97_0 k m v).eval∧(bo97_0 k m v).left=(bo97_0 k m v).right:=⟨by kernel_rfl,by kernel_rfl⟩
theorem fr97_0_ok (k:Nat):FragOK Try.prog lim97 (fr97_0 k) co97_0 :=
 frag_cast (by kernel_rfl) (loop_ok (cfg97_ok k) (planOK_go _) (fu97_0 k) k (fun _=>rfl) (fun _=>rfl) (pp97_0 k))
def pl97_1 (k:Nat):Plan:=(.seq .go (.seq (.sub (.seq .go (.seq .go (.sub (.frag (fr97_0 k)))))) .go))
noncomputable def bo97_1 (k m:Nat) (v:sq97_1.V):=body Try.prog (stepper Try.prog (cfg97 k) lim97) (pl97_1 k) cb97_1 (sq97_1.st v) (loopK (fr97_1 k) (fu97_1 k m))
theorem pp97_1 (k m:Nat) (v:sq97_1.V):fu97_1 k (m+1) v=(bo97_1 k m v).eval∧(bo97_1 k m v).left=(bo97_1 k m v).right:=⟨by kernel_rfl,by kernel_rfl⟩
theorem fr97_1_ok (k:Nat):FragOK Try.prog lim97 (fr97_1 k) co97_1 :=
 frag_cast (by kernel_rfl) (loop_ok (cfg97_ok k) (plan_of (L:=[(fr97_0 k,co97_0)]) (by kernel_rfl) (.cons (fr97_0_ok k) .nil)) (fu97_1 k) k (fun _=>rfl) (fun _=>rfl) (pp97_1 k))
noncomputable def bo97_2 (k m:Nat) (v:sq97_2.V):=body Try.prog (stepper Try.prog (cfg97 k) lim97) .go cb97_2 (sq97_2.st v) (loopK (fr97_2 k) (fu97_2 k m))
theorem pp97_2 (k m:Nat) (v:sq97_2.V):fu97_2 k (m+1) v=(bo97_2 k m v).eval∧(bo97_2 k m v).left=(bo97_2 k m v).right:=⟨by kernel_rfl,by kernel_rfl⟩
theorem fr97_2_ok (k:Nat):FragOK Try.prog lim97 (fr97_2 k) co97_2 :=
 frag_cast (by kernel_rfl) (loop_ok (cfg97_ok k) (planOK_go _) (fu97_2 k) k (fun _=>rfl) (fun _=>rfl) (pp97_2 k))
def pl97 (k:Nat):Plan:=(.seq .go (.seq .go (.seq .go (.seq .go (.seq (.seq .go (.sub (.frag (fr97_1 k)))) (.seq (.seq .go (.sub (.frag (fr97_2 k)))) .go))))))
noncomputable def bo97 (k:Nat) (x:AT (sp97 k).ps):=fnT Try.prog (cfg97 k) lim97 Try.f97 (bodyOf Try.f97) (pl97 k) (sp97 k) x
theorem vv97 (k:Nat) (x:AT (sp97 k).ps):(sp97 k).impl x=(bo97 k x).eval∧(bo97 k x).left=(bo97 k x).right:=⟨by kernel_rfl,by kernel_rfl⟩
theorem v97 (k:Nat):Callable Try.prog 97∧Valid Try.prog 97 (sp97 k) :=
 fn_of (n:=lim97) (fn:=Try.f97) (p:=(pl97 k)) (cfg97_ok k) (by kernel_rfl) (plan_of (L:=[(fr97_1 k,co97_1),(fr97_2 k,co97_2)]) (by kernel_rfl) (.cons (fr97_1_ok k) (.cons (fr97_2_ok k) .nil))) (vv97 k)
def F98_0 (k:Nat):Nat→Int→Int→TY33→TY33→TY33→TY33→Option (((Int×Unit)×(TY33×TY33×TY33×Unit)))
 |0,_,_,_,_,_,_=>none
 |n+1,t5,t7,c2,c3,c4,c6 =>
  bif (decide (t7<t5)) then
  if 0≤t7∧t7<(length c2.2.1:Int) then
  if 0≤t7∧t7<(length c2.2.2.1:Int) then
  let x4:=(getD c2.2.2.1 (toNat t7) (0:Int))
  if 0≤t7∧t7<(length c6.2.1:Int) then
  let x5:=(List.set c6.2.1 (toNat t7) (getD c2.2.1 (toNat t7) (0:Int)))
  if 0≤t7∧t7<(length c6.2.2.1:Int) then
  (F98_0 k n t5 (wrap .i64 (t7+(1:Int))) c2 c3 c4 (c6.1,(x5,((List.set c6.2.2.1 (toNat t7) x4),c6.2.2.2)))).bind some
  else none
  else none
  else none
  else none
  else
  some ((t5,()),(c3,c4,c6,()))
def sq98_0:Shape:=⟨[],[(2,.ptr 2 []),(3,.ptr 3 []),(4,.ptr 4 []),(5,.val (.int .i64)),(6,.ptr 6 []),(7,.val (.int .i64))],[(2,some 81,KD15),(3,some 81,KD15),(4,some 81,KD16),(6,some 81,KD16)]⟩
def fu98_0 (k m:Nat) (v:sq98_0.V):=F98_0 k m v.1.1 v.1.2.1 v.2.1 v.2.2.1 v.2.2.2.1 v.2.2.2.2.1
def fr98_0 (k:Nat):Frag:=⟨sq98_0,[(.exit 0,⟨[],[(3,.ptr 3 []),(4,.ptr 4 []),(5,.val (.int .i64)),(6,.ptr 6 [])],[(3,some 81,KD15),(4,some 81,KD16),(6,some 81,KD16)]⟩)],fu98_0 k k⟩
def F98_1 (k:Nat):Nat→Int→Int→TY33→TY33→TY33→Option TY17
 |0,_,_,_,_,_=>none
 |n+1,t5,t8,c3,c4,c6 =>
  let x16:=(decide (t8<(length c3.1:Int)))
  bif x16 then
  if 0≤t8∧t8<(length c3.2.1:Int) then
  if 0≤t8∧t8<(length c3.2.2.1:Int) then
  let x17:=(getD c3.2.2.1 (toNat t8) (0:Int))
  if 0≤(wrap .i64 (t5+t8))∧(wrap .i64 (t5+t8))<(length c6.2.1:Int) then
  let x18:=(toNat (wrap .i64 (t5+t8)))
  let x19:=(List.set c6.2.1 x18 (getD c3.2.1 (toNat t8) (0:Int)))
  if 0≤(wrap .i64 (t5+t8))∧(wrap .i64 (t5+t8))<(length c6.2.2.1:Int) then
  let x20:=(toNat (wrap .i64 (t5+t8)))
  (F98_1 k n t5 (wrap .i64 (t8+(1:Int))) c3 c4 (c6.1,(x19,((List.set c6.2.2.1 x20 x17),c6.2.2.2)))).bind some
  else none
  else none
  else none
  else none
  else
  some ((),(c4,c6,()))
def sq98_1:Shape:=⟨[],[(3,.ptr 3 []),(4,.ptr 4 []),(5,.val (.int .i64)),(6,.ptr 6 []),(8,.val (.int .i64))],[(3,some 81,KD15),(4,some 81,KD16),(6,some 81,KD16)]⟩
def fu98_1 (k m:Nat) (v:sq98_1.V):=F98_1 k m v.1.1 v.1.2.1 v.2.1 v.2.2.1 v.2.2.2.1
def fr98_1 (k:Nat):Frag:=⟨sq98_1,[(.exit 2,⟨[],[(4,.ptr 4 []),(6,.ptr 6 [])],[(4,some 81,KD16),(6,some 81,KD16)]⟩)],fu98_1 k k⟩
def F98 (k:Nat) (a0:TY33) (a1:TY33):Option TY29 :=
 (F101 k a0 a1).bind fun r1 =>
 (F98_0 k k (length a0.1:Int) (0:Int) a0 a1 (([]:(List Int)),(([]:(List Int)),(([]:(List Int)),(([]:TY58),((0:Int),()))))) (r1.1.1.1,(r1.1.1.2.1,(r1.1.1.2.2.1,(r1.1.1.2.2.2.1,((minI a0.2.2.2.2.1 a1.2.2.2.2.1),r1.1.1.2.2.2.2.2)))))).bind fun r6 =>
 (F98_1 k k r6.1.1 (0:Int) r6.2.1 r6.2.2.1 r6.2.2.2.1).bind fun r21 =>
 some ((r21.2.2.1,()),())
def sp98 (k:Nat):Spec:=⟨[.val KD15,.val KD15],[.own KD16],fun x=>F98 k x.1 x.2.1⟩
def lim98:Lim:=⟨74,2,false,false,[],[]⟩
def cfg98 (k:Nat):Nat→Option Spec:=cfgL [(101,sp101 k)]
noncomputable def co98_0:Code:=codeAt (bodyOf Try.f98) [.r,.r,.r,.r,.l,.r,.s]
noncomputable def cb98_0:Code:=codeAt (bodyOf Try.f98) [.r,.r,.r,.r,.l,.r,.s,.b]
noncomputable def co98_1:Code:=codeAt (bodyOf Try.f98) [.r,.r,.r,.r,.r,.l,.r,.s]
noncomputable def cb98_1:Code:=codeAt (bodyOf Try.f98) [.r,.r,.r,.r,.r,.l,.r,.s,.b]
noncomputable def co98:Code:=codeAt (bodyOf Try.f98) []
theorem cfg98_ok (k:Nat):CfgOK Try.prog (cfg98 k):=cfgL_cons (v101 k) (cfgL_nil)
noncomputable def bo98_0 (k m:Nat) (v:sq98_0.V):=body Try.prog (stepper Try.prog (cfg98 k) lim98) .go cb98_0 (sq98_0.st v) (loopK (fr98_0 k) (fu98_0 k m))
theorem pp98_0 (k m:Nat) (v:sq98_0.V):fu98_0 k (m+1) v=(bo98_0 k m v).eval∧(bo98_0 k m v).left=(bo98_0 k m v).right:=⟨by kernel_rfl,by kernel_rfl⟩
theorem fr98_0_ok (k:Nat):FragOK Try.prog lim98 (fr98_0 k) co98_0 :=
 frag_cast (by kernel_rfl) (loop_ok (cfg98_ok k) (planOK_go _) (fu98_0 k) k (fun _=>rfl) (fun _=>rfl) (pp98_0 k))
noncomputable def bo98_1 (k m:Nat) (v:sq98_1.V):=body Try.prog (stepper Try.prog (cfg98 k) lim98) .go cb98_1 (sq98_1.st v) (loopK (fr98_1 k) (fu98_1 k m))
theorem pp98_1 (k m:Nat) (v:sq98_1.V):fu98_1 k (m+1) v=(bo98_1 k m v).eval∧(bo98_1 k m v).left=(bo98_1 k m v).right:=⟨by kernel_rfl,by kernel_rfl⟩
theorem fr98_1_ok (k:Nat):FragOK Try.prog lim98 (fr98_1 k) co98_1 :=
 frag_cast (by kernel_rfl) (loop_ok (cfg98_ok k) (planOK_go _) (fu98_1 k) k (fun _=>rfl) (fun _=>rfl) (pp98_1 k))
def pl98 (k:Nat):Plan:=(.seq .go (.seq .go (.seq .go (.seq .go (.seq (.seq .go (.sub (.frag (fr98_0 k)))) (.seq (.seq .go (.sub (.frag (fr98_1 k)))) .go))))))
noncomputable def bo98 (k:Nat) (x:AT (sp98 k).ps):=fnT Try.prog (cfg98 k) lim98 Try.f98 (bodyOf Try.f98) (pl98 k) (sp98 k) x
theorem vv98 (k:Nat) (x:AT (sp98 k).ps):(sp98 k).impl x=(bo98 k x).eval∧(bo98 k x).left=(bo98 k x).right:=⟨by kernel_rfl,by kernel_rfl⟩
theorem v98 (k:Nat):Callable Try.prog 98∧Valid Try.prog 98 (sp98 k) :=
 fn_of (n:=lim98) (fn:=Try.f98) (p:=(pl98 k)) (cfg98_ok k) (by kernel_rfl) (plan_of (L:=[(fr98_0 k,co98_0),(fr98_1 k,co98_1)]) (by kernel_rfl) (.cons (fr98_0_ok k) (.cons (fr98_1_ok k) .nil))) (vv98 k)
def F99_0 (k:Nat):Nat→Int→Int→TY33→TY33→TY58→Option (((Int×Unit)×TY14))
 |0,_,_,_,_,_=>none
 |n+1,t4,t5,c1,c2,e0 =>
  let x3:=(decide (t5<(length c1.1:Int)))
  bif x3 then
  if 0≤t4∧t4<(length c1.2.2.1:Int) then
  let x4:=(getD c1.2.2.1 (toNat t4) (0:Int))
  if 0≤t5∧t5<(length c1.2.1:Int) then
  (F34 k x4 (getD c1.2.1 (toNat t5) (0:Int))).bind fun r5 =>
  (F102 k e0 (t4,(t5,(r5.1.1,())))).bind fun r6 =>
  (F99_0 k n t4 (wrap .i64 (t5+(1:Int))) c1 c2 r6.1.1).bind some
  else none
  else none
  else
  some ((t4,()),(c1,c2,e0,()))
def sq99_0:Shape:=⟨[(3,KD38)],[(1,.ptr 1 []),(2,.ptr 2 []),(3,.at 2000003 []),(4,.val (.int .i64)),(5,.val (.int .i64))],[(1,some 81,KD16),(2,some 81,KD16),(2000003,none,KD38)]⟩
def fu99_0 (k m:Nat) (v:sq99_0.V):=F99_0 k m v.1.1 v.1.2.1 v.2.1 v.2.2.1 v.2.2.2.1
def fr99_0 (k:Nat):Frag:=⟨sq99_0,[(.exit 2,⟨[(3,KD38)],[(1,.ptr 1 []),(2,.ptr 2 []),(3,.at 2000003 []),(4,.val (.int .i64))],[(1,some 81,KD16),(2,some 81,KD16),(2000003,none,KD38)]⟩)],fu99_0 k k⟩
def F99_1 (k:Nat):Nat→Int→TY33→TY33→TY58→Option ((Unit×TY14))
 |0,_,_,_,_=>none
 |n+1,t4,c1,c2,e0 =>
  let x2:=(decide (t4<(length c1.1:Int)))
  bif x2 then
  (F99_0 k k t4 (0:Int) c1 c2 e0).bind fun r7 =>
  (F99_1 k n (wrap .i64 (r7.1.1+(1:Int))) r7.2.1 r7.2.2.1 r7.2.2.2.1).bind some
  else
  some ((),(c1,c2,e0,()))
def sq99_1:Shape:=⟨[(3,KD38)],[(1,.ptr 1 []),(2,.ptr 2 []),(3,.at 2000003 []),(4,.val (.int .i64))],[(1,some 81,KD16),(2,some 81,KD16),(2000003,none,KD38)]⟩
def fu99_1 (k m:Nat) (v:sq99_1.V):=F99_1 k m v.1.1 v.2.1 v.2.2.1 v.2.2.2.1
def fr99_1 (k:Nat):Frag:=⟨sq99_1,[(.exit 0,⟨[(3,KD38)],[(1,.ptr 1 []),(2,.ptr 2 []),(3,.at 2000003 [])],[(1,some 81,KD16),(2,some 81,KD16),(2000003,none,KD38)]⟩)],fu99_1 k k⟩
def F99 (k:Nat) (a0:TY33):Option TY29 :=
 let x1:=(replicate 0 ((0:Int),((0:Int),((0:Int),()))))
 if (length x1+length a0.2.2.2.1)*(24*2)≤281474976710656∧length x1+length a0.2.2.2.1≤9223372036854775807 then
 (F99_1 k k (0:Int) (a0.1,(a0.2.1,(a0.2.2.1,(a0.2.2.2.1,((0:Int),a0.2.2.2.2.2))))) (([]:(List Int)),(([]:(List Int)),(([]:(List Int)),(([]:TY58),((0:Int),()))))) (x1++a0.2.2.2.1)).bind fun r12 =>
 some (((r12.2.1.1,(r12.2.1.2.1,(r12.2.1.2.2.1,(r12.2.2.2.1,r12.2.1.2.2.2.2)))),()),())
 else none
def sp99 (k:Nat):Spec:=⟨[.own KD16],[.own KD16],fun x=>F99 k x.1⟩
def lim99:Lim:=⟨44,1,false,false,[],[]⟩
def cfg99 (k:Nat):Nat→Option Spec:=cfgL [(34,sp34 k),(102,sp102 k)]
noncomputable def co99_0:Code:=codeAt (bodyOf Try.f99) [.r,.r,.r,.l,.r,.s,.b,.r,.l,.s,.r,.s]
noncomputable def cb99_0:Code:=codeAt (bodyOf Try.f99) [.r,.r,.r,.l,.r,.s,.b,.r,.l,.s,.r,.s,.b]
noncomputable def co99_1:Code:=codeAt (bodyOf Try.f99) [.r,.r,.r,.l,.r,.s]
noncomputable def cb99_1:Code:=codeAt (bodyOf Try.f99) [.r,.r,.r,.l,.r,.s,.b]
noncomputable def co99:Code:=codeAt (bodyOf Try.f99) []
theorem cfg99_ok (k:Nat):CfgOK Try.prog (cfg99 k):=cfgL_cons (v34 k) (cfgL_cons (v102 k) (cfgL_nil))
noncomputable def bo99_0 (k m:Nat) (v:sq99_0.V):=body Try.prog (stepper Try.prog (cfg99 k) lim99) .go cb99_0 (sq99_0.st v) (loopK (fr99_0 k) (fu99_0 k m))
theorem pp99_0 (k m:Nat) (v:sq99_0.V):fu99_0 k (m+1) v=(bo99_0 k m v).eval∧(bo99_0 k m v).left=(bo99_0 k m v).right:=⟨by kernel_rfl,by kernel_rfl⟩
theorem fr99_0_ok (k:Nat):FragOK Try.prog lim99 (fr99_0 k) co99_0 :=
 frag_cast (by kernel_rfl) (loop_ok (cfg99_ok k) (planOK_go _) (fu99_0 k) k (fun _=>rfl) (fun _=>rfl) (pp99_0 k))
def pl99_1 (k:Nat):Plan:=(.seq .go (.seq (.sub (.seq .go (.sub (.frag (fr99_0 k))))) .go))
noncomputable def bo99_1 (k m:Nat) (v:sq99_1.V):=body Try.prog (stepper Try.prog (cfg99 k) lim99) (pl99_1 k) cb99_1 (sq99_1.st v) (loopK (fr99_1 k) (fu99_1 k m))
theorem pp99_1 (k m:Nat) (v:sq99_1.V):fu99_1 k (m+1) v=(bo99_1 k m v).eval∧(bo99_1 k m v).left=(bo99_1 k m v).right:=⟨by kernel_rfl,by kernel_rfl⟩
theorem fr99_1_ok (k:Nat):FragOK Try.prog lim99 (fr99_1 k) co99_1 :=
 frag_cast (by kernel_rfl) (loop_ok (cfg99_ok k) (plan_of (L:=[(fr99_0 k,co99_0)]) (by kernel_rfl) (.cons (fr99_0_ok k) .nil)) (fu99_1 k) k (fun _=>rfl) (fun _=>rfl) (pp99_1 k))
def pl99 (k:Nat):Plan:=(.seq .go (.seq .go (.seq .go (.seq (.seq .go (.sub (.frag (fr99_1 k)))) .go))))
noncomputable def bo99 (k:Nat) (x:AT (sp99 k).ps):=fnT Try.prog (cfg99 k) lim99 Try.f99 (bodyOf Try.f99) (pl99 k) (sp99 k) x
theorem vv99 (k:Nat) (x:AT (sp99 k).ps):(sp99 k).impl x=(bo99 k x).eval∧(bo99 k x).left=(bo99 k x).right:=⟨by kernel_rfl,by kernel_rfl⟩
theorem v99 (k:Nat):Callable Try.prog 99∧Valid Try.prog 99 (sp99 k) :=
 fn_of (n:=lim99) (fn:=Try.f99) (p:=(pl99 k)) (cfg99_ok k) (by kernel_rfl) (plan_of (L:=[(fr99_1 k,co99_1)]) (by kernel_rfl) (.cons (fr99_1_ok k) .nil)) (vv99 k)
def rs74 (f74:(TY47→TY13→Option TY29)):Spec:=⟨[.val KD30,.val KD5],[.own KD16],fun x=>f74 x.1 x.2.1⟩
def F74_0 (k:Nat) (f74:(TY47→TY13→Option TY29)):Nat→Int→TY28→TY33→TY33→Option TY17
 |0,_,_,_,_=>none
 |n+1,t7,c2,c4,c6 =>
  let x30:=(decide (t7<(length c6.2.1:Int)))
  bif x30 then
  if 0≤t7∧t7<(length c6.2.1:Int) then
  (F34 k (getD c6.2.1 (toNat t7) (0:Int)) c2.2.2.2.1).bind fun r31 =>
  if 0≤t7∧t7<(length c6.2.1:Int) then
  (F74_0 k f74 n (wrap .i64 (t7+(1:Int))) c2 c4 (c6.1,((List.set c6.2.1 (toNat t7) r31.1.1),c6.2.2))).bind some
  else none
  else none
  else
  some ((),(c4,c6,()))
def sq74_0:Shape:=⟨[],[(2,.ptr 2 []),(4,.ptr 4 []),(6,.ptr 6 []),(7,.val (.int .i64))],[(2,some 65,KD19),(4,some 81,KD16),(6,some 81,KD16)]⟩
def fu74_0 (k:Nat) (f74:(TY47→TY13→Option TY29)) (m:Nat) (v:sq74_0.V):=F74_0 k f74 m v.1.1 v.2.1 v.2.2.1 v.2.2.2.1
def fr74_0 (k:Nat) (f74:(TY47→TY13→Option TY29)):Frag:=⟨sq74_0,[(.exit 1,⟨[],[(4,.ptr 4 []),(6,.ptr 6 [])],[(4,some 81,KD16),(6,some 81,KD16)]⟩)],fu74_0 k f74 k⟩
def F74_1 (k:Nat) (f74:(TY47→TY13→Option TY29)):Nat→Int→TY28→TY33→TY33→TY33→Option TY17
 |0,_,_,_,_,_=>none
 |n+1,t10,c2,c4,c8,c9 =>
  bif (decide (t10≥(1:Int))) then
  (F97 k c9 c8).bind fun r39 =>
  bif (decide (t10>c2.2.1)) then
  (F74_1 k f74 n (wrap .i64 (t10-(1:Int))) c2 c4 (r39.1.1.1,(r39.1.1.2.1,(r39.1.1.2.2.1,(r39.1.1.2.2.2.1,((0:Int),r39.1.1.2.2.2.2.2))))) c9).bind some
  else
  (F74_1 k f74 n (wrap .i64 (t10-(1:Int))) c2 c4 r39.1.1 c9).bind some
  else
  some ((),(c4,c8,()))
def sq74_1:Shape:=⟨[],[(2,.ptr 2 []),(4,.ptr 4 []),(8,.ptr 8 []),(9,.ptr 9 []),(10,.val (.int .i64))],[(2,some 65,KD19),(4,some 81,KD16),(8,some 81,KD16),(9,some 81,KD16)]⟩
def fu74_1 (k:Nat) (f74:(TY47→TY13→Option TY29)) (m:Nat) (v:sq74_1.V):=F74_1 k f74 m v.1.1 v.2.1 v.2.2.1 v.2.2.2.1 v.2.2.2.2.1
def fr74_1 (k:Nat) (f74:(TY47→TY13→Option TY29)):Frag:=⟨sq74_1,[(.exit 3,⟨[],[(4,.ptr 4 []),(8,.ptr 8 [])],[(4,some 81,KD16),(8,some 81,KD16)]⟩)],fu74_1 k f74 k⟩
def B74 (k:Nat) (f74:(TY47→TY13→Option TY29)) (a0:TY47) (a1:TY13):Option TY29 :=
 bif ((Tree.a a0).1==(1:Int)) then
 (F95 k).bind fun r1 =>
 some ((r1.1.1,()),())
 else
 bif ((Tree.a a0).1==(2:Int)) then
 (F96 k (1:Int)).bind fun r2 =>
 if 0≤(0:Int)∧(0:Int)<(length r2.1.1.1:Int) then
 let x3:=(List.set r2.1.1.1 (toNat (0:Int)) (-1:Int))
 if 0≤(0:Int)∧(0:Int)<(length r2.1.1.2.1:Int) then
 let x4:=(List.set r2.1.1.2.1 (toNat (0:Int)) (0:Int))
 if 0≤(0:Int)∧(0:Int)<(length r2.1.1.2.2.1:Int) then
 let x5:=(List.set r2.1.1.2.2.1 (toNat (0:Int)) (0:Int))
 bif ((Tree.a a0).1==(2:Int)) then
 (F83 k a1 (Tree.a a0).2.2.2.2.1).bind fun r6 =>
 if 0≤(0:Int)∧(0:Int)<(length x3:Int) then
 some ((((List.set x3 (toNat (0:Int)) r6.1.1),(x4,(x5,r2.1.1.2.2.2))),()),())
 else none
 else
 some (((x3,(x4,(x5,r2.1.1.2.2.2))),()),())
 else none
 else none
 else none
 else
 bif ((Tree.a a0).1==(3:Int)) then
 (F96 k (1:Int)).bind fun r7 =>
 if 0≤(0:Int)∧(0:Int)<(length r7.1.1.1:Int) then
 let x8:=(List.set r7.1.1.1 (toNat (0:Int)) (-1:Int))
 if 0≤(0:Int)∧(0:Int)<(length r7.1.1.2.1:Int) then
 let x9:=(List.set r7.1.1.2.1 (toNat (0:Int)) (0:Int))
 if 0≤(0:Int)∧(0:Int)<(length r7.1.1.2.2.1:Int) then
 let x10:=(List.set r7.1.1.2.2.1 (toNat (0:Int)) (0:Int))
 bif ((Tree.a a0).1==(2:Int)) then
 (F83 k a1 (Tree.a a0).2.2.2.2.1).bind fun r11 =>
 if 0≤(0:Int)∧(0:Int)<(length x8:Int) then
 some ((((List.set x8 (toNat (0:Int)) r11.1.1),(x9,(x10,r7.1.1.2.2.2))),()),())
 else none
 else
 some (((x8,(x9,(x10,r7.1.1.2.2.2))),()),())
 else none
 else none
 else none
 else
 bif ((Tree.a a0).1==(4:Int)) then
 if 0≤(0:Int)∧(0:Int)<(length (Tree.l a0):Int) then
 let x12:=(getD (Tree.l a0) (toNat (0:Int)) (Tree.mk ((0:Int),((0:Int),((0:Int),((0:Int),(ByteArray.empty,()))))) []))
 if 0≤(1:Int)∧(1:Int)<(length (Tree.l a0):Int) then
 let x13:=(getD (Tree.l a0) (toNat (1:Int)) (Tree.mk ((0:Int),((0:Int),((0:Int),((0:Int),(ByteArray.empty,()))))) []))
 (f74 x12 a1).bind fun r14 =>
 (f74 x13 a1).bind fun r15 =>
 (F97 k r14.1.1 r15.1.1).bind fun r16 =>
 some ((r16.1.1,()),())
 else none
 else none
 else
 bif ((Tree.a a0).1==(5:Int)) then
 if 0≤(0:Int)∧(0:Int)<(length (Tree.l a0):Int) then
 let x17:=(getD (Tree.l a0) (toNat (0:Int)) (Tree.mk ((0:Int),((0:Int),((0:Int),((0:Int),(ByteArray.empty,()))))) []))
 if 0≤(1:Int)∧(1:Int)<(length (Tree.l a0):Int) then
 let x18:=(getD (Tree.l a0) (toNat (1:Int)) (Tree.mk ((0:Int),((0:Int),((0:Int),((0:Int),(ByteArray.empty,()))))) []))
 (f74 x17 a1).bind fun r19 =>
 (f74 x18 a1).bind fun r20 =>
 (F98 k r19.1.1 r20.1.1).bind fun r21 =>
 some ((r21.1.1,()),())
 else none
 else none
 else
 bif ((Tree.a a0).1==(6:Int)) then
 if 0≤(0:Int)∧(0:Int)<(length (Tree.l a0):Int) then
 let x22:=(getD (Tree.l a0) (toNat (0:Int)) (Tree.mk ((0:Int),((0:Int),((0:Int),((0:Int),(ByteArray.empty,()))))) []))
 (f74 x22 a1).bind fun r23 =>
 (F99 k r23.1.1).bind fun r24 =>
 some ((r24.1.1,()),())
 else none
 else
 bif ((Tree.a a0).1==(8:Int)) then
 if 0≤(0:Int)∧(0:Int)<(length (Tree.l a0):Int) then
 let x25:=(getD (Tree.l a0) (toNat (0:Int)) (Tree.mk ((0:Int),((0:Int),((0:Int),((0:Int),(ByteArray.empty,()))))) []))
 (f74 x25 a1).bind fun r26 =>
 (F34 k r26.1.1.2.2.2.2.1 (Tree.a a0).2.2.2.1).bind fun r27 =>
 (F74_0 k f74 k (0:Int) ((Tree.a a0).1,((Tree.a a0).2.1,((Tree.a a0).2.2.1,((Tree.a a0).2.2.2.1,((Tree.a a0).2.2.2.2.1,((Tree.l a0),())))))) (([]:(List Int)),(([]:(List Int)),(([]:(List Int)),(([]:TY58),((0:Int),()))))) (r26.1.1.1,(r26.1.1.2.1,(r26.1.1.2.2.1,(r26.1.1.2.2.2.1,(r27.1.1,r26.1.1.2.2.2.2.2)))))).bind fun r32 =>
 some ((r32.2.2.1,()),())
 else none
 else
 if 0≤(0:Int)∧(0:Int)<(length (Tree.l a0):Int) then
 let x35:=(getD (Tree.l a0) (toNat (0:Int)) (Tree.mk ((0:Int),((0:Int),((0:Int),((0:Int),(ByteArray.empty,()))))) []))
 (F95 k).bind fun r36 =>
 (f74 x35 a1).bind fun r37 =>
 (F74_1 k f74 k (Tree.a a0).2.2.1 ((Tree.a a0).1,((Tree.a a0).2.1,((Tree.a a0).2.2.1,((Tree.a a0).2.2.2.1,((Tree.a a0).2.2.2.2.1,((Tree.l a0),())))))) (([]:(List Int)),(([]:(List Int)),(([]:(List Int)),(([]:TY58),((0:Int),()))))) r36.1.1 r37.1.1).bind fun r40 =>
 some ((r40.2.2.1,()),())
 else none
def sb74 (k:Nat) (f74:(TY47→TY13→Option TY29)):Spec:=rs74 (B74 k f74)
def lim74:Lim:=⟨135,2,false,false,[],[]⟩
def cfg74 (k:Nat) (f74:(TY47→TY13→Option TY29)):Nat→Option Spec:=cfgL [(34,sp34 k),(74,rs74 f74),(83,sp83 k),(95,sp95 k),(96,sp96 k),(97,sp97 k),(98,sp98 k),(99,sp99 k)]
noncomputable def co74_0:Code:=codeAt (bodyOf Try.f74) [.r,.l,.r,.s,.r,.r,.r,.r,.r,.r,.r,.r,.r,.r,.r,.l,.r,.r,.l,.r,.s]
noncomputable def cb74_0:Code:=codeAt (bodyOf Try.f74) [.r,.l,.r,.s,.r,.r,.r,.r,.r,.r,.r,.r,.r,.r,.r,.l,.r,.r,.l,.r,.s,.b]
noncomputable def co74_1:Code:=codeAt (bodyOf Try.f74) [.r,.r,.r,.l,.r,.s]
noncomputable def cb74_1:Code:=codeAt (bodyOf Try.f74) [.r,.r,.r,.l,.r,.s,.b]
noncomputable def co74:Code:=codeAt (bodyOf Try.f74) []
theorem cfg74_ok (k:Nat) (f74:(TY47→TY13→Option TY29)) (h74:Callable Try.prog 74∧Valid Try.prog 74 (rs74 f74)):CfgOK Try.prog (cfg74 k f74):=cfgL_cons (v34 k) (cfgL_cons h74 (cfgL_cons (v83 k) (cfgL_cons (v95 k) (cfgL_cons (v96 k) (cfgL_cons (v97 k) (cfgL_cons (v98 k) (cfgL_cons (v99 k) (cfgL_nil))))))))
noncomputable def bo74_0 (k:Nat) (f74:(TY47→TY13→Option TY29)) (m:Nat) (v:sq74_0.V):=body Try.prog (stepper Try.prog (cfg74 k f74) lim74) .go cb74_0 (sq74_0.st v) (loopK (fr74_0 k f74) (fu74_0 k f74 m))
theorem pp74_0 (k:Nat) (f74:(TY47→TY13→Option TY29)) (m:Nat) (v:sq74_0.V):fu74_0 k f74 (m+1) v=(bo74_0 k f74 m v).eval∧(bo74_0 k f74 m v).left=(bo74_0 k f74 m v).right:=⟨by kernel_rfl,by kernel_rfl⟩
theorem fr74_0_ok (k:Nat) (f74:(TY47→TY13→Option TY29)) (h74:Callable Try.prog 74∧Valid Try.prog 74 (rs74 f74)):FragOK Try.prog lim74 (fr74_0 k f74) co74_0 :=
 frag_cast (by kernel_rfl) (loop_ok (cfg74_ok k f74 h74) (planOK_go _) (fu74_0 k f74) k (fun _=>rfl) (fun _=>rfl) (pp74_0 k f74))
noncomputable def bo74_1 (k:Nat) (f74:(TY47→TY13→Option TY29)) (m:Nat) (v:sq74_1.V):=body Try.prog (stepper Try.prog (cfg74 k f74) lim74) .go cb74_1 (sq74_1.st v) (loopK (fr74_1 k f74) (fu74_1 k f74 m))
theorem pp74_1 (k:Nat) (f74:(TY47→TY13→Option TY29)) (m:Nat) (v:sq74_1.V):fu74_1 k f74 (m+1) v=(bo74_1 k f74 m v).eval∧(bo74_1 k f74 m v).left=(bo74_1 k f74 m v).right:=⟨by kernel_rfl,by kernel_rfl⟩
theorem fr74_1_ok (k:Nat) (f74:(TY47→TY13→Option TY29)) (h74:Callable Try.prog 74∧Valid Try.prog 74 (rs74 f74)):FragOK Try.prog lim74 (fr74_1 k f74) co74_1 :=
 frag_cast (by kernel_rfl) (loop_ok (cfg74_ok k f74 h74) (planOK_go _) (fu74_1 k f74) k (fun _=>rfl) (fun _=>rfl) (pp74_1 k f74))
def pl74 (k:Nat) (f74:(TY47→TY13→Option TY29)):Plan:=(.seq .go (.seq (.seq .go (.sub (.seq .go (.seq .go (.seq .go (.seq .go (.seq .go (.seq .go (.seq .go (.seq .go (.seq .go (.seq .go (.seq .go (.seq (.seq .go (.seq .go (.seq (.seq .go (.sub (.frag (fr74_0 k f74)))) .go))) .go)))))))))))))) (.seq .go (.seq (.seq .go (.sub (.frag (fr74_1 k f74)))) .go))))
noncomputable def bo74 (k:Nat) (f74:(TY47→TY13→Option TY29)) (x:AT (sb74 k f74).ps):=fnT Try.prog (cfg74 k f74) lim74 Try.f74 (bodyOf Try.f74) (pl74 k f74) (sb74 k f74) x
theorem vv74 (k:Nat) (f74:(TY47→TY13→Option TY29)) (x:AT (sb74 k f74).ps):(sb74 k f74).impl x=(bo74 k f74 x).eval∧(bo74 k f74 x).left=(bo74 k f74 x).right:=⟨by kernel_rfl,by kernel_rfl⟩
theorem b74 (k:Nat) (f74:(TY47→TY13→Option TY29)) (h74:Callable Try.prog 74∧Valid Try.prog 74 (rs74 f74)):Callable Try.prog 74∧Valid Try.prog 74 (sb74 k f74) :=
 fn_of (n:=lim74) (fn:=Try.f74) (p:=(pl74 k f74)) (cfg74_ok k f74 h74) (by kernel_rfl) (plan_of (L:=[(fr74_0 k f74,co74_0),(fr74_1 k f74,co74_1)]) (by kernel_rfl) (.cons (fr74_0_ok k f74 h74) (.cons (fr74_1_ok k f74 h74) .nil))) (vv74 k f74)
def R74:Nat→(TY47→TY13→Option TY29)
 |0=>fun _ _=>none
 |k+1=>B74 k (R74 k)
def F74 (k:Nat) (a0_:TY47) (a1_:TY13):Option TY29:=(R74 k) a0_ a1_
def sp74 (k:Nat):Spec:=⟨[.val KD30,.val KD5],[.own KD16],fun x=>F74 k x.1 x.2.1⟩
theorem r74 (k:Nat):(Callable Try.prog 74∧Valid Try.prog 74 (rs74 (R74 k))):=by
 induction k with
 |zero=>exact ⟨⟨Try.f74,by kernel_rfl,by kernel_rfl,by kernel_rfl⟩,fun x r h=>by cases (show (none:Option _)=some r from h)⟩
 |succ k ih=>exact b74 k (R74 k) ih
theorem v74 (k:Nat):Callable Try.prog 74∧Valid Try.prog 74 (sp74 k):=(r74 k)
def F41 (k:Nat) (a0:TY47) (a1:TY13):Option ((TY33×Bool×Unit)×Unit) :=
 let x1:=(Tree.mk ((Tree.a a0).1,((Tree.a a0).2.1,((Tree.a a0).2.2.1,((Tree.a a0).2.2.2.1,((Tree.a a0).2.2.2.2.1,()))))) (Tree.l a0))
 (F73 k x1).bind fun r2 =>
 bif (decide (r2.1.1>(120:Int))) then
 some (((([]:(List Int)),(([]:(List Int)),(([]:(List Int)),(([]:TY58),((0:Int),()))))),false,()),())
 else
 let x3:=(Tree.mk ((Tree.a a0).1,((Tree.a a0).2.1,((Tree.a a0).2.2.1,((Tree.a a0).2.2.2.1,((Tree.a a0).2.2.2.2.1,()))))) (Tree.l a0))
 (F74 k x3 a1).bind fun r4 =>
 some ((r4.1.1,true,()),())
def sp41 (k:Nat):Spec:=⟨[.val KD30,.val KD5],[.own KD16,.val .bool],fun x=>F41 k x.1 x.2.1⟩
def lim41:Lim:=⟨13,2,false,false,[],[]⟩
def cfg41 (k:Nat):Nat→Option Spec:=cfgL [(73,sp73 k),(74,sp74 k)]
noncomputable def co41:Code:=codeAt (bodyOf Try.f41) []
theorem cfg41_ok (k:Nat):CfgOK Try.prog (cfg41 k):=cfgL_cons (v73 k) (cfgL_cons (v74 k) (cfgL_nil))
noncomputable def bo41 (k:Nat) (x:AT (sp41 k).ps):=fnT Try.prog (cfg41 k) lim41 Try.f41 (bodyOf Try.f41) .go (sp41 k) x
theorem vv41 (k:Nat) (x:AT (sp41 k).ps):(sp41 k).impl x=(bo41 k x).eval∧(bo41 k x).left=(bo41 k x).right:=⟨by kernel_rfl,by kernel_rfl⟩
theorem v41 (k:Nat):Callable Try.prog 41∧Valid Try.prog 41 (sp41 k) :=
 fn_of (n:=lim41) (fn:=Try.f41) (p:=.go) (cfg41_ok k) (by kernel_rfl) (planOK_go _) (vv41 k)
def F75_0 (k:Nat):Nat→(List (List Bool))→Int→Int→TY33→Option ((Unit×Unit)⊕TY72)
 |0,_,_,_,_=>none
 |n+1,t1,t2,t7,c3 =>
  if 0≤t2∧t2<(length c3.1:Int) then
  if 0≤(getD c3.1 (toNat t2) (0:Int))∧(getD c3.1 (toNat t2) (0:Int))<(length t1:Int) then
  let x5:=(getD t1 (toNat (getD c3.1 (toNat t2) (0:Int))) ([]:(List Bool)))
  let x6:=(decide (t7<(length x5:Int)))
  bif x6 then
  if 0≤t2∧t2<(length c3.1:Int) then
  if 0≤(getD c3.1 (toNat t2) (0:Int))∧(getD c3.1 (toNat t2) (0:Int))<(length t1:Int) then
  let x7:=(getD t1 (toNat (getD c3.1 (toNat t2) (0:Int))) ([]:(List Bool)))
  if 0≤t7∧t7<(length x7:Int) then
  bif (getD x7 (toNat t7) false) then
  some (.inr ((true,()),()))
  else
  (F75_0 k n t1 t2 (wrap .i64 (t7+(1:Int))) c3).bind some
  else none
  else none
  else none
  else
  some (.inl ((),()))
  else none
  else none
def sq75_0:Shape:=⟨[],[(1,.val KD54),(2,.val (.int .i64)),(3,.ptr 3 []),(7,.val (.int .i64))],[(3,some 81,KD15)]⟩
def fu75_0 (k m:Nat) (v:sq75_0.V):=F75_0 k m v.1.1 v.1.2.1 v.1.2.2.1 v.2.1
def fr75_0 (k:Nat):Frag:=⟨sq75_0,[(.exit 0,⟨[],[],[]⟩),(.ret,⟨[],[(6,.val .bool)],[]⟩)],fu75_0 k k⟩
def F75 (k:Nat) (a0:TY33) (a1:(List (List Bool))) (a2:Int):Option TY72 :=
 if 0≤a2∧a2<(length a0.1:Int) then
 let x1:=(decide ((getD a0.1 (toNat a2) (0:Int))<(0:Int)))
 bif x1 then
 some ((true,()),())
 else
 (F75_0 k k a1 a2 (0:Int) a0).bind fun r8 =>
 match r8 with
 |.inl r9 =>
  some ((false,()),())
 |.inr r9 =>
  some ((r9.1.1,()),())
 else none
def sp75 (k:Nat):Spec:=⟨[.val KD15,.val KD54,.val (.int .i64)],[.val .bool],fun x=>F75 k x.1 x.2.1 x.2.2.1⟩
def lim75:Lim:=⟨38,3,false,false,[],[]⟩
def cfg75 (k:Nat):Nat→Option Spec:=cfgL []
noncomputable def co75_0:Code:=codeAt (bodyOf Try.f75) [.r,.r,.l,.r,.s]
noncomputable def cb75_0:Code:=codeAt (bodyOf Try.f75) [.r,.r,.l,.r,.s,.b]
noncomputable def co75:Code:=codeAt (bodyOf Try.f75) []
theorem cfg75_ok (k:Nat):CfgOK Try.prog (cfg75 k):=cfgL_nil
noncomputable def bo75_0 (k m:Nat) (v:sq75_0.V):=body Try.prog (stepper Try.prog (cfg75 k) lim75) .go cb75_0 (sq75_0.st v) (loopK (fr75_0 k) (fu75_0 k m))
theorem pp75_0 (k m:Nat) (v:sq75_0.V):fu75_0 k (m+1) v=(bo75_0 k m v).eval∧(bo75_0 k m v).left=(bo75_0 k m v).right:=⟨by kernel_rfl,by kernel_rfl⟩
theorem fr75_0_ok (k:Nat):FragOK Try.prog lim75 (fr75_0 k) co75_0 :=
 frag_cast (by kernel_rfl) (loop_ok (cfg75_ok k) (planOK_go _) (fu75_0 k) k (fun _=>rfl) (fun _=>rfl) (pp75_0 k))
def pl75 (k:Nat):Plan:=(.seq .go (.seq .go (.seq (.seq .go (.sub (.frag (fr75_0 k)))) .go)))
noncomputable def bo75 (k:Nat) (x:AT (sp75 k).ps):=fnT Try.prog (cfg75 k) lim75 Try.f75 (bodyOf Try.f75) (pl75 k) (sp75 k) x
theorem vv75 (k:Nat) (x:AT (sp75 k).ps):(sp75 k).impl x=(bo75 k x).eval∧(bo75 k x).left=(bo75 k x).right:=⟨by kernel_rfl,by kernel_rfl⟩
theorem v75 (k:Nat):Callable Try.prog 75∧Valid Try.prog 75 (sp75 k) :=
 fn_of (n:=lim75) (fn:=Try.f75) (p:=(pl75 k)) (cfg75_ok k) (by kernel_rfl) (plan_of (L:=[(fr75_0 k,co75_0)]) (by kernel_rfl) (.cons (fr75_0_ok k) .nil)) (vv75 k)
def F42_0 (k:Nat):Nat→(List (List Bool))→Int→Int→TY33→TY33→(List Bool)→(List Bool)→(List Bool)→Option (((Int×Unit)×TY12))
 |0,_,_,_,_,_,_,_,_=>none
 |n+1,t1,t5,t9,c2,c4,c22,c24,c26 =>
  bif (decide (t9<t5)) then
  (F75 k c2 t1 t9).bind fun r13 =>
  if 0≤t9∧t9<(length c26:Int) then
  if 0≤t9∧t9<(length (List.set c26 (toNat t9) r13.1.1):Int) then
  let x14:=(getD (List.set c26 (toNat t9) r13.1.1) (toNat t9) false)
  bif x14 then
  if 0≤t9∧t9<(length c2.2.1:Int) then
  let x15:=(decide ((getD c2.2.1 (toNat t9) (0:Int))<(1152921504606846976:Int)))
  if 0≤t9∧t9<(length (List.set c26 (toNat t9) r13.1.1):Int) then
  let x16:=(getD (List.set c26 (toNat t9) r13.1.1) (toNat t9) false)
  bif x16 then
  if 0≤t9∧t9<(length c2.2.2.1:Int) then
  let x17:=(getD c2.2.2.1 (toNat t9) (0:Int))
  if 0≤t9∧t9<(length c22:Int) then
  if 0≤t9∧t9<(length c24:Int) then
  let x18:=(List.set c24 (toNat t9) (decide (x17<(1152921504606846976:Int))))
  (F42_0 k n t1 t5 (wrap .i64 (t9+(1:Int))) c2 c4 (List.set c22 (toNat t9) x15) x18 (List.set c26 (toNat t9) r13.1.1)).bind some
  else none
  else none
  else none
  else
  if 0≤t9∧t9<(length c22:Int) then
  if 0≤t9∧t9<(length c24:Int) then
  (F42_0 k n t1 t5 (wrap .i64 (t9+(1:Int))) c2 c4 (List.set c22 (toNat t9) x15) (List.set c24 (toNat t9) false) (List.set c26 (toNat t9) r13.1.1)).bind some
  else none
  else none
  else none
  else none
  else
  if 0≤t9∧t9<(length (List.set c26 (toNat t9) r13.1.1):Int) then
  let x19:=(getD (List.set c26 (toNat t9) r13.1.1) (toNat t9) false)
  bif x19 then
  if 0≤t9∧t9<(length c2.2.2.1:Int) then
  let x20:=(getD c2.2.2.1 (toNat t9) (0:Int))
  if 0≤t9∧t9<(length c22:Int) then
  if 0≤t9∧t9<(length c24:Int) then
  let x21:=(List.set c24 (toNat t9) (decide (x20<(1152921504606846976:Int))))
  (F42_0 k n t1 t5 (wrap .i64 (t9+(1:Int))) c2 c4 (List.set c22 (toNat t9) false) x21 (List.set c26 (toNat t9) r13.1.1)).bind some
  else none
  else none
  else none
  else
  if 0≤t9∧t9<(length c22:Int) then
  if 0≤t9∧t9<(length c24:Int) then
  (F42_0 k n t1 t5 (wrap .i64 (t9+(1:Int))) c2 c4 (List.set c22 (toNat t9) false) (List.set c24 (toNat t9) false) (List.set c26 (toNat t9) r13.1.1)).bind some
  else none
  else none
  else none
  else none
  else none
  else
  some ((t5,()),(c2,c4,c22,c24,c26,()))
def sq42_0:Shape:=⟨[],[(1,.val KD54),(2,.ptr 2 []),(4,.ptr 4 []),(5,.val (.int .i64)),(6,.at 22 []),(7,.at 24 []),(8,.at 26 []),(9,.val (.int .i64))],[(2,some 81,KD15),(4,some 81,KD16),(22,none,KD71),(24,none,KD71),(26,none,KD71)]⟩
def fu42_0 (k m:Nat) (v:sq42_0.V):=F42_0 k m v.1.1 v.1.2.1 v.1.2.2.1 v.2.1 v.2.2.1 v.2.2.2.1 v.2.2.2.2.1 v.2.2.2.2.2.1
def fr42_0 (k:Nat):Frag:=⟨sq42_0,[(.exit 0,⟨[],[(2,.ptr 2 []),(4,.ptr 4 []),(5,.val (.int .i64)),(6,.at 22 []),(7,.at 24 []),(8,.at 26 [])],[(2,some 81,KD15),(4,some 81,KD16),(22,none,KD71),(24,none,KD71),(26,none,KD71)]⟩)],fu42_0 k k⟩
def F42_1 (k:Nat):Nat→Int→Bool→Int→TY33→TY33→(List Bool)→(List Bool)→(List Bool)→Option (((Int×Bool×Unit)×TY12))
 |0,_,_,_,_,_,_,_,_=>none
 |n+1,t5,t10,t11,c2,c4,c22,c24,c26 =>
  let x31:=(decide (t11<(length c2.2.2.2.1:Int)))
  bif x31 then
  if 0≤t11∧t11<(length c2.2.2.2.1:Int) then
  let x32:=(getD c2.2.2.2.1 (toNat t11) ((0:Int),((0:Int),((0:Int),()))))
  if 0≤x32.1∧x32.1<(length c22:Int) then
  bif (getD c22 (toNat x32.1) false) then
  if 0≤x32.2.1∧x32.2.1<(length c26:Int) then
  bif (getD c26 (toNat x32.2.1) false) then
  if 0≤x32.2.1∧x32.2.1<(length c22:Int) then
  bif (!(getD c22 (toNat x32.2.1) false)) then
  if 0≤x32.2.1∧x32.2.1<(length c22:Int) then
  if 0≤x32.2.1∧x32.2.1<(length c24:Int) then
  bif (getD c24 (toNat x32.2.1) false) then
  if 0≤x32.1∧x32.1<(length c26:Int) then
  bif (getD c26 (toNat x32.1) false) then
  if 0≤x32.1∧x32.1<(length c24:Int) then
  bif (!(getD c24 (toNat x32.1) false)) then
  if 0≤x32.1∧x32.1<(length c24:Int) then
  (F42_1 k n t5 true (wrap .i64 (t11+(1:Int))) c2 c4 (List.set c22 (toNat x32.2.1) true) (List.set c24 (toNat x32.1) true) c26).bind some
  else none
  else
  (F42_1 k n t5 true (wrap .i64 (t11+(1:Int))) c2 c4 (List.set c22 (toNat x32.2.1) true) c24 c26).bind some
  else none
  else
  (F42_1 k n t5 true (wrap .i64 (t11+(1:Int))) c2 c4 (List.set c22 (toNat x32.2.1) true) c24 c26).bind some
  else none
  else
  (F42_1 k n t5 true (wrap .i64 (t11+(1:Int))) c2 c4 (List.set c22 (toNat x32.2.1) true) c24 c26).bind some
  else none
  else none
  else
  if 0≤x32.2.1∧x32.2.1<(length c24:Int) then
  bif (getD c24 (toNat x32.2.1) false) then
  if 0≤x32.1∧x32.1<(length c26:Int) then
  bif (getD c26 (toNat x32.1) false) then
  if 0≤x32.1∧x32.1<(length c24:Int) then
  bif (!(getD c24 (toNat x32.1) false)) then
  if 0≤x32.1∧x32.1<(length c24:Int) then
  (F42_1 k n t5 true (wrap .i64 (t11+(1:Int))) c2 c4 c22 (List.set c24 (toNat x32.1) true) c26).bind some
  else none
  else
  (F42_1 k n t5 t10 (wrap .i64 (t11+(1:Int))) c2 c4 c22 c24 c26).bind some
  else none
  else
  (F42_1 k n t5 t10 (wrap .i64 (t11+(1:Int))) c2 c4 c22 c24 c26).bind some
  else none
  else
  (F42_1 k n t5 t10 (wrap .i64 (t11+(1:Int))) c2 c4 c22 c24 c26).bind some
  else none
  else none
  else
  if 0≤x32.2.1∧x32.2.1<(length c24:Int) then
  bif (getD c24 (toNat x32.2.1) false) then
  if 0≤x32.1∧x32.1<(length c26:Int) then
  bif (getD c26 (toNat x32.1) false) then
  if 0≤x32.1∧x32.1<(length c24:Int) then
  bif (!(getD c24 (toNat x32.1) false)) then
  if 0≤x32.1∧x32.1<(length c24:Int) then
  (F42_1 k n t5 true (wrap .i64 (t11+(1:Int))) c2 c4 c22 (List.set c24 (toNat x32.1) true) c26).bind some
  else none
  else
  (F42_1 k n t5 t10 (wrap .i64 (t11+(1:Int))) c2 c4 c22 c24 c26).bind some
  else none
  else
  (F42_1 k n t5 t10 (wrap .i64 (t11+(1:Int))) c2 c4 c22 c24 c26).bind some
  else none
  else
  (F42_1 k n t5 t10 (wrap .i64 (t11+(1:Int))) c2 c4 c22 c24 c26).bind some
  else none
  else none
  else
  if 0≤x32.2.1∧x32.2.1<(length c24:Int) then
  bif (getD c24 (toNat x32.2.1) false) then
  if 0≤x32.1∧x32.1<(length c26:Int) then
  bif (getD c26 (toNat x32.1) false) then
  if 0≤x32.1∧x32.1<(length c24:Int) then
  bif (!(getD c24 (toNat x32.1) false)) then
  if 0≤x32.1∧x32.1<(length c24:Int) then
  (F42_1 k n t5 true (wrap .i64 (t11+(1:Int))) c2 c4 c22 (List.set c24 (toNat x32.1) true) c26).bind some
  else none
  else
  (F42_1 k n t5 t10 (wrap .i64 (t11+(1:Int))) c2 c4 c22 c24 c26).bind some
  else none
  else
  (F42_1 k n t5 t10 (wrap .i64 (t11+(1:Int))) c2 c4 c22 c24 c26).bind some
  else none
  else
  (F42_1 k n t5 t10 (wrap .i64 (t11+(1:Int))) c2 c4 c22 c24 c26).bind some
  else none
  else none
  else none
  else
  some ((t5,t10,()),(c2,c4,c22,c24,c26,()))
def sq42_1:Shape:=⟨[],[(2,.ptr 2 []),(4,.ptr 4 []),(5,.val (.int .i64)),(6,.at 22 []),(7,.at 24 []),(8,.at 26 []),(10,.val .bool),(11,.val (.int .i64))],[(2,some 81,KD15),(4,some 81,KD16),(22,none,KD71),(24,none,KD71),(26,none,KD71)]⟩
def fu42_1 (k m:Nat) (v:sq42_1.V):=F42_1 k m v.1.1 v.1.2.1 v.1.2.2.1 v.2.1 v.2.2.1 v.2.2.2.1 v.2.2.2.2.1 v.2.2.2.2.2.1
def fr42_1 (k:Nat):Frag:=⟨sq42_1,[(.exit 4,⟨[],[(2,.ptr 2 []),(4,.ptr 4 []),(5,.val (.int .i64)),(6,.at 22 []),(7,.at 24 []),(8,.at 26 []),(10,.val .bool)],[(2,some 81,KD15),(4,some 81,KD16),(22,none,KD71),(24,none,KD71),(26,none,KD71)]⟩)],fu42_1 k k⟩
def F42_2 (k:Nat):Nat→Int→Bool→TY33→TY33→(List Bool)→(List Bool)→(List Bool)→Option (((Int×Unit)×(TY33×TY33×(List Bool)×(List Bool)×Unit)))
 |0,_,_,_,_,_,_,_=>none
 |n+1,t5,t10,c2,c4,c22,c24,c26 =>
  bif t10 then
  (F42_1 k k t5 false (0:Int) c2 c4 c22 c24 c26).bind fun r41 =>
  (F42_2 k n r41.1.1 r41.1.2.1 r41.2.1 r41.2.2.1 r41.2.2.2.1 r41.2.2.2.2.1 r41.2.2.2.2.2.1).bind some
  else
  some ((t5,()),(c2,c4,c22,c24,()))
def sq42_2:Shape:=⟨[],[(2,.ptr 2 []),(4,.ptr 4 []),(5,.val (.int .i64)),(6,.at 22 []),(7,.at 24 []),(8,.at 26 []),(10,.val .bool)],[(2,some 81,KD15),(4,some 81,KD16),(22,none,KD71),(24,none,KD71),(26,none,KD71)]⟩
def fu42_2 (k m:Nat) (v:sq42_2.V):=F42_2 k m v.1.1 v.1.2.1 v.2.1 v.2.2.1 v.2.2.2.1 v.2.2.2.2.1 v.2.2.2.2.2.1
def fr42_2 (k:Nat):Frag:=⟨sq42_2,[(.exit 2,⟨[],[(2,.ptr 2 []),(4,.ptr 4 []),(5,.val (.int .i64)),(6,.at 22 []),(7,.at 24 [])],[(2,some 81,KD15),(4,some 81,KD16),(22,none,KD71),(24,none,KD71)]⟩)],fu42_2 k k⟩
def F42_3 (k:Nat):Nat→Int→Int→TY33→TY33→TY33→(List Bool)→(List Bool)→(List Int)→Option ((Unit×(TY33×TY33×TY33×(List Int)×Unit)))
 |0,_,_,_,_,_,_,_,_=>none
 |n+1,t5,t15,c2,c4,c13,c22,c24,c134 =>
  bif (decide (t15<t5)) then
  if 0≤t15∧t15<(length c134:Int) then
  if 0≤t15∧t15<(length c22:Int) then
  bif (getD c22 (toNat t15) false) then
  if 0≤t15∧t15<(length c24:Int) then
  bif (getD c24 (toNat t15) false) then
  if 0≤t15∧t15<(length (List.set c134 (toNat t15) (-1:Int)):Int) then
  let x60:=(List.set (List.set c134 (toNat t15) (-1:Int)) (toNat t15) (length c13.1:Int))
  if 0≤t15∧t15<(length c2.1:Int) then
  if 0≤t15∧t15<(length c2.2.1:Int) then
  if 0≤t15∧t15<(length c2.2.2.1:Int) then
  let x61:=(getD c2.2.2.1 (toNat t15) (0:Int))
  let x62:=(List.set (replicate 1 (0:Int)) 0 (getD c2.1 (toNat t15) (0:Int)))
  if (length c13.1+length x62)*(8*2)≤281474976710656∧length c13.1+length x62≤9223372036854775807 then
  let x63:=(List.set (replicate 1 (0:Int)) 0 (getD c2.2.1 (toNat t15) (0:Int)))
  if (length c13.2.1+length x63)*(8*2)≤281474976710656∧length c13.2.1+length x63≤9223372036854775807 then
  let x64:=(List.set (replicate 1 (0:Int)) 0 x61)
  if (length c13.2.2.1+length x64)*(8*2)≤281474976710656∧length c13.2.2.1+length x64≤9223372036854775807 then
  (F42_3 k n t5 (wrap .i64 (t15+(1:Int))) c2 c4 ((c13.1++x62),((c13.2.1++x63),((c13.2.2.1++x64),c13.2.2.2))) c22 c24 x60).bind some
  else none
  else none
  else none
  else none
  else none
  else none
  else none
  else
  (F42_3 k n t5 (wrap .i64 (t15+(1:Int))) c2 c4 c13 c22 c24 (List.set c134 (toNat t15) (-1:Int))).bind some
  else none
  else
  (F42_3 k n t5 (wrap .i64 (t15+(1:Int))) c2 c4 c13 c22 c24 (List.set c134 (toNat t15) (-1:Int))).bind some
  else none
  else none
  else
  some ((),(c2,c4,c13,c134,()))
def sq42_3:Shape:=⟨[],[(2,.ptr 2 []),(4,.ptr 4 []),(5,.val (.int .i64)),(6,.at 22 []),(7,.at 24 []),(13,.ptr 13 []),(14,.at 134 []),(15,.val (.int .i64))],[(2,some 81,KD15),(4,some 81,KD16),(13,some 81,KD16),(22,none,KD71),(24,none,KD71),(134,none,KD64)]⟩
def fu42_3 (k m:Nat) (v:sq42_3.V):=F42_3 k m v.1.1 v.1.2.1 v.2.1 v.2.2.1 v.2.2.2.1 v.2.2.2.2.1 v.2.2.2.2.2.1 v.2.2.2.2.2.2.1
def fr42_3 (k:Nat):Frag:=⟨sq42_3,[(.exit 6,⟨[],[(2,.ptr 2 []),(4,.ptr 4 []),(13,.ptr 13 []),(14,.at 134 [])],[(2,some 81,KD15),(4,some 81,KD16),(13,some 81,KD16),(134,none,KD64)]⟩)],fu42_3 k k⟩
def F42_4 (k:Nat):Nat→Int→TY33→TY33→TY33→(List Int)→Option TY17
 |0,_,_,_,_,_=>none
 |n+1,t16,c2,c4,c13,c134 =>
  let x76:=(decide (t16<(length c2.2.2.2.1:Int)))
  bif x76 then
  if 0≤t16∧t16<(length c2.2.2.2.1:Int) then
  let x77:=(getD c2.2.2.2.1 (toNat t16) ((0:Int),((0:Int),((0:Int),()))))
  if 0≤x77.1∧x77.1<(length c134:Int) then
  let x78:=(decide ((getD c134 (toNat x77.1) (0:Int))≥(0:Int)))
  bif x78 then
  if 0≤x77.2.1∧x77.2.1<(length c134:Int) then
  let x79:=(getD c134 (toNat x77.2.1) (0:Int))
  bif (decide (x79≥(0:Int))) then
  if 0≤x77.1∧x77.1<(length c134:Int) then
  if 0≤x77.2.1∧x77.2.1<(length c134:Int) then
  let x80:=(getD c134 (toNat x77.2.1) (0:Int))
  let x81:=(List.set (replicate 1 ((0:Int),((0:Int),((0:Int),())))) 0 ((getD c134 (toNat x77.1) (0:Int)),(x80,(x77.2.2.1,()))))
  if (length c13.2.2.2.1+length x81)*(24*2)≤281474976710656∧length c13.2.2.2.1+length x81≤9223372036854775807 then
  (F42_4 k n (wrap .i64 (t16+(1:Int))) c2 c4 (c13.1,(c13.2.1,(c13.2.2.1,((c13.2.2.2.1++x81),c13.2.2.2.2)))) c134).bind some
  else none
  else none
  else none
  else
  (F42_4 k n (wrap .i64 (t16+(1:Int))) c2 c4 c13 c134).bind some
  else none
  else
  (F42_4 k n (wrap .i64 (t16+(1:Int))) c2 c4 c13 c134).bind some
  else none
  else none
  else
  some ((),(c4,c13,()))
def sq42_4:Shape:=⟨[],[(2,.ptr 2 []),(4,.ptr 4 []),(13,.ptr 13 []),(14,.at 134 []),(16,.val (.int .i64))],[(2,some 81,KD15),(4,some 81,KD16),(13,some 81,KD16),(134,none,KD64)]⟩
def fu42_4 (k m:Nat) (v:sq42_4.V):=F42_4 k m v.1.1 v.2.1 v.2.2.1 v.2.2.2.1 v.2.2.2.2.1
def fr42_4 (k:Nat):Frag:=⟨sq42_4,[(.exit 8,⟨[],[(4,.ptr 4 []),(13,.ptr 13 [])],[(4,some 81,KD16),(13,some 81,KD16)]⟩)],fu42_4 k k⟩
def F42 (k:Nat) (a0:TY33) (a1:(List (List Bool))):Option TY29 :=
 if (0≤(length a0.1:Int)∧(length a0.1:Int)<(length a0.1:Int)+1)∧(length a0.1:Int)≤9223372036854775807∧((1:Nat):Int)*(length a0.1:Int)≤281474976710656 then
 let x1:=(replicate (toNat (length a0.1:Int)) false)
 if (0≤(length a0.1:Int)∧(length a0.1:Int)<(length a0.1:Int)+1)∧(length a0.1:Int)≤9223372036854775807∧((1:Nat):Int)*(length a0.1:Int)≤281474976710656 then
 let x2:=(replicate (toNat (length a0.1:Int)) false)
 if (0≤(length a0.1:Int)∧(length a0.1:Int)<(length a0.1:Int)+1)∧(length a0.1:Int)≤9223372036854775807∧((1:Nat):Int)*(length a0.1:Int)≤281474976710656 then
 let x3:=(replicate (toNat (length a0.1:Int)) false)
 (F42_0 k k a1 (length a0.1:Int) (0:Int) a0 (([]:(List Int)),(([]:(List Int)),(([]:(List Int)),(([]:TY58),((0:Int),()))))) x1 x2 x3).bind fun r22 =>
 (F42_2 k k r22.1.1 true r22.2.1 r22.2.2.1 r22.2.2.2.1 r22.2.2.2.2.1 r22.2.2.2.2.2.1).bind fun r49 =>
 let y50:=r49.1.1
 if (0≤y50∧y50<y50+1)∧y50≤9223372036854775807∧((8:Nat):Int)*y50≤281474976710656 then
 (F42_3 k k y50 (0:Int) r49.2.1 r49.2.2.1 (([]:(List Int)),(([]:(List Int)),(([]:(List Int)),(([]:TY58),(r49.2.1.2.2.2.2.1,()))))) r49.2.2.2.1 r49.2.2.2.2.1 (replicate (toNat y50) (0:Int))).bind fun r65 =>
 (F42_4 k k (0:Int) r65.2.1 r65.2.2.1 r65.2.2.2.1 r65.2.2.2.2.1).bind fun r82 =>
 some ((r82.2.2.1,()),())
 else none
 else none
 else none
 else none
def sp42 (k:Nat):Spec:=⟨[.val KD15,.val KD54],[.own KD16],fun x=>F42 k x.1 x.2.1⟩
def lim42:Lim:=⟨234,2,false,false,[],[]⟩
def cfg42 (k:Nat):Nat→Option Spec:=cfgL [(75,sp75 k)]
noncomputable def co42_0:Code:=codeAt (bodyOf Try.f42) [.r,.r,.r,.r,.l,.r,.s]
noncomputable def cb42_0:Code:=codeAt (bodyOf Try.f42) [.r,.r,.r,.r,.l,.r,.s,.b]
noncomputable def co42_1:Code:=codeAt (bodyOf Try.f42) [.r,.r,.r,.r,.r,.l,.r,.s,.b,.r,.s,.r,.r,.s]
noncomputable def cb42_1:Code:=codeAt (bodyOf Try.f42) [.r,.r,.r,.r,.r,.l,.r,.s,.b,.r,.s,.r,.r,.s,.b]
noncomputable def co42_2:Code:=codeAt (bodyOf Try.f42) [.r,.r,.r,.r,.r,.l,.r,.s]
noncomputable def cb42_2:Code:=codeAt (bodyOf Try.f42) [.r,.r,.r,.r,.r,.l,.r,.s,.b]
noncomputable def co42_3:Code:=codeAt (bodyOf Try.f42) [.r,.r,.r,.r,.r,.r,.r,.r,.l,.r,.s]
noncomputable def cb42_3:Code:=codeAt (bodyOf Try.f42) [.r,.r,.r,.r,.r,.r,.r,.r,.l,.r,.s,.b]
noncomputable def co42_4:Code:=codeAt (bodyOf Try.f42) [.r,.r,.r,.r,.r,.r,.r,.r,.r,.l,.r,.s]
noncomputable def cb42_4:Code:=codeAt (bodyOf Try.f42) [.r,.r,.r,.r,.r,.r,.r,.r,.r,.l,.r,.s,.b]
noncomputable def co42:Code:=codeAt (bodyOf Try.f42) []
theorem cfg42_ok (k:Nat):CfgOK Try.prog (cfg42 k):=cfgL_cons (v75 k) (cfgL_nil)
noncomputable def bo42_0 (k m:Nat) (v:sq42_0.V):=body Try.prog (stepper Try.prog (cfg42 k) lim42) .go cb42_0 (sq42_0.st v) (loopK (fr42_0 k) (fu42_0 k m))
theorem pp42_0 (k m:Nat) (v:sq42_0.V):fu42_0 k (m+1) v=(bo42_0 k m v).eval∧(bo42_0 k m v).left=(bo42_0 k m v).right:=⟨by kernel_rfl,by kernel_rfl⟩
theorem fr42_0_ok (k:Nat):FragOK Try.prog lim42 (fr42_0 k) co42_0 :=
 frag_cast (by kernel_rfl) (loop_ok (cfg42_ok k) (planOK_go _) (fu42_0 k) k (fun _=>rfl) (fun _=>rfl) (pp42_0 k))
noncomputable def bo42_1 (k m:Nat) (v:sq42_1.V):=body Try.prog (stepper Try.prog (cfg42 k) lim42) .go cb42_1 (sq42_1.st v) (loopK (fr42_1 k) (fu42_1 k m))
theorem pp42_1 (k m:Nat) (v:sq42_1.V):fu42_1 k (m+1) v=(bo42_1 k m v).eval∧(bo42_1 k m v).left=(bo42_1 k m v).right:=⟨by kernel_rfl,by kernel_rfl⟩
theorem fr42_1_ok (k:Nat):FragOK Try.prog lim42 (fr42_1 k) co42_1 :=
 frag_cast (by kernel_rfl) (loop_ok (cfg42_ok k) (planOK_go _) (fu42_1 k) k (fun _=>rfl) (fun _=>rfl) (pp42_1 k))
def pl42_2 (k:Nat):Plan:=(.seq .go (.sub (.seq .go (.seq .go (.sub (.frag (fr42_1 k)))))))
noncomputable def bo42_2 (k m:Nat) (v:sq42_2.V):=body Try.prog (stepper Try.prog (cfg42 k) lim42) (pl42_2 k) cb42_2 (sq42_2.st v) (loopK (fr42_2 k) (fu42_2 k m))
theorem pp42_2 (k m:Nat) (v:sq42_2.V):fu42_2 k (m+1) v=(bo42_2 k m v).eval∧(bo42_2 k m v).left=(bo42_2 k m v).right:=⟨by kernel_rfl,by kernel_rfl⟩
theorem fr42_2_ok (k:Nat):FragOK Try.prog lim42 (fr42_2 k) co42_2 :=
 frag_cast (by kernel_rfl) (loop_ok (cfg42_ok k) (plan_of (L:=[(fr42_1 k,co42_1)]) (by kernel_rfl) (.cons (fr42_1_ok k) .nil)) (fu42_2 k) k (fun _=>rfl) (fun _=>rfl) (pp42_2 k))
noncomputable def bo42_3 (k m:Nat) (v:sq42_3.V):=body Try.prog (stepper Try.prog (cfg42 k) lim42) .go cb42_3 (sq42_3.st v) (loopK (fr42_3 k) (fu42_3 k m))
theorem pp42_3 (k m:Nat) (v:sq42_3.V):fu42_3 k (m+1) v=(bo42_3 k m v).eval∧(bo42_3 k m v).left=(bo42_3 k m v).right:=⟨by kernel_rfl,by kernel_rfl⟩
theorem fr42_3_ok (k:Nat):FragOK Try.prog lim42 (fr42_3 k) co42_3 :=
 frag_cast (by kernel_rfl) (loop_ok (cfg42_ok k) (planOK_go _) (fu42_3 k) k (fun _=>rfl) (fun _=>rfl) (pp42_3 k))
noncomputable def bo42_4 (k m:Nat) (v:sq42_4.V):=body Try.prog (stepper Try.prog (cfg42 k) lim42) .go cb42_4 (sq42_4.st v) (loopK (fr42_4 k) (fu42_4 k m))
theorem pp42_4 (k m:Nat) (v:sq42_4.V):fu42_4 k (m+1) v=(bo42_4 k m v).eval∧(bo42_4 k m v).left=(bo42_4 k m v).right:=⟨by kernel_rfl,by kernel_rfl⟩
theorem fr42_4_ok (k:Nat):FragOK Try.prog lim42 (fr42_4 k) co42_4 :=
 frag_cast (by kernel_rfl) (loop_ok (cfg42_ok k) (planOK_go _) (fu42_4 k) k (fun _=>rfl) (fun _=>rfl) (pp42_4 k))
def pl42 (k:Nat):Plan:=(.seq .go (.seq .go (.seq .go (.seq .go (.seq (.seq .go (.sub (.frag (fr42_0 k)))) (.seq (.seq .go (.sub (.frag (fr42_2 k)))) (.seq .go (.seq .go (.seq (.seq .go (.sub (.frag (fr42_3 k)))) (.seq (.seq .go (.sub (.frag (fr42_4 k)))) .go))))))))))
noncomputable def bo42 (k:Nat) (x:AT (sp42 k).ps):=fnT Try.prog (cfg42 k) lim42 Try.f42 (bodyOf Try.f42) (pl42 k) (sp42 k) x
theorem vv42 (k:Nat) (x:AT (sp42 k).ps):(sp42 k).impl x=(bo42 k x).eval∧(bo42 k x).left=(bo42 k x).right:=⟨by kernel_rfl,by kernel_rfl⟩
theorem v42 (k:Nat):Callable Try.prog 42∧Valid Try.prog 42 (sp42 k) :=
 fn_of (n:=lim42) (fn:=Try.f42) (p:=(pl42 k)) (cfg42_ok k) (by kernel_rfl) (plan_of (L:=[(fr42_0 k,co42_0),(fr42_2 k,co42_2),(fr42_3 k,co42_3),(fr42_4 k,co42_4)]) (by kernel_rfl) (.cons (fr42_0_ok k) (.cons (fr42_2_ok k) (.cons (fr42_3_ok k) (.cons (fr42_4_ok k) .nil))))) (vv42 k)
def F15_0 (k:Nat):Nat→Int→TY3→TY3→Option ((Unit×(TY3×TY3×Unit))⊕((Bool×Unit)×(TY3×Unit)))
 |0,_,_,_=>none
 |n+1,t10,c6,c8 =>
  let x25:=(decide (t10<(length c8.1.2.1:Int)))
  bif x25 then
  if 0≤t10∧t10<(length c8.1.2.1:Int) then
  let x26:=(getD c8.1.2.1 (toNat t10) ((0:Int),((0:Int),((Tree.mk ((0:Int),((0:Int),((0:Int),((0:Int),(ByteArray.empty,()))))) []),((Tree.mk ((0:Int),((0:Int),((0:Int),((0:Int),(ByteArray.empty,()))))) []),())))))
  (F41 k x26.2.2.1 c8.1).bind fun r27 =>
  if 0≤t10∧t10<(length c8.1.2.1:Int) then
  let x28:=(getD c8.1.2.1 (toNat t10) ((0:Int),((0:Int),((Tree.mk ((0:Int),((0:Int),((0:Int),((0:Int),(ByteArray.empty,()))))) []),((Tree.mk ((0:Int),((0:Int),((0:Int),((0:Int),(ByteArray.empty,()))))) []),())))))
  (F41 k x28.2.2.2.1 c8.1).bind fun r29 =>
  bif (!r27.1.2.1) then
  some (.inr ((false,()),(c8,())))
  else
  bif (!r29.1.2.1) then
  some (.inr ((false,()),(c8,())))
  else
  (F42 k r27.1.1 c8.2.2.2.1).bind fun r30 =>
  let x31:=(List.set (replicate 1 (([]:(List Int)),(([]:(List Int)),(([]:(List Int)),(([]:TY58),((0:Int),())))))) 0 r30.1.1)
  if (length c8.2.2.2.2.1+length x31)*(104*2)≤281474976710656∧length c8.2.2.2.2.1+length x31≤9223372036854775807 then
  (F42 k r29.1.1 c8.2.2.2.1).bind fun r32 =>
  let x33:=(List.set (replicate 1 (([]:(List Int)),(([]:(List Int)),(([]:(List Int)),(([]:TY58),((0:Int),())))))) 0 r32.1.1)
  if (length c8.2.2.2.2.2.1+length x33)*(104*2)≤281474976710656∧length c8.2.2.2.2.2.1+length x33≤9223372036854775807 then
  (F15_0 k n (wrap .i64 (t10+(1:Int))) c6 (c8.1,(c8.2.1,(c8.2.2.1,(c8.2.2.2.1,((c8.2.2.2.2.1++x31),((c8.2.2.2.2.2.1++x33),c8.2.2.2.2.2.2))))))).bind some
  else none
  else none
  else none
  else none
  else
  some (.inl ((),(c6,c8,())))
def sq15_0:Shape:=⟨[],[(6,.ptr 6 []),(8,.ptr 8 []),(10,.val (.int .i64))],[(6,some 33,KD2),(8,some 33,KD1)]⟩
def fu15_0 (k m:Nat) (v:sq15_0.V):=F15_0 k m v.1.1 v.2.1 v.2.2.1
def fr15_0 (k:Nat):Frag:=⟨sq15_0,[(.exit 0,⟨[],[(6,.ptr 6 []),(8,.ptr 8 [])],[(6,some 33,KD2),(8,some 33,KD1)]⟩),(.ret,⟨[],[(6,.ptr 6 []),(7,.val .bool)],[(6,some 33,KD1)]⟩)],fu15_0 k k⟩
def F15 (k:Nat) (a0:TY59) (a1:(List Int)) (a2:(List Int)):Option ((TY3×Bool×Unit)×Unit) :=
 let x1:=([]:TY41)
 let x2:=([]:TY23)
 let x3:=([]:TY31)
 let x4:=([]:TY31)
 (F36 k a0 a1 a2).bind fun r5 =>
 let x6:=([]:TY31)
 let x7:=([]:TY31)
 (F37 k r5.1.1).bind fun r12 =>
 (F38 k r12.1.1).bind fun r13 =>
 (F39 k r12.1.1 r13.1.1 r13.1.2.1).bind fun r14 =>
 (F40 k r13.1.2.1).bind fun r15 =>
 (F15_0 k k (0:Int) ((x1,(x2,())),(([]:(List Int)),(([]:(List Int)),(([]:(List (List Bool))),(x3,(x4,((0:Int),()))))))) (r5.1.1,(r13.1.1,(r13.1.2.1,(r14.1.1,(x6,(x7,(r15.1.1,())))))))).bind fun r34 =>
 match r34 with
 |.inl r35 =>
  some ((r35.2.2.1,true,()),())
 |.inr r35 =>
  some ((r35.2.1,r35.1.1,()),())
def sp15 (k:Nat):Spec:=⟨[.val KD50,.val KD62,.val KD62],[.own KD1,.val .bool],fun x=>F15 k x.1 x.2.1 x.2.2.1⟩
def lim15:Lim:=⟨101,3,false,false,[18,87,95],[(19,KD1)]⟩
def cfg15 (k:Nat):Nat→Option Spec:=cfgL [(36,sp36 k),(37,sp37 k),(38,sp38 k),(39,sp39 k),(40,sp40 k),(41,sp41 k),(42,sp42 k)]
noncomputable def co15_0:Code:=codeAt (bodyOf Try.f15) [.r,.r,.r,.r,.r,.r,.l,.r,.s]
noncomputable def cb15_0:Code:=codeAt (bodyOf Try.f15) [.r,.r,.r,.r,.r,.r,.l,.r,.s,.b]
noncomputable def co15:Code:=codeAt (bodyOf Try.f15) []
theorem cfg15_ok (k:Nat):CfgOK Try.prog (cfg15 k):=cfgL_cons (v36 k) (cfgL_cons (v37 k) (cfgL_cons (v38 k) (cfgL_cons (v39 k) (cfgL_cons (v40 k) (cfgL_cons (v41 k) (cfgL_cons (v42 k) (cfgL_nil)))))))
noncomputable def bo15_0 (k m:Nat) (v:sq15_0.V):=body Try.prog (stepper Try.prog (cfg15 k) lim15) .go cb15_0 (sq15_0.st v) (loopK (fr15_0 k) (fu15_0 k m))
theorem pp15_0 (k m:Nat) (v:sq15_0.V):fu15_0 k (m+1) v=(bo15_0 k m v).eval∧(bo15_0 k m v).left=(bo15_0 k m v).right:=⟨by kernel_rfl,by kernel_rfl⟩
theorem fr15_0_ok (k:Nat):FragOK Try.prog lim15 (fr15_0 k) co15_0 :=
 frag_cast (by kernel_rfl) (loop_ok (cfg15_ok k) (planOK_go _) (fu15_0 k) k (fun _=>rfl) (fun _=>rfl) (pp15_0 k))
def pl15 (k:Nat):Plan:=(.seq .go (.seq .go (.seq .go (.seq .go (.seq .go (.seq .go (.seq (.seq .go (.sub (.frag (fr15_0 k)))) .go)))))))
noncomputable def bo15 (k:Nat) (x:AT (sp15 k).ps):=fnT Try.prog (cfg15 k) lim15 Try.f15 (bodyOf Try.f15) (pl15 k) (sp15 k) x
theorem vv15 (k:Nat) (x:AT (sp15 k).ps):(sp15 k).impl x=(bo15 k x).eval∧(bo15 k x).left=(bo15 k x).right:=⟨by kernel_rfl,by kernel_rfl⟩
theorem v15 (k:Nat):Callable Try.prog 15∧Valid Try.prog 15 (sp15 k) :=
 fn_of (n:=lim15) (fn:=Try.f15) (p:=(pl15 k)) (cfg15_ok k) (by kernel_rfl) (plan_of (L:=[(fr15_0 k,co15_0)]) (by kernel_rfl) (.cons (fr15_0_ok k) .nil)) (vv15 k)
def F43_0 (k:Nat):Nat→Int→Int→TY33→(List (List Bool))→Option TY25
 |0,_,_,_,_=>none
 |n+1,t3,t5,c1,c16 =>
  bif (decide (t5<t3)) then
  if (0≤t3∧t3<t3+1)∧t3≤9223372036854775807∧((1:Nat):Int)*t3≤281474976710656 then
  if 0≤t5∧t5<(length c16:Int) then
  let x4:=(List.set c16 (toNat t5) (replicate (toNat t3) false))
  if 0≤t5∧t5<(length x4:Int) then
  if 0≤t5∧t5<(length (getD x4 (toNat t5) ([]:(List Bool))):Int) then
  let x5:=(List.set x4 (toNat t5) (List.set (getD x4 (toNat t5) ([]:(List Bool))) (toNat t5) true))
  (F43_0 k n t3 (wrap .i64 (t5+(1:Int))) c1 x5).bind some
  else none
  else none
  else none
  else none
  else
  some ((t3,()),(c1,c16,()))
def sq43_0:Shape:=⟨[],[(1,.ptr 1 []),(3,.val (.int .i64)),(4,.at 16 []),(5,.val (.int .i64))],[(1,some 81,KD15),(16,none,KD56)]⟩
def fu43_0 (k m:Nat) (v:sq43_0.V):=F43_0 k m v.1.1 v.1.2.1 v.2.1 v.2.2.1
def fr43_0 (k:Nat):Frag:=⟨sq43_0,[(.exit 0,⟨[],[(1,.ptr 1 []),(3,.val (.int .i64)),(4,.at 16 [])],[(1,some 81,KD15),(16,none,KD56)]⟩)],fu43_0 k k⟩
def F43_1 (k:Nat):Nat→Int→Int→TY33→(List (List Bool))→Option TY25
 |0,_,_,_,_=>none
 |n+1,t3,t6,c1,c16 =>
  let x14:=(decide (t6<(length c1.2.2.2.1:Int)))
  bif x14 then
  if 0≤t6∧t6<(length c1.2.2.2.1:Int) then
  let x15:=(getD c1.2.2.2.1 (toNat t6) ((0:Int),((0:Int),((0:Int),()))))
  if 0≤x15.1∧x15.1<(length c16:Int) then
  if 0≤t6∧t6<(length c1.2.2.2.1:Int) then
  let x16:=(getD c1.2.2.2.1 (toNat t6) ((0:Int),((0:Int),((0:Int),()))))
  if 0≤x16.2.1∧x16.2.1<(length (getD c16 (toNat x15.1) ([]:(List Bool))):Int) then
  let x17:=(List.set c16 (toNat x15.1) (List.set (getD c16 (toNat x15.1) ([]:(List Bool))) (toNat x16.2.1) true))
  (F43_1 k n t3 (wrap .i64 (t6+(1:Int))) c1 x17).bind some
  else none
  else none
  else none
  else none
  else
  some ((t3,()),(c1,c16,()))
def sq43_1:Shape:=⟨[],[(1,.ptr 1 []),(3,.val (.int .i64)),(4,.at 16 []),(6,.val (.int .i64))],[(1,some 81,KD15),(16,none,KD56)]⟩
def fu43_1 (k m:Nat) (v:sq43_1.V):=F43_1 k m v.1.1 v.1.2.1 v.2.1 v.2.2.1
def fr43_1 (k:Nat):Frag:=⟨sq43_1,[(.exit 2,⟨[],[(1,.ptr 1 []),(3,.val (.int .i64)),(4,.at 16 [])],[(1,some 81,KD15),(16,none,KD56)]⟩)],fu43_1 k k⟩
def F43_2 (k:Nat):Nat→Int→Int→Int→Int→TY33→(List (List Bool))→Option (((Int×Int×Int×Unit)×TY27))
 |0,_,_,_,_,_,_=>none
 |n+1,t3,t7,t8,t9,c1,c16 =>
  bif (decide (t9<t3)) then
  if 0≤t8∧t8<(length c16:Int) then
  if 0≤t8∧t8<(length c16:Int) then
  if 0≤t9∧t9<(length (getD c16 (toNat t8) ([]:(List Bool))):Int) then
  let x28:=(getD (getD c16 (toNat t8) ([]:(List Bool))) (toNat t9) false)
  bif x28 then
  if 0≤t9∧t9<(length (getD c16 (toNat t8) ([]:(List Bool))):Int) then
  let x29:=(List.set c16 (toNat t8) (List.set (getD c16 (toNat t8) ([]:(List Bool))) (toNat t9) true))
  (F43_2 k n t3 t7 t8 (wrap .i64 (t9+(1:Int))) c1 x29).bind some
  else none
  else
  if 0≤t8∧t8<(length c16:Int) then
  if 0≤t7∧t7<(length (getD c16 (toNat t8) ([]:(List Bool))):Int) then
  let x30:=(getD (getD c16 (toNat t8) ([]:(List Bool))) (toNat t7) false)
  bif x30 then
  if 0≤t7∧t7<(length c16:Int) then
  if 0≤t9∧t9<(length (getD c16 (toNat t7) ([]:(List Bool))):Int) then
  let x31:=(getD (getD c16 (toNat t7) ([]:(List Bool))) (toNat t9) false)
  if 0≤t9∧t9<(length (getD c16 (toNat t8) ([]:(List Bool))):Int) then
  let x32:=(List.set c16 (toNat t8) (List.set (getD c16 (toNat t8) ([]:(List Bool))) (toNat t9) x31))
  (F43_2 k n t3 t7 t8 (wrap .i64 (t9+(1:Int))) c1 x32).bind some
  else none
  else none
  else none
  else
  if 0≤t9∧t9<(length (getD c16 (toNat t8) ([]:(List Bool))):Int) then
  let x33:=(List.set c16 (toNat t8) (List.set (getD c16 (toNat t8) ([]:(List Bool))) (toNat t9) false))
  (F43_2 k n t3 t7 t8 (wrap .i64 (t9+(1:Int))) c1 x33).bind some
  else none
  else none
  else none
  else none
  else none
  else none
  else
  some ((t3,t7,t8,()),(c1,c16,()))
def sq43_2:Shape:=⟨[],[(1,.ptr 1 []),(3,.val (.int .i64)),(4,.at 16 []),(7,.val (.int .i64)),(8,.val (.int .i64)),(9,.val (.int .i64))],[(1,some 81,KD15),(16,none,KD56)]⟩
def fu43_2 (k m:Nat) (v:sq43_2.V):=F43_2 k m v.1.1 v.1.2.1 v.1.2.2.1 v.1.2.2.2.1 v.2.1 v.2.2.1
def fr43_2 (k:Nat):Frag:=⟨sq43_2,[(.exit 8,⟨[],[(1,.ptr 1 []),(3,.val (.int .i64)),(4,.at 16 []),(7,.val (.int .i64)),(8,.val (.int .i64))],[(1,some 81,KD15),(16,none,KD56)]⟩)],fu43_2 k k⟩
def F43_3 (k:Nat):Nat→Int→Int→Int→TY33→(List (List Bool))→Option (((Int×Int×Unit)×TY27))
 |0,_,_,_,_,_=>none
 |n+1,t3,t7,t8,c1,c16 =>
  bif (decide (t8<t3)) then
  (F43_2 k k t3 t7 t8 (0:Int) c1 c16).bind fun r40 =>
  (F43_3 k n r40.1.1 r40.1.2.1 (wrap .i64 (r40.1.2.2.1+(1:Int))) r40.2.1 r40.2.2.1).bind some
  else
  some ((t3,t7,()),(c1,c16,()))
def sq43_3:Shape:=⟨[],[(1,.ptr 1 []),(3,.val (.int .i64)),(4,.at 16 []),(7,.val (.int .i64)),(8,.val (.int .i64))],[(1,some 81,KD15),(16,none,KD56)]⟩
def fu43_3 (k m:Nat) (v:sq43_3.V):=F43_3 k m v.1.1 v.1.2.1 v.1.2.2.1 v.2.1 v.2.2.1
def fr43_3 (k:Nat):Frag:=⟨sq43_3,[(.exit 6,⟨[],[(1,.ptr 1 []),(3,.val (.int .i64)),(4,.at 16 []),(7,.val (.int .i64))],[(1,some 81,KD15),(16,none,KD56)]⟩)],fu43_3 k k⟩
def F43_4 (k:Nat):Nat→Int→Int→TY33→(List (List Bool))→Option ((Unit×TY27))
 |0,_,_,_,_=>none
 |n+1,t3,t7,c1,c16 =>
  bif (decide (t7<t3)) then
  (F43_3 k k t3 t7 (0:Int) c1 c16).bind fun r51 =>
  (F43_4 k n r51.1.1 (wrap .i64 (r51.1.2.1+(1:Int))) r51.2.1 r51.2.2.1).bind some
  else
  some ((),(c1,c16,()))
def sq43_4:Shape:=⟨[],[(1,.ptr 1 []),(3,.val (.int .i64)),(4,.at 16 []),(7,.val (.int .i64))],[(1,some 81,KD15),(16,none,KD56)]⟩
def fu43_4 (k m:Nat) (v:sq43_4.V):=F43_4 k m v.1.1 v.1.2.1 v.2.1 v.2.2.1
def fr43_4 (k:Nat):Frag:=⟨sq43_4,[(.exit 4,⟨[],[(1,.ptr 1 []),(4,.at 16 [])],[(1,some 81,KD15),(16,none,KD56)]⟩)],fu43_4 k k⟩
def F43_5 (k:Nat):Nat→Int→TY33→(List (List Bool))→Option ((Unit×Unit)⊕TY72)
 |0,_,_,_=>none
 |n+1,t10,c1,c16 =>
  let x62:=(decide (t10<(length c1.2.2.2.1:Int)))
  bif x62 then
  if 0≤t10∧t10<(length c1.2.2.2.1:Int) then
  let x63:=(getD c1.2.2.2.1 (toNat t10) ((0:Int),((0:Int),((0:Int),()))))
  bif (decide (x63.2.2.1>(0:Int))) then
  if 0≤x63.2.1∧x63.2.1<(length c16:Int) then
  if 0≤x63.1∧x63.1<(length (getD c16 (toNat x63.2.1) ([]:(List Bool))):Int) then
  let x64:=(getD (getD c16 (toNat x63.2.1) ([]:(List Bool))) (toNat x63.1) false)
  bif x64 then
  some (.inr ((true,()),()))
  else
  (F43_5 k n (wrap .i64 (t10+(1:Int))) c1 c16).bind some
  else none
  else none
  else
  (F43_5 k n (wrap .i64 (t10+(1:Int))) c1 c16).bind some
  else none
  else
  some (.inl ((),()))
def sq43_5:Shape:=⟨[],[(1,.ptr 1 []),(4,.at 16 []),(10,.val (.int .i64))],[(1,some 81,KD15),(16,none,KD56)]⟩
def fu43_5 (k m:Nat) (v:sq43_5.V):=F43_5 k m v.1.1 v.2.1 v.2.2.1
def fr43_5 (k:Nat):Frag:=⟨sq43_5,[(.exit 10,⟨[],[],[]⟩),(.ret,⟨[],[(2,.val .bool)],[]⟩)],fu43_5 k k⟩
def F43 (k:Nat) (a0:TY33):Option TY72 :=
 if (0≤(length a0.1:Int)∧(length a0.1:Int)<(length a0.1:Int)+1)∧(length a0.1:Int)≤9223372036854775807∧((24:Nat):Int)*(length a0.1:Int)≤281474976710656 then
 let x1:=(replicate (toNat (length a0.1:Int)) ([]:(List Bool)))
 (F43_0 k k (length a0.1:Int) (0:Int) a0 x1).bind fun r6 =>
 (F43_1 k k r6.1.1 (0:Int) r6.2.1 r6.2.2.1).bind fun r18 =>
 (F43_4 k k r18.1.1 (0:Int) r18.2.1 r18.2.2.1).bind fun r56 =>
 (F43_5 k k (0:Int) r56.2.1 r56.2.2.1).bind fun r65 =>
 match r65 with
 |.inl r66 =>
  some ((false,()),())
 |.inr r66 =>
  some ((r66.1.1,()),())
 else none
def sp43 (k:Nat):Spec:=⟨[.val KD15],[.val .bool],fun x=>F43 k x.1⟩
def lim43:Lim:=⟨128,1,false,false,[],[]⟩
def cfg43 (k:Nat):Nat→Option Spec:=cfgL []
noncomputable def co43_0:Code:=codeAt (bodyOf Try.f43) [.r,.r,.r,.l,.r,.s]
noncomputable def cb43_0:Code:=codeAt (bodyOf Try.f43) [.r,.r,.r,.l,.r,.s,.b]
noncomputable def co43_1:Code:=codeAt (bodyOf Try.f43) [.r,.r,.r,.r,.l,.r,.s]
noncomputable def cb43_1:Code:=codeAt (bodyOf Try.f43) [.r,.r,.r,.r,.l,.r,.s,.b]
noncomputable def co43_2:Code:=codeAt (bodyOf Try.f43) [.r,.r,.r,.r,.r,.l,.r,.s,.b,.r,.l,.s,.r,.s,.b,.r,.l,.s,.r,.s]
noncomputable def cb43_2:Code:=codeAt (bodyOf Try.f43) [.r,.r,.r,.r,.r,.l,.r,.s,.b,.r,.l,.s,.r,.s,.b,.r,.l,.s,.r,.s,.b]
noncomputable def co43_3:Code:=codeAt (bodyOf Try.f43) [.r,.r,.r,.r,.r,.l,.r,.s,.b,.r,.l,.s,.r,.s]
noncomputable def cb43_3:Code:=codeAt (bodyOf Try.f43) [.r,.r,.r,.r,.r,.l,.r,.s,.b,.r,.l,.s,.r,.s,.b]
noncomputable def co43_4:Code:=codeAt (bodyOf Try.f43) [.r,.r,.r,.r,.r,.l,.r,.s]
noncomputable def cb43_4:Code:=codeAt (bodyOf Try.f43) [.r,.r,.r,.r,.r,.l,.r,.s,.b]
noncomputable def co43_5:Code:=codeAt (bodyOf Try.f43) [.r,.r,.r,.r,.r,.r,.l,.r,.s]
noncomputable def cb43_5:Code:=codeAt (bodyOf Try.f43) [.r,.r,.r,.r,.r,.r,.l,.r,.s,.b]
noncomputable def co43:Code:=codeAt (bodyOf Try.f43) []
theorem cfg43_ok (k:Nat):CfgOK Try.prog (cfg43 k):=cfgL_nil
noncomputable def bo43_0 (k m:Nat) (v:sq43_0.V):=body Try.prog (stepper Try.prog (cfg43 k) lim43) .go cb43_0 (sq43_0.st v) (loopK (fr43_0 k) (fu43_0 k m))
theorem pp43_0 (k m:Nat) (v:sq43_0.V):fu43_0 k (m+1) v=(bo43_0 k m v).eval∧(bo43_0 k m v).left=(bo43_0 k m v).right:=⟨by kernel_rfl,by kernel_rfl⟩
theorem fr43_0_ok (k:Nat):FragOK Try.prog lim43 (fr43_0 k) co43_0 :=
 frag_cast (by kernel_rfl) (loop_ok (cfg43_ok k) (planOK_go _) (fu43_0 k) k (fun _=>rfl) (fun _=>rfl) (pp43_0 k))
noncomputable def bo43_1 (k m:Nat) (v:sq43_1.V):=body Try.prog (stepper Try.prog (cfg43 k) lim43) .go cb43_1 (sq43_1.st v) (loopK (fr43_1 k) (fu43_1 k m))
theorem pp43_1 (k m:Nat) (v:sq43_1.V):fu43_1 k (m+1) v=(bo43_1 k m v).eval∧(bo43_1 k m v).left=(bo43_1 k m v).right:=⟨by kernel_rfl,by kernel_rfl⟩
theorem fr43_1_ok (k:Nat):FragOK Try.prog lim43 (fr43_1 k) co43_1 :=
 frag_cast (by kernel_rfl) (loop_ok (cfg43_ok k) (planOK_go _) (fu43_1 k) k (fun _=>rfl) (fun _=>rfl) (pp43_1 k))
noncomputable def bo43_2 (k m:Nat) (v:sq43_2.V):=body Try.prog (stepper Try.prog (cfg43 k) lim43) .go cb43_2 (sq43_2.st v) (loopK (fr43_2 k) (fu43_2 k m))
theorem pp43_2 (k m:Nat) (v:sq43_2.V):fu43_2 k (m+1) v=(bo43_2 k m v).eval∧(bo43_2 k m v).left=(bo43_2 k m v).right:=⟨by kernel_rfl,by kernel_rfl⟩
theorem fr43_2_ok (k:Nat):FragOK Try.prog lim43 (fr43_2 k) co43_2 :=
 frag_cast (by kernel_rfl) (loop_ok (cfg43_ok k) (planOK_go _) (fu43_2 k) k (fun _=>rfl) (fun _=>rfl) (pp43_2 k))
def pl43_3 (k:Nat):Plan:=(.seq .go (.seq (.sub (.seq .go (.sub (.frag (fr43_2 k))))) .go))
noncomputable def bo43_3 (k m:Nat) (v:sq43_3.V):=body Try.prog (stepper Try.prog (cfg43 k) lim43) (pl43_3 k) cb43_3 (sq43_3.st v) (loopK (fr43_3 k) (fu43_3 k m))
theorem pp43_3 (k m:Nat) (v:sq43_3.V):fu43_3 k (m+1) v=(bo43_3 k m v).eval∧(bo43_3 k m v).left=(bo43_3 k m v).right:=⟨by kernel_rfl,by kernel_rfl⟩
theorem fr43_3_ok (k:Nat):FragOK Try.prog lim43 (fr43_3 k) co43_3 :=
 frag_cast (by kernel_rfl) (loop_ok (cfg43_ok k) (plan_of (L:=[(fr43_2 k,co43_2)]) (by kernel_rfl) (.cons (fr43_2_ok k) .nil)) (fu43_3 k) k (fun _=>rfl) (fun _=>rfl) (pp43_3 k))
def pl43_4 (k:Nat):Plan:=(.seq .go (.seq (.sub (.seq .go (.sub (.frag (fr43_3 k))))) .go))
noncomputable def bo43_4 (k m:Nat) (v:sq43_4.V):=body Try.prog (stepper Try.prog (cfg43 k) lim43) (pl43_4 k) cb43_4 (sq43_4.st v) (loopK (fr43_4 k) (fu43_4 k m))
theorem pp43_4 (k m:Nat) (v:sq43_4.V):fu43_4 k (m+1) v=(bo43_4 k m v).eval∧(bo43_4 k m v).left=(bo43_4 k m v).right:=⟨by kernel_rfl,by kernel_rfl⟩
theorem fr43_4_ok (k:Nat):FragOK Try.prog lim43 (fr43_4 k) co43_4 :=
 frag_cast (by kernel_rfl) (loop_ok (cfg43_ok k) (plan_of (L:=[(fr43_3 k,co43_3)]) (by kernel_rfl) (.cons (fr43_3_ok k) .nil)) (fu43_4 k) k (fun _=>rfl) (fun _=>rfl) (pp43_4 k))
noncomputable def bo43_5 (k m:Nat) (v:sq43_5.V):=body Try.prog (stepper Try.prog (cfg43 k) lim43) .go cb43_5 (sq43_5.st v) (loopK (fr43_5 k) (fu43_5 k m))
theorem pp43_5 (k m:Nat) (v:sq43_5.V):fu43_5 k (m+1) v=(bo43_5 k m v).eval∧(bo43_5 k m v).left=(bo43_5 k m v).right:=⟨by kernel_rfl,by kernel_rfl⟩
theorem fr43_5_ok (k:Nat):FragOK Try.prog lim43 (fr43_5 k) co43_5 :=
 frag_cast (by kernel_rfl) (loop_ok (cfg43_ok k) (planOK_go _) (fu43_5 k) k (fun _=>rfl) (fun _=>rfl) (pp43_5 k))
def pl43 (k:Nat):Plan:=(.seq .go (.seq .go (.seq .go (.seq (.seq .go (.sub (.frag (fr43_0 k)))) (.seq (.seq .go (.sub (.frag (fr43_1 k)))) (.seq (.seq .go (.sub (.frag (fr43_4 k)))) (.seq (.seq .go (.sub (.frag (fr43_5 k)))) .go)))))))
noncomputable def bo43 (k:Nat) (x:AT (sp43 k).ps):=fnT Try.prog (cfg43 k) lim43 Try.f43 (bodyOf Try.f43) (pl43 k) (sp43 k) x
theorem vv43 (k:Nat) (x:AT (sp43 k).ps):(sp43 k).impl x=(bo43 k x).eval∧(bo43 k x).left=(bo43 k x).right:=⟨by kernel_rfl,by kernel_rfl⟩
theorem v43 (k:Nat):Callable Try.prog 43∧Valid Try.prog 43 (sp43 k) :=
 fn_of (n:=lim43) (fn:=Try.f43) (p:=(pl43 k)) (cfg43_ok k) (by kernel_rfl) (plan_of (L:=[(fr43_0 k,co43_0),(fr43_1 k,co43_1),(fr43_4 k,co43_4),(fr43_5 k,co43_5)]) (by kernel_rfl) (.cons (fr43_0_ok k) (.cons (fr43_1_ok k) (.cons (fr43_4_ok k) (.cons (fr43_5_ok k) .nil))))) (vv43 k)
def F16_0 (k:Nat):Nat→Int→TY3→Option ((Unit×Unit)⊕TY72)
 |0,_,_=>none
 |n+1,t3,c1 =>
  let x4:=(decide (t3<(length c1.2.2.2.2.1:Int)))
  bif x4 then
  if 0≤t3∧t3<(length c1.2.2.2.2.1:Int) then
  let x5:=(getD c1.2.2.2.2.1 (toNat t3) (([]:(List Int)),(([]:(List Int)),(([]:(List Int)),(([]:TY58),((0:Int),()))))))
  (F43 k x5).bind fun r6 =>
  bif r6.1.1 then
  some (.inr ((false,()),()))
  else
  (F16_0 k n (wrap .i64 (t3+(1:Int))) c1).bind some
  else none
  else
  some (.inl ((),()))
def sq16_0:Shape:=⟨[],[(1,.ptr 1 []),(3,.val (.int .i64))],[(1,some 33,KD0)]⟩
def fu16_0 (k m:Nat) (v:sq16_0.V):=F16_0 k m v.1.1 v.2.1
def fr16_0 (k:Nat):Frag:=⟨sq16_0,[(.exit 0,⟨[],[],[]⟩),(.ret,⟨[],[(2,.val .bool)],[]⟩)],fu16_0 k k⟩
def F16 (k:Nat) (a0:TY3):Option TY72 :=
 (F16_0 k k (0:Int) a0).bind fun r7 =>
 match r7 with
 |.inl r8 =>
  some ((true,()),())
 |.inr r8 =>
  some ((r8.1.1,()),())
def sp16 (k:Nat):Spec:=⟨[.val KD0],[.val .bool],fun x=>F16 k x.1⟩
def lim16:Lim:=⟨17,1,false,false,[],[]⟩
def cfg16 (k:Nat):Nat→Option Spec:=cfgL [(43,sp43 k)]
noncomputable def co16_0:Code:=codeAt (bodyOf Try.f16) [.r,.l,.r,.s]
noncomputable def cb16_0:Code:=codeAt (bodyOf Try.f16) [.r,.l,.r,.s,.b]
noncomputable def co16:Code:=codeAt (bodyOf Try.f16) []
theorem cfg16_ok (k:Nat):CfgOK Try.prog (cfg16 k):=cfgL_cons (v43 k) (cfgL_nil)
noncomputable def bo16_0 (k m:Nat) (v:sq16_0.V):=body Try.prog (stepper Try.prog (cfg16 k) lim16) .go cb16_0 (sq16_0.st v) (loopK (fr16_0 k) (fu16_0 k m))
theorem pp16_0 (k m:Nat) (v:sq16_0.V):fu16_0 k (m+1) v=(bo16_0 k m v).eval∧(bo16_0 k m v).left=(bo16_0 k m v).right:=⟨by kernel_rfl,by kernel_rfl⟩
theorem fr16_0_ok (k:Nat):FragOK Try.prog lim16 (fr16_0 k) co16_0 :=
 frag_cast (by kernel_rfl) (loop_ok (cfg16_ok k) (planOK_go _) (fu16_0 k) k (fun _=>rfl) (fun _=>rfl) (pp16_0 k))
def pl16 (k:Nat):Plan:=(.seq .go (.seq (.seq .go (.sub (.frag (fr16_0 k)))) .go))
noncomputable def bo16 (k:Nat) (x:AT (sp16 k).ps):=fnT Try.prog (cfg16 k) lim16 Try.f16 (bodyOf Try.f16) (pl16 k) (sp16 k) x
theorem vv16 (k:Nat) (x:AT (sp16 k).ps):(sp16 k).impl x=(bo16 k x).eval∧(bo16 k x).left=(bo16 k x).right:=⟨by kernel_rfl,by kernel_rfl⟩
theorem v16 (k:Nat):Callable Try.prog 16∧Valid Try.prog 16 (sp16 k) :=
 fn_of (n:=lim16) (fn:=Try.f16) (p:=(pl16 k)) (cfg16_ok k) (by kernel_rfl) (plan_of (L:=[(fr16_0 k,co16_0)]) (by kernel_rfl) (.cons (fr16_0_ok k) .nil)) (vv16 k)
def F32_0 (k:Nat):Nat→(List Int)→(List Int)→Int→Option ((Unit×Unit)⊕TY72)
 |0,_,_,_=>none
 |n+1,t0,t1,t5 =>
  let x4:=(decide (t5<(length t0:Int)))
  bif x4 then
  if 0≤t5∧t5<(length t0:Int) then
  if 0≤t5∧t5<(length t1:Int) then
  let x5:=((getD t0 (toNat t5) (0:Int)) != (getD t1 (toNat t5) (0:Int)))
  bif x5 then
  some (.inr ((false,()),()))
  else
  (F32_0 k n t0 t1 (wrap .i64 (t5+(1:Int)))).bind some
  else none
  else none
  else
  some (.inl ((),()))
def sq32_0:Shape:=⟨[],[(0,.val KD62),(1,.val KD62),(5,.val (.int .i64))],[]⟩
def fu32_0 (k m:Nat) (v:sq32_0.V):=F32_0 k m v.1.1 v.1.2.1 v.1.2.2.1
def fr32_0 (k:Nat):Frag:=⟨sq32_0,[(.exit 0,⟨[],[],[]⟩),(.ret,⟨[],[(4,.val .bool)],[]⟩)],fu32_0 k k⟩
def F32 (k:Nat) (a0:(List Int)) (a1:(List Int)):Option TY72 :=
 let x1:=((length a0:Int) != (length a1:Int))
 bif x1 then
 some ((false,()),())
 else
 (F32_0 k k a0 a1 (0:Int)).bind fun r6 =>
 match r6 with
 |.inl r7 =>
  some ((true,()),())
 |.inr r7 =>
  some ((r7.1.1,()),())
def sp32 (k:Nat):Spec:=⟨[.val KD62,.val KD62],[.val .bool],fun x=>F32 k x.1 x.2.1⟩
def lim32:Lim:=⟨26,2,false,false,[],[]⟩
def cfg32 (k:Nat):Nat→Option Spec:=cfgL []
noncomputable def co32_0:Code:=codeAt (bodyOf Try.f32) [.r,.r,.l,.r,.s]
noncomputable def cb32_0:Code:=codeAt (bodyOf Try.f32) [.r,.r,.l,.r,.s,.b]
noncomputable def co32:Code:=codeAt (bodyOf Try.f32) []
theorem cfg32_ok (k:Nat):CfgOK Try.prog (cfg32 k):=cfgL_nil
noncomputable def bo32_0 (k m:Nat) (v:sq32_0.V):=body Try.prog (stepper Try.prog (cfg32 k) lim32) .go cb32_0 (sq32_0.st v) (loopK (fr32_0 k) (fu32_0 k m))
theorem pp32_0 (k m:Nat) (v:sq32_0.V):fu32_0 k (m+1) v=(bo32_0 k m v).eval∧(bo32_0 k m v).left=(bo32_0 k m v).right:=⟨by kernel_rfl,by kernel_rfl⟩
theorem fr32_0_ok (k:Nat):FragOK Try.prog lim32 (fr32_0 k) co32_0 :=
 frag_cast (by kernel_rfl) (loop_ok (cfg32_ok k) (planOK_go _) (fu32_0 k) k (fun _=>rfl) (fun _=>rfl) (pp32_0 k))
def pl32 (k:Nat):Plan:=(.seq .go (.seq .go (.seq (.seq .go (.sub (.frag (fr32_0 k)))) .go)))
noncomputable def bo32 (k:Nat) (x:AT (sp32 k).ps):=fnT Try.prog (cfg32 k) lim32 Try.f32 (bodyOf Try.f32) (pl32 k) (sp32 k) x
theorem vv32 (k:Nat) (x:AT (sp32 k).ps):(sp32 k).impl x=(bo32 k x).eval∧(bo32 k x).left=(bo32 k x).right:=⟨by kernel_rfl,by kernel_rfl⟩
theorem v32 (k:Nat):Callable Try.prog 32∧Valid Try.prog 32 (sp32 k) :=
 fn_of (n:=lim32) (fn:=Try.f32) (p:=(pl32 k)) (cfg32_ok k) (by kernel_rfl) (plan_of (L:=[(fr32_0 k,co32_0)]) (by kernel_rfl) (.cons (fr32_0_ok k) .nil)) (vv32 k)
def F31_0 (k:Nat):Nat→Int→(List Int)→(List Int)→(List Int)→Option TY55
 |0,_,_,_,_=>none
 |n+1,t5,c2,c3,c4 =>
  bif (decide (t5<(3:Int))) then
  if 0≤t5∧t5<((3:Nat):Int) then
  if 0≤t5∧t5<((3:Nat):Int) then
  let x2:=(minI (getD c2 (toNat t5) (0:Int)) (getD c3 (toNat t5) (0:Int)))
  if 0≤t5∧t5<((3:Nat):Int) then
  (F31_0 k n (wrap .i64 (t5+(1:Int))) (List.set c2 (toNat t5) x2) c3 c4).bind some
  else none
  else none
  else none
  else
  some ((),(c2,c4,()))
def sq31_0:Shape:=⟨[],[(2,.ptr 2 []),(3,.ptr 3 []),(4,.ptr 4 []),(5,.val (.int .i64))],[(2,some 69,(.arr 3 (.int .i64))),(3,some 69,(.arr 3 (.int .i64))),(4,some 69,(.arr 3 (.int .i64)))]⟩
def fu31_0 (k m:Nat) (v:sq31_0.V):=F31_0 k m v.1.1 v.2.1 v.2.2.1 v.2.2.2.1
def fr31_0 (k:Nat):Frag:=⟨sq31_0,[(.exit 0,⟨[],[(2,.ptr 2 []),(4,.ptr 4 [])],[(2,some 69,(.arr 3 (.int .i64))),(4,some 69,(.arr 3 (.int .i64)))]⟩)],fu31_0 k k⟩
def F31 (k:Nat) (a0:(List Int)) (a1:(List Int)):Option TY65 :=
 (F31_0 k k (0:Int) a0 a1 (replicate 3 (0:Int))).bind fun r3 =>
 some ((r3.2.1,()),())
def sp31 (k:Nat):Spec:=⟨[.val (.arr 3 (.int .i64)),.val (.arr 3 (.int .i64))],[.val (.arr 3 (.int .i64))],fun x=>F31 k x.1 x.2.1⟩
def lim31:Lim:=⟨20,2,false,false,[],[]⟩
def cfg31 (k:Nat):Nat→Option Spec:=cfgL []
noncomputable def co31_0:Code:=codeAt (bodyOf Try.f31) [.r,.l,.r,.s]
noncomputable def cb31_0:Code:=codeAt (bodyOf Try.f31) [.r,.l,.r,.s,.b]
noncomputable def co31:Code:=codeAt (bodyOf Try.f31) []
theorem cfg31_ok (k:Nat):CfgOK Try.prog (cfg31 k):=cfgL_nil
noncomputable def bo31_0 (k m:Nat) (v:sq31_0.V):=body Try.prog (stepper Try.prog (cfg31 k) lim31) .go cb31_0 (sq31_0.st v) (loopK (fr31_0 k) (fu31_0 k m))
theorem pp31_0 (k m:Nat) (v:sq31_0.V):fu31_0 k (m+1) v=(bo31_0 k m v).eval∧(bo31_0 k m v).left=(bo31_0 k m v).right:=⟨by kernel_rfl,by kernel_rfl⟩
theorem fr31_0_ok (k:Nat):FragOK Try.prog lim31 (fr31_0 k) co31_0 :=
 frag_cast (by kernel_rfl) (loop_ok (cfg31_ok k) (planOK_go _) (fu31_0 k) k (fun _=>rfl) (fun _=>rfl) (pp31_0 k))
def pl31 (k:Nat):Plan:=(.seq .go (.seq (.seq .go (.sub (.frag (fr31_0 k)))) .go))
noncomputable def bo31 (k:Nat) (x:AT (sp31 k).ps):=fnT Try.prog (cfg31 k) lim31 Try.f31 (bodyOf Try.f31) (pl31 k) (sp31 k) x
theorem vv31 (k:Nat) (x:AT (sp31 k).ps):(sp31 k).impl x=(bo31 k x).eval∧(bo31 k x).left=(bo31 k x).right:=⟨by kernel_rfl,by kernel_rfl⟩
theorem v31 (k:Nat):Callable Try.prog 31∧Valid Try.prog 31 (sp31 k) :=
 fn_of (n:=lim31) (fn:=Try.f31) (p:=(pl31 k)) (cfg31_ok k) (by kernel_rfl) (plan_of (L:=[(fr31_0 k,co31_0)]) (by kernel_rfl) (.cons (fr31_0_ok k) .nil)) (vv31 k)
def F10_0 (k:Nat):Nat→(List Bool)→Int→TY3→(List Bool)→(List Bool)→Option ((Unit×(TY3×(List Bool)×(List Bool)×Unit)))
 |0,_,_,_,_,_=>none
 |n+1,t3,t13,c9,c41,c45 =>
  let x14:=(decide (t13<(length c9.2.2.2.2.1:Int)))
  bif x14 then
  let x15:=(decide (t13<(length t3:Int)))
  bif x15 then
  if 0≤t13∧t13<(length t3:Int) then
  if 0≤t13∧t13<(length c41:Int) then
  let x16:=(List.set c41 (toNat t13) (getD t3 (toNat t13) false))
  if 0≤t13∧t13<(length c45:Int) then
  (F10_0 k n t3 (wrap .i64 (t13+(1:Int))) c9 x16 (List.set c45 (toNat t13) true)).bind some
  else none
  else none
  else none
  else
  if 0≤t13∧t13<(length c41:Int) then
  if 0≤t13∧t13<(length c45:Int) then
  (F10_0 k n t3 (wrap .i64 (t13+(1:Int))) c9 (List.set c41 (toNat t13) false) (List.set c45 (toNat t13) true)).bind some
  else none
  else none
  else
  some ((),(c9,c41,c45,()))
def sq10_0:Shape:=⟨[],[(3,.val (.sl false 4 .bool none)),(9,.ptr 9 []),(11,.at 41 []),(12,.at 45 []),(13,.val (.int .i64))],[(9,some 33,KD1),(41,none,KD71),(45,none,KD71)]⟩
def fu10_0 (k m:Nat) (v:sq10_0.V):=F10_0 k m v.1.1 v.1.2.1 v.2.1 v.2.2.1 v.2.2.2.1
def fr10_0 (k:Nat):Frag:=⟨sq10_0,[(.exit 0,⟨[],[(9,.ptr 9 []),(11,.at 41 []),(12,.at 45 [])],[(9,some 33,KD1),(41,none,KD71),(45,none,KD71)]⟩)],fu10_0 k k⟩
def F10_1 (k:Nat):Nat→Int→TY49→TY49→Option ((Unit×Unit)⊕TY72)
 |0,_,_,_=>none
 |n+1,t18,c14,c16 =>
  let x38:=(decide (t18<(length c14.1:Int)))
  bif x38 then
  if 0≤t18∧t18<(length c14.1:Int) then
  if 0≤t18∧t18<(length c16.1:Int) then
  (F32 k (getD c14.1 (toNat t18) ([]:(List Int))) (getD c16.1 (toNat t18) ([]:(List Int)))).bind fun r39 =>
  bif (!r39.1.1) then
  some (.inr ((false,()),()))
  else
  if 0≤t18∧t18<(length c14.2.1:Int) then
  let x40:=(length (getD c14.2.1 (toNat t18) ([]:(List (List Int)))):Int)
  bif (x40 != (2:Int)) then
  some (.inr ((false,()),()))
  else
  if 0≤t18∧t18<(length c16.2.1:Int) then
  let x41:=(length (getD c16.2.1 (toNat t18) ([]:(List (List Int)))):Int)
  bif (x41 != (1:Int)) then
  some (.inr ((false,()),()))
  else
  if 0≤t18∧t18<(length c14.2.1:Int) then
  if 0≤(1:Int)∧(1:Int)<(length (getD c14.2.1 (toNat t18) ([]:(List (List Int)))):Int) then
  let x42:=(getD (getD c14.2.1 (toNat t18) ([]:(List (List Int)))) (toNat (1:Int)) ([]:(List Int)))
  if 0≤t18∧t18<(length c16.2.1:Int) then
  if 0≤(0:Int)∧(0:Int)<(length (getD c16.2.1 (toNat t18) ([]:(List (List Int)))):Int) then
  let x43:=(getD (getD c16.2.1 (toNat t18) ([]:(List (List Int)))) (toNat (0:Int)) ([]:(List Int)))
  bif (!(x42==x43)) then
  some (.inr ((false,()),()))
  else
  if 0≤t18∧t18<(length c14.2.1:Int) then
  if 0≤(0:Int)∧(0:Int)<(length (getD c14.2.1 (toNat t18) ([]:(List (List Int)))):Int) then
  let x44:=(getD (getD c14.2.1 (toNat t18) ([]:(List (List Int)))) (toNat (0:Int)) ([]:(List Int)))
  if 0≤t18∧t18<(length c14.2.1:Int) then
  if 0≤(1:Int)∧(1:Int)<(length (getD c14.2.1 (toNat t18) ([]:(List (List Int)))):Int) then
  let x45:=(getD (getD c14.2.1 (toNat t18) ([]:(List (List Int)))) (toNat (1:Int)) ([]:(List Int)))
  if 0≤t18∧t18<(length c14.2.1:Int) then
  if 0≤(1:Int)∧(1:Int)<(length (getD c14.2.1 (toNat t18) ([]:(List (List Int)))):Int) then
  let x46:=(getD (getD c14.2.1 (toNat t18) ([]:(List (List Int)))) (toNat (1:Int)) ([]:(List Int)))
  (F31 k x44 x45).bind fun r47 =>
  bif (!(r47.1.1==x46)) then
  some (.inr ((false,()),()))
  else
  (F10_1 k n (wrap .i64 (t18+(1:Int))) c14 c16).bind some
  else none
  else none
  else none
  else none
  else none
  else none
  else none
  else none
  else none
  else none
  else none
  else none
  else none
  else none
  else
  some (.inl ((),()))
def sq10_1:Shape:=⟨[],[(14,.ptr 14 []),(16,.ptr 16 []),(18,.val (.int .i64))],[(14,some 45,(.pair KD52 (.pair (.sl true 56 (.sl true 69 (.arr 3 (.int .i64)) none) none) .unit))),(16,some 45,(.pair KD52 (.pair (.sl true 56 (.sl true 69 (.arr 3 (.int .i64)) none) none) .unit)))]⟩
def fu10_1 (k m:Nat) (v:sq10_1.V):=F10_1 k m v.1.1 v.2.1 v.2.2.1
def fr10_1 (k:Nat):Frag:=⟨sq10_1,[(.exit 2,⟨[],[],[]⟩),(.ret,⟨[],[(8,.val .bool)],[]⟩)],fu10_1 k k⟩
def F10 (k:Nat) (a0:TY59) (a1:(List Int)) (a2:(List Int)) (a3:(List Bool)):Option TY72 :=
 (F13 k).bind fun r1 =>
 bif (!r1.1.1) then
 some ((false,()),())
 else
 (F14 k a0).bind fun r2 =>
 bif (!r2.1.1) then
 some ((true,()),())
 else
 (F15 k a0 a1 a2).bind fun r3 =>
 bif (!r3.1.2.1) then
 some ((true,()),())
 else
 (F16 k r3.1.1).bind fun r8 =>
 bif (!r8.1.1) then
 some ((true,()),())
 else
 if (0≤(length r3.1.1.2.2.2.2.1:Int)∧(length r3.1.1.2.2.2.2.1:Int)<(length r3.1.1.2.2.2.2.1:Int)+1)∧(length r3.1.1.2.2.2.2.1:Int)≤9223372036854775807∧((1:Nat):Int)*(length r3.1.1.2.2.2.2.1:Int)≤281474976710656 then
 let x9:=(replicate (toNat (length r3.1.1.2.2.2.2.1:Int)) false)
 if (0≤(length r3.1.1.2.2.2.2.1:Int)∧(length r3.1.1.2.2.2.2.1:Int)<(length r3.1.1.2.2.2.2.1:Int)+1)∧(length r3.1.1.2.2.2.2.1:Int)≤9223372036854775807∧((1:Nat):Int)*(length r3.1.1.2.2.2.2.1:Int)≤281474976710656 then
 let x10:=(replicate (toNat (length r3.1.1.2.2.2.2.1:Int)) false)
 (F10_0 k k a3 (0:Int) r3.1.1 x9 x10).bind fun r17 =>
 let y18:=r17.2.1
 let x21:=(List.set (List.set (replicate 2 ([]:(List Bool))) 0 r17.2.2.1) 1 r17.2.2.2.1)
 (F19 k y18.1.2.1 y18.2.2.2.2.1 y18.2.2.2.1 y18.2.2.2.2.2.2.1 x21 (60:Int)).bind fun r22 =>
 let x23:=(List.set (replicate 1 ([]:(List Bool))) 0 r17.2.2.2.1)
 (F19 k y18.1.2.1 y18.2.2.2.2.1 y18.2.2.2.1 y18.2.2.2.2.2.2.1 x23 (60:Int)).bind fun r24 =>
 bif (r22.1.2.1 != r24.1.2.1) then
 some ((false,()),())
 else
 let x25:=((length r22.1.1.1:Int) != (length r24.1.1.1:Int))
 bif x25 then
 some ((false,()),())
 else
 let x26:=((length r22.1.1.2.1:Int) != (length r22.1.1.1:Int))
 bif x26 then
 some ((false,()),())
 else
 let x27:=((length r24.1.1.2.1:Int) != (length r24.1.1.1:Int))
 bif x27 then
 some ((false,()),())
 else
 (F10_1 k k (0:Int) r22.1.1 r24.1.1).bind fun r48 =>
 match r48 with
 |.inl r49 =>
  some ((true,()),())
 |.inr r49 =>
  some ((r49.1.1,()),())
 else none
 else none
def sp10 (k:Nat):Spec:=⟨[.val KD50,.val KD62,.val KD62,.val (.sl false 4 .bool none)],[.val .bool],fun x=>F10 k x.1 x.2.1 x.2.2.1 x.2.2.2.1⟩
def lim10:Lim:=⟨209,4,false,false,[79,80],[]⟩
def cfg10 (k:Nat):Nat→Option Spec:=cfgL [(13,sp13 k),(14,sp14 k),(15,sp15 k),(16,sp16 k),(19,sp19 k),(31,sp31 k),(32,sp32 k)]
noncomputable def co10_0:Code:=codeAt (bodyOf Try.f10) [.r,.r,.r,.r,.r,.r,.l,.r,.s]
noncomputable def cb10_0:Code:=codeAt (bodyOf Try.f10) [.r,.r,.r,.r,.r,.r,.l,.r,.s,.b]
noncomputable def co10_1:Code:=codeAt (bodyOf Try.f10) [.r,.r,.r,.r,.r,.r,.r,.r,.r,.r,.l,.r,.s]
noncomputable def cb10_1:Code:=codeAt (bodyOf Try.f10) [.r,.r,.r,.r,.r,.r,.r,.r,.r,.r,.l,.r,.s,.b]
noncomputable def co10:Code:=codeAt (bodyOf Try.f10) []
theorem cfg10_ok (k:Nat):CfgOK Try.prog (cfg10 k):=cfgL_cons (v13 k) (cfgL_cons (v14 k) (cfgL_cons (v15 k) (cfgL_cons (v16 k) (cfgL_cons (v19 k) (cfgL_cons (v31 k) (cfgL_cons (v32 k) (cfgL_nil)))))))
noncomputable def bo10_0 (k m:Nat) (v:sq10_0.V):=body Try.prog (stepper Try.prog (cfg10 k) lim10) .go cb10_0 (sq10_0.st v) (loopK (fr10_0 k) (fu10_0 k m))
theorem pp10_0 (k m:Nat) (v:sq10_0.V):fu10_0 k (m+1) v=(bo10_0 k m v).eval∧(bo10_0 k m v).left=(bo10_0 k m v).right:=⟨by kernel_rfl,by kernel_rfl⟩
theorem fr10_0_ok (k:Nat):FragOK Try.prog lim10 (fr10_0 k) co10_0 :=
 frag_cast (by kernel_rfl) (loop_ok (cfg10_ok k) (planOK_go _) (fu10_0 k) k (fun _=>rfl) (fun _=>rfl) (pp10_0 k))
noncomputable def bo10_1 (k m:Nat) (v:sq10_1.V):=body Try.prog (stepper Try.prog (cfg10 k) lim10) .go cb10_1 (sq10_1.st v) (loopK (fr10_1 k) (fu10_1 k m))
theorem pp10_1 (k m:Nat) (v:sq10_1.V):fu10_1 k (m+1) v=(bo10_1 k m v).eval∧(bo10_1 k m v).left=(bo10_1 k m v).right:=⟨by kernel_rfl,by kernel_rfl⟩
theorem fr10_1_ok (k:Nat):FragOK Try.prog lim10 (fr10_1 k) co10_1 :=
 frag_cast (by kernel_rfl) (loop_ok (cfg10_ok k) (planOK_go _) (fu10_1 k) k (fun _=>rfl) (fun _=>rfl) (pp10_1 k))
def pl10 (k:Nat):Plan:=(.seq .go (.seq .go (.seq .go (.seq .go (.seq .go (.seq .go (.seq (.seq .go (.sub (.frag (fr10_0 k)))) (.seq .go (.seq .go (.seq .go (.seq (.seq .go (.sub (.frag (fr10_1 k)))) .go)))))))))))
noncomputable def bo10 (k:Nat) (x:AT (sp10 k).ps):=fnT Try.prog (cfg10 k) lim10 Try.f10 (bodyOf Try.f10) (pl10 k) (sp10 k) x
theorem vv10 (k:Nat) (x:AT (sp10 k).ps):(sp10 k).impl x=(bo10 k x).eval∧(bo10 k x).left=(bo10 k x).right:=⟨by kernel_rfl,by kernel_rfl⟩
theorem v10 (k:Nat):Callable Try.prog 10∧Valid Try.prog 10 (sp10 k) :=
 fn_of (n:=lim10) (fn:=Try.f10) (p:=(pl10 k)) (cfg10_ok k) (by kernel_rfl) (plan_of (L:=[(fr10_0 k,co10_0),(fr10_1 k,co10_1)]) (by kernel_rfl) (.cons (fr10_0_ok k) (.cons (fr10_1_ok k) .nil))) (vv10 k)
end Go.Proofs.YtgmmopbpldgpcaaE

