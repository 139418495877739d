/- Functions of the program, as Lean functions, with their contracts; printed by gen.py. Conditions: none. -/
import Derived.Test.YtgmmopbpldgpcaaG0
set_option linter.unusedVariables false
namespace Go.Proofs.YtgmmopbpldgpcaaE
open Kd
open List (length getD replicate take drop)
open Int (toNat)
open IntKind (wrap)
set_option maxRecDepth 20000
def F97_0 (k:Nat):Nat→Int→Int→Int→TY39→TY39→TY39→TY39→Option (((Int×Int×Unit)×(TY39×TY39×TY39×TY39×Unit)))
 |0,_,_,_,_,_,_,_=>none
 |n+1,t5,t7,t8,c2,c3,c4,c6 =>
  let x10:=(decide (t8<(length c3.1:Int)))
  bif x10 then
  if 0≤t7∧t7<(length c2.2.2.1:Int) then
  let x11:=(getD c2.2.2.1 (toNat t7) (0:Int))
  if 0≤t8∧t8<(length c3.2.1:Int) then
  (F34 k x11 (getD c3.2.1 (toNat t8) (0:Int))).bind fun r12 =>
  (F102 k c6.2.2.2.1 (t7,((wrap .i64 (t5+t8)),(r12.1.1,())))).bind fun r13 =>
  (F97_0 k n t5 t7 (wrap .i64 (t8+(1:Int))) c2 c3 c4 (c6.1,(c6.2.1,(c6.2.2.1,(r13.1.1,c6.2.2.2.2))))).bind some
  else none
  else none
  else
  some ((t5,t7,()),(c2,c3,c4,c6,()))
def sq97_0:Shape:=⟨[],[(2,.ptr 2 []),(3,.ptr 3 []),(4,.ptr 4 []),(5,.val (.int .i64)),(6,.ptr 6 []),(7,.val (.int .i64)),(8,.val (.int .i64))],[(2,some 81,KD17),(3,some 81,KD17),(4,some 81,KD18),(6,some 81,KD18)]⟩
def fu97_0 (k m:Nat) (v:sq97_0.V):=F97_0 k m v.1.1 v.1.2.1 v.1.2.2.1 v.2.1 v.2.2.1 v.2.2.2.1 v.2.2.2.2.1
def fr97_0 (k:Nat):Frag:=⟨sq97_0,[(.exit 2,⟨[],[(2,.ptr 2 []),(3,.ptr 3 []),(4,.ptr 4 []),(5,.val (.int .i64)),(6,.ptr 6 []),(7,.val (.int .i64))],[(2,some 81,KD17),(3,some 81,KD17),(4,some 81,KD18),(6,some 81,KD18)]⟩)],fu97_0 k k⟩
def F97_1 (k:Nat):Nat→Int→Int→TY39→TY39→TY39→TY39→Option TY9
 |0,_,_,_,_,_,_=>none
 |n+1,t5,t7,c2,c3,c4,c6 =>
  bif (decide (t7<t5)) then
  if 0≤t7∧t7<(length c2.2.1:Int) then
  if 0≤t7∧t7<(length c2.2.2.1:Int) then
  let x21:=(getD c2.2.2.1 (toNat t7) (0:Int))
  (F34 k x21 c3.2.2.2.2.1).bind fun r22 =>
  if 0≤t7∧t7<(length c6.2.1:Int) then
  let x23:=(List.set c6.2.1 (toNat t7) (getD c2.2.1 (toNat t7) (0:Int)))
  if 0≤t7∧t7<(length c6.2.2.1:Int) then
  (F97_0 k k t5 t7 (0:Int) c2 c3 c4 (c6.1,(x23,((List.set c6.2.2.1 (toNat t7) r22.1.1),c6.2.2.2)))).bind fun r24 =>
  (F97_1 k n r24.1.1 (wrap .i64 (r24.1.2.1+(1:Int))) r24.2.1 r24.2.2.1 r24.2.2.2.1 r24.2.2.2.2.1).bind some
  else none
  else none
  else none
  else none
  else
  some ((t5,()),(c2,c3,c4,c6,()))
def sq97_1:Shape:=⟨[],[(2,.ptr 2 []),(3,.ptr 3 []),(4,.ptr 4 []),(5,.val (.int .i64)),(6,.ptr 6 []),(7,.val (.int .i64))],[(2,some 81,KD17),(3,some 81,KD17),(4,some 81,KD18),(6,some 81,KD18)]⟩
def fu97_1 (k m:Nat) (v:sq97_1.V):=F97_1 k m v.1.1 v.1.2.1 v.2.1 v.2.2.1 v.2.2.2.1 v.2.2.2.2.1
def fr97_1 (k:Nat):Frag:=⟨sq97_1,[(.exit 0,⟨[],[(2,.ptr 2 []),(3,.ptr 3 []),(4,.ptr 4 []),(5,.val (.int .i64)),(6,.ptr 6 [])],[(2,some 81,KD17),(3,some 81,KD17),(4,some 81,KD18),(6,some 81,KD18)]⟩)],fu97_1 k k⟩
def F97_2 (k:Nat):Nat→Int→Int→TY39→TY39→TY39→TY39→Option TY19
 |0,_,_,_,_,_,_=>none
 |n+1,t5,t9,c2,c3,c4,c6 =>
  let x42:=(decide (t9<(length c3.1:Int)))
  bif x42 then
  if 0≤t9∧t9<(length c3.2.1:Int) then
  if 0≤t9∧t9<(length c3.2.2.1:Int) then
  let x43:=(getD c3.2.2.1 (toNat t9) (0:Int))
  (F34 k c2.2.2.2.2.1 (getD c3.2.1 (toNat t9) (0:Int))).bind fun r44 =>
  if 0≤(wrap .i64 (t5+t9))∧(wrap .i64 (t5+t9))<(length c6.2.1:Int) then
  let x45:=(toNat (wrap .i64 (t5+t9)))
  if 0≤(wrap .i64 (t5+t9))∧(wrap .i64 (t5+t9))<(length c6.2.2.1:Int) then
  let x46:=(toNat (wrap .i64 (t5+t9)))
  (F97_2 k n t5 (wrap .i64 (t9+(1:Int))) c2 c3 c4 (c6.1,((List.set c6.2.1 x45 r44.1.1),((List.set c6.2.2.1 x46 x43),c6.2.2.2)))).bind some
  else none
  else none
  else none
  else none
  else
  some ((),(c4,c6,()))
def sq97_2:Shape:=⟨[],[(2,.ptr 2 []),(3,.ptr 3 []),(4,.ptr 4 []),(5,.val (.int .i64)),(6,.ptr 6 []),(9,.val (.int .i64))],[(2,some 81,KD17),(3,some 81,KD17),(4,some 81,KD18),(6,some 81,KD18)]⟩
def fu97_2 (k m:Nat) (v:sq97_2.V):=F97_2 k m v.1.1 v.1.2.1 v.2.1 v.2.2.1 v.2.2.2.1 v.2.2.2.2.1
def fr97_2 (k:Nat):Frag:=⟨sq97_2,[(.exit 4,⟨[],[(4,.ptr 4 []),(6,.ptr 6 [])],[(4,some 81,KD18),(6,some 81,KD18)]⟩)],fu97_2 k k⟩
def F97 (k:Nat) (a0:TY39) (a1:TY39):Option TY34 :=
 (F101 k a0 a1).bind fun r1 =>
 (F34 k a0.2.2.2.2.1 a1.2.2.2.2.1).bind fun r2 =>
 (F97_1 k k (length a0.1:Int) (0:Int) a0 a1 (([]:(List Int)),(([]:(List Int)),(([]:(List Int)),(([]:TY69),((0:Int),()))))) (r1.1.1.1,(r1.1.1.2.1,(r1.1.1.2.2.1,(r1.1.1.2.2.2.1,(r2.1.1,r1.1.1.2.2.2.2.2)))))).bind fun r31 =>
 (F97_2 k k r31.1.1 (0:Int) r31.2.1 r31.2.2.1 r31.2.2.2.1 r31.2.2.2.2.1).bind fun r47 =>
 some ((r47.2.2.1,()),())
def sp97 (k:Nat):Spec:=⟨[.val KD17,.val KD17],[.own KD18],fun x=>F97 k x.1 x.2.1⟩
def lim97:Lim:=⟨108,2,false,false,[],[]⟩
def cfg97 (k:Nat):Nat→Option Spec:=cfgL [(34,sp34 k),(101,sp101 k),(102,sp102 k)]
noncomputable def co97_0:Code:=codeAt (bodyOf Try.f97) [.r,.r,.r,.r,.l,.r,.s,.b,.r,.l,.s,.r,.r,.s]
noncomputable def cb97_0:Code:=codeAt (bodyOf Try.f97) [.r,.r,.r,.r,.l,.r,.s,.b,.r,.l,.s,.r,.r,.s,.b]
noncomputable def co97_1:Code:=codeAt (bodyOf Try.f97) [.r,.r,.r,.r,.l,.r,.s]
noncomputable def cb97_1:Code:=codeAt (bodyOf Try.f97) [.r,.r,.r,.r,.l,.r,.s,.b]
noncomputable def co97_2:Code:=codeAt (bodyOf Try.f97) [.r,.r,.r,.r,.r,.l,.r,.s]
noncomputable def cb97_2:Code:=codeAt (bodyOf Try.f97) [.r,.r,.r,.r,.r,.l,.r,.s,.b]
noncomputable def co97:Code:=codeAt (bodyOf Try.f97) []
theorem cfg97_ok (k:Nat):CfgOK Try.prog (cfg97 k):=cfgL_cons (v34 k) (cfgL_cons (v101 k) (cfgL_cons (v102 k) (cfgL_nil)))
noncomputable def bo97_0 (k m:Nat) (v:sq97_0.V):=body Try.prog (stepper Try.prog (cfg97 k) lim97) .go cb97_0 (sq97_0.st v) (loopK (fr97_0 k) (fu97_0 k m))
theorem pp97_0 (k m:Nat) (v:sq97_0.V):fu97_0 k (m+1) v=(bo97_0 k m v).eval∧(bo97_0 k m v).left=(bo97_0 k m v).right:=⟨by kernel_rfl,by kernel_rfl⟩
theorem fr97_0_ok (k:Nat):FragOK Try.prog lim97 (fr97_0 k) co97_0 :=
 frag_cast (by kernel_rfl) (loop_ok (cfg97_ok k) (planOK_go _) (fu97_0 k) k (fun _=>rfl) (fun _=>rfl) (pp97_0 k))
def pl97_1 (k:Nat):Plan:=(.seq .go (.seq (.sub (.seq .go (.seq .go (.sub (.frag (fr97_0 k)))))) .go))
noncomputable def bo97_1 (k m:Nat) (v:sq97_1.V):=body Try.prog (stepper Try.prog (cfg97 k) lim97) (pl97_1 k) cb97_1 (sq97_1.st v) (loopK (fr97_1 k) (fu97_1 k m))
theorem pp97_1 (k m:Nat) (v:sq97_1.V):fu97_1 k (m+1) v=(bo97_1 k m v).eval∧(bo97_1 k m v).left=(bo97_1 k m v).right:=⟨by kernel_rfl,by kernel_rfl⟩
theorem fr97_1_ok (k:Nat):FragOK Try.prog lim97 (fr97_1 k) co97_1 :=
 frag_cast (by kernel_rfl) (loop_ok (cfg97_ok k) (plan_of (L:=[(fr97_0 k,co97_0)]) (by kernel_rfl) (.cons (fr97_0_ok k) .nil)) (fu97_1 k) k (fun _=>rfl) (fun _=>rfl) (pp97_1 k))
noncomputable def bo97_2 (k m:Nat) (v:sq97_2.V):=body Try.prog (stepper Try.prog (cfg97 k) lim97) .go cb97_2 (sq97_2.st v) (loopK (fr97_2 k) (fu97_2 k m))
theorem pp97_2 (k m:Nat) (v:sq97_2.V):fu97_2 k (m+1) v=(bo97_2 k m v).eval∧(bo97_2 k m v).left=(bo97_2 k m v).right:=⟨by kernel_rfl,by kernel_rfl⟩
theorem fr97_2_ok (k:Nat):FragOK Try.prog lim97 (fr97_2 k) co97_2 :=
 frag_cast (by kernel_rfl) (loop_ok (cfg97_ok k) (planOK_go _) (fu97_2 k) k (fun _=>rfl) (fun _=>rfl) (pp97_2 k))
def pl97 (k:Nat):Plan:=(.seq .go (.seq .go (.seq .go (.seq .go (.seq (.seq .go (.sub (.frag (fr97_1 k)))) (.seq (.seq .go (.sub (.frag (fr97_2 k)))) .go))))))
noncomputable def bo97 (k:Nat) (x:AT (sp97 k).ps):=fnT Try.prog (cfg97 k) lim97 Try.f97 (bodyOf Try.f97) (pl97 k) (sp97 k) x
theorem vv97 (k:Nat) (x:AT (sp97 k).ps):(sp97 k).impl x=(bo97 k x).eval∧(bo97 k x).left=(bo97 k x).right:=⟨by kernel_rfl,by kernel_rfl⟩
theorem v97 (k:Nat):Callable Try.prog 97∧Valid Try.prog 97 (sp97 k) :=
 fn_of (n:=lim97) (fn:=Try.f97) (p:=(pl97 k)) (cfg97_ok k) (by kernel_rfl) (plan_of (L:=[(fr97_1 k,co97_1),(fr97_2 k,co97_2)]) (by kernel_rfl) (.cons (fr97_1_ok k) (.cons (fr97_2_ok k) .nil))) (vv97 k)
def F98_0 (k:Nat):Nat→Int→Int→TY39→TY39→TY39→TY39→Option (((Int×Unit)×(TY39×TY39×TY39×Unit)))
 |0,_,_,_,_,_,_=>none
 |n+1,t5,t7,c2,c3,c4,c6 =>
  bif (decide (t7<t5)) then
  if 0≤t7∧t7<(length c2.2.1:Int) then
  if 0≤t7∧t7<(length c2.2.2.1:Int) then
  let x4:=(getD c2.2.2.1 (toNat t7) (0:Int))
  if 0≤t7∧t7<(length c6.2.1:Int) then
  let x5:=(List.set c6.2.1 (toNat t7) (getD c2.2.1 (toNat t7) (0:Int)))
  if 0≤t7∧t7<(length c6.2.2.1:Int) then
  (F98_0 k n t5 (wrap .i64 (t7+(1:Int))) c2 c3 c4 (c6.1,(x5,((List.set c6.2.2.1 (toNat t7) x4),c6.2.2.2)))).bind some
  else none
  else none
  else none
  else none
  else
  some ((t5,()),(c3,c4,c6,()))
def sq98_0:Shape:=⟨[],[(2,.ptr 2 []),(3,.ptr 3 []),(4,.ptr 4 []),(5,.val (.int .i64)),(6,.ptr 6 []),(7,.val (.int .i64))],[(2,some 81,KD17),(3,some 81,KD17),(4,some 81,KD18),(6,some 81,KD18)]⟩
def fu98_0 (k m:Nat) (v:sq98_0.V):=F98_0 k m v.1.1 v.1.2.1 v.2.1 v.2.2.1 v.2.2.2.1 v.2.2.2.2.1
def fr98_0 (k:Nat):Frag:=⟨sq98_0,[(.exit 0,⟨[],[(3,.ptr 3 []),(4,.ptr 4 []),(5,.val (.int .i64)),(6,.ptr 6 [])],[(3,some 81,KD17),(4,some 81,KD18),(6,some 81,KD18)]⟩)],fu98_0 k k⟩
def F98_1 (k:Nat):Nat→Int→Int→TY39→TY39→TY39→Option TY19
 |0,_,_,_,_,_=>none
 |n+1,t5,t8,c3,c4,c6 =>
  let x16:=(decide (t8<(length c3.1:Int)))
  bif x16 then
  if 0≤t8∧t8<(length c3.2.1:Int) then
  if 0≤t8∧t8<(length c3.2.2.1:Int) then
  let x17:=(getD c3.2.2.1 (toNat t8) (0:Int))
  if 0≤(wrap .i64 (t5+t8))∧(wrap .i64 (t5+t8))<(length c6.2.1:Int) then
  let x18:=(toNat (wrap .i64 (t5+t8)))
  let x19:=(List.set c6.2.1 x18 (getD c3.2.1 (toNat t8) (0:Int)))
  if 0≤(wrap .i64 (t5+t8))∧(wrap .i64 (t5+t8))<(length c6.2.2.1:Int) then
  let x20:=(toNat (wrap .i64 (t5+t8)))
  (F98_1 k n t5 (wrap .i64 (t8+(1:Int))) c3 c4 (c6.1,(x19,((List.set c6.2.2.1 x20 x17),c6.2.2.2)))).bind some
  else none
  else none
  else none
  else none
  else
  some ((),(c4,c6,()))
def sq98_1:Shape:=⟨[],[(3,.ptr 3 []),(4,.ptr 4 []),(5,.val (.int .i64)),(6,.ptr 6 []),(8,.val (.int .i64))],[(3,some 81,KD17),(4,some 81,KD18),(6,some 81,KD18)]⟩
def fu98_1 (k m:Nat) (v:sq98_1.V):=F98_1 k m v.1.1 v.1.2.1 v.2.1 v.2.2.1 v.2.2.2.1
def fr98_1 (k:Nat):Frag:=⟨sq98_1,[(.exit 2,⟨[],[(4,.ptr 4 []),(6,.ptr 6 [])],[(4,some 81,KD18),(6,some 81,KD18)]⟩)],fu98_1 k k⟩
def F98 (k:Nat) (a0:TY39) (a1:TY39):Option TY34 :=
 (F101 k a0 a1).bind fun r1 =>
 (F98_0 k k (length a0.1:Int) (0:Int) a0 a1 (([]:(List Int)),(([]:(List Int)),(([]:(List Int)),(([]:TY69),((0:Int),()))))) (r1.1.1.1,(r1.1.1.2.1,(r1.1.1.2.2.1,(r1.1.1.2.2.2.1,((minI a0.2.2.2.2.1 a1.2.2.2.2.1),r1.1.1.2.2.2.2.2)))))).bind fun r6 =>
 (F98_1 k k r6.1.1 (0:Int) r6.2.1 r6.2.2.1 r6.2.2.2.1).bind fun r21 =>
 some ((r21.2.2.1,()),())
def sp98 (k:Nat):Spec:=⟨[.val KD17,.val KD17],[.own KD18],fun x=>F98 k x.1 x.2.1⟩
def lim98:Lim:=⟨74,2,false,false,[],[]⟩
def cfg98 (k:Nat):Nat→Option Spec:=cfgL [(101,sp101 k)]
noncomputable def co98_0:Code:=codeAt (bodyOf Try.f98) [.r,.r,.r,.r,.l,.r,.s]
noncomputable def cb98_0:Code:=codeAt (bodyOf Try.f98) [.r,.r,.r,.r,.l,.r,.s,.b]
noncomputable def co98_1:Code:=codeAt (bodyOf Try.f98) [.r,.r,.r,.r,.r,.l,.r,.s]
noncomputable def cb98_1:Code:=codeAt (bodyOf Try.f98) [.r,.r,.r,.r,.r,.l,.r,.s,.b]
noncomputable def co98:Code:=codeAt (bodyOf Try.f98) []
theorem cfg98_ok (k:Nat):CfgOK Try.prog (cfg98 k):=cfgL_cons (v101 k) (cfgL_nil)
noncomputable def bo98_0 (k m:Nat) (v:sq98_0.V):=body Try.prog (stepper Try.prog (cfg98 k) lim98) .go cb98_0 (sq98_0.st v) (loopK (fr98_0 k) (fu98_0 k m))
theorem pp98_0 (k m:Nat) (v:sq98_0.V):fu98_0 k (m+1) v=(bo98_0 k m v).eval∧(bo98_0 k m v).left=(bo98_0 k m v).right:=⟨by kernel_rfl,by kernel_rfl⟩
theorem fr98_0_ok (k:Nat):FragOK Try.prog lim98 (fr98_0 k) co98_0 :=
 frag_cast (by kernel_rfl) (loop_ok (cfg98_ok k) (planOK_go _) (fu98_0 k) k (fun _=>rfl) (fun _=>rfl) (pp98_0 k))
noncomputable def bo98_1 (k m:Nat) (v:sq98_1.V):=body Try.prog (stepper Try.prog (cfg98 k) lim98) .go cb98_1 (sq98_1.st v) (loopK (fr98_1 k) (fu98_1 k m))
theorem pp98_1 (k m:Nat) (v:sq98_1.V):fu98_1 k (m+1) v=(bo98_1 k m v).eval∧(bo98_1 k m v).left=(bo98_1 k m v).right:=⟨by kernel_rfl,by kernel_rfl⟩
theorem fr98_1_ok (k:Nat):FragOK Try.prog lim98 (fr98_1 k) co98_1 :=
 frag_cast (by kernel_rfl) (loop_ok (cfg98_ok k) (planOK_go _) (fu98_1 k) k (fun _=>rfl) (fun _=>rfl) (pp98_1 k))
def pl98 (k:Nat):Plan:=(.seq .go (.seq .go (.seq .go (.seq .go (.seq (.seq .go (.sub (.frag (fr98_0 k)))) (.seq (.seq .go (.sub (.frag (fr98_1 k)))) .go))))))
noncomputable def bo98 (k:Nat) (x:AT (sp98 k).ps):=fnT Try.prog (cfg98 k) lim98 Try.f98 (bodyOf Try.f98) (pl98 k) (sp98 k) x
theorem vv98 (k:Nat) (x:AT (sp98 k).ps):(sp98 k).impl x=(bo98 k x).eval∧(bo98 k x).left=(bo98 k x).right:=⟨by kernel_rfl,by kernel_rfl⟩
theorem v98 (k:Nat):Callable Try.prog 98∧Valid Try.prog 98 (sp98 k) :=
 fn_of (n:=lim98) (fn:=Try.f98) (p:=(pl98 k)) (cfg98_ok k) (by kernel_rfl) (plan_of (L:=[(fr98_0 k,co98_0),(fr98_1 k,co98_1)]) (by kernel_rfl) (.cons (fr98_0_ok k) (.cons (fr98_1_ok k) .nil))) (vv98 k)
def F99_0 (k:Nat):Nat→Int→Int→TY39→TY39→TY69→Option (((Int×Unit)×TY16))
 |0,_,_,_,_,_=>none
 |n+1,t4,t5,c1,c2,e0 =>
  let x3:=(decide (t5<(length c1.1:Int)))
  bif x3 then
  if 0≤t4∧t4<(length c1.2.2.1:Int) then
  let x4:=(getD c1.2.2.1 (toNat t4) (0:Int))
  if 0≤t5∧t5<(length c1.2.1:Int) then
  (F34 k x4 (getD c1.2.1 (toNat t5) (0:Int))).bind fun r5 =>
  (F102 k e0 (t4,(t5,(r5.1.1,())))).bind fun r6 =>
  (F99_0 k n t4 (wrap .i64 (t5+(1:Int))) c1 c2 r6.1.1).bind some
  else none
  else none
  else
  some ((t4,()),(c1,c2,e0,()))
def sq99_0:Shape:=⟨[(3,KD44)],[(1,.ptr 1 []),(2,.ptr 2 []),(3,.at 2000003 []),(4,.val (.int .i64)),(5,.val (.int .i64))],[(1,some 81,KD18),(2,some 81,KD18),(2000003,none,KD44)]⟩
def fu99_0 (k m:Nat) (v:sq99_0.V):=F99_0 k m v.1.1 v.1.2.1 v.2.1 v.2.2.1 v.2.2.2.1
def fr99_0 (k:Nat):Frag:=⟨sq99_0,[(.exit 2,⟨[(3,KD44)],[(1,.ptr 1 []),(2,.ptr 2 []),(3,.at 2000003 []),(4,.val (.int .i64))],[(1,some 81,KD18),(2,some 81,KD18),(2000003,none,KD44)]⟩)],fu99_0 k k⟩
def F99_1 (k:Nat):Nat→Int→TY39→TY39→TY69→Option ((Unit×TY16))
 |0,_,_,_,_=>none
 |n+1,t4,c1,c2,e0 =>
  let x2:=(decide (t4<(length c1.1:Int)))
  bif x2 then
  (F99_0 k k t4 (0:Int) c1 c2 e0).bind fun r7 =>
  (F99_1 k n (wrap .i64 (r7.1.1+(1:Int))) r7.2.1 r7.2.2.1 r7.2.2.2.1).bind some
  else
  some ((),(c1,c2,e0,()))
def sq99_1:Shape:=⟨[(3,KD44)],[(1,.ptr 1 []),(2,.ptr 2 []),(3,.at 2000003 []),(4,.val (.int .i64))],[(1,some 81,KD18),(2,some 81,KD18),(2000003,none,KD44)]⟩
def fu99_1 (k m:Nat) (v:sq99_1.V):=F99_1 k m v.1.1 v.2.1 v.2.2.1 v.2.2.2.1
def fr99_1 (k:Nat):Frag:=⟨sq99_1,[(.exit 0,⟨[(3,KD44)],[(1,.ptr 1 []),(2,.ptr 2 []),(3,.at 2000003 [])],[(1,some 81,KD18),(2,some 81,KD18),(2000003,none,KD44)]⟩)],fu99_1 k k⟩
def F99 (k:Nat) (a0:TY39):Option TY34 :=
 let x1:=(replicate 0 ((0:Int),((0:Int),((0:Int),()))))
 if (length x1+length a0.2.2.2.1)*(24*2)≤281474976710656∧length x1+length a0.2.2.2.1≤9223372036854775807 then
 (F99_1 k k (0:Int) (a0.1,(a0.2.1,(a0.2.2.1,(a0.2.2.2.1,((0:Int),a0.2.2.2.2.2))))) (([]:(List Int)),(([]:(List Int)),(([]:(List Int)),(([]:TY69),((0:Int),()))))) (x1++a0.2.2.2.1)).bind fun r12 =>
 some (((r12.2.1.1,(r12.2.1.2.1,(r12.2.1.2.2.1,(r12.2.2.2.1,r12.2.1.2.2.2.2)))),()),())
 else none
def sp99 (k:Nat):Spec:=⟨[.own KD18],[.own KD18],fun x=>F99 k x.1⟩
def lim99:Lim:=⟨44,1,false,false,[],[]⟩
def cfg99 (k:Nat):Nat→Option Spec:=cfgL [(34,sp34 k),(102,sp102 k)]
noncomputable def co99_0:Code:=codeAt (bodyOf Try.f99) [.r,.r,.r,.l,.r,.s,.b,.r,.l,.s,.r,.s]
noncomputable def cb99_0:Code:=codeAt (bodyOf Try.f99) [.r,.r,.r,.l,.r,.s,.b,.r,.l,.s,.r,.s,.b]
noncomputable def co99_1:Code:=codeAt (bodyOf Try.f99) [.r,.r,.r,.l,.r,.s]
noncomputable def cb99_1:Code:=codeAt (bodyOf Try.f99) [.r,.r,.r,.l,.r,.s,.b]
noncomputable def co99:Code:=codeAt (bodyOf Try.f99) []
theorem cfg99_ok (k:Nat):CfgOK Try.prog (cfg99 k):=cfgL_cons (v34 k) (cfgL_cons (v102 k) (cfgL_nil))
noncomputable def bo99_0 (k m:Nat) (v:sq99_0.V):=body Try.prog (stepper Try.prog (cfg99 k) lim99) .go cb99_0 (sq99_0.st v) (loopK (fr99_0 k) (fu99_0 k m))
theorem pp99_0 (k m:Nat) (v:sq99_0.V):fu99_0 k (m+1) v=(bo99_0 k m v).eval∧(bo99_0 k m v).left=(bo99_0 k m v).right:=⟨by kernel_rfl,by kernel_rfl⟩
theorem fr99_0_ok (k:Nat):FragOK Try.prog lim99 (fr99_0 k) co99_0 :=
 frag_cast (by kernel_rfl) (loop_ok (cfg99_ok k) (planOK_go _) (fu99_0 k) k (fun _=>rfl) (fun _=>rfl) (pp99_0 k))
def pl99_1 (k:Nat):Plan:=(.seq .go (.seq (.sub (.seq .go (.sub (.frag (fr99_0 k))))) .go))
noncomputable def bo99_1 (k m:Nat) (v:sq99_1.V):=body Try.prog (stepper Try.prog (cfg99 k) lim99) (pl99_1 k) cb99_1 (sq99_1.st v) (loopK (fr99_1 k) (fu99_1 k m))
theorem pp99_1 (k m:Nat) (v:sq99_1.V):fu99_1 k (m+1) v=(bo99_1 k m v).eval∧(bo99_1 k m v).left=(bo99_1 k m v).right:=⟨by kernel_rfl,by kernel_rfl⟩
theorem fr99_1_ok (k:Nat):FragOK Try.prog lim99 (fr99_1 k) co99_1 :=
 frag_cast (by kernel_rfl) (loop_ok (cfg99_ok k) (plan_of (L:=[(fr99_0 k,co99_0)]) (by kernel_rfl) (.cons (fr99_0_ok k) .nil)) (fu99_1 k) k (fun _=>rfl) (fun _=>rfl) (pp99_1 k))
def pl99 (k:Nat):Plan:=(.seq .go (.seq .go (.seq .go (.seq (.seq .go (.sub (.frag (fr99_1 k)))) .go))))
noncomputable def bo99 (k:Nat) (x:AT (sp99 k).ps):=fnT Try.prog (cfg99 k) lim99 Try.f99 (bodyOf Try.f99) (pl99 k) (sp99 k) x
theorem vv99 (k:Nat) (x:AT (sp99 k).ps):(sp99 k).impl x=(bo99 k x).eval∧(bo99 k x).left=(bo99 k x).right:=⟨by kernel_rfl,by kernel_rfl⟩
theorem v99 (k:Nat):Callable Try.prog 99∧Valid Try.prog 99 (sp99 k) :=
 fn_of (n:=lim99) (fn:=Try.f99) (p:=(pl99 k)) (cfg99_ok k) (by kernel_rfl) (plan_of (L:=[(fr99_1 k,co99_1)]) (by kernel_rfl) (.cons (fr99_1_ok k) .nil)) (vv99 k)
def rs74 (f74:(TY56→TY15→Option TY34)):Spec:=⟨[.val KD35,.val KD6],[.own KD18],fun x=>f74 x.1 x.2.1⟩
def F74_0 (k:Nat) (f74:(TY56→TY15→Option TY34)):Nat→Int→TY33→TY39→TY39→Option TY19
 |0,_,_,_,_=>none
 |n+1,t7,c2,c4,c6 =>
  let x30:=(decide (t7<(length c6.2.1:Int)))
  bif x30 then
  if 0≤t7∧t7<(length c6.2.1:Int) then
  (F34 k (getD c6.2.1 (toNat t7) (0:Int)) c2.2.2.2.1).bind fun r31 =>
  if 0≤t7∧t7<(length c6.2.1:Int) then
  (F74_0 k f74 n (wrap .i64 (t7+(1:Int))) c2 c4 (c6.1,((List.set c6.2.1 (toNat t7) r31.1.1),c6.2.2))).bind some
  else none
  else none
  else
  some ((),(c4,c6,()))
def sq74_0:Shape:=⟨[],[(2,.ptr 2 []),(4,.ptr 4 []),(6,.ptr 6 []),(7,.val (.int .i64))],[(2,some 65,KD21),(4,some 81,KD18),(6,some 81,KD18)]⟩
def fu74_0 (k:Nat) (f74:(TY56→TY15→Option TY34)) (m:Nat) (v:sq74_0.V):=F74_0 k f74 m v.1.1 v.2.1 v.2.2.1 v.2.2.2.1
def fr74_0 (k:Nat) (f74:(TY56→TY15→Option TY34)):Frag:=⟨sq74_0,[(.exit 1,⟨[],[(4,.ptr 4 []),(6,.ptr 6 [])],[(4,some 81,KD18),(6,some 81,KD18)]⟩)],fu74_0 k f74 k⟩
def F74_1 (k:Nat) (f74:(TY56→TY15→Option TY34)):Nat→Int→TY33→TY39→TY39→TY39→Option TY19
 |0,_,_,_,_,_=>none
 |n+1,t10,c2,c4,c8,c9 =>
  bif (decide (t10≥(1:Int))) then
  (F97 k c9 c8).bind fun r39 =>
  bif (decide (t10>c2.2.1)) then
  (F74_1 k f74 n (wrap .i64 (t10-(1:Int))) c2 c4 (r39.1.1.1,(r39.1.1.2.1,(r39.1.1.2.2.1,(r39.1.1.2.2.2.1,((0:Int),r39.1.1.2.2.2.2.2))))) c9).bind some
  else
  (F74_1 k f74 n (wrap .i64 (t10-(1:Int))) c2 c4 r39.1.1 c9).bind some
  else
  some ((),(c4,c8,()))
def sq74_1:Shape:=⟨[],[(2,.ptr 2 []),(4,.ptr 4 []),(8,.ptr 8 []),(9,.ptr 9 []),(10,.val (.int .i64))],[(2,some 65,KD21),(4,some 81,KD18),(8,some 81,KD18),(9,some 81,KD18)]⟩
def fu74_1 (k:Nat) (f74:(TY56→TY15→Option TY34)) (m:Nat) (v:sq74_1.V):=F74_1 k f74 m v.1.1 v.2.1 v.2.2.1 v.2.2.2.1 v.2.2.2.2.1
def fr74_1 (k:Nat) (f74:(TY56→TY15→Option TY34)):Frag:=⟨sq74_1,[(.exit 3,⟨[],[(4,.ptr 4 []),(8,.ptr 8 [])],[(4,some 81,KD18),(8,some 81,KD18)]⟩)],fu74_1 k f74 k⟩
def B74 (k:Nat) (f74:(TY56→TY15→Option TY34)) (a0:TY56) (a1:TY15):Option TY34 :=
 bif ((Tree.a a0).1==(1:Int)) then
 (F95 k).bind fun r1 =>
 some ((r1.1.1,()),())
 else
 bif ((Tree.a a0).1==(2:Int)) then
 (F96 k (1:Int)).bind fun r2 =>
 if 0≤(0:Int)∧(0:Int)<(length r2.1.1.1:Int) then
 let x3:=(List.set r2.1.1.1 (toNat (0:Int)) (-1:Int))
 if 0≤(0:Int)∧(0:Int)<(length r2.1.1.2.1:Int) then
 let x4:=(List.set r2.1.1.2.1 (toNat (0:Int)) (0:Int))
 if 0≤(0:Int)∧(0:Int)<(length r2.1.1.2.2.1:Int) then
 let x5:=(List.set r2.1.1.2.2.1 (toNat (0:Int)) (0:Int))
 bif ((Tree.a a0).1==(2:Int)) then
 (F83 k a1 (Tree.a a0).2.2.2.2.1).bind fun r6 =>
 if 0≤(0:Int)∧(0:Int)<(length x3:Int) then
 some ((((List.set x3 (toNat (0:Int)) r6.1.1),(x4,(x5,r2.1.1.2.2.2))),()),())
 else none
 else
 some (((x3,(x4,(x5,r2.1.1.2.2.2))),()),())
 else none
 else none
 else none
 else
 bif ((Tree.a a0).1==(3:Int)) then
 (F96 k (1:Int)).bind fun r7 =>
 if 0≤(0:Int)∧(0:Int)<(length r7.1.1.1:Int) then
 let x8:=(List.set r7.1.1.1 (toNat (0:Int)) (-1:Int))
 if 0≤(0:Int)∧(0:Int)<(length r7.1.1.2.1:Int) then
 let x9:=(List.set r7.1.1.2.1 (toNat (0:Int)) (0:Int))
 if 0≤(0:Int)∧(0:Int)<(length r7.1.1.2.2.1:Int) then
 let x10:=(List.set r7.1.1.2.2.1 (toNat (0:Int)) (0:Int))
 bif ((Tree.a a0).1==(2:Int)) then
 (F83 k a1 (Tree.a a0).2.2.2.2.1).bind fun r11 =>
 if 0≤(0:Int)∧(0:Int)<(length x8:Int) then
 some ((((List.set x8 (toNat (0:Int)) r11.1.1),(x9,(x10,r7.1.1.2.2.2))),()),())
 else none
 else
 some (((x8,(x9,(x10,r7.1.1.2.2.2))),()),())
 else none
 else none
 else none
 else
 bif ((Tree.a a0).1==(4:Int)) then
 if 0≤(0:Int)∧(0:Int)<(length (Tree.l a0):Int) then
 let x12:=(getD (Tree.l a0) (toNat (0:Int)) (Tree.mk ((0:Int),((0:Int),((0:Int),((0:Int),(ByteArray.empty,()))))) []))
 if 0≤(1:Int)∧(1:Int)<(length (Tree.l a0):Int) then
 let x13:=(getD (Tree.l a0) (toNat (1:Int)) (Tree.mk ((0:Int),((0:Int),((0:Int),((0:Int),(ByteArray.empty,()))))) []))
 (f74 x12 a1).bind fun r14 =>
 (f74 x13 a1).bind fun r15 =>
 (F97 k r14.1.1 r15.1.1).bind fun r16 =>
 some ((r16.1.1,()),())
 else none
 else none
 else
 bif ((Tree.a a0).1==(5:Int)) then
 if 0≤(0:Int)∧(0:Int)<(length (Tree.l a0):Int) then
 let x17:=(getD (Tree.l a0) (toNat (0:Int)) (Tree.mk ((0:Int),((0:Int),((0:Int),((0:Int),(ByteArray.empty,()))))) []))
 if 0≤(1:Int)∧(1:Int)<(length (Tree.l a0):Int) then
 let x18:=(getD (Tree.l a0) (toNat (1:Int)) (Tree.mk ((0:Int),((0:Int),((0:Int),((0:Int),(ByteArray.empty,()))))) []))
 (f74 x17 a1).bind fun r19 =>
 (f74 x18 a1).bind fun r20 =>
 (F98 k r19.1.1 r20.1.1).bind fun r21 =>
 some ((r21.1.1,()),())
 else none
 else none
 else
 bif ((Tree.a a0).1==(6:Int)) then
 if 0≤(0:Int)∧(0:Int)<(length (Tree.l a0):Int) then
 let x22:=(getD (Tree.l a0) (toNat (0:Int)) (Tree.mk ((0:Int),((0:Int),((0:Int),((0:Int),(ByteArray.empty,()))))) []))
 (f74 x22 a1).bind fun r23 =>
 (F99 k r23.1.1).bind fun r24 =>
 some ((r24.1.1,()),())
 else none
 else
 bif ((Tree.a a0).1==(8:Int)) then
 if 0≤(0:Int)∧(0:Int)<(length (Tree.l a0):Int) then
 let x25:=(getD (Tree.l a0) (toNat (0:Int)) (Tree.mk ((0:Int),((0:Int),((0:Int),((0:Int),(ByteArray.empty,()))))) []))
 (f74 x25 a1).bind fun r26 =>
 (F34 k r26.1.1.2.2.2.2.1 (Tree.a a0).2.2.2.1).bind fun r27 =>
 (F74_0 k f74 k (0:Int) ((Tree.a a0).1,((Tree.a a0).2.1,((Tree.a a0).2.2.1,((Tree.a a0).2.2.2.1,((Tree.a a0).2.2.2.2.1,((Tree.l a0),())))))) (([]:(List Int)),(([]:(List Int)),(([]:(List Int)),(([]:TY69),((0:Int),()))))) (r26.1.1.1,(r26.1.1.2.1,(r26.1.1.2.2.1,(r26.1.1.2.2.2.1,(r27.1.1,r26.1.1.2.2.2.2.2)))))).bind fun r32 =>
 some ((r32.2.2.1,()),())
 else none
 else
 if 0≤(0:Int)∧(0:Int)<(length (Tree.l a0):Int) then
 let x35:=(getD (Tree.l a0) (toNat (0:Int)) (Tree.mk ((0:Int),((0:Int),((0:Int),((0:Int),(ByteArray.empty,()))))) []))
 (F95 k).bind fun r36 =>
 (f74 x35 a1).bind fun r37 =>
 (F74_1 k f74 k (Tree.a a0).2.2.1 ((Tree.a a0).1,((Tree.a a0).2.1,((Tree.a a0).2.2.1,((Tree.a a0).2.2.2.1,((Tree.a a0).2.2.2.2.1,((Tree.l a0),())))))) (([]:(List Int)),(([]:(List Int)),(([]:(List Int)),(([]:TY69),((0:Int),()))))) r36.1.1 r37.1.1).bind fun r40 =>
 some ((r40.2.2.1,()),())
 else none
def sb74 (k:Nat) (f74:(TY56→TY15→Option TY34)):Spec:=rs74 (B74 k f74)
def lim74:Lim:=⟨135,2,false,false,[],[]⟩
def cfg74 (k:Nat) (f74:(TY56→TY15→Option TY34)):Nat→Option Spec:=cfgL [(34,sp34 k),(74,rs74 f74),(83,sp83 k),(95,sp95 k),(96,sp96 k),(97,sp97 k),(98,sp98 k),(99,sp99 k)]
noncomputable def co74_0:Code:=codeAt (bodyOf Try.f74) [.r,.l,.r,.s,.r,.r,.r,.r,.r,.r,.r,.r,.r,.r,.r,.l,.r,.r,.l,.r,.s]
noncomputable def cb74_0:Code:=codeAt (bodyOf Try.f74) [.r,.l,.r,.s,.r,.r,.r,.r,.r,.r,.r,.r,.r,.r,.r,.l,.r,.r,.l,.r,.s,.b]
noncomputable def co74_1:Code:=codeAt (bodyOf Try.f74) [.r,.r,.r,.l,.r,.s]
noncomputable def cb74_1:Code:=codeAt (bodyOf Try.f74) [.r,.r,.r,.l,.r,.s,.b]
noncomputable def co74:Code:=codeAt (bodyOf Try.f74) []
theorem cfg74_ok (k:Nat) (f74:(TY56→TY15→Option TY34)) (h74:Callable Try.prog 74∧Valid Try.prog 74 (rs74 f74)):CfgOK Try.prog (cfg74 k f74):=cfgL_cons (v34 k) (cfgL_cons h74 (cfgL_cons (v83 k) (cfgL_cons (v95 k) (cfgL_cons (v96 k) (cfgL_cons (v97 k) (cfgL_cons (v98 k) (cfgL_cons (v99 k) (cfgL_nil))))))))
noncomputable def bo74_0 (k:Nat) (f74:(TY56→TY15→Option TY34)) (m:Nat) (v:sq74_0.V):=body Try.prog (stepper Try.prog (cfg74 k f74) lim74) .go cb74_0 (sq74_0.st v) (loopK (fr74_0 k f74) (fu74_0 k f74 m))
theorem pp74_0 (k:Nat) (f74:(TY56→TY15→Option TY34)) (m:Nat) (v:sq74_0.V):fu74_0 k f74 (m+1) v=(bo74_0 k f74 m v).eval∧(bo74_0 k f74 m v).left=(bo74_0 k f74 m v).right:=⟨by kernel_rfl,by kernel_rfl⟩
theorem fr74_0_ok (k:Nat) (f74:(TY56→TY15→Option TY34)) (h74:Callable Try.prog 74∧Valid Try.prog 74 (rs74 f74)):FragOK Try.prog lim74 (fr74_0 k f74) co74_0 :=
 frag_cast (by kernel_rfl) (loop_ok (cfg74_ok k f74 h74) (planOK_go _) (fu74_0 k f74) k (fun _=>rfl) (fun _=>rfl) (pp74_0 k f74))
noncomputable def bo74_1 (k:Nat) (f74:(TY56→TY15→Option TY34)) (m:Nat) (v:sq74_1.V):=body Try.prog (stepper Try.prog (cfg74 k f74) lim74) .go cb74_1 (sq74_1.st v) (loopK (fr74_1 k f74) (fu74_1 k f74 m))
theorem pp74_1 (k:Nat) (f74:(TY56→TY15→Option TY34)) (m:Nat) (v:sq74_1.V):fu74_1 k f74 (m+1) v=(bo74_1 k f74 m v).eval∧(bo74_1 k f74 m v).left=(bo74_1 k f74 m v).right:=⟨by kernel_rfl,by kernel_rfl⟩
theorem fr74_1_ok (k:Nat) (f74:(TY56→TY15→Option TY34)) (h74:Callable Try.prog 74∧Valid Try.prog 74 (rs74 f74)):FragOK Try.prog lim74 (fr74_1 k f74) co74_1 :=
 frag_cast (by kernel_rfl) (loop_ok (cfg74_ok k f74 h74) (planOK_go _) (fu74_1 k f74) k (fun _=>rfl) (fun _=>rfl) (pp74_1 k f74))
def pl74 (k:Nat) (f74:(TY56→TY15→Option TY34)):Plan:=(.seq .go (.seq (.seq .go (.sub (.seq .go (.seq .go (.seq .go (.seq .go (.seq .go (.seq .go (.seq .go (.seq .go (.seq .go (.seq .go (.seq .go (.seq (.seq .go (.seq .go (.seq (.seq .go (.sub (.frag (fr74_0 k f74)))) .go))) .go)))))))))))))) (.seq .go (.seq (.seq .go (.sub (.frag (fr74_1 k f74)))) .go))))
noncomputable def bo74 (k:Nat) (f74:(TY56→TY15→Option TY34)) (x:AT (sb74 k f74).ps):=fnT Try.prog (cfg74 k f74) lim74 Try.f74 (bodyOf Try.f74) (pl74 k f74) (sb74 k f74) x
theorem vv74 (k:Nat) (f74:(TY56→TY15→Option TY34)) (x:AT (sb74 k f74).ps):(sb74 k f74).impl x=(bo74 k f74 x).eval∧(bo74 k f74 x).left=(bo74 k f74 x).right:=⟨by kernel_rfl,by kernel_rfl⟩
theorem b74 (k:Nat) (f74:(TY56→TY15→Option TY34)) (h74:Callable Try.prog 74∧Valid Try.prog 74 (rs74 f74)):Callable Try.prog 74∧Valid Try.prog 74 (sb74 k f74) :=
 fn_of (n:=lim74) (fn:=Try.f74) (p:=(pl74 k f74)) (cfg74_ok k f74 h74) (by kernel_rfl) (plan_of (L:=[(fr74_0 k f74,co74_0),(fr74_1 k f74,co74_1)]) (by kernel_rfl) (.cons (fr74_0_ok k f74 h74) (.cons (fr74_1_ok k f74 h74) .nil))) (vv74 k f74)
def R74:Nat→(TY56→TY15→Option TY34)
 |0=>fun _ _=>none
 |k+1=>B74 k (R74 k)
def F74 (k:Nat) (a0_:TY56) (a1_:TY15):Option TY34:=(R74 k) a0_ a1_
def sp74 (k:Nat):Spec:=⟨[.val KD35,.val KD6],[.own KD18],fun x=>F74 k x.1 x.2.1⟩
theorem r74 (k:Nat):(Callable Try.prog 74∧Valid Try.prog 74 (rs74 (R74 k))):=by
 induction k with
 |zero=>exact ⟨⟨Try.f74,by kernel_rfl,by kernel_rfl,by kernel_rfl⟩,fun x r h=>by cases (show (none:Option _)=some r from h)⟩
 |succ k ih=>exact b74 k (R74 k) ih
theorem v74 (k:Nat):Callable Try.prog 74∧Valid Try.prog 74 (sp74 k):=(r74 k)
def F41 (k:Nat) (a0:TY56) (a1:TY15):Option ((TY39×Bool×Unit)×Unit) :=
 let x1:=(Tree.mk ((Tree.a a0).1,((Tree.a a0).2.1,((Tree.a a0).2.2.1,((Tree.a a0).2.2.2.1,((Tree.a a0).2.2.2.2.1,()))))) (Tree.l a0))
 (F73 k x1).bind fun r2 =>
 bif (decide (r2.1.1>(120:Int))) then
 some (((([]:(List Int)),(([]:(List Int)),(([]:(List Int)),(([]:TY69),((0:Int),()))))),false,()),())
 else
 let x3:=(Tree.mk ((Tree.a a0).1,((Tree.a a0).2.1,((Tree.a a0).2.2.1,((Tree.a a0).2.2.2.1,((Tree.a a0).2.2.2.2.1,()))))) (Tree.l a0))
 (F74 k x3 a1).bind fun r4 =>
 some ((r4.1.1,true,()),())
def sp41 (k:Nat):Spec:=⟨[.val KD35,.val KD6],[.own KD18,.val .bool],fun x=>F41 k x.1 x.2.1⟩
def lim41:Lim:=⟨13,2,false,false,[],[]⟩
def cfg41 (k:Nat):Nat→Option Spec:=cfgL [(73,sp73 k),(74,sp74 k)]
noncomputable def co41:Code:=codeAt (bodyOf Try.f41) []
theorem cfg41_ok (k:Nat):CfgOK Try.prog (cfg41 k):=cfgL_cons (v73 k) (cfgL_cons (v74 k) (cfgL_nil))
noncomputable def bo41 (k:Nat) (x:AT (sp41 k).ps):=fnT Try.prog (cfg41 k) lim41 Try.f41 (bodyOf Try.f41) .go (sp41 k) x
theorem vv41 (k:Nat) (x:AT (sp41 k).ps):(sp41 k).impl x=(bo41 k x).eval∧(bo41 k x).left=(bo41 k x).right:=⟨by kernel_rfl,by kernel_rfl⟩
theorem v41 (k:Nat):Callable Try.prog 41∧Valid Try.prog 41 (sp41 k) :=
 fn_of (n:=lim41) (fn:=Try.f41) (p:=.go) (cfg41_ok k) (by kernel_rfl) (planOK_go _) (vv41 k)
def F75_0 (k:Nat):Nat→(List (List Bool))→Int→Int→TY39→Option ((Unit×Unit)⊕TY85)
 |0,_,_,_,_=>none
 |n+1,t1,t2,t7,c3 =>
  if 0≤t2∧t2<(length c3.1:Int) then
  if 0≤(getD c3.1 (toNat t2) (0:Int))∧(getD c3.1 (toNat t2) (0:Int))<(length t1:Int) then
  let x5:=(getD t1 (toNat (getD c3.1 (toNat t2) (0:Int))) ([]:(List Bool)))
  let x6:=(decide (t7<(length x5:Int)))
  bif x6 then
  if 0≤t2∧t2<(length c3.1:Int) then
  if 0≤(getD c3.1 (toNat t2) (0:Int))∧(getD c3.1 (toNat t2) (0:Int))<(length t1:Int) then
  let x7:=(getD t1 (toNat (getD c3.1 (toNat t2) (0:Int))) ([]:(List Bool)))
  if 0≤t7∧t7<(length x7:Int) then
  bif (getD x7 (toNat t7) false) then
  some (.inr ((true,()),()))
  else
  (F75_0 k n t1 t2 (wrap .i64 (t7+(1:Int))) c3).bind some
  else none
  else none
  else none
  else
  some (.inl ((),()))
  else none
  else none
def sq75_0:Shape:=⟨[],[(1,.val KD64),(2,.val (.int .i64)),(3,.ptr 3 []),(7,.val (.int .i64))],[(3,some 81,KD17)]⟩
def fu75_0 (k m:Nat) (v:sq75_0.V):=F75_0 k m v.1.1 v.1.2.1 v.1.2.2.1 v.2.1
def fr75_0 (k:Nat):Frag:=⟨sq75_0,[(.exit 0,⟨[],[],[]⟩),(.ret,⟨[],[(6,.val .bool)],[]⟩)],fu75_0 k k⟩
def F75 (k:Nat) (a0:TY39) (a1:(List (List Bool))) (a2:Int):Option TY85 :=
 if 0≤a2∧a2<(length a0.1:Int) then
 let x1:=(decide ((getD a0.1 (toNat a2) (0:Int))<(0:Int)))
 bif x1 then
 some ((true,()),())
 else
 (F75_0 k k a1 a2 (0:Int) a0).bind fun r8 =>
 match r8 with
 |.inl r9 =>
  some ((false,()),())
 |.inr r9 =>
  some ((r9.1.1,()),())
 else none
def sp75 (k:Nat):Spec:=⟨[.val KD17,.val KD64,.val (.int .i64)],[.val .bool],fun x=>F75 k x.1 x.2.1 x.2.2.1⟩
def lim75:Lim:=⟨38,3,false,false,[],[]⟩
def cfg75 (k:Nat):Nat→Option Spec:=cfgL []
noncomputable def co75_0:Code:=codeAt (bodyOf Try.f75) [.r,.r,.l,.r,.s]
noncomputable def cb75_0:Code:=codeAt (bodyOf Try.f75) [.r,.r,.l,.r,.s,.b]
noncomputable def co75:Code:=codeAt (bodyOf Try.f75) []
theorem cfg75_ok (k:Nat):CfgOK Try.prog (cfg75 k):=cfgL_nil
noncomputable def bo75_0 (k m:Nat) (v:sq75_0.V):=body Try.prog (stepper Try.prog (cfg75 k) lim75) .go cb75_0 (sq75_0.st v) (loopK (fr75_0 k) (fu75_0 k m))
theorem pp75_0 (k m:Nat) (v:sq75_0.V):fu75_0 k (m+1) v=(bo75_0 k m v).eval∧(bo75_0 k m v).left=(bo75_0 k m v).right:=⟨by kernel_rfl,by kernel_rfl⟩
theorem fr75_0_ok (k:Nat):FragOK Try.prog lim75 (fr75_0 k) co75_0 :=
 frag_cast (by kernel_rfl) (loop_ok (cfg75_ok k) (planOK_go _) (fu75_0 k) k (fun _=>rfl) (fun _=>rfl) (pp75_0 k))
def pl75 (k:Nat):Plan:=(.seq .go (.seq .go (.seq (.seq .go (.sub (.frag (fr75_0 k)))) .go)))
noncomputable def bo75 (k:Nat) (x:AT (sp75 k).ps):=fnT Try.prog (cfg75 k) lim75 Try.f75 (bodyOf Try.f75) (pl75 k) (sp75 k) x
theorem vv75 (k:Nat) (x:AT (sp75 k).ps):(sp75 k).impl x=(bo75 k x).eval∧(bo75 k x).left=(bo75 k x).right:=⟨by kernel_rfl,by kernel_rfl⟩
theorem v75 (k:Nat):Callable Try.prog 75∧Valid Try.prog 75 (sp75 k) :=
 fn_of (n:=lim75) (fn:=Try.f75) (p:=(pl75 k)) (cfg75_ok k) (by kernel_rfl) (plan_of (L:=[(fr75_0 k,co75_0)]) (by kernel_rfl) (.cons (fr75_0_ok k) .nil)) (vv75 k)
def F42_0 (k:Nat):Nat→(List (List Bool))→Int→Int→TY39→TY39→(List Bool)→(List Bool)→(List Bool)→Option (((Int×Unit)×TY14))
 |0,_,_,_,_,_,_,_,_=>none
 |n+1,t1,t5,t9,c2,c4,c22,c24,c26 =>
  bif (decide (t9<t5)) then
  (F75 k c2 t1 t9).bind fun r13 =>
  if 0≤t9∧t9<(length c26:Int) then
  if 0≤t9∧t9<(length (List.set c26 (toNat t9) r13.1.1):Int) then
  let x14:=(getD (List.set c26 (toNat t9) r13.1.1) (toNat t9) false)
  bif x14 then
  if 0≤t9∧t9<(length c2.2.1:Int) then
  let x15:=(decide ((getD c2.2.1 (toNat t9) (0:Int))<(1152921504606846976:Int)))
  if 0≤t9∧t9<(length (List.set c26 (toNat t9) r13.1.1):Int) then
  let x16:=(getD (List.set c26 (toNat t9) r13.1.1) (toNat t9) false)
  bif x16 then
  if 0≤t9∧t9<(length c2.2.2.1:Int) then
  let x17:=(getD c2.2.2.1 (toNat t9) (0:Int))
  if 0≤t9∧t9<(length c22:Int) then
  if 0≤t9∧t9<(length c24:Int) then
  let x18:=(List.set c24 (toNat t9) (decide (x17<(1152921504606846976:Int))))
  (F42_0 k n t1 t5 (wrap .i64 (t9+(1:Int))) c2 c4 (List.set c22 (toNat t9) x15) x18 (List.set c26 (toNat t9) r13.1.1)).bind some
  else none
  else none
  else none
  else
  if 0≤t9∧t9<(length c22:Int) then
  if 0≤t9∧t9<(length c24:Int) then
  (F42_0 k n t1 t5 (wrap .i64 (t9+(1:Int))) c2 c4 (List.set c22 (toNat t9) x15) (List.set c24 (toNat t9) false) (List.set c26 (toNat t9) r13.1.1)).bind some
  else none
  else none
  else none
  else none
  else
  if 0≤t9∧t9<(length (List.set c26 (toNat t9) r13.1.1):Int) then
  let x19:=(getD (List.set c26 (toNat t9) r13.1.1) (toNat t9) false)
  bif x19 then
  if 0≤t9∧t9<(length c2.2.2.1:Int) then
  let x20:=(getD c2.2.2.1 (toNat t9) (0:Int))
  if 0≤t9∧t9<(length c22:Int) then
  if 0≤t9∧t9<(length c24:Int) then
  let x21:=(List.set c24 (toNat t9) (decide (x20<(1152921504606846976:Int))))
  (F42_0 k n t1 t5 (wrap .i64 (t9+(1:Int))) c2 c4 (List.set c22 (toNat t9) false) x21 (List.set c26 (toNat t9) r13.1.1)).bind some
  else none
  else none
  else none
  else
  if 0≤t9∧t9<(length c22:Int) then
  if 0≤t9∧t9<(length c24:Int) then
  (F42_0 k n t1 t5 (wrap .i64 (t9+(1:Int))) c2 c4 (List.set c22 (toNat t9) false) (List.set c24 (toNat t9) false) (List.set c26 (toNat t9) r13.1.1)).bind some
  else none
  else none
  else none
  else none
  else none
  else
  some ((t5,()),(c2,c4,c22,c24,c26,()))
def sq42_0:Shape:=⟨[],[(1,.val KD64),(2,.ptr 2 []),(4,.ptr 4 []),(5,.val (.int .i64)),(6,.at 22 []),(7,.at 24 []),(8,.at 26 []),(9,.val (.int .i64))],[(2,some 81,KD17),(4,some 81,KD18),(22,none,KD84),(24,none,KD84),(26,none,KD84)]⟩
def fu42_0 (k m:Nat) (v:sq42_0.V):=F42_0 k m v.1.1 v.1.2.1 v.1.2.2.1 v.2.1 v.2.2.1 v.2.2.2.1 v.2.2.2.2.1 v.2.2.2.2.2.1
def fr42_0 (k:Nat):Frag:=⟨sq42_0,[(.exit 0,⟨[],[(2,.ptr 2 []),(4,.ptr 4 []),(5,.val (.int .i64)),(6,.at 22 []),(7,.at 24 []),(8,.at 26 [])],[(2,some 81,KD17),(4,some 81,KD18),(22,none,KD84),(24,none,KD84),(26,none,KD84)]⟩)],fu42_0 k k⟩
def F42_1 (k:Nat):Nat→Int→Bool→Int→TY39→TY39→(List Bool)→(List Bool)→(List Bool)→Option (((Int×Bool×Unit)×TY14))
 |0,_,_,_,_,_,_,_,_=>none
 |n+1,t5,t10,t11,c2,c4,c22,c24,c26 =>
  let x31:=(decide (t11<(length c2.2.2.2.1:Int)))
  bif x31 then
  if 0≤t11∧t11<(length c2.2.2.2.1:Int) then
  let x32:=(getD c2.2.2.2.1 (toNat t11) ((0:Int),((0:Int),((0:Int),()))))
  if 0≤x32.1∧x32.1<(length c22:Int) then
  bif (getD c22 (toNat x32.1) false) then
  if 0≤x32.2.1∧x32.2.1<(length c26:Int) then
  bif (getD c26 (toNat x32.2.1) false) then
  if 0≤x32.2.1∧x32.2.1<(length c22:Int) then
  bif (!(getD c22 (toNat x32.2.1) false)) then
  if 0≤x32.2.1∧x32.2.1<(length c22:Int) then
  if 0≤x32.2.1∧x32.2.1<(length c24:Int) then
  bif (getD c24 (toNat x32.2.1) false) then
  if 0≤x32.1∧x32.1<(length c26:Int) then
  bif (getD c26 (toNat x32.1) false) then
  if 0≤x32.1∧x32.1<(length c24:Int) then
  bif (!(getD c24 (toNat x32.1) false)) then
  if 0≤x32.1∧x32.1<(length c24:Int) then
  (F42_1 k n t5 true (wrap .i64 (t11+(1:Int))) c2 c4 (List.set c22 (toNat x32.2.1) true) (List.set c24 (toNat x32.1) true) c26).bind some
  else none
  else
  (F42_1 k n t5 true (wrap .i64 (t11+(1:Int))) c2 c4 (List.set c22 (toNat x32.2.1) true) c24 c26).bind some
  else none
  else
  (F42_1 k n t5 true (wrap .i64 (t11+(1:Int))) c2 c4 (List.set c22 (toNat x32.2.1) true) c24 c26).bind some
  else none
  else
  (F42_1 k n t5 true (wrap .i64 (t11+(1:Int))) c2 c4 (List.set c22 (toNat x32.2.1) true) c24 c26).bind some
  else none
  else none
  else
  if 0≤x32.2.1∧x32.2.1<(length c24:Int) then
  bif (getD c24 (toNat x32.2.1) false) then
  if 0≤x32.1∧x32.1<(length c26:Int) then
  bif (getD c26 (toNat x32.1) false) then
  if 0≤x32.1∧x32.1<(length c24:Int) then
  bif (!(getD c24 (toNat x32.1) false)) then
  if 0≤x32.1∧x32.1<(length c24:Int) then
  (F42_1 k n t5 true (wrap .i64 (t11+(1:Int))) c2 c4 c22 (List.set c24 (toNat x32.1) true) c26).bind some
  else none
  else
  (F42_1 k n t5 t10 (wrap .i64 (t11+(1:Int))) c2 c4 c22 c24 c26).bind some
  else none
  else
  (F42_1 k n t5 t10 (wrap .i64 (t11+(1:Int))) c2 c4 c22 c24 c26).bind some
  else none
  else
  (F42_1 k n t5 t10 (wrap .i64 (t11+(1:Int))) c2 c4 c22 c24 c26).bind some
  else none
  else none
  else
  if 0≤x32.2.1∧x32.2.1<(length c24:Int) then
  bif (getD c24 (toNat x32.2.1) false) then
  if 0≤x32.1∧x32.1<(length c26:Int) then
  bif (getD c26 (toNat x32.1) false) then
  if 0≤x32.1∧x32.1<(length c24:Int) then
  bif (!(getD c24 (toNat x32.1) false)) then
  if 0≤x32.1∧x32.1<(length c24:Int) then
  (F42_1 k n t5 true (wrap .i64 (t11+(1:Int))) c2 c4 c22 (List.set c24 (toNat x32.1) true) c26).bind some
  else none
  else
  (F42_1 k n t5 t10 (wrap .i64 (t11+(1:Int))) c2 c4 c22 c24 c26).bind some
  else none
  else
  (F42_1 k n t5 t10 (wrap .i64 (t11+(1:Int))) c2 c4 c22 c24 c26).bind some
  else none
  else
  (F42_1 k n t5 t10 (wrap .i64 (t11+(1:Int))) c2 c4 c22 c24 c26).bind some
  else none
  else none
  else
  if 0≤x32.2.1∧x32.2.1<(length c24:Int) then
  bif (getD c24 (toNat x32.2.1) false) then
  if 0≤x32.1∧x32.1<(length c26:Int) then
  bif (getD c26 (toNat x32.1) false) then
  if 0≤x32.1∧x32.1<(length c24:Int) then
  bif (!(getD c24 (toNat x32.1) false)) then
  if 0≤x32.1∧x32.1<(length c24:Int) then
  (F42_1 k n t5 true (wrap .i64 (t11+(1:Int))) c2 c4 c22 (List.set c24 (toNat x32.1) true) c26).bind some
  else none
  else
  (F42_1 k n t5 t10 (wrap .i64 (t11+(1:Int))) c2 c4 c22 c24 c26).bind some
  else none
  else
  (F42_1 k n t5 t10 (wrap .i64 (t11+(1:Int))) c2 c4 c22 c24 c26).bind some
  else none
  else
  (F42_1 k n t5 t10 (wrap .i64 (t11+(1:Int))) c2 c4 c22 c24 c26).bind some
  else none
  else none
  else none
  else
  some ((t5,t10,()),(c2,c4,c22,c24,c26,()))
def sq42_1:Shape:=⟨[],[(2,.ptr 2 []),(4,.ptr 4 []),(5,.val (.int .i64)),(6,.at 22 []),(7,.at 24 []),(8,.at 26 []),(10,.val .bool),(11,.val (.int .i64))],[(2,some 81,KD17),(4,some 81,KD18),(22,none,KD84),(24,none,KD84),(26,none,KD84)]⟩
def fu42_1 (k m:Nat) (v:sq42_1.V):=F42_1 k m v.1.1 v.1.2.1 v.1.2.2.1 v.2.1 v.2.2.1 v.2.2.2.1 v.2.2.2.2.1 v.2.2.2.2.2.1
def fr42_1 (k:Nat):Frag:=⟨sq42_1,[(.exit 4,⟨[],[(2,.ptr 2 []),(4,.ptr 4 []),(5,.val (.int .i64)),(6,.at 22 []),(7,.at 24 []),(8,.at 26 []),(10,.val .bool)],[(2,some 81,KD17),(4,some 81,KD18),(22,none,KD84),(24,none,KD84),(26,none,KD84)]⟩)],fu42_1 k k⟩
def F42_2 (k:Nat):Nat→Int→Bool→TY39→TY39→(List Bool)→(List Bool)→(List Bool)→Option (((Int×Unit)×(TY39×TY39×(List Bool)×(List Bool)×Unit)))
 |0,_,_,_,_,_,_,_=>none
 |n+1,t5,t10,c2,c4,c22,c24,c26 =>
  bif t10 then
  (F42_1 k k t5 false (0:Int) c2 c4 c22 c24 c26).bind fun r41 =>
  (F42_2 k n r41.1.1 r41.1.2.1 r41.2.1 r41.2.2.1 r41.2.2.2.1 r41.2.2.2.2.1 r41.2.2.2.2.2.1).bind some
  else
  some ((t5,()),(c2,c4,c22,c24,()))
def sq42_2:Shape:=⟨[],[(2,.ptr 2 []),(4,.ptr 4 []),(5,.val (.int .i64)),(6,.at 22 []),(7,.at 24 []),(8,.at 26 []),(10,.val .bool)],[(2,some 81,KD17),(4,some 81,KD18),(22,none,KD84),(24,none,KD84),(26,none,KD84)]⟩
def fu42_2 (k m:Nat) (v:sq42_2.V):=F42_2 k m v.1.1 v.1.2.1 v.2.1 v.2.2.1 v.2.2.2.1 v.2.2.2.2.1 v.2.2.2.2.2.1
def fr42_2 (k:Nat):Frag:=⟨sq42_2,[(.exit 2,⟨[],[(2,.ptr 2 []),(4,.ptr 4 []),(5,.val (.int .i64)),(6,.at 22 []),(7,.at 24 [])],[(2,some 81,KD17),(4,some 81,KD18),(22,none,KD84),(24,none,KD84)]⟩)],fu42_2 k k⟩
def F42_3 (k:Nat):Nat→Int→Int→TY39→TY39→TY39→(List Bool)→(List Bool)→(List Int)→Option ((Unit×(TY39×TY39×TY39×(List Int)×Unit)))
 |0,_,_,_,_,_,_,_,_=>none
 |n+1,t5,t15,c2,c4,c13,c22,c24,c134 =>
  bif (decide (t15<t5)) then
  if 0≤t15∧t15<(length c134:Int) then
  if 0≤t15∧t15<(length c22:Int) then
  bif (getD c22 (toNat t15) false) then
  if 0≤t15∧t15<(length c24:Int) then
  bif (getD c24 (toNat t15) false) then
  if 0≤t15∧t15<(length (List.set c134 (toNat t15) (-1:Int)):Int) then
  let x60:=(List.set (List.set c134 (toNat t15) (-1:Int)) (toNat t15) (length c13.1:Int))
  if 0≤t15∧t15<(length c2.1:Int) then
  if 0≤t15∧t15<(length c2.2.1:Int) then
  if 0≤t15∧t15<(length c2.2.2.1:Int) then
  let x61:=(getD c2.2.2.1 (toNat t15) (0:Int))
  let x62:=(List.set (replicate 1 (0:Int)) 0 (getD c2.1 (toNat t15) (0:Int)))
  if (length c13.1+length x62)*(8*2)≤281474976710656∧length c13.1+length x62≤9223372036854775807 then
  let x63:=(List.set (replicate 1 (0:Int)) 0 (getD c2.2.1 (toNat t15) (0:Int)))
  if (length c13.2.1+length x63)*(8*2)≤281474976710656∧length c13.2.1+length x63≤9223372036854775807 then
  let x64:=(List.set (replicate 1 (0:Int)) 0 x61)
  if (length c13.2.2.1+length x64)*(8*2)≤281474976710656∧length c13.2.2.1+length x64≤9223372036854775807 then
  (F42_3 k n t5 (wrap .i64 (t15+(1:Int))) c2 c4 ((c13.1++x62),((c13.2.1++x63),((c13.2.2.1++x64),c13.2.2.2))) c22 c24 x60).bind some
  else none
  else none
  else none
  else none
  else none
  else none
  else none
  else
  (F42_3 k n t5 (wrap .i64 (t15+(1:Int))) c2 c4 c13 c22 c24 (List.set c134 (toNat t15) (-1:Int))).bind some
  else none
  else
  (F42_3 k n t5 (wrap .i64 (t15+(1:Int))) c2 c4 c13 c22 c24 (List.set c134 (toNat t15) (-1:Int))).bind some
  else none
  else none
  else
  some ((),(c2,c4,c13,c134,()))
def sq42_3:Shape:=⟨[],[(2,.ptr 2 []),(4,.ptr 4 []),(5,.val (.int .i64)),(6,.at 22 []),(7,.at 24 []),(13,.ptr 13 []),(14,.at 134 []),(15,.val (.int .i64))],[(2,some 81,KD17),(4,some 81,KD18),(13,some 81,KD18),(22,none,KD84),(24,none,KD84),(134,none,KD76)]⟩
def fu42_3 (k m:Nat) (v:sq42_3.V):=F42_3 k m v.1.1 v.1.2.1 v.2.1 v.2.2.1 v.2.2.2.1 v.2.2.2.2.1 v.2.2.2.2.2.1 v.2.2.2.2.2.2.1
def fr42_3 (k:Nat):Frag:=⟨sq42_3,[(.exit 6,⟨[],[(2,.ptr 2 []),(4,.ptr 4 []),(13,.ptr 13 []),(14,.at 134 [])],[(2,some 81,KD17),(4,some 81,KD18),(13,some 81,KD18),(134,none,KD76)]⟩)],fu42_3 k k⟩
def F42_4 (k:Nat):Nat→Int→TY39→TY39→TY39→(List Int)→Option TY19
 |0,_,_,_,_,_=>none
 |n+1,t16,c2,c4,c13,c134 =>
  let x76:=(decide (t16<(length c2.2.2.2.1:Int)))
  bif x76 then
  if 0≤t16∧t16<(length c2.2.2.2.1:Int) then
  let x77:=(getD c2.2.2.2.1 (toNat t16) ((0:Int),((0:Int),((0:Int),()))))
  if 0≤x77.1∧x77.1<(length c134:Int) then
  let x78:=(decide ((getD c134 (toNat x77.1) (0:Int))≥(0:Int)))
  bif x78 then
  if 0≤x77.2.1∧x77.2.1<(length c134:Int) then
  let x79:=(getD c134 (toNat x77.2.1) (0:Int))
  bif (decide (x79≥(0:Int))) then
  if 0≤x77.1∧x77.1<(length c134:Int) then
  if 0≤x77.2.1∧x77.2.1<(length c134:Int) then
  let x80:=(getD c134 (toNat x77.2.1) (0:Int))
  let x81:=(List.set (replicate 1 ((0:Int),((0:Int),((0:Int),())))) 0 ((getD c134 (toNat x77.1) (0:Int)),(x80,(x77.2.2.1,()))))
  if (length c13.2.2.2.1+length x81)*(24*2)≤281474976710656∧length c13.2.2.2.1+length x81≤9223372036854775807 then
  (F42_4 k n (wrap .i64 (t16+(1:Int))) c2 c4 (c13.1,(c13.2.1,(c13.2.2.1,((c13.2.2.2.1++x81),c13.2.2.2.2)))) c134).bind some
  else none
  else none
  else none
  else
  (F42_4 k n (wrap .i64 (t16+(1:Int))) c2 c4 c13 c134).bind some
  else none
  else
  (F42_4 k n (wrap .i64 (t16+(1:Int))) c2 c4 c13 c134).bind some
  else none
  else none
  else
  some ((),(c4,c13,()))
def sq42_4:Shape:=⟨[],[(2,.ptr 2 []),(4,.ptr 4 []),(13,.ptr 13 []),(14,.at 134 []),(16,.val (.int .i64))],[(2,some 81,KD17),(4,some 81,KD18),(13,some 81,KD18),(134,none,KD76)]⟩
def fu42_4 (k m:Nat) (v:sq42_4.V):=F42_4 k m v.1.1 v.2.1 v.2.2.1 v.2.2.2.1 v.2.2.2.2.1
def fr42_4 (k:Nat):Frag:=⟨sq42_4,[(.exit 8,⟨[],[(4,.ptr 4 []),(13,.ptr 13 [])],[(4,some 81,KD18),(13,some 81,KD18)]⟩)],fu42_4 k k⟩
def F42 (k:Nat) (a0:TY39) (a1:(List (List Bool))):Option TY34 :=
 if (0≤(length a0.1:Int)∧(length a0.1:Int)<(length a0.1:Int)+1)∧(length a0.1:Int)≤9223372036854775807∧((1:Nat):Int)*(length a0.1:Int)≤281474976710656 then
 let x1:=(replicate (toNat (length a0.1:Int)) false)
 if (0≤(length a0.1:Int)∧(length a0.1:Int)<(length a0.1:Int)+1)∧(length a0.1:Int)≤9223372036854775807∧((1:Nat):Int)*(length a0.1:Int)≤281474976710656 then
 let x2:=(replicate (toNat (length a0.1:Int)) false)
 if (0≤(length a0.1:Int)∧(length a0.1:Int)<(length a0.1:Int)+1)∧(length a0.1:Int)≤9223372036854775807∧((1:Nat):Int)*(length a0.1:Int)≤281474976710656 then
 let x3:=(replicate (toNat (length a0.1:Int)) false)
 (F42_0 k k a1 (length a0.1:Int) (0:Int) a0 (([]:(List Int)),(([]:(List Int)),(([]:(List Int)),(([]:TY69),((0:Int),()))))) x1 x2 x3).bind fun r22 =>
 (F42_2 k k r22.1.1 true r22.2.1 r22.2.2.1 r22.2.2.2.1 r22.2.2.2.2.1 r22.2.2.2.2.2.1).bind fun r49 =>
 let y50:=r49.1.1
 if (0≤y50∧y50<y50+1)∧y50≤9223372036854775807∧((8:Nat):Int)*y50≤281474976710656 then
 (F42_3 k k y50 (0:Int) r49.2.1 r49.2.2.1 (([]:(List Int)),(([]:(List Int)),(([]:(List Int)),(([]:TY69),(r49.2.1.2.2.2.2.1,()))))) r49.2.2.2.1 r49.2.2.2.2.1 (replicate (toNat y50) (0:Int))).bind fun r65 =>
 (F42_4 k k (0:Int) r65.2.1 r65.2.2.1 r65.2.2.2.1 r65.2.2.2.2.1).bind fun r82 =>
 some ((r82.2.2.1,()),())
 else none
 else none
 else none
 else none
def sp42 (k:Nat):Spec:=⟨[.val KD17,.val KD64],[.own KD18],fun x=>F42 k x.1 x.2.1⟩
def lim42:Lim:=⟨234,2,false,false,[],[]⟩
def cfg42 (k:Nat):Nat→Option Spec:=cfgL [(75,sp75 k)]
noncomputable def co42_0:Code:=codeAt (bodyOf Try.f42) [.r,.r,.r,.r,.l,.r,.s]
noncomputable def cb42_0:Code:=codeAt (bodyOf Try.f42) [.r,.r,.r,.r,.l,.r,.s,.b]
noncomputable def co42_1:Code:=codeAt (bodyOf Try.f42) [.r,.r,.r,.r,.r,.l,.r,.s,.b,.r,.s,.r,.r,.s]
noncomputable def cb42_1:Code:=codeAt (bodyOf Try.f42) [.r,.r,.r,.r,.r,.l,.r,.s,.b,.r,.s,.r,.r,.s,.b]
noncomputable def co42_2:Code:=codeAt (bodyOf Try.f42) [.r,.r,.r,.r,.r,.l,.r,.s]
noncomputable def cb42_2:Code:=codeAt (bodyOf Try.f42) [.r,.r,.r,.r,.r,.l,.r,.s,.b]
noncomputable def co42_3:Code:=codeAt (bodyOf Try.f42) [.r,.r,.r,.r,.r,.r,.r,.r,.l,.r,.s]
noncomputable def cb42_3:Code:=codeAt (bodyOf Try.f42) [.r,.r,.r,.r,.r,.r,.r,.r,.l,.r,.s,.b]
noncomputable def co42_4:Code:=codeAt (bodyOf Try.f42) [.r,.r,.r,.r,.r,.r,.r,.r,.r,.l,.r,.s]
noncomputable def cb42_4:Code:=codeAt (bodyOf Try.f42) [.r,.r,.r,.r,.r,.r,.r,.r,.r,.l,.r,.s,.b]
noncomputable def co42:Code:=codeAt (bodyOf Try.f42) []
theorem cfg42_ok (k:Nat):CfgOK Try.prog (cfg42 k):=cfgL_cons (v75 k) (cfgL_nil)
noncomputable def bo42_0 (k m:Nat) (v:sq42_0.V):=body Try.prog (stepper Try.prog (cfg42 k) lim42) .go cb42_0 (sq42_0.st v) (loopK (fr42_0 k) (fu42_0 k m))
theorem pp42_0 (k m:Nat) (v:sq42_0.V):fu42_0 k (m+1) v=(bo42_0 k m v).eval∧(bo42_0 k m v).left=(bo42_0 k m v).right:=⟨by kernel_rfl,by kernel_rfl⟩
theorem fr42_0_ok (k:Nat):FragOK Try.prog lim42 (fr42_0 k) co42_0 :=
 frag_cast (by kernel_rfl) (loop_ok (cfg42_ok k) (planOK_go _) (fu42_0 k) k (fun _=>rfl) (fun _=>rfl) (pp42_0 k))
noncomputable def bo42_1 (k m:Nat) (v:sq42_1.V):=body Try.prog (stepper Try.prog (cfg42 k) lim42) .go cb42_1 (sq42_1.st v) (loopK (fr42_1 k) (fu42_1 k m))
theorem pp42_1 (k m:Nat) (v:sq42_1.V):fu42_1 k (m+1) v=(bo42_1 k m v).eval∧(bo42_1 k m v).left=(bo42_1 k m v).right:=⟨by kernel_rfl,by kernel_rfl⟩
theorem fr42_1_ok (k:Nat):FragOK Try.prog lim42 (fr42_1 k) co42_1 :=
 frag_cast (by kernel_rfl) (loop_ok (cfg42_ok k) (planOK_go _) (fu42_1 k) k (fun _=>rfl) (fun _=>rfl) (pp42_1 k))
def pl42_2 (k:Nat):Plan:=(.seq .go (.sub (.seq .go (.seq .go (.sub (.frag (fr42_1 k)))))))
noncomputable def bo42_2 (k m:Nat) (v:sq42_2.V):=body Try.prog (stepper Try.prog (cfg42 k) lim42) (pl42_2 k) cb42_2 (sq42_2.st v) (loopK (fr42_2 k) (fu42_2 k m))
theorem pp42_2 (k m:Nat) (v:sq42_2.V):fu42_2 k (m+1) v=(bo42_2 k m v).eval∧(bo42_2 k m v).left=(bo42_2 k m v).right:=⟨by kernel_rfl,by kernel_rfl⟩
theorem fr42_2_ok (k:Nat):FragOK Try.prog lim42 (fr42_2 k) co42_2 :=
 frag_cast (by kernel_rfl) (loop_ok (cfg42_ok k) (plan_of (L:=[(fr42_1 k,co42_1)]) (by kernel_rfl) (.cons (fr42_1_ok k) .nil)) (fu42_2 k) k (fun _=>rfl) (fun _=>rfl) (pp42_2 k))
noncomputable def bo42_3 (k m:Nat) (v:sq42_3.V):=body Try.prog (stepper Try.prog (cfg42 k) lim42) .go cb42_3 (sq42_3.st v) (loopK (fr42_3 k) (fu42_3 k m))
theorem pp42_3 (k m:Nat) (v:sq42_3.V):fu42_3 k (m+1) v=(bo42_3 k m v).eval∧(bo42_3 k m v).left=(bo42_3 k m v).right:=⟨by kernel_rfl,by kernel_rfl⟩
theorem fr42_3_ok (k:Nat):FragOK Try.prog lim42 (fr42_3 k) co42_3 :=
 frag_cast (by kernel_rfl) (loop_ok (cfg42_ok k) (planOK_go _) (fu42_3 k) k (fun _=>rfl) (fun _=>rfl) (pp42_3 k))
noncomputable def bo42_4 (k m:Nat) (v:sq42_4.V):=body Try.prog (stepper Try.prog (cfg42 k) lim42) .go cb42_4 (sq42_4.st v) (loopK (fr42_4 k) (fu42_4 k m))
theorem pp42_4 (k m:Nat) (v:sq42_4.V):fu42_4 k (m+1) v=(bo42_4 k m v).eval∧(bo42_4 k m v).left=(bo42_4 k m v).right:=⟨by kernel_rfl,by kernel_rfl⟩
theorem fr42_4_ok (k:Nat):FragOK Try.prog lim42 (fr42_4 k) co42_4 :=
 frag_cast (by kernel_rfl) (loop_ok (cfg42_ok k) (planOK_go _) (fu42_4 k) k (fun _=>rfl) (fun _=>rfl) (pp42_4 k))
def pl42 (k:Nat):Plan:=(.seq .go (.seq .go (.seq .go (.seq .go (.seq (.seq .go (.sub (.frag (fr42_0 k)))) (.seq (.seq .go (.sub (.frag (fr42_2 k)))) (.seq .go (.seq .go (.seq (.seq .go (.sub (.frag (fr42_3 k)))) (.seq (.seq .go (.sub (.frag (fr42_4 k)))) .go))))))))))
noncomputable def bo42 (k:Nat) (x:AT (sp42 k).ps):=fnT Try.prog (cfg42 k) lim42 Try.f42 (bodyOf Try.f42) (pl42 k) (sp42 k) x
theorem vv42 (k:Nat) (x:AT (sp42 k).ps):(sp42 k).impl x=(bo42 k x).eval∧(bo42 k x).left=(bo42 k x).right:=⟨by kernel_rfl,by kernel_rfl⟩
theorem v42 (k:Nat):Callable Try.prog 42∧Valid Try.prog 42 (sp42 k) :=
 fn_of (n:=lim42) (fn:=Try.f42) (p:=(pl42 k)) (cfg42_ok k) (by kernel_rfl) (plan_of (L:=[(fr42_0 k,co42_0),(fr42_2 k,co42_2),(fr42_3 k,co42_3),(fr42_4 k,co42_4)]) (by kernel_rfl) (.cons (fr42_0_ok k) (.cons (fr42_2_ok k) (.cons (fr42_3_ok k) (.cons (fr42_4_ok k) .nil))))) (vv42 k)
def F15_0 (k:Nat):Nat→Int→TY4→TY4→Option ((Unit×(TY4×TY4×Unit))⊕((Bool×Unit)×(TY4×Unit)))
 |0,_,_,_=>none
 |n+1,t10,c6,c8 =>
  let x25:=(decide (t10<(length c8.1.2.1:Int)))
  bif x25 then
  if 0≤t10∧t10<(length c8.1.2.1:Int) then
  let x26:=(getD c8.1.2.1 (toNat t10) ((0:Int),((0:Int),((Tree.mk ((0:Int),((0:Int),((0:Int),((0:Int),(ByteArray.empty,()))))) []),((Tree.mk ((0:Int),((0:Int),((0:Int),((0:Int),(ByteArray.empty,()))))) []),())))))
  (F41 k x26.2.2.1 c8.1).bind fun r27 =>
  if 0≤t10∧t10<(length c8.1.2.1:Int) then
  let x28:=(getD c8.1.2.1 (toNat t10) ((0:Int),((0:Int),((Tree.mk ((0:Int),((0:Int),((0:Int),((0:Int),(ByteArray.empty,()))))) []),((Tree.mk ((0:Int),((0:Int),((0:Int),((0:Int),(ByteArray.empty,()))))) []),())))))
  (F41 k x28.2.2.2.1 c8.1).bind fun r29 =>
  bif (!r27.1.2.1) then
  some (.inr ((false,()),(c8,())))
  else
  bif (!r29.1.2.1) then
  some (.inr ((false,()),(c8,())))
  else
  (F42 k r27.1.1 c8.2.2.2.1).bind fun r30 =>
  let x31:=(List.set (replicate 1 (([]:(List Int)),(([]:(List Int)),(([]:(List Int)),(([]:TY69),((0:Int),())))))) 0 r30.1.1)
  if (length c8.2.2.2.2.1+length x31)*(104*2)≤281474976710656∧length c8.2.2.2.2.1+length x31≤9223372036854775807 then
  (F42 k r29.1.1 c8.2.2.2.1).bind fun r32 =>
  let x33:=(List.set (replicate 1 (([]:(List Int)),(([]:(List Int)),(([]:(List Int)),(([]:TY69),((0:Int),())))))) 0 r32.1.1)
  if (length c8.2.2.2.2.2.1+length x33)*(104*2)≤281474976710656∧length c8.2.2.2.2.2.1+length x33≤9223372036854775807 then
  (F15_0 k n (wrap .i64 (t10+(1:Int))) c6 (c8.1,(c8.2.1,(c8.2.2.1,(c8.2.2.2.1,((c8.2.2.2.2.1++x31),((c8.2.2.2.2.2.1++x33),c8.2.2.2.2.2.2))))))).bind some
  else none
  else none
  else none
  else none
  else
  some (.inl ((),(c6,c8,())))
def sq15_0:Shape:=⟨[],[(6,.ptr 6 []),(8,.ptr 8 []),(10,.val (.int .i64))],[(6,some 33,KD3),(8,some 33,KD2)]⟩
def fu15_0 (k m:Nat) (v:sq15_0.V):=F15_0 k m v.1.1 v.2.1 v.2.2.1
def fr15_0 (k:Nat):Frag:=⟨sq15_0,[(.exit 0,⟨[],[(6,.ptr 6 []),(8,.ptr 8 [])],[(6,some 33,KD3),(8,some 33,KD2)]⟩),(.ret,⟨[],[(6,.ptr 6 []),(7,.val .bool)],[(6,some 33,KD2)]⟩)],fu15_0 k k⟩
def F15 (k:Nat) (a0:TY71) (a1:(List Int)) (a2:(List Int)):Option ((TY4×Bool×Unit)×Unit) :=
 let x1:=([]:TY48)
 let x2:=([]:TY27)
 let x3:=([]:TY36)
 let x4:=([]:TY36)
 (F36 k a0 a1 a2).bind fun r5 =>
 let x6:=([]:TY36)
 let x7:=([]:TY36)
 (F37 k r5.1.1).bind fun r12 =>
 (F38 k r12.1.1).bind fun r13 =>
 (F39 k r12.1.1 r13.1.1 r13.1.2.1).bind fun r14 =>
 (F40 k r13.1.2.1).bind fun r15 =>
 (F15_0 k k (0:Int) ((x1,(x2,())),(([]:(List Int)),(([]:(List Int)),(([]:(List (List Bool))),(x3,(x4,((0:Int),()))))))) (r5.1.1,(r13.1.1,(r13.1.2.1,(r14.1.1,(x6,(x7,(r15.1.1,())))))))).bind fun r34 =>
 match r34 with
 |.inl r35 =>
  some ((r35.2.2.1,true,()),())
 |.inr r35 =>
  some ((r35.2.1,r35.1.1,()),())
def sp15 (k:Nat):Spec:=⟨[.val KD59,.val KD74,.val KD74],[.own KD2,.val .bool],fun x=>F15 k x.1 x.2.1 x.2.2.1⟩
def lim15:Lim:=⟨101,3,false,false,[18,87,95],[(19,KD2)]⟩
def cfg15 (k:Nat):Nat→Option Spec:=cfgL [(36,sp36 k),(37,sp37 k),(38,sp38 k),(39,sp39 k),(40,sp40 k),(41,sp41 k),(42,sp42 k)]
noncomputable def co15_0:Code:=codeAt (bodyOf Try.f15) [.r,.r,.r,.r,.r,.r,.l,.r,.s]
noncomputable def cb15_0:Code:=codeAt (bodyOf Try.f15) [.r,.r,.r,.r,.r,.r,.l,.r,.s,.b]
noncomputable def co15:Code:=codeAt (bodyOf Try.f15) []
theorem cfg15_ok (k:Nat):CfgOK Try.prog (cfg15 k):=cfgL_cons (v36 k) (cfgL_cons (v37 k) (cfgL_cons (v38 k) (cfgL_cons (v39 k) (cfgL_cons (v40 k) (cfgL_cons (v41 k) (cfgL_cons (v42 k) (cfgL_nil)))))))
noncomputable def bo15_0 (k m:Nat) (v:sq15_0.V):=body Try.prog (stepper Try.prog (cfg15 k) lim15) .go cb15_0 (sq15_0.st v) (loopK (fr15_0 k) (fu15_0 k m))
theorem pp15_0 (k m:Nat) (v:sq15_0.V):fu15_0 k (m+1) v=(bo15_0 k m v).eval∧(bo15_0 k m v).left=(bo15_0 k m v).right:=⟨by kernel_rfl,by kernel_rfl⟩
theorem fr15_0_ok (k:Nat):FragOK Try.prog lim15 (fr15_0 k) co15_0 :=
 frag_cast (by kernel_rfl) (loop_ok (cfg15_ok k) (planOK_go _) (fu15_0 k) k (fun _=>rfl) (fun _=>rfl) (pp15_0 k))
def pl15 (k:Nat):Plan:=(.seq .go (.seq .go (.seq .go (.seq .go (.seq .go (.seq .go (.seq (.seq .go (.sub (.frag (fr15_0 k)))) .go)))))))
noncomputable def bo15 (k:Nat) (x:AT (sp15 k).ps):=fnT Try.prog (cfg15 k) lim15 Try.f15 (bodyOf Try.f15) (pl15 k) (sp15 k) x
theorem vv15 (k:Nat) (x:AT (sp15 k).ps):(sp15 k).impl x=(bo15 k x).eval∧(bo15 k x).left=(bo15 k x).right:=⟨by kernel_rfl,by kernel_rfl⟩
theorem v15 (k:Nat):Callable Try.prog 15∧Valid Try.prog 15 (sp15 k) :=
 fn_of (n:=lim15) (fn:=Try.f15) (p:=(pl15 k)) (cfg15_ok k) (by kernel_rfl) (plan_of (L:=[(fr15_0 k,co15_0)]) (by kernel_rfl) (.cons (fr15_0_ok k) .nil)) (vv15 k)
def F43_0 (k:Nat):Nat→Int→Int→TY39→(List (List Bool))→Option TY29
 |0,_,_,_,_=>none
 |n+1,t3,t5,c1,c16 =>
  bif (decide (t5<t3)) then
  if (0≤t3∧t3<t3+1)∧t3≤9223372036854775807∧((1:Nat):Int)*t3≤281474976710656 then
  if 0≤t5∧t5<(length c16:Int) then
  let x4:=(List.set c16 (toNat t5) (replicate (toNat t3) false))
  if 0≤t5∧t5<(length x4:Int) then
  if 0≤t5∧t5<(length (getD x4 (toNat t5) ([]:(List Bool))):Int) then
  let x5:=(List.set x4 (toNat t5) (List.set (getD x4 (toNat t5) ([]:(List Bool))) (toNat t5) true))
  (F43_0 k n t3 (wrap .i64 (t5+(1:Int))) c1 x5).bind some
  else none
  else none
  else none
  else none
  else
  some ((t3,()),(c1,c16,()))
def sq43_0:Shape:=⟨[],[(1,.ptr 1 []),(3,.val (.int .i64)),(4,.at 16 []),(5,.val (.int .i64))],[(1,some 81,KD17),(16,none,KD66)]⟩
def fu43_0 (k m:Nat) (v:sq43_0.V):=F43_0 k m v.1.1 v.1.2.1 v.2.1 v.2.2.1
def fr43_0 (k:Nat):Frag:=⟨sq43_0,[(.exit 0,⟨[],[(1,.ptr 1 []),(3,.val (.int .i64)),(4,.at 16 [])],[(1,some 81,KD17),(16,none,KD66)]⟩)],fu43_0 k k⟩
def F43_1 (k:Nat):Nat→Int→Int→TY39→(List (List Bool))→Option TY29
 |0,_,_,_,_=>none
 |n+1,t3,t6,c1,c16 =>
  let x14:=(decide (t6<(length c1.2.2.2.1:Int)))
  bif x14 then
  if 0≤t6∧t6<(length c1.2.2.2.1:Int) then
  let x15:=(getD c1.2.2.2.1 (toNat t6) ((0:Int),((0:Int),((0:Int),()))))
  if 0≤x15.1∧x15.1<(length c16:Int) then
  if 0≤t6∧t6<(length c1.2.2.2.1:Int) then
  let x16:=(getD c1.2.2.2.1 (toNat t6) ((0:Int),((0:Int),((0:Int),()))))
  if 0≤x16.2.1∧x16.2.1<(length (getD c16 (toNat x15.1) ([]:(List Bool))):Int) then
  let x17:=(List.set c16 (toNat x15.1) (List.set (getD c16 (toNat x15.1) ([]:(List Bool))) (toNat x16.2.1) true))
  (F43_1 k n t3 (wrap .i64 (t6+(1:Int))) c1 x17).bind some
  else none
  else none
  else none
  else none
  else
  some ((t3,()),(c1,c16,()))
def sq43_1:Shape:=⟨[],[(1,.ptr 1 []),(3,.val (.int .i64)),(4,.at 16 []),(6,.val (.int .i64))],[(1,some 81,KD17),(16,none,KD66)]⟩
def fu43_1 (k m:Nat) (v:sq43_1.V):=F43_1 k m v.1.1 v.1.2.1 v.2.1 v.2.2.1
def fr43_1 (k:Nat):Frag:=⟨sq43_1,[(.exit 2,⟨[],[(1,.ptr 1 []),(3,.val (.int .i64)),(4,.at 16 [])],[(1,some 81,KD17),(16,none,KD66)]⟩)],fu43_1 k k⟩
def F43_2 (k:Nat):Nat→Int→Int→Int→Int→TY39→(List (List Bool))→Option (((Int×Int×Int×Unit)×TY32))
 |0,_,_,_,_,_,_=>none
 |n+1,t3,t7,t8,t9,c1,c16 =>
  bif (decide (t9<t3)) then
  if 0≤t8∧t8<(length c16:Int) then
  if 0≤t8∧t8<(length c16:Int) then
  if 0≤t9∧t9<(length (getD c16 (toNat t8) ([]:(List Bool))):Int) then
  let x28:=(getD (getD c16 (toNat t8) ([]:(List Bool))) (toNat t9) false)
  bif x28 then
  if 0≤t9∧t9<(length (getD c16 (toNat t8) ([]:(List Bool))):Int) then
  let x29:=(List.set c16 (toNat t8) (List.set (getD c16 (toNat t8) ([]:(List Bool))) (toNat t9) true))
  (F43_2 k n t3 t7 t8 (wrap .i64 (t9+(1:Int))) c1 x29).bind some
  else none
  else
  if 0≤t8∧t8<(length c16:Int) then
  if 0≤t7∧t7<(length (getD c16 (toNat t8) ([]:(List Bool))):Int) then
  let x30:=(getD (getD c16 (toNat t8) ([]:(List Bool))) (toNat t7) false)
  bif x30 then
  if 0≤t7∧t7<(length c16:Int) then
  if 0≤t9∧t9<(length (getD c16 (toNat t7) ([]:(List Bool))):Int) then
  let x31:=(getD (getD c16 (toNat t7) ([]:(List Bool))) (toNat t9) false)
  if 0≤t9∧t9<(length (getD c16 (toNat t8) ([]:(List Bool))):Int) then
  let x32:=(List.set c16 (toNat t8) (List.set (getD c16 (toNat t8) ([]:(List Bool))) (toNat t9) x31))
  (F43_2 k n t3 t7 t8 (wrap .i64 (t9+(1:Int))) c1 x32).bind some
  else none
  else none
  else none
  else
  if 0≤t9∧t9<(length (getD c16 (toNat t8) ([]:(List Bool))):Int) then
  let x33:=(List.set c16 (toNat t8) (List.set (getD c16 (toNat t8) ([]:(List Bool))) (toNat t9) false))
  (F43_2 k n t3 t7 t8 (wrap .i64 (t9+(1:Int))) c1 x33).bind some
  else none
  else none
  else none
  else none
  else none
  else none
  else
  some ((t3,t7,t8,()),(c1,c16,()))
def sq43_2:Shape:=⟨[],[(1,.ptr 1 []),(3,.val (.int .i64)),(4,.at 16 []),(7,.val (.int .i64)),(8,.val (.int .i64)),(9,.val (.int .i64))],[(1,some 81,KD17),(16,none,KD66)]⟩
def fu43_2 (k m:Nat) (v:sq43_2.V):=F43_2 k m v.1.1 v.1.2.1 v.1.2.2.1 v.1.2.2.2.1 v.2.1 v.2.2.1
def fr43_2 (k:Nat):Frag:=⟨sq43_2,[(.exit 8,⟨[],[(1,.ptr 1 []),(3,.val (.int .i64)),(4,.at 16 []),(7,.val (.int .i64)),(8,.val (.int .i64))],[(1,some 81,KD17),(16,none,KD66)]⟩)],fu43_2 k k⟩
def F43_3 (k:Nat):Nat→Int→Int→Int→TY39→(List (List Bool))→Option (((Int×Int×Unit)×TY32))
 |0,_,_,_,_,_=>none
 |n+1,t3,t7,t8,c1,c16 =>
  bif (decide (t8<t3)) then
  (F43_2 k k t3 t7 t8 (0:Int) c1 c16).bind fun r40 =>
  (F43_3 k n r40.1.1 r40.1.2.1 (wrap .i64 (r40.1.2.2.1+(1:Int))) r40.2.1 r40.2.2.1).bind some
  else
  some ((t3,t7,()),(c1,c16,()))
def sq43_3:Shape:=⟨[],[(1,.ptr 1 []),(3,.val (.int .i64)),(4,.at 16 []),(7,.val (.int .i64)),(8,.val (.int .i64))],[(1,some 81,KD17),(16,none,KD66)]⟩
def fu43_3 (k m:Nat) (v:sq43_3.V):=F43_3 k m v.1.1 v.1.2.1 v.1.2.2.1 v.2.1 v.2.2.1
def fr43_3 (k:Nat):Frag:=⟨sq43_3,[(.exit 6,⟨[],[(1,.ptr 1 []),(3,.val (.int .i64)),(4,.at 16 []),(7,.val (.int .i64))],[(1,some 81,KD17),(16,none,KD66)]⟩)],fu43_3 k k⟩
def F43_4 (k:Nat):Nat→Int→Int→TY39→(List (List Bool))→Option ((Unit×TY32))
 |0,_,_,_,_=>none
 |n+1,t3,t7,c1,c16 =>
  bif (decide (t7<t3)) then
  (F43_3 k k t3 t7 (0:Int) c1 c16).bind fun r51 =>
  (F43_4 k n r51.1.1 (wrap .i64 (r51.1.2.1+(1:Int))) r51.2.1 r51.2.2.1).bind some
  else
  some ((),(c1,c16,()))
def sq43_4:Shape:=⟨[],[(1,.ptr 1 []),(3,.val (.int .i64)),(4,.at 16 []),(7,.val (.int .i64))],[(1,some 81,KD17),(16,none,KD66)]⟩
def fu43_4 (k m:Nat) (v:sq43_4.V):=F43_4 k m v.1.1 v.1.2.1 v.2.1 v.2.2.1
def fr43_4 (k:Nat):Frag:=⟨sq43_4,[(.exit 4,⟨[],[(1,.ptr 1 []),(4,.at 16 [])],[(1,some 81,KD17),(16,none,KD66)]⟩)],fu43_4 k k⟩
def F43_5 (k:Nat):Nat→Int→TY39→(List (List Bool))→Option ((Unit×Unit)⊕TY85)
 |0,_,_,_=>none
 |n+1,t10,c1,c16 =>
  let x62:=(decide (t10<(length c1.2.2.2.1:Int)))
  bif x62 then
  if 0≤t10∧t10<(length c1.2.2.2.1:Int) then
  let x63:=(getD c1.2.2.2.1 (toNat t10) ((0:Int),((0:Int),((0:Int),()))))
  bif (decide (x63.2.2.1>(0:Int))) then
  if 0≤x63.2.1∧x63.2.1<(length c16:Int) then
  if 0≤x63.1∧x63.1<(length (getD c16 (toNat x63.2.1) ([]:(List Bool))):Int) then
  let x64:=(getD (getD c16 (toNat x63.2.1) ([]:(List Bool))) (toNat x63.1) false)
  bif x64 then
  some (.inr ((true,()),()))
  else
  (F43_5 k n (wrap .i64 (t10+(1:Int))) c1 c16).bind some
  else none
  else none
  else
  (F43_5 k n (wrap .i64 (t10+(1:Int))) c1 c16).bind some
  else none
  else
  some (.inl ((),()))
def sq43_5:Shape:=⟨[],[(1,.ptr 1 []),(4,.at 16 []),(10,.val (.int .i64))],[(1,some 81,KD17),(16,none,KD66)]⟩
def fu43_5 (k m:Nat) (v:sq43_5.V):=F43_5 k m v.1.1 v.2.1 v.2.2.1
def fr43_5 (k:Nat):Frag:=⟨sq43_5,[(.exit 10,⟨[],[],[]⟩),(.ret,⟨[],[(2,.val .bool)],[]⟩)],fu43_5 k k⟩
def F43 (k:Nat) (a0:TY39):Option TY85 :=
 if (0≤(length a0.1:Int)∧(length a0.1:Int)<(length a0.1:Int)+1)∧(length a0.1:Int)≤9223372036854775807∧((24:Nat):Int)*(length a0.1:Int)≤281474976710656 then
 let x1:=(replicate (toNat (length a0.1:Int)) ([]:(List Bool)))
 (F43_0 k k (length a0.1:Int) (0:Int) a0 x1).bind fun r6 =>
 (F43_1 k k r6.1.1 (0:Int) r6.2.1 r6.2.2.1).bind fun r18 =>
 (F43_4 k k r18.1.1 (0:Int) r18.2.1 r18.2.2.1).bind fun r56 =>
 (F43_5 k k (0:Int) r56.2.1 r56.2.2.1).bind fun r65 =>
 match r65 with
 |.inl r66 =>
  some ((false,()),())
 |.inr r66 =>
  some ((r66.1.1,()),())
 else none
def sp43 (k:Nat):Spec:=⟨[.val KD17],[.val .bool],fun x=>F43 k x.1⟩
def lim43:Lim:=⟨128,1,false,false,[],[]⟩
def cfg43 (k:Nat):Nat→Option Spec:=cfgL []
noncomputable def co43_0:Code:=codeAt (bodyOf Try.f43) [.r,.r,.r,.l,.r,.s]
noncomputable def cb43_0:Code:=codeAt (bodyOf Try.f43) [.r,.r,.r,.l,.r,.s,.b]
noncomputable def co43_1:Code:=codeAt (bodyOf Try.f43) [.r,.r,.r,.r,.l,.r,.s]
noncomputable def cb43_1:Code:=codeAt (bodyOf Try.f43) [.r,.r,.r,.r,.l,.r,.s,.b]
noncomputable def co43_2:Code:=codeAt (bodyOf Try.f43) [.r,.r,.r,.r,.r,.l,.r,.s,.b,.r,.l,.s,.r,.s,.b,.r,.l,.s,.r,.s]
noncomputable def cb43_2:Code:=codeAt (bodyOf Try.f43) [.r,.r,.r,.r,.r,.l,.r,.s,.b,.r,.l,.s,.r,.s,.b,.r,.l,.s,.r,.s,.b]
noncomputable def co43_3:Code:=codeAt (bodyOf Try.f43) [.r,.r,.r,.r,.r,.l,.r,.s,.b,.r,.l,.s,.r,.s]
noncomputable def cb43_3:Code:=codeAt (bodyOf Try.f43) [.r,.r,.r,.r,.r,.l,.r,.s,.b,.r,.l,.s,.r,.s,.b]
noncomputable def co43_4:Code:=codeAt (bodyOf Try.f43) [.r,.r,.r,.r,.r,.l,.r,.s]
noncomputable def cb43_4:Code:=codeAt (bodyOf Try.f43) [.r,.r,.r,.r,.r,.l,.r,.s,.b]
noncomputable def co43_5:Code:=codeAt (bodyOf Try.f43) [.r,.r,.r,.r,.r,.r,.l,.r,.s]
noncomputable def cb43_5:Code:=codeAt (bodyOf Try.f43) [.r,.r,.r,.r,.r,.r,.l,.r,.s,.b]
noncomputable def co43:Code:=codeAt (bodyOf Try.f43) []
theorem cfg43_ok (k:Nat):CfgOK Try.prog (cfg43 k):=cfgL_nil
noncomputable def bo43_0 (k m:Nat) (v:sq43_0.V):=body Try.prog (stepper Try.prog (cfg43 k) lim43) .go cb43_0 (sq43_0.st v) (loopK (fr43_0 k) (fu43_0 k m))
theorem pp43_0 (k m:Nat) (v:sq43_0.V):fu43_0 k (m+1) v=(bo43_0 k m v).eval∧(bo43_0 k m v).left=(bo43_0 k m v).right:=⟨by kernel_rfl,by kernel_rfl⟩
theorem fr43_0_ok (k:Nat):FragOK Try.prog lim43 (fr43_0 k) co43_0 :=
 frag_cast (by kernel_rfl) (loop_ok (cfg43_ok k) (planOK_go _) (fu43_0 k) k (fun _=>rfl) (fun _=>rfl) (pp43_0 k))
noncomputable def bo43_1 (k m:Nat) (v:sq43_1.V):=body Try.prog (stepper Try.prog (cfg43 k) lim43) .go cb43_1 (sq43_1.st v) (loopK (fr43_1 k) (fu43_1 k m))
theorem pp43_1 (k m:Nat) (v:sq43_1.V):fu43_1 k (m+1) v=(bo43_1 k m v).eval∧(bo43_1 k m v).left=(bo43_1 k m v).right:=⟨by kernel_rfl,by kernel_rfl⟩
theorem fr43_1_ok (k:Nat):FragOK Try.prog lim43 (fr43_1 k) co43_1 :=
 frag_cast (by kernel_rfl) (loop_ok (cfg43_ok k) (planOK_go _) (fu43_1 k) k (fun _=>rfl) (fun _=>rfl) (pp43_1 k))
noncomputable def bo43_2 (k m:Nat) (v:sq43_2.V):=body Try.prog (stepper Try.prog (cfg43 k) lim43) .go cb43_2 (sq43_2.st v) (loopK (fr43_2 k) (fu43_2 k m))
theorem pp43_2 (k m:Nat) (v:sq43_2.V):fu43_2 k (m+1) v=(bo43_2 k m v).eval∧(bo43_2 k m v).left=(bo43_2 k m v).right:=⟨by kernel_rfl,by kernel_rfl⟩
theorem fr43_2_ok (k:Nat):FragOK Try.prog lim43 (fr43_2 k) co43_2 :=
 frag_cast (by kernel_rfl) (loop_ok (cfg43_ok k) (planOK_go _) (fu43_2 k) k (fun _=>rfl) (fun _=>rfl) (pp43_2 k))
def pl43_3 (k:Nat):Plan:=(.seq .go (.seq (.sub (.seq .go (.sub (.frag (fr43_2 k))))) .go))
noncomputable def bo43_3 (k m:Nat) (v:sq43_3.V):=body Try.prog (stepper Try.prog (cfg43 k) lim43) (pl43_3 k) cb43_3 (sq43_3.st v) (loopK (fr43_3 k) (fu43_3 k m))
theorem pp43_3 (k m:Nat) (v:sq43_3.V):fu43_3 k (m+1) v=(bo43_3 k m v).eval∧(bo43_3 k m v).left=(bo43_3 k m v).right:=⟨by kernel_rfl,by kernel_rfl⟩
theorem fr43_3_ok (k:Nat):FragOK Try.prog lim43 (fr43_3 k) co43_3 :=
 frag_cast (by kernel_rfl) (loop_ok (cfg43_ok k) (plan_of (L:=[(fr43_2 k,co43_2)]) (by kernel_rfl) (.cons (fr43_2_ok k) .nil)) (fu43_3 k) k (fun _=>rfl) (fun _=>rfl) (pp43_3 k))
def pl43_4 (k:Nat):Plan:=(.seq .go (.seq (.sub (.seq .go (.sub (.frag (fr43_3 k))))) .go))
noncomputable def bo43_4 (k m:Nat) (v:sq43_4.V):=body Try.prog (stepper Try.prog (cfg43 k) lim43) (pl43_4 k) cb43_4 (sq43_4.st v) (loopK (fr43_4 k) (fu43_4 k m))
theorem pp43_4 (k m:Nat) (v:sq43_4.V):fu43_4 k (m+1) v=(bo43_4 k m v).eval∧(bo43_4 k m v).left=(bo43_4 k m v).right:=⟨by kernel_rfl,by kernel_rfl⟩
theorem fr43_4_ok (k:Nat):FragOK Try.prog lim43 (fr43_4 k) co43_4 :=
 frag_cast (by kernel_rfl) (loop_ok (cfg43_ok k) (plan_of (L:=[(fr43_3 k,co43_3)]) (by kernel_rfl) (.cons (fr43_3_ok k) .nil)) (fu43_4 k) k (fun _=>rfl) (fun _=>rfl) (pp43_4 k))
noncomputable def bo43_5 (k m:Nat) (v:sq43_5.V):=body Try.prog (stepper Try.prog (cfg43 k) lim43) .go cb43_5 (sq43_5.st v) (loopK (fr43_5 k) (fu43_5 k m))
theorem pp43_5 (k m:Nat) (v:sq43_5.V):fu43_5 k (m+1) v=(bo43_5 k m v).eval∧(bo43_5 k m v).left=(bo43_5 k m v).right:=⟨by kernel_rfl,by kernel_rfl⟩
theorem fr43_5_ok (k:Nat):FragOK Try.prog lim43 (fr43_5 k) co43_5 :=
 frag_cast (by kernel_rfl) (loop_ok (cfg43_ok k) (planOK_go _) (fu43_5 k) k (fun _=>rfl) (fun _=>rfl) (pp43_5 k))
def pl43 (k:Nat):Plan:=(.seq .go (.seq .go (.seq .go (.seq (.seq .go (.sub (.frag (fr43_0 k)))) (.seq (.seq .go (.sub (.frag (fr43_1 k)))) (.seq (.seq .go (.sub (.frag (fr43_4 k)))) (.seq (.seq .go (.sub (.frag (fr43_5 k)))) .go)))))))
noncomputable def bo43 (k:Nat) (x:AT (sp43 k).ps):=fnT Try.prog (cfg43 k) lim43 Try.f43 (bodyOf Try.f43) (pl43 k) (sp43 k) x
theorem vv43 (k:Nat) (x:AT (sp43 k).ps):(sp43 k).impl x=(bo43 k x).eval∧(bo43 k x).left=(bo43 k x).right:=⟨by kernel_rfl,by kernel_rfl⟩
theorem v43 (k:Nat):Callable Try.prog 43∧Valid Try.prog 43 (sp43 k) :=
 fn_of (n:=lim43) (fn:=Try.f43) (p:=(pl43 k)) (cfg43_ok k) (by kernel_rfl) (plan_of (L:=[(fr43_0 k,co43_0),(fr43_1 k,co43_1),(fr43_4 k,co43_4),(fr43_5 k,co43_5)]) (by kernel_rfl) (.cons (fr43_0_ok k) (.cons (fr43_1_ok k) (.cons (fr43_4_ok k) (.cons (fr43_5_ok k) .nil))))) (vv43 k)
def F16_0 (k:Nat):Nat→Int→TY4→Option ((Unit×Unit)⊕TY85)
 |0,_,_=>none
 |n+1,t3,c1 =>
  let x4:=(decide (t3<(length c1.2.2.2.2.1:Int)))
  bif x4 then
  if 0≤t3∧t3<(length c1.2.2.2.2.1:Int) then
  let x5:=(getD c1.2.2.2.2.1 (toNat t3) (([]:(List Int)),(([]:(List Int)),(([]:(List Int)),(([]:TY69),((0:Int),()))))))
  (F43 k x5).bind fun r6 =>
  bif r6.1.1 then
  some (.inr ((false,()),()))
  else
  (F16_0 k n (wrap .i64 (t3+(1:Int))) c1).bind some
  else none
  else
  some (.inl ((),()))
def sq16_0:Shape:=⟨[],[(1,.ptr 1 []),(3,.val (.int .i64))],[(1,some 33,KD1)]⟩
def fu16_0 (k m:Nat) (v:sq16_0.V):=F16_0 k m v.1.1 v.2.1
def fr16_0 (k:Nat):Frag:=⟨sq16_0,[(.exit 0,⟨[],[],[]⟩),(.ret,⟨[],[(2,.val .bool)],[]⟩)],fu16_0 k k⟩
def F16 (k:Nat) (a0:TY4):Option TY85 :=
 (F16_0 k k (0:Int) a0).bind fun r7 =>
 match r7 with
 |.inl r8 =>
  some ((true,()),())
 |.inr r8 =>
  some ((r8.1.1,()),())
def sp16 (k:Nat):Spec:=⟨[.val KD1],[.val .bool],fun x=>F16 k x.1⟩
def lim16:Lim:=⟨17,1,false,false,[],[]⟩
def cfg16 (k:Nat):Nat→Option Spec:=cfgL [(43,sp43 k)]
noncomputable def co16_0:Code:=codeAt (bodyOf Try.f16) [.r,.l,.r,.s]
noncomputable def cb16_0:Code:=codeAt (bodyOf Try.f16) [.r,.l,.r,.s,.b]
noncomputable def co16:Code:=codeAt (bodyOf Try.f16) []
theorem cfg16_ok (k:Nat):CfgOK Try.prog (cfg16 k):=cfgL_cons (v43 k) (cfgL_nil)
noncomputable def bo16_0 (k m:Nat) (v:sq16_0.V):=body Try.prog (stepper Try.prog (cfg16 k) lim16) .go cb16_0 (sq16_0.st v) (loopK (fr16_0 k) (fu16_0 k m))
theorem pp16_0 (k m:Nat) (v:sq16_0.V):fu16_0 k (m+1) v=(bo16_0 k m v).eval∧(bo16_0 k m v).left=(bo16_0 k m v).right:=⟨by kernel_rfl,by kernel_rfl⟩
theorem fr16_0_ok (k:Nat):FragOK Try.prog lim16 (fr16_0 k) co16_0 :=
 frag_cast (by kernel_rfl) (loop_ok (cfg16_ok k) (planOK_go _) (fu16_0 k) k (fun _=>rfl) (fun _=>rfl) (pp16_0 k))
def pl16 (k:Nat):Plan:=(.seq .go (.seq (.seq .go (.sub (.frag (fr16_0 k)))) .go))
noncomputable def bo16 (k:Nat) (x:AT (sp16 k).ps):=fnT Try.prog (cfg16 k) lim16 Try.f16 (bodyOf Try.f16) (pl16 k) (sp16 k) x
theorem vv16 (k:Nat) (x:AT (sp16 k).ps):(sp16 k).impl x=(bo16 k x).eval∧(bo16 k x).left=(bo16 k x).right:=⟨by kernel_rfl,by kernel_rfl⟩
theorem v16 (k:Nat):Callable Try.prog 16∧Valid Try.prog 16 (sp16 k) :=
 fn_of (n:=lim16) (fn:=Try.f16) (p:=(pl16 k)) (cfg16_ok k) (by kernel_rfl) (plan_of (L:=[(fr16_0 k,co16_0)]) (by kernel_rfl) (.cons (fr16_0_ok k) .nil)) (vv16 k)
def F76 (k:Nat) (a0:TY39) (a1:(List (List Bool))) (a2:Int) (a3:Int):Option TY85 :=
 if 0≤a2∧a2<(length a0.1:Int) then
 let x1:=(decide ((getD a0.1 (toNat a2) (0:Int))<(0:Int)))
 bif x1 then
 some ((true,()),())
 else
 if 0≤a2∧a2<(length a0.1:Int) then
 if 0≤(getD a0.1 (toNat a2) (0:Int))∧(getD a0.1 (toNat a2) (0:Int))<(length a1:Int) then
 let x2:=(getD a1 (toNat (getD a0.1 (toNat a2) (0:Int))) ([]:(List Bool)))
 if 0≤a3∧a3<(length x2:Int) then
 some (((getD x2 (toNat a3) false),()),())
 else none
 else none
 else none
 else none
def sp76 (k:Nat):Spec:=⟨[.val KD17,.val KD64,.val (.int .i64),.val (.int .i64)],[.val .bool],fun x=>F76 k x.1 x.2.1 x.2.2.1 x.2.2.2.1⟩
def lim76:Lim:=⟨28,4,false,false,[],[]⟩
def cfg76 (k:Nat):Nat→Option Spec:=cfgL []
noncomputable def co76:Code:=codeAt (bodyOf Try.f76) []
theorem cfg76_ok (k:Nat):CfgOK Try.prog (cfg76 k):=cfgL_nil
noncomputable def bo76 (k:Nat) (x:AT (sp76 k).ps):=fnT Try.prog (cfg76 k) lim76 Try.f76 (bodyOf Try.f76) .go (sp76 k) x
theorem vv76 (k:Nat) (x:AT (sp76 k).ps):(sp76 k).impl x=(bo76 k x).eval∧(bo76 k x).left=(bo76 k x).right:=⟨by kernel_rfl,by kernel_rfl⟩
theorem v76 (k:Nat):Callable Try.prog 76∧Valid Try.prog 76 (sp76 k) :=
 fn_of (n:=lim76) (fn:=Try.f76) (p:=.go) (cfg76_ok k) (by kernel_rfl) (planOK_go _) (vv76 k)
def F44_0 (k:Nat):Nat→TY36→(List (List Bool))→(List (List Bool))→Int→Int→Int→TY39→(List Bool)→(List (List Bool))→Option ((TY25×(TY39×(List Bool)×(List (List Bool))×Unit)))
 |0,_,_,_,_,_,_,_,_,_=>none
 |n+1,t0,t1,t2,t3,t10,t13,c11,c29,e0 =>
  let x4:=(decide (t13<(length c29:Int)))
  bif x4 then
  (F76 k c11 t1 t13 t3).bind fun r5 =>
  bif r5.1.1 then
  if 0≤t13∧t13<(length c11.2.2.1:Int) then
  let x6:=(getD c11.2.2.1 (toNat t13) (0:Int))
  if 0≤t13∧t13<(length c29:Int) then
  let x7:=(List.set c29 (toNat t13) (decide (x6<(1152921504606846976:Int))))
  (F44_0 k n t0 t1 t2 t3 t10 (wrap .i64 (t13+(1:Int))) c11 x7 e0).bind some
  else none
  else none
  else
  if 0≤t13∧t13<(length c29:Int) then
  (F44_0 k n t0 t1 t2 t3 t10 (wrap .i64 (t13+(1:Int))) c11 (List.set c29 (toNat t13) false) e0).bind some
  else none
  else
  some ((t0,t1,t2,t3,t10,()),(c11,c29,e0,()))
def sq44_0:Shape:=⟨[(9,KD66)],[(0,.val KD13),(1,.val KD64),(2,.val KD64),(3,.val (.int .i64)),(9,.at 2000009 []),(10,.val (.int .i64)),(11,.ptr 11 []),(12,.at 29 []),(13,.val (.int .i64))],[(11,some 81,KD17),(29,none,KD84),(2000009,none,KD66)]⟩
def fu44_0 (k m:Nat) (v:sq44_0.V):=F44_0 k m v.1.1 v.1.2.1 v.1.2.2.1 v.1.2.2.2.1 v.1.2.2.2.2.1 v.1.2.2.2.2.2.1 v.2.1 v.2.2.1 v.2.2.2.1
def fr44_0 (k:Nat):Frag:=⟨sq44_0,[(.exit 2,⟨[],[(0,.val KD13),(1,.val KD64),(2,.val KD64),(3,.val (.int .i64)),(9,.at 2000009 []),(10,.val (.int .i64)),(11,.ptr 11 []),(12,.at 29 [])],[(11,some 81,KD17),(29,none,KD84),(2000009,none,KD66)]⟩)],fu44_0 k k⟩
def F44_1 (k:Nat):Nat→TY36→(List (List Bool))→(List (List Bool))→Int→Int→Int→TY39→(List Bool)→(List (List Bool))→Option ((TY25×((List Bool)×(List (List Bool))×Unit)))
 |0,_,_,_,_,_,_,_,_,_=>none
 |n+1,t0,t1,t2,t3,t10,t14,c11,c29,e0 =>
  let x17:=(decide (t14<(length c11.2.2.2.1:Int)))
  bif x17 then
  if 0≤t14∧t14<(length c11.2.2.2.1:Int) then
  let x18:=(getD c11.2.2.2.1 (toNat t14) ((0:Int),((0:Int),((0:Int),()))))
  (F76 k c11 t1 x18.1 t3).bind fun r19 =>
  bif r19.1.1 then
  if 0≤t10∧t10<(length t2:Int) then
  let x20:=(getD t2 (toNat t10) ([]:(List Bool)))
  if 0≤x18.2.1∧x18.2.1<(length x20:Int) then
  bif (getD x20 (toNat x18.2.1) false) then
  if 0≤x18.1∧x18.1<(length c29:Int) then
  (F44_1 k n t0 t1 t2 t3 t10 (wrap .i64 (t14+(1:Int))) c11 (List.set c29 (toNat x18.1) true) e0).bind some
  else none
  else
  (F44_1 k n t0 t1 t2 t3 t10 (wrap .i64 (t14+(1:Int))) c11 c29 e0).bind some
  else none
  else none
  else
  (F44_1 k n t0 t1 t2 t3 t10 (wrap .i64 (t14+(1:Int))) c11 c29 e0).bind some
  else none
  else
  some ((t0,t1,t2,t3,t10,()),(c29,e0,()))
def sq44_1:Shape:=⟨[(9,KD66)],[(0,.val KD13),(1,.val KD64),(2,.val KD64),(3,.val (.int .i64)),(9,.at 2000009 []),(10,.val (.int .i64)),(11,.ptr 11 []),(12,.at 29 []),(14,.val (.int .i64))],[(11,some 81,KD17),(29,none,KD84),(2000009,none,KD66)]⟩
def fu44_1 (k m:Nat) (v:sq44_1.V):=F44_1 k m v.1.1 v.1.2.1 v.1.2.2.1 v.1.2.2.2.1 v.1.2.2.2.2.1 v.1.2.2.2.2.2.1 v.2.1 v.2.2.1 v.2.2.2.1
def fr44_1 (k:Nat):Frag:=⟨sq44_1,[(.exit 4,⟨[],[(0,.val KD13),(1,.val KD64),(2,.val KD64),(3,.val (.int .i64)),(9,.at 2000009 []),(10,.val (.int .i64)),(12,.at 29 [])],[(29,none,KD84),(2000009,none,KD66)]⟩)],fu44_1 k k⟩
def F44_2 (k:Nat):Nat→TY36→(List (List Bool))→(List (List Bool))→Int→Int→(List (List Bool))→Option ((Unit×TY79))
 |0,_,_,_,_,_,_=>none
 |n+1,t0,t1,t2,t3,t10,e0 =>
  let x1:=(decide (t10<(length t0:Int)))
  bif x1 then
  if 0≤t10∧t10<(length t0:Int) then
  let x2:=(getD t0 (toNat t10) (([]:(List Int)),(([]:(List Int)),(([]:(List Int)),(([]:TY69),((0:Int),()))))))
  if (0≤(length x2.1:Int)∧(length x2.1:Int)<(length x2.1:Int)+1)∧(length x2.1:Int)≤9223372036854775807∧((1:Nat):Int)*(length x2.1:Int)≤281474976710656 then
  let x3:=(replicate (toNat (length x2.1:Int)) false)
  (F44_0 k k t0 t1 t2 t3 t10 (0:Int) x2 x3 e0).bind fun r8 =>
  (F44_1 k k r8.1.1 r8.1.2.1 r8.1.2.2.1 r8.1.2.2.2.1 r8.1.2.2.2.2.1 (0:Int) r8.2.1 r8.2.2.1 r8.2.2.2.1).bind fun r21 =>
  if (length r21.2.2.1+length [r21.2.1])*(24*2)≤281474976710656∧length r21.2.2.1+length [r21.2.1]≤9223372036854775807 then
  (F44_2 k n r21.1.1 r21.1.2.1 r21.1.2.2.1 r21.1.2.2.2.1 (wrap .i64 (r21.1.2.2.2.2.1+(1:Int))) (r21.2.2.1++[r21.2.1])).bind some
  else none
  else none
  else none
  else
  some ((),(e0,()))
def sq44_2:Shape:=⟨[(9,KD66)],[(0,.val KD13),(1,.val KD64),(2,.val KD64),(3,.val (.int .i64)),(9,.at 2000009 []),(10,.val (.int .i64))],[(2000009,none,KD66)]⟩
def fu44_2 (k m:Nat) (v:sq44_2.V):=F44_2 k m v.1.1 v.1.2.1 v.1.2.2.1 v.1.2.2.2.1 v.1.2.2.2.2.1 v.2.1
def fr44_2 (k:Nat):Frag:=⟨sq44_2,[(.exit 0,⟨[(9,KD66)],[(9,.at 2000009 [])],[(2000009,none,KD66)]⟩)],fu44_2 k k⟩
def F44 (k:Nat) (a0:TY36) (a1:(List (List Bool))) (a2:(List (List Bool))) (a3:Int):Option (TY79×Unit) :=
 (F44_2 k k a0 a1 a2 a3 (0:Int) []).bind fun r29 =>
 some ((r29.2.1,()),())
def sp44 (k:Nat):Spec:=⟨[.val KD13,.val KD64,.val KD64,.val (.int .i64)],[.own KD66],fun x=>F44 k x.1 x.2.1 x.2.2.1 x.2.2.2.1⟩
def lim44:Lim:=⟨89,4,false,false,[],[]⟩
def cfg44 (k:Nat):Nat→Option Spec:=cfgL [(76,sp76 k)]
noncomputable def co44_0:Code:=codeAt (bodyOf Try.f44) [.r,.r,.l,.r,.s,.b,.r,.l,.s,.r,.r,.l,.r,.s]
noncomputable def cb44_0:Code:=codeAt (bodyOf Try.f44) [.r,.r,.l,.r,.s,.b,.r,.l,.s,.r,.r,.l,.r,.s,.b]
noncomputable def co44_1:Code:=codeAt (bodyOf Try.f44) [.r,.r,.l,.r,.s,.b,.r,.l,.s,.r,.r,.r,.l,.r,.s]
noncomputable def cb44_1:Code:=codeAt (bodyOf Try.f44) [.r,.r,.l,.r,.s,.b,.r,.l,.s,.r,.r,.r,.l,.r,.s,.b]
noncomputable def co44_2:Code:=codeAt (bodyOf Try.f44) [.r,.r,.l,.r,.s]
noncomputable def cb44_2:Code:=codeAt (bodyOf Try.f44) [.r,.r,.l,.r,.s,.b]
noncomputable def co44:Code:=codeAt (bodyOf Try.f44) []
theorem cfg44_ok (k:Nat):CfgOK Try.prog (cfg44 k):=cfgL_cons (v76 k) (cfgL_nil)
noncomputable def bo44_0 (k m:Nat) (v:sq44_0.V):=body Try.prog (stepper Try.prog (cfg44 k) lim44) .go cb44_0 (sq44_0.st v) (loopK (fr44_0 k) (fu44_0 k m))
theorem pp44_0 (k m:Nat) (v:sq44_0.V):fu44_0 k (m+1) v=(bo44_0 k m v).eval∧(bo44_0 k m v).left=(bo44_0 k m v).right:=⟨by kernel_rfl,by kernel_rfl⟩
theorem fr44_0_ok (k:Nat):FragOK Try.prog lim44 (fr44_0 k) co44_0 :=
 frag_cast (by kernel_rfl) (loop_ok (cfg44_ok k) (planOK_go _) (fu44_0 k) k (fun _=>rfl) (fun _=>rfl) (pp44_0 k))
noncomputable def bo44_1 (k m:Nat) (v:sq44_1.V):=body Try.prog (stepper Try.prog (cfg44 k) lim44) .go cb44_1 (sq44_1.st v) (loopK (fr44_1 k) (fu44_1 k m))
theorem pp44_1 (k m:Nat) (v:sq44_1.V):fu44_1 k (m+1) v=(bo44_1 k m v).eval∧(bo44_1 k m v).left=(bo44_1 k m v).right:=⟨by kernel_rfl,by kernel_rfl⟩
theorem fr44_1_ok (k:Nat):FragOK Try.prog lim44 (fr44_1 k) co44_1 :=
 frag_cast (by kernel_rfl) (loop_ok (cfg44_ok k) (planOK_go _) (fu44_1 k) k (fun _=>rfl) (fun _=>rfl) (pp44_1 k))
def pl44_2 (k:Nat):Plan:=(.seq .go (.seq (.sub (.seq .go (.seq .go (.seq (.seq .go (.sub (.frag (fr44_0 k)))) (.seq (.seq .go (.sub (.frag (fr44_1 k)))) .go))))) .go))
noncomputable def bo44_2 (k m:Nat) (v:sq44_2.V):=body Try.prog (stepper Try.prog (cfg44 k) lim44) (pl44_2 k) cb44_2 (sq44_2.st v) (loopK (fr44_2 k) (fu44_2 k m))
theorem pp44_2 (k m:Nat) (v:sq44_2.V):fu44_2 k (m+1) v=(bo44_2 k m v).eval∧(bo44_2 k m v).left=(bo44_2 k m v).right:=⟨by kernel_rfl,by kernel_rfl⟩
theorem fr44_2_ok (k:Nat):FragOK Try.prog lim44 (fr44_2 k) co44_2 :=
 frag_cast (by kernel_rfl) (loop_ok (cfg44_ok k) (plan_of (L:=[(fr44_0 k,co44_0),(fr44_1 k,co44_1)]) (by kernel_rfl) (.cons (fr44_0_ok k) (.cons (fr44_1_ok k) .nil))) (fu44_2 k) k (fun _=>rfl) (fun _=>rfl) (pp44_2 k))
def pl44 (k:Nat):Plan:=(.seq .go (.seq .go (.seq (.seq .go (.sub (.frag (fr44_2 k)))) .go)))
noncomputable def bo44 (k:Nat) (x:AT (sp44 k).ps):=fnT Try.prog (cfg44 k) lim44 Try.f44 (bodyOf Try.f44) (pl44 k) (sp44 k) x
theorem vv44 (k:Nat) (x:AT (sp44 k).ps):(sp44 k).impl x=(bo44 k x).eval∧(bo44 k x).left=(bo44 k x).right:=⟨by kernel_rfl,by kernel_rfl⟩
theorem v44 (k:Nat):Callable Try.prog 44∧Valid Try.prog 44 (sp44 k) :=
 fn_of (n:=lim44) (fn:=Try.f44) (p:=(pl44 k)) (cfg44_ok k) (by kernel_rfl) (plan_of (L:=[(fr44_2 k,co44_2)]) (by kernel_rfl) (.cons (fr44_2_ok k) .nil)) (vv44 k)
def F47_0 (k:Nat):Nat→(List Bool)→(List Bool)→Int→Option ((Unit×Unit)⊕TY85)
 |0,_,_,_=>none
 |n+1,t0,t1,t5 =>
  let x4:=(decide (t5<(length t0:Int)))
  bif x4 then
  if 0≤t5∧t5<(length t0:Int) then
  if 0≤t5∧t5<(length t1:Int) then
  let x5:=(!((getD t0 (toNat t5) false)==(getD t1 (toNat t5) false)))
  bif x5 then
  some (.inr ((false,()),()))
  else
  (F47_0 k n t0 t1 (wrap .i64 (t5+(1:Int)))).bind some
  else none
  else none
  else
  some (.inl ((),()))
def sq47_0:Shape:=⟨[],[(0,.val KD82),(1,.val KD82),(5,.val (.int .i64))],[]⟩
def fu47_0 (k m:Nat) (v:sq47_0.V):=F47_0 k m v.1.1 v.1.2.1 v.1.2.2.1
def fr47_0 (k:Nat):Frag:=⟨sq47_0,[(.exit 0,⟨[],[],[]⟩),(.ret,⟨[],[(4,.val .bool)],[]⟩)],fu47_0 k k⟩
def F47 (k:Nat) (a0:(List Bool)) (a1:(List Bool)):Option TY85 :=
 let x1:=((length a0:Int) != (length a1:Int))
 bif x1 then
 some ((false,()),())
 else
 (F47_0 k k a0 a1 (0:Int)).bind fun r6 =>
 match r6 with
 |.inl r7 =>
  some ((true,()),())
 |.inr r7 =>
  some ((r7.1.1,()),())
def sp47 (k:Nat):Spec:=⟨[.val KD82,.val KD82],[.val .bool],fun x=>F47 k x.1 x.2.1⟩
def lim47:Lim:=⟨26,2,false,false,[],[]⟩
def cfg47 (k:Nat):Nat→Option Spec:=cfgL []
noncomputable def co47_0:Code:=codeAt (bodyOf Try.f47) [.r,.r,.l,.r,.s]
noncomputable def cb47_0:Code:=codeAt (bodyOf Try.f47) [.r,.r,.l,.r,.s,.b]
noncomputable def co47:Code:=codeAt (bodyOf Try.f47) []
theorem cfg47_ok (k:Nat):CfgOK Try.prog (cfg47 k):=cfgL_nil
noncomputable def bo47_0 (k m:Nat) (v:sq47_0.V):=body Try.prog (stepper Try.prog (cfg47 k) lim47) .go cb47_0 (sq47_0.st v) (loopK (fr47_0 k) (fu47_0 k m))
theorem pp47_0 (k m:Nat) (v:sq47_0.V):fu47_0 k (m+1) v=(bo47_0 k m v).eval∧(bo47_0 k m v).left=(bo47_0 k m v).right:=⟨by kernel_rfl,by kernel_rfl⟩
theorem fr47_0_ok (k:Nat):FragOK Try.prog lim47 (fr47_0 k) co47_0 :=
 frag_cast (by kernel_rfl) (loop_ok (cfg47_ok k) (planOK_go _) (fu47_0 k) k (fun _=>rfl) (fun _=>rfl) (pp47_0 k))
def pl47 (k:Nat):Plan:=(.seq .go (.seq .go (.seq (.seq .go (.sub (.frag (fr47_0 k)))) .go)))
noncomputable def bo47 (k:Nat) (x:AT (sp47 k).ps):=fnT Try.prog (cfg47 k) lim47 Try.f47 (bodyOf Try.f47) (pl47 k) (sp47 k) x
theorem vv47 (k:Nat) (x:AT (sp47 k).ps):(sp47 k).impl x=(bo47 k x).eval∧(bo47 k x).left=(bo47 k x).right:=⟨by kernel_rfl,by kernel_rfl⟩
theorem v47 (k:Nat):Callable Try.prog 47∧Valid Try.prog 47 (sp47 k) :=
 fn_of (n:=lim47) (fn:=Try.f47) (p:=(pl47 k)) (cfg47_ok k) (by kernel_rfl) (plan_of (L:=[(fr47_0 k,co47_0)]) (by kernel_rfl) (.cons (fr47_0_ok k) .nil)) (vv47 k)
def F45_0 (k:Nat):Nat→(List (List Bool))→(List (List Bool))→Int→Option ((Unit×Unit)⊕TY85)
 |0,_,_,_=>none
 |n+1,t0,t1,t5 =>
  let x5:=(decide (t5<(length t0:Int)))
  bif x5 then
  if 0≤t5∧t5<(length t0:Int) then
  let x6:=(getD t0 (toNat t5) ([]:(List Bool)))
  if 0≤t5∧t5<(length t1:Int) then
  let x7:=(getD t1 (toNat t5) ([]:(List Bool)))
  (F47 k x6 x7).bind fun r8 =>
  bif (!r8.1.1) then
  some (.inr ((false,()),()))
  else
  (F45_0 k n t0 t1 (wrap .i64 (t5+(1:Int)))).bind some
  else none
  else none
  else
  some (.inl ((),()))
def sq45_0:Shape:=⟨[],[(0,.val KD64),(1,.val KD64),(5,.val (.int .i64))],[]⟩
def fu45_0 (k m:Nat) (v:sq45_0.V):=F45_0 k m v.1.1 v.1.2.1 v.1.2.2.1
def fr45_0 (k:Nat):Frag:=⟨sq45_0,[(.exit 0,⟨[],[],[]⟩),(.ret,⟨[],[(4,.val .bool)],[]⟩)],fu45_0 k k⟩
def F45 (k:Nat) (a0:(List (List Bool))) (a1:(List (List Bool))):Option TY85 :=
 (F45_0 k k a0 a1 (0:Int)).bind fun r9 =>
 match r9 with
 |.inl r10 =>
  some ((true,()),())
 |.inr r10 =>
  some ((r10.1.1,()),())
def sp45 (k:Nat):Spec:=⟨[.val KD64,.val KD64],[.val .bool],fun x=>F45 k x.1 x.2.1⟩
def lim45:Lim:=⟨22,2,false,false,[],[]⟩
def cfg45 (k:Nat):Nat→Option Spec:=cfgL [(47,sp47 k)]
noncomputable def co45_0:Code:=codeAt (bodyOf Try.f45) [.r,.l,.r,.s]
noncomputable def cb45_0:Code:=codeAt (bodyOf Try.f45) [.r,.l,.r,.s,.b]
noncomputable def co45:Code:=codeAt (bodyOf Try.f45) []
theorem cfg45_ok (k:Nat):CfgOK Try.prog (cfg45 k):=cfgL_cons (v47 k) (cfgL_nil)
noncomputable def bo45_0 (k m:Nat) (v:sq45_0.V):=body Try.prog (stepper Try.prog (cfg45 k) lim45) .go cb45_0 (sq45_0.st v) (loopK (fr45_0 k) (fu45_0 k m))
theorem pp45_0 (k m:Nat) (v:sq45_0.V):fu45_0 k (m+1) v=(bo45_0 k m v).eval∧(bo45_0 k m v).left=(bo45_0 k m v).right:=⟨by kernel_rfl,by kernel_rfl⟩
theorem fr45_0_ok (k:Nat):FragOK Try.prog lim45 (fr45_0 k) co45_0 :=
 frag_cast (by kernel_rfl) (loop_ok (cfg45_ok k) (planOK_go _) (fu45_0 k) k (fun _=>rfl) (fun _=>rfl) (pp45_0 k))
def pl45 (k:Nat):Plan:=(.seq .go (.seq (.seq .go (.sub (.frag (fr45_0 k)))) .go))
noncomputable def bo45 (k:Nat) (x:AT (sp45 k).ps):=fnT Try.prog (cfg45 k) lim45 Try.f45 (bodyOf Try.f45) (pl45 k) (sp45 k) x
theorem vv45 (k:Nat) (x:AT (sp45 k).ps):(sp45 k).impl x=(bo45 k x).eval∧(bo45 k x).left=(bo45 k x).right:=⟨by kernel_rfl,by kernel_rfl⟩
theorem v45 (k:Nat):Callable Try.prog 45∧Valid Try.prog 45 (sp45 k) :=
 fn_of (n:=lim45) (fn:=Try.f45) (p:=(pl45 k)) (cfg45_ok k) (by kernel_rfl) (plan_of (L:=[(fr45_0 k,co45_0)]) (by kernel_rfl) (.cons (fr45_0_ok k) .nil)) (vv45 k)
def F46_0 (k:Nat):Nat→TY36→(List (List Bool))→Int→Bool→Int→(List Bool)→Option (((TY36×(List (List Bool))×Int×Bool×Unit)×((List Bool)×Unit)))
 |0,_,_,_,_,_,_=>none
 |n+1,t0,t1,t6,t7,t8,e0 =>
  if 0≤t6∧t6<(length t1:Int) then
  let x4:=(getD t1 (toNat t6) ([]:(List Bool)))
  let x5:=(decide (t8<(length x4:Int)))
  bif x5 then
  bif t7 then
  (F46_0 k n t0 t1 t6 true (wrap .i64 (t8+(1:Int))) e0).bind some
  else
  if 0≤t6∧t6<(length t1:Int) then
  let x6:=(getD t1 (toNat t6) ([]:(List Bool)))
  if 0≤t8∧t8<(length x6:Int) then
  bif (getD x6 (toNat t8) false) then
  if 0≤t6∧t6<(length t0:Int) then
  let x7:=(getD t0 (toNat t6) (([]:(List Int)),(([]:(List Int)),(([]:(List Int)),(([]:TY69),((0:Int),()))))))
  if 0≤t8∧t8<(length x7.2.1:Int) then
  let x8:=(decide ((getD x7.2.1 (toNat t8) (0:Int))<(1152921504606846976:Int)))
  (F46_0 k n t0 t1 t6 x8 (wrap .i64 (t8+(1:Int))) e0).bind some
  else none
  else none
  else
  (F46_0 k n t0 t1 t6 false (wrap .i64 (t8+(1:Int))) e0).bind some
  else none
  else none
  else
  some ((t0,t1,t6,t7,()),(e0,()))
  else none
def sq46_0:Shape:=⟨[(5,KD84)],[(0,.val KD13),(1,.val KD64),(5,.at 2000005 []),(6,.val (.int .i64)),(7,.val .bool),(8,.val (.int .i64))],[(2000005,none,KD84)]⟩
def fu46_0 (k m:Nat) (v:sq46_0.V):=F46_0 k m v.1.1 v.1.2.1 v.1.2.2.1 v.1.2.2.2.1 v.1.2.2.2.2.1 v.2.1
def fr46_0 (k:Nat):Frag:=⟨sq46_0,[(.exit 2,⟨[],[(0,.val KD13),(1,.val KD64),(5,.at 2000005 []),(6,.val (.int .i64)),(7,.val .bool)],[(2000005,none,KD84)]⟩)],fu46_0 k k⟩
def F46_1 (k:Nat):Nat→TY36→(List (List Bool))→Int→(List Bool)→Option ((Unit×((List Bool)×Unit)))
 |0,_,_,_,_=>none
 |n+1,t0,t1,t6,e0 =>
  let x1:=(decide (t6<(length t0:Int)))
  bif x1 then
  if 0≤t6∧t6<(length t0:Int) then
  let x2:=(getD t0 (toNat t6) (([]:(List Int)),(([]:(List Int)),(([]:(List Int)),(([]:TY69),((0:Int),()))))))
  let x3:=(decide (x2.2.2.2.2.1<(1152921504606846976:Int)))
  (F46_0 k k t0 t1 t6 x3 (0:Int) e0).bind fun r9 =>
  let y13:=r9.1.2.2.2.1
  if (length r9.2.1+length (List.set (replicate 1 false) 0 y13))*(1*2)≤281474976710656∧length r9.2.1+length (List.set (replicate 1 false) 0 y13)≤9223372036854775807 then
  let x15:=(r9.2.1++(List.set (replicate 1 false) 0 y13))
  (F46_1 k n r9.1.1 r9.1.2.1 (wrap .i64 (r9.1.2.2.1+(1:Int))) x15).bind some
  else none
  else none
  else
  some ((),(e0,()))
def sq46_1:Shape:=⟨[(5,KD84)],[(0,.val KD13),(1,.val KD64),(5,.at 2000005 []),(6,.val (.int .i64))],[(2000005,none,KD84)]⟩
def fu46_1 (k m:Nat) (v:sq46_1.V):=F46_1 k m v.1.1 v.1.2.1 v.1.2.2.1 v.2.1
def fr46_1 (k:Nat):Frag:=⟨sq46_1,[(.exit 0,⟨[(5,KD84)],[(5,.at 2000005 [])],[(2000005,none,KD84)]⟩)],fu46_1 k k⟩
def F46 (k:Nat) (a0:TY36) (a1:(List (List Bool))):Option (((List Bool)×Unit)×Unit) :=
 (F46_1 k k a0 a1 (0:Int) []).bind fun r16 =>
 some ((r16.2.1,()),())
def sp46 (k:Nat):Spec:=⟨[.val KD13,.val KD64],[.own KD84],fun x=>F46 k x.1 x.2.1⟩
def lim46:Lim:=⟨56,2,false,false,[],[]⟩
def cfg46 (k:Nat):Nat→Option Spec:=cfgL []
noncomputable def co46_0:Code:=codeAt (bodyOf Try.f46) [.r,.r,.l,.r,.s,.b,.r,.l,.s,.r,.l,.r,.s]
noncomputable def cb46_0:Code:=codeAt (bodyOf Try.f46) [.r,.r,.l,.r,.s,.b,.r,.l,.s,.r,.l,.r,.s,.b]
noncomputable def co46_1:Code:=codeAt (bodyOf Try.f46) [.r,.r,.l,.r,.s]
noncomputable def cb46_1:Code:=codeAt (bodyOf Try.f46) [.r,.r,.l,.r,.s,.b]
noncomputable def co46:Code:=codeAt (bodyOf Try.f46) []
theorem cfg46_ok (k:Nat):CfgOK Try.prog (cfg46 k):=cfgL_nil
noncomputable def bo46_0 (k m:Nat) (v:sq46_0.V):=body Try.prog (stepper Try.prog (cfg46 k) lim46) .go cb46_0 (sq46_0.st v) (loopK (fr46_0 k) (fu46_0 k m))
theorem pp46_0 (k m:Nat) (v:sq46_0.V):fu46_0 k (m+1) v=(bo46_0 k m v).eval∧(bo46_0 k m v).left=(bo46_0 k m v).right:=⟨by kernel_rfl,by kernel_rfl⟩
theorem fr46_0_ok (k:Nat):FragOK Try.prog lim46 (fr46_0 k) co46_0 :=
 frag_cast (by kernel_rfl) (loop_ok (cfg46_ok k) (planOK_go _) (fu46_0 k) k (fun _=>rfl) (fun _=>rfl) (pp46_0 k))
def pl46_1 (k:Nat):Plan:=(.seq .go (.seq (.sub (.seq .go (.seq (.seq .go (.sub (.frag (fr46_0 k)))) .go))) .go))
noncomputable def bo46_1 (k m:Nat) (v:sq46_1.V):=body Try.prog (stepper Try.prog (cfg46 k) lim46) (pl46_1 k) cb46_1 (sq46_1.st v) (loopK (fr46_1 k) (fu46_1 k m))
theorem pp46_1 (k m:Nat) (v:sq46_1.V):fu46_1 k (m+1) v=(bo46_1 k m v).eval∧(bo46_1 k m v).left=(bo46_1 k m v).right:=⟨by kernel_rfl,by kernel_rfl⟩
theorem fr46_1_ok (k:Nat):FragOK Try.prog lim46 (fr46_1 k) co46_1 :=
 frag_cast (by kernel_rfl) (loop_ok (cfg46_ok k) (plan_of (L:=[(fr46_0 k,co46_0)]) (by kernel_rfl) (.cons (fr46_0_ok k) .nil)) (fu46_1 k) k (fun _=>rfl) (fun _=>rfl) (pp46_1 k))
def pl46 (k:Nat):Plan:=(.seq .go (.seq .go (.seq (.seq .go (.sub (.frag (fr46_1 k)))) .go)))
noncomputable def bo46 (k:Nat) (x:AT (sp46 k).ps):=fnT Try.prog (cfg46 k) lim46 Try.f46 (bodyOf Try.f46) (pl46 k) (sp46 k) x
theorem vv46 (k:Nat) (x:AT (sp46 k).ps):(sp46 k).impl x=(bo46 k x).eval∧(bo46 k x).left=(bo46 k x).right:=⟨by kernel_rfl,by kernel_rfl⟩
theorem v46 (k:Nat):Callable Try.prog 46∧Valid Try.prog 46 (sp46 k) :=
 fn_of (n:=lim46) (fn:=Try.f46) (p:=(pl46 k)) (cfg46_ok k) (by kernel_rfl) (plan_of (L:=[(fr46_1 k,co46_1)]) (by kernel_rfl) (.cons (fr46_1_ok k) .nil)) (vv46 k)
def F17_0 (k:Nat):Nat→TY36→(List (List Bool))→Int→Int→Int→TY67→(List (List Bool))→Option (((TY36×(List (List Bool))×Int×Int×Unit)×(TY67×(List (List Bool))×Unit)))
 |0,_,_,_,_,_,_,_=>none
 |n+1,t0,t1,t2,t3,t12,c8,e0 =>
  let x1:=(decide (t12<(length t0:Int)))
  bif x1 then
  if 0≤t12∧t12<(length t0:Int) then
  let x2:=(getD t0 (toNat t12) (([]:(List Int)),(([]:(List Int)),(([]:(List Int)),(([]:TY69),((0:Int),()))))))
  if (0≤(length x2.1:Int)∧(length x2.1:Int)<(length x2.1:Int)+1)∧(length x2.1:Int)≤9223372036854775807∧((1:Nat):Int)*(length x2.1:Int)≤281474976710656 then
  let x3:=(replicate (toNat (length x2.1:Int)) false)
  if (length e0+length [x3])*(24*2)≤281474976710656∧length e0+length [x3]≤9223372036854775807 then
  (F17_0 k n t0 t1 t2 t3 (wrap .i64 (t12+(1:Int))) c8 (e0++[x3])).bind some
  else none
  else none
  else none
  else
  some ((t0,t1,t2,t3,()),(c8,e0,()))
def sq17_0:Shape:=⟨[(11,KD66)],[(0,.val KD13),(1,.val KD64),(2,.val (.int .i64)),(3,.val (.int .i64)),(8,.ptr 8 []),(11,.at 2000011 []),(12,.val (.int .i64))],[(8,some 39,KD38),(2000011,none,KD66)]⟩
def fu17_0 (k m:Nat) (v:sq17_0.V):=F17_0 k m v.1.1 v.1.2.1 v.1.2.2.1 v.1.2.2.2.1 v.1.2.2.2.2.1 v.2.1 v.2.2.1
def fr17_0 (k:Nat):Frag:=⟨sq17_0,[(.exit 0,⟨[(11,KD66)],[(0,.val KD13),(1,.val KD64),(2,.val (.int .i64)),(3,.val (.int .i64)),(8,.ptr 8 []),(11,.at 2000011 [])],[(8,some 39,KD38),(2000011,none,KD66)]⟩)],fu17_0 k k⟩
def F17_1 (k:Nat):Nat→TY36→(List (List Bool))→Int→Int→Int→Int→Int→Int→Bool→TY67→TY67→(List (List Bool))→(List (List (List Bool)))→(List (List Bool))→(List Int)→Option (((TY36×(List (List Bool))×Int×Int×Int×Int×Int×Int×Bool×Unit)×(TY67×TY67×(List (List Bool))×(List (List (List Bool)))×(List (List Bool))×(List Int)×Unit)))
 |0,_,_,_,_,_,_,_,_,_,_,_,_,_,_,_=>none
 |n+1,t0,t1,t2,t3,t16,t18,t20,t53,t54,c8,c14,e0,e1,e2,e3 =>
  let x15:=(decide (t20<(length e1:Int)))
  bif x15 then
  if 0≤t20∧t20<(length e1:Int) then
  (F45 k (getD e1 (toNat t20) ([]:(List (List Bool)))) e0).bind fun r16 =>
  bif (!r16.1.1) then
  (F17_1 k n t0 t1 t2 t3 t16 t18 (wrap .i64 (t20+(1:Int))) t53 t54 c8 c14 e0 e1 e2 e3).bind some
  else
  some ((t0,t1,t2,t3,t16,t18,t20,t53,t54,()),(c8,c14,e0,e1,e2,e3,()))
  else none
  else
  some ((t0,t1,t2,t3,t16,t18,t20,t53,t54,()),(c8,c14,e0,e1,e2,e3,()))
def sq17_1:Shape:=⟨[(13,KD55),(15,KD66),(17,KD76)],[(0,.val KD13),(1,.val KD64),(2,.val (.int .i64)),(3,.val (.int .i64)),(8,.ptr 8 []),(13,.at 2000013 []),(14,.ptr 14 []),(15,.at 2000015 []),(16,.val (.int .i64)),(17,.at 2000017 []),(18,.val (.int .i64)),(19,.at 1001104 []),(20,.val (.int .i64)),(53,.val (.int .i64)),(54,.val .bool)],[(8,some 39,KD38),(14,some 39,KD38),(1001104,none,KD66),(2000013,none,KD55),(2000015,none,KD66),(2000017,none,KD76)]⟩
def fu17_1 (k m:Nat) (v:sq17_1.V):=F17_1 k m v.1.1 v.1.2.1 v.1.2.2.1 v.1.2.2.2.1 v.1.2.2.2.2.1 v.1.2.2.2.2.2.1 v.1.2.2.2.2.2.2.1 v.1.2.2.2.2.2.2.2.1 v.1.2.2.2.2.2.2.2.2.1 v.2.1 v.2.2.1 v.2.2.2.1 v.2.2.2.2.1 v.2.2.2.2.2.1 v.2.2.2.2.2.2.1
def fr17_1 (k:Nat):Frag:=⟨sq17_1,[(.exit 6,⟨[],[(0,.val KD13),(1,.val KD64),(2,.val (.int .i64)),(3,.val (.int .i64)),(8,.ptr 8 []),(13,.at 2000013 []),(14,.ptr 14 []),(15,.at 2000015 []),(16,.val (.int .i64)),(17,.at 2000017 []),(18,.val (.int .i64)),(19,.at 1001104 []),(20,.val (.int .i64)),(53,.val (.int .i64)),(54,.val .bool)],[(8,some 39,KD38),(14,some 39,KD38),(1001104,none,KD66),(2000013,none,KD55),(2000015,none,KD66),(2000017,none,KD76)]⟩)],fu17_1 k k⟩
def F17_2 (k:Nat):Nat→TY36→(List (List Bool))→Int→Int→Int→Int→Int→Bool→TY67→TY67→(List (List (List Bool)))→(List (List Bool))→(List Int)→Option (((TY36×(List (List Bool))×Int×Int×Int×Int×Bool×Unit)×(TY67×TY67×(List (List (List Bool)))×(List (List Bool))×(List Int)×Unit)))
 |0,_,_,_,_,_,_,_,_,_,_,_,_,_=>none
 |n+1,t0,t1,t2,t3,t16,t18,t53,t54,c8,c14,e0,e1,e2 =>
  bif (decide (t18<t2)) then
  if 0≤t16∧t16<(length e0:Int) then
  (F44 k t0 t1 (getD e0 (toNat t16) ([]:(List (List Bool)))) t18).bind fun r14 =>
  (F17_1 k k t0 t1 t2 t3 t16 t18 (0:Int) t53 t54 c8 c14 r14.1.1 e0 e1 e2).bind fun r17 =>
  let y24:=r17.1.2.2.2.2.2.2.1
  let y25:=r17.1.2.2.2.2.2.2.2.1
  let y26:=r17.1.2.2.2.2.2.2.2.2.1
  let y30:=r17.2.2.2.2.1
  let y32:=r17.2.2.2.2.2.2.1
  bif (y24==(length y30:Int)) then
  if (length y30+length [r17.2.2.2.1])*(24*2)≤281474976710656∧length y30+length [r17.2.2.2.1]≤9223372036854775807 then
  let x33:=(List.set (replicate 1 (0:Int)) 0 y24)
  if (length y32+length x33)*(8*2)≤281474976710656∧length y32+length x33≤9223372036854775807 then
  (F17_2 k n r17.1.1 r17.1.2.1 r17.1.2.2.1 r17.1.2.2.2.1 r17.1.2.2.2.2.1 (wrap .i64 (r17.1.2.2.2.2.2.1+(1:Int))) y25 y26 r17.2.1 r17.2.2.1 (y30++[r17.2.2.2.1]) r17.2.2.2.2.2.1 (y32++x33)).bind some
  else none
  else none
  else
  let x34:=(List.set (replicate 1 (0:Int)) 0 y24)
  if (length y32+length x34)*(8*2)≤281474976710656∧length y32+length x34≤9223372036854775807 then
  (F17_2 k n r17.1.1 r17.1.2.1 r17.1.2.2.1 r17.1.2.2.2.1 r17.1.2.2.2.2.1 (wrap .i64 (r17.1.2.2.2.2.2.1+(1:Int))) y25 y26 r17.2.1 r17.2.2.1 y30 r17.2.2.2.2.2.1 (y32++x34)).bind some
  else none
  else none
  else
  some ((t0,t1,t2,t3,t16,t53,t54,()),(c8,c14,e0,e1,e2,()))
def sq17_2:Shape:=⟨[(13,KD55),(15,KD66),(17,KD76)],[(0,.val KD13),(1,.val KD64),(2,.val (.int .i64)),(3,.val (.int .i64)),(8,.ptr 8 []),(13,.at 2000013 []),(14,.ptr 14 []),(15,.at 2000015 []),(16,.val (.int .i64)),(17,.at 2000017 []),(18,.val (.int .i64)),(53,.val (.int .i64)),(54,.val .bool)],[(8,some 39,KD38),(14,some 39,KD38),(2000013,none,KD55),(2000015,none,KD66),(2000017,none,KD76)]⟩
def fu17_2 (k m:Nat) (v:sq17_2.V):=F17_2 k m v.1.1 v.1.2.1 v.1.2.2.1 v.1.2.2.2.1 v.1.2.2.2.2.1 v.1.2.2.2.2.2.1 v.1.2.2.2.2.2.2.1 v.1.2.2.2.2.2.2.2.1 v.2.1 v.2.2.1 v.2.2.2.1 v.2.2.2.2.1 v.2.2.2.2.2.1
def fr17_2 (k:Nat):Frag:=⟨sq17_2,[(.exit 4,⟨[],[(0,.val KD13),(1,.val KD64),(2,.val (.int .i64)),(3,.val (.int .i64)),(8,.ptr 8 []),(13,.at 2000013 []),(14,.ptr 14 []),(15,.at 2000015 []),(16,.val (.int .i64)),(17,.at 2000017 []),(53,.val (.int .i64)),(54,.val .bool)],[(8,some 39,KD38),(14,some 39,KD38),(2000013,none,KD55),(2000015,none,KD66),(2000017,none,KD76)]⟩)],fu17_2 k k⟩
def F17_3 (k:Nat):Nat→TY36→(List (List Bool))→Int→Int→Int→Int→Int→Bool→TY67→TY67→(List Bool)→(List (List (List Bool)))→(List (List Bool))→(List Int)→Option (((TY36×(List (List Bool))×Int×Int×Int×Int×Int×Bool×Unit)×(TY67×TY67×(List Bool)×(List (List (List Bool)))×(List (List Bool))×(List Int)×Unit)))
 |0,_,_,_,_,_,_,_,_,_,_,_,_,_,_=>none
 |n+1,t0,t1,t2,t3,t16,t22,t53,t54,c8,c14,e0,e1,e2,e3 =>
  let x49:=(decide (t22<(length e2:Int)))
  bif x49 then
  if 0≤t22∧t22<(length e2:Int) then
  (F47 k (getD e2 (toNat t22) ([]:(List Bool))) e0).bind fun r50 =>
  bif (!r50.1.1) then
  (F17_3 k n t0 t1 t2 t3 t16 (wrap .i64 (t22+(1:Int))) t53 t54 c8 c14 e0 e1 e2 e3).bind some
  else
  some ((t0,t1,t2,t3,t16,t22,t53,t54,()),(c8,c14,e0,e1,e2,e3,()))
  else none
  else
  some ((t0,t1,t2,t3,t16,t22,t53,t54,()),(c8,c14,e0,e1,e2,e3,()))
def sq17_3:Shape:=⟨[(15,KD66)],[(0,.val KD13),(1,.val KD64),(2,.val (.int .i64)),(3,.val (.int .i64)),(8,.ptr 8 []),(13,.at 2000013 []),(14,.ptr 14 []),(15,.at 2000015 []),(16,.val (.int .i64)),(17,.at 2000017 []),(21,.at 1001632 []),(22,.val (.int .i64)),(53,.val (.int .i64)),(54,.val .bool)],[(8,some 39,KD38),(14,some 39,KD38),(1001632,none,KD84),(2000013,none,KD55),(2000015,none,KD66),(2000017,none,KD76)]⟩
def fu17_3 (k m:Nat) (v:sq17_3.V):=F17_3 k m v.1.1 v.1.2.1 v.1.2.2.1 v.1.2.2.2.1 v.1.2.2.2.2.1 v.1.2.2.2.2.2.1 v.1.2.2.2.2.2.2.1 v.1.2.2.2.2.2.2.2.1 v.2.1 v.2.2.1 v.2.2.2.1 v.2.2.2.2.1 v.2.2.2.2.2.1 v.2.2.2.2.2.2.1
def fr17_3 (k:Nat):Frag:=⟨sq17_3,[(.exit 8,⟨[],[(0,.val KD13),(1,.val KD64),(2,.val (.int .i64)),(3,.val (.int .i64)),(8,.ptr 8 []),(13,.at 2000013 []),(14,.ptr 14 []),(15,.at 2000015 []),(16,.val (.int .i64)),(17,.at 2000017 []),(21,.at 1001632 []),(22,.val (.int .i64)),(53,.val (.int .i64)),(54,.val .bool)],[(8,some 39,KD38),(14,some 39,KD38),(1001632,none,KD84),(2000013,none,KD55),(2000015,none,KD66),(2000017,none,KD76)]⟩)],fu17_3 k k⟩
def F17_4 (k:Nat):Nat→TY36→(List (List Bool))→Int→Int→Int→TY67→TY67→(List (List (List Bool)))→(List (List Bool))→Option ((Unit×(TY67×TY67×(List (List Bool))×Unit))⊕((Int×Unit)×(TY67×Unit)))
 |0,_,_,_,_,_,_,_,_,_=>none
 |n+1,t0,t1,t2,t3,t16,c8,c14,e0,e1 =>
  let x11:=(decide (t16<(length e0:Int)))
  bif x11 then
  let x12:=(decide ((length e0:Int)>t3))
  bif x12 then
  some (.inr (((4:Int),()),((([]:(List (List Int))),(([]:(List Int)),())),())))
  else
  let x13:=(decide ((length e0:Int)>(100000:Int)))
  bif x13 then
  some (.inr (((4:Int),()),((([]:(List (List Int))),(([]:(List Int)),())),())))
  else
  (F17_2 k k t0 t1 t2 t3 t16 (0:Int) (length e0:Int) x13 c8 c14 e0 e1 []).bind fun r35 =>
  let y40:=r35.1.2.2.2.2.1
  if 0≤y40∧y40<(length r35.2.2.2.1:Int) then
  (F46 k r35.1.1 (getD r35.2.2.2.1 (toNat y40) ([]:(List (List Bool))))).bind fun r48 =>
  (F17_3 k k r35.1.1 r35.1.2.1 r35.1.2.2.1 r35.1.2.2.2.1 y40 (0:Int) r35.1.2.2.2.2.2.1 r35.1.2.2.2.2.2.2.1 r35.2.1 r35.2.2.1 r48.1.1 r35.2.2.2.1 r35.2.2.2.2.1 r35.2.2.2.2.2.1).bind fun r51 =>
  let y57:=r51.1.2.2.2.2.2.1
  let y61:=r51.2.2.1
  let y64:=r51.2.2.2.2.2.1
  let y65:=r51.2.2.2.2.2.2.1
  bif (y57==(length y64:Int)) then
  if (length y64+length [r51.2.2.2.1])*(24*2)≤281474976710656∧length y64+length [r51.2.2.2.1]≤9223372036854775807 then
  if (length y61.1+length [y65])*(24*2)≤281474976710656∧length y61.1+length [y65]≤9223372036854775807 then
  let x66:=(List.set (replicate 1 (0:Int)) 0 y57)
  if (length y61.2.1+length x66)*(8*2)≤281474976710656∧length y61.2.1+length x66≤9223372036854775807 then
  (F17_4 k n r51.1.1 r51.1.2.1 r51.1.2.2.1 r51.1.2.2.2.1 (wrap .i64 (r51.1.2.2.2.2.1+(1:Int))) r51.2.1 ((y61.1++[y65]),((y61.2.1++x66),y61.2.2)) r51.2.2.2.2.1 (y64++[r51.2.2.2.1])).bind some
  else none
  else none
  else none
  else
  if (length y61.1+length [y65])*(24*2)≤281474976710656∧length y61.1+length [y65]≤9223372036854775807 then
  let x67:=(List.set (replicate 1 (0:Int)) 0 y57)
  if (length y61.2.1+length x67)*(8*2)≤281474976710656∧length y61.2.1+length x67≤9223372036854775807 then
  (F17_4 k n r51.1.1 r51.1.2.1 r51.1.2.2.1 r51.1.2.2.2.1 (wrap .i64 (r51.1.2.2.2.2.1+(1:Int))) r51.2.1 ((y61.1++[y65]),((y61.2.1++x67),y61.2.2)) r51.2.2.2.2.1 y64).bind some
  else none
  else none
  else none
  else
  some (.inl ((),(c8,c14,e1,())))
def sq17_4:Shape:=⟨[(13,KD55),(15,KD66)],[(0,.val KD13),(1,.val KD64),(2,.val (.int .i64)),(3,.val (.int .i64)),(8,.ptr 8 []),(13,.at 2000013 []),(14,.ptr 14 []),(15,.at 2000015 []),(16,.val (.int .i64))],[(8,some 39,KD38),(14,some 39,KD38),(2000013,none,KD55),(2000015,none,KD66)]⟩
def fu17_4 (k m:Nat) (v:sq17_4.V):=F17_4 k m v.1.1 v.1.2.1 v.1.2.2.1 v.1.2.2.2.1 v.1.2.2.2.2.1 v.2.1 v.2.2.1 v.2.2.2.1 v.2.2.2.2.1
def fr17_4 (k:Nat):Frag:=⟨sq17_4,[(.exit 2,⟨[(15,KD66)],[(8,.ptr 8 []),(14,.ptr 14 []),(15,.at 2000015 [])],[(8,some 39,KD38),(14,some 39,KD38),(2000015,none,KD66)]⟩),(.ret,⟨[],[(8,.ptr 8 []),(9,.nilS),(10,.val (.int .i64))],[(8,some 39,KD38)]⟩)],fu17_4 k k⟩
def F17 (k:Nat) (a0:TY36) (a1:(List (List Bool))) (a2:Int) (a3:Int):Option ((TY67×(List (List Bool))×Int×Unit)×Unit) :=
 (F17_0 k k a0 a1 a2 a3 (0:Int) (([]:(List (List Int))),(([]:(List Int)),())) []).bind fun r4 =>
 (F17_4 k k r4.1.1 r4.1.2.1 r4.1.2.2.1 r4.1.2.2.2.1 (0:Int) r4.2.1 (([]:(List (List Int))),(([]:(List Int)),())) [r4.2.2.1] []).bind fun r68 =>
 match r68 with
 |.inl r69 =>
  some ((r69.2.2.1,r69.2.2.2.1,(0:Int),()),())
 |.inr r69 =>
  some ((r69.2.1,[],r69.1.1,()),())
def sp17 (k:Nat):Spec:=⟨[.val KD13,.val KD64,.val (.int .i64),.val (.int .i64)],[.own KD38,.own KD66,.val (.int .i64)],fun x=>F17 k x.1 x.2.1 x.2.2.1 x.2.2.2.1⟩
def lim17:Lim:=⟨140,4,false,false,[],[]⟩
def cfg17 (k:Nat):Nat→Option Spec:=cfgL [(44,sp44 k),(45,sp45 k),(46,sp46 k),(47,sp47 k)]
noncomputable def co17_0:Code:=codeAt (bodyOf Try.f17) [.r,.r,.l,.r,.s]
noncomputable def cb17_0:Code:=codeAt (bodyOf Try.f17) [.r,.r,.l,.r,.s,.b]
noncomputable def co17_1:Code:=codeAt (bodyOf Try.f17) [.r,.r,.r,.r,.r,.r,.l,.r,.s,.b,.r,.l,.s,.r,.r,.l,.r,.s,.b,.r,.l,.s,.r,.r,.l,.s]
noncomputable def cb17_1:Code:=codeAt (bodyOf Try.f17) [.r,.r,.r,.r,.r,.r,.l,.r,.s,.b,.r,.l,.s,.r,.r,.l,.r,.s,.b,.r,.l,.s,.r,.r,.l,.s,.b]
noncomputable def co17_2:Code:=codeAt (bodyOf Try.f17) [.r,.r,.r,.r,.r,.r,.l,.r,.s,.b,.r,.l,.s,.r,.r,.l,.r,.s]
noncomputable def cb17_2:Code:=codeAt (bodyOf Try.f17) [.r,.r,.r,.r,.r,.r,.l,.r,.s,.b,.r,.l,.s,.r,.r,.l,.r,.s,.b]
noncomputable def co17_3:Code:=codeAt (bodyOf Try.f17) [.r,.r,.r,.r,.r,.r,.l,.r,.s,.b,.r,.l,.s,.r,.r,.r,.r,.r,.l,.s]
noncomputable def cb17_3:Code:=codeAt (bodyOf Try.f17) [.r,.r,.r,.r,.r,.r,.l,.r,.s,.b,.r,.l,.s,.r,.r,.r,.r,.r,.l,.s,.b]
noncomputable def co17_4:Code:=codeAt (bodyOf Try.f17) [.r,.r,.r,.r,.r,.r,.l,.r,.s]
noncomputable def cb17_4:Code:=codeAt (bodyOf Try.f17) [.r,.r,.r,.r,.r,.r,.l,.r,.s,.b]
noncomputable def co17:Code:=codeAt (bodyOf Try.f17) []
theorem cfg17_ok (k:Nat):CfgOK Try.prog (cfg17 k):=cfgL_cons (v44 k) (cfgL_cons (v45 k) (cfgL_cons (v46 k) (cfgL_cons (v47 k) (cfgL_nil))))
noncomputable def bo17_0 (k m:Nat) (v:sq17_0.V):=body Try.prog (stepper Try.prog (cfg17 k) lim17) .go cb17_0 (sq17_0.st v) (loopK (fr17_0 k) (fu17_0 k m))
theorem pp17_0 (k m:Nat) (v:sq17_0.V):fu17_0 k (m+1) v=(bo17_0 k m v).eval∧(bo17_0 k m v).left=(bo17_0 k m v).right:=⟨by kernel_rfl,by kernel_rfl⟩
theorem fr17_0_ok (k:Nat):FragOK Try.prog lim17 (fr17_0 k) co17_0 :=
 frag_cast (by kernel_rfl) (loop_ok (cfg17_ok k) (planOK_go _) (fu17_0 k) k (fun _=>rfl) (fun _=>rfl) (pp17_0 k))
noncomputable def bo17_1 (k m:Nat) (v:sq17_1.V):=body Try.prog (stepper Try.prog (cfg17 k) lim17) .go cb17_1 (sq17_1.st v) (loopK (fr17_1 k) (fu17_1 k m))
theorem pp17_1 (k m:Nat) (v:sq17_1.V):fu17_1 k (m+1) v=(bo17_1 k m v).eval∧(bo17_1 k m v).left=(bo17_1 k m v).right:=⟨by kernel_rfl,by kernel_rfl⟩
theorem fr17_1_ok (k:Nat):FragOK Try.prog lim17 (fr17_1 k) co17_1 :=
 frag_cast (by kernel_rfl) (loop_ok (cfg17_ok k) (planOK_go _) (fu17_1 k) k (fun _=>rfl) (fun _=>rfl) (pp17_1 k))
def pl17_2 (k:Nat):Plan:=(.seq .go (.seq (.sub (.seq .go (.seq .go (.seq (.sub (.frag (fr17_1 k))) .go)))) .go))
noncomputable def bo17_2 (k m:Nat) (v:sq17_2.V):=body Try.prog (stepper Try.prog (cfg17 k) lim17) (pl17_2 k) cb17_2 (sq17_2.st v) (loopK (fr17_2 k) (fu17_2 k m))
theorem pp17_2 (k m:Nat) (v:sq17_2.V):fu17_2 k (m+1) v=(bo17_2 k m v).eval∧(bo17_2 k m v).left=(bo17_2 k m v).right:=⟨by kernel_rfl,by kernel_rfl⟩
theorem fr17_2_ok (k:Nat):FragOK Try.prog lim17 (fr17_2 k) co17_2 :=
 frag_cast (by kernel_rfl) (loop_ok (cfg17_ok k) (plan_of (L:=[(fr17_1 k,co17_1)]) (by kernel_rfl) (.cons (fr17_1_ok k) .nil)) (fu17_2 k) k (fun _=>rfl) (fun _=>rfl) (pp17_2 k))
noncomputable def bo17_3 (k m:Nat) (v:sq17_3.V):=body Try.prog (stepper Try.prog (cfg17 k) lim17) .go cb17_3 (sq17_3.st v) (loopK (fr17_3 k) (fu17_3 k m))
theorem pp17_3 (k m:Nat) (v:sq17_3.V):fu17_3 k (m+1) v=(bo17_3 k m v).eval∧(bo17_3 k m v).left=(bo17_3 k m v).right:=⟨by kernel_rfl,by kernel_rfl⟩
theorem fr17_3_ok (k:Nat):FragOK Try.prog lim17 (fr17_3 k) co17_3 :=
 frag_cast (by kernel_rfl) (loop_ok (cfg17_ok k) (planOK_go _) (fu17_3 k) k (fun _=>rfl) (fun _=>rfl) (pp17_3 k))
def pl17_4 (k:Nat):Plan:=(.seq .go (.seq (.sub (.seq .go (.seq .go (.seq (.seq .go (.sub (.frag (fr17_2 k)))) (.seq .go (.seq .go (.seq (.sub (.frag (fr17_3 k))) .go))))))) .go))
noncomputable def bo17_4 (k m:Nat) (v:sq17_4.V):=body Try.prog (stepper Try.prog (cfg17 k) lim17) (pl17_4 k) cb17_4 (sq17_4.st v) (loopK (fr17_4 k) (fu17_4 k m))
theorem pp17_4 (k m:Nat) (v:sq17_4.V):fu17_4 k (m+1) v=(bo17_4 k m v).eval∧(bo17_4 k m v).left=(bo17_4 k m v).right:=⟨by kernel_rfl,by kernel_rfl⟩
theorem fr17_4_ok (k:Nat):FragOK Try.prog lim17 (fr17_4 k) co17_4 :=
 frag_cast (by kernel_rfl) (loop_ok (cfg17_ok k) (plan_of (L:=[(fr17_2 k,co17_2),(fr17_3 k,co17_3)]) (by kernel_rfl) (.cons (fr17_2_ok k) (.cons (fr17_3_ok k) .nil))) (fu17_4 k) k (fun _=>rfl) (fun _=>rfl) (pp17_4 k))
def pl17 (k:Nat):Plan:=(.seq .go (.seq .go (.seq (.seq .go (.sub (.frag (fr17_0 k)))) (.seq .go (.seq .go (.seq .go (.seq (.seq .go (.sub (.frag (fr17_4 k)))) .go)))))))
noncomputable def bo17 (k:Nat) (x:AT (sp17 k).ps):=fnT Try.prog (cfg17 k) lim17 Try.f17 (bodyOf Try.f17) (pl17 k) (sp17 k) x
theorem vv17 (k:Nat) (x:AT (sp17 k).ps):(sp17 k).impl x=(bo17 k x).eval∧(bo17 k x).left=(bo17 k x).right:=⟨by kernel_rfl,by kernel_rfl⟩
theorem v17 (k:Nat):Callable Try.prog 17∧Valid Try.prog 17 (sp17 k) :=
 fn_of (n:=lim17) (fn:=Try.f17) (p:=(pl17 k)) (cfg17_ok k) (by kernel_rfl) (plan_of (L:=[(fr17_0 k,co17_0),(fr17_4 k,co17_4)]) (by kernel_rfl) (.cons (fr17_0_ok k) (.cons (fr17_4_ok k) .nil))) (vv17 k)
def F58_0 (k:Nat):Nat→TY36→(List (List Bool))→(List (List Int))→Int→Int→Int→TY39→(List Int)→(List (List Int))→Option ((TY26×(TY39×(List Int)×(List (List Int))×Unit)))
 |0,_,_,_,_,_,_,_,_,_=>none
 |n+1,t0,t1,t2,t3,t10,t13,c11,c29,e0 =>
  let x3:=(decide (t13<(length c11.2.2.2.1:Int)))
  bif x3 then
  if 0≤t13∧t13<(length c11.2.2.2.1:Int) then
  let x4:=(getD c11.2.2.2.1 (toNat t13) ((0:Int),((0:Int),((0:Int),()))))
  if 0≤x4.2.1∧x4.2.1<(length c29:Int) then
  if 0≤t10∧t10<(length t2:Int) then
  let x5:=(getD t2 (toNat t10) ([]:(List Int)))
  if 0≤x4.1∧x4.1<(length x5:Int) then
  (F34 k (getD x5 (toNat x4.1) (0:Int)) x4.2.2.1).bind fun r6 =>
  let x7:=(minI (getD c29 (toNat x4.2.1) (0:Int)) r6.1.1)
  if 0≤x4.2.1∧x4.2.1<(length c29:Int) then
  (F58_0 k n t0 t1 t2 t3 t10 (wrap .i64 (t13+(1:Int))) c11 (List.set c29 (toNat x4.2.1) x7) e0).bind some
  else none
  else none
  else none
  else none
  else none
  else
  some ((t0,t1,t2,t3,t10,()),(c11,c29,e0,()))
def sq58_0:Shape:=⟨[(9,KD62)],[(0,.val KD13),(1,.val KD64),(2,.val KD60),(3,.val (.int .i64)),(9,.at 2000009 []),(10,.val (.int .i64)),(11,.ptr 11 []),(12,.at 29 []),(13,.val (.int .i64))],[(11,some 81,KD17),(29,none,KD76),(2000009,none,KD62)]⟩
def fu58_0 (k m:Nat) (v:sq58_0.V):=F58_0 k m v.1.1 v.1.2.1 v.1.2.2.1 v.1.2.2.2.1 v.1.2.2.2.2.1 v.1.2.2.2.2.2.1 v.2.1 v.2.2.1 v.2.2.2.1
def fr58_0 (k:Nat):Frag:=⟨sq58_0,[(.exit 2,⟨[],[(0,.val KD13),(1,.val KD64),(2,.val KD60),(3,.val (.int .i64)),(9,.at 2000009 []),(10,.val (.int .i64)),(11,.ptr 11 []),(12,.at 29 [])],[(11,some 81,KD17),(29,none,KD76),(2000009,none,KD62)]⟩)],fu58_0 k k⟩
def F58_1 (k:Nat):Nat→TY36→(List (List Bool))→(List (List Int))→Int→Int→Int→TY39→(List Int)→(List (List Int))→Option ((TY26×((List Int)×(List (List Int))×Unit)))
 |0,_,_,_,_,_,_,_,_,_=>none
 |n+1,t0,t1,t2,t3,t10,t15,c11,c29,e0 =>
  let x17:=(decide (t15<(length c29:Int)))
  bif x17 then
  (F76 k c11 t1 t15 t3).bind fun r18 =>
  bif (!r18.1.1) then
  if 0≤t15∧t15<(length c29:Int) then
  let x19:=(List.set c29 (toNat t15) (1152921504606846976:Int))
  (F58_1 k n t0 t1 t2 t3 t10 (wrap .i64 (t15+(1:Int))) c11 x19 e0).bind some
  else none
  else
  (F58_1 k n t0 t1 t2 t3 t10 (wrap .i64 (t15+(1:Int))) c11 c29 e0).bind some
  else
  some ((t0,t1,t2,t3,t10,()),(c29,e0,()))
def sq58_1:Shape:=⟨[(9,KD62)],[(0,.val KD13),(1,.val KD64),(2,.val KD60),(3,.val (.int .i64)),(9,.at 2000009 []),(10,.val (.int .i64)),(11,.ptr 11 []),(12,.at 29 []),(15,.val (.int .i64))],[(11,some 81,KD17),(29,none,KD76),(2000009,none,KD62)]⟩
def fu58_1 (k m:Nat) (v:sq58_1.V):=F58_1 k m v.1.1 v.1.2.1 v.1.2.2.1 v.1.2.2.2.1 v.1.2.2.2.2.1 v.1.2.2.2.2.2.1 v.2.1 v.2.2.1 v.2.2.2.1
def fr58_1 (k:Nat):Frag:=⟨sq58_1,[(.exit 4,⟨[],[(0,.val KD13),(1,.val KD64),(2,.val KD60),(3,.val (.int .i64)),(9,.at 2000009 []),(10,.val (.int .i64)),(12,.at 29 [])],[(29,none,KD76),(2000009,none,KD62)]⟩)],fu58_1 k k⟩
def F58_2 (k:Nat):Nat→TY36→(List (List Bool))→(List (List Int))→Int→Int→(List (List Int))→Option ((Unit×((List (List Int))×Unit)))
 |0,_,_,_,_,_,_=>none
 |n+1,t0,t1,t2,t3,t10,e0 =>
  let x1:=(decide (t10<(length t0:Int)))
  bif x1 then
  if 0≤t10∧t10<(length t0:Int) then
  let x2:=(getD t0 (toNat t10) (([]:(List Int)),(([]:(List Int)),(([]:(List Int)),(([]:TY69),((0:Int),()))))))
  if (length (replicate 0 (0:Int))+length x2.2.1)*(8*2)≤281474976710656∧length (replicate 0 (0:Int))+length x2.2.1≤9223372036854775807 then
  (F58_0 k k t0 t1 t2 t3 t10 (0:Int) x2 ((replicate 0 (0:Int))++x2.2.1) e0).bind fun r8 =>
  (F58_1 k k r8.1.1 r8.1.2.1 r8.1.2.2.1 r8.1.2.2.2.1 r8.1.2.2.2.2.1 (0:Int) r8.2.1 r8.2.2.1 r8.2.2.2.1).bind fun r20 =>
  if (length r20.2.2.1+length [r20.2.1])*(24*2)≤281474976710656∧length r20.2.2.1+length [r20.2.1]≤9223372036854775807 then
  (F58_2 k n r20.1.1 r20.1.2.1 r20.1.2.2.1 r20.1.2.2.2.1 (wrap .i64 (r20.1.2.2.2.2.1+(1:Int))) (r20.2.2.1++[r20.2.1])).bind some
  else none
  else none
  else none
  else
  some ((),(e0,()))
def sq58_2:Shape:=⟨[(9,KD62)],[(0,.val KD13),(1,.val KD64),(2,.val KD60),(3,.val (.int .i64)),(9,.at 2000009 []),(10,.val (.int .i64))],[(2000009,none,KD62)]⟩
def fu58_2 (k m:Nat) (v:sq58_2.V):=F58_2 k m v.1.1 v.1.2.1 v.1.2.2.1 v.1.2.2.2.1 v.1.2.2.2.2.1 v.2.1
def fr58_2 (k:Nat):Frag:=⟨sq58_2,[(.exit 0,⟨[(9,KD62)],[(9,.at 2000009 [])],[(2000009,none,KD62)]⟩)],fu58_2 k k⟩
def F58 (k:Nat) (a0:TY36) (a1:(List (List Bool))) (a2:(List (List Int))) (a3:Int):Option TY70 :=
 (F58_2 k k a0 a1 a2 a3 (0:Int) []).bind fun r28 =>
 some ((r28.2.1,()),())
def sp58 (k:Nat):Spec:=⟨[.val KD13,.val KD64,.val KD60,.val (.int .i64)],[.own KD62],fun x=>F58 k x.1 x.2.1 x.2.2.1 x.2.2.2.1⟩
def lim58:Lim:=⟨83,4,false,false,[],[]⟩
def cfg58 (k:Nat):Nat→Option Spec:=cfgL [(34,sp34 k),(76,sp76 k)]
noncomputable def co58_0:Code:=codeAt (bodyOf Try.f58) [.r,.r,.l,.r,.s,.b,.r,.l,.s,.r,.r,.l,.r,.s]
noncomputable def cb58_0:Code:=codeAt (bodyOf Try.f58) [.r,.r,.l,.r,.s,.b,.r,.l,.s,.r,.r,.l,.r,.s,.b]
noncomputable def co58_1:Code:=codeAt (bodyOf Try.f58) [.r,.r,.l,.r,.s,.b,.r,.l,.s,.r,.r,.r,.l,.r,.s]
noncomputable def cb58_1:Code:=codeAt (bodyOf Try.f58) [.r,.r,.l,.r,.s,.b,.r,.l,.s,.r,.r,.r,.l,.r,.s,.b]
noncomputable def co58_2:Code:=codeAt (bodyOf Try.f58) [.r,.r,.l,.r,.s]
noncomputable def cb58_2:Code:=codeAt (bodyOf Try.f58) [.r,.r,.l,.r,.s,.b]
noncomputable def co58:Code:=codeAt (bodyOf Try.f58) []
theorem cfg58_ok (k:Nat):CfgOK Try.prog (cfg58 k):=cfgL_cons (v34 k) (cfgL_cons (v76 k) (cfgL_nil))
noncomputable def bo58_0 (k m:Nat) (v:sq58_0.V):=body Try.prog (stepper Try.prog (cfg58 k) lim58) .go cb58_0 (sq58_0.st v) (loopK (fr58_0 k) (fu58_0 k m))
theorem pp58_0 (k m:Nat) (v:sq58_0.V):fu58_0 k (m+1) v=(bo58_0 k m v).eval∧(bo58_0 k m v).left=(bo58_0 k m v).right:=⟨by kernel_rfl,by kernel_rfl⟩
theorem fr58_0_ok (k:Nat):FragOK Try.prog lim58 (fr58_0 k) co58_0 :=
 frag_cast (by kernel_rfl) (loop_ok (cfg58_ok k) (planOK_go _) (fu58_0 k) k (fun _=>rfl) (fun _=>rfl) (pp58_0 k))
noncomputable def bo58_1 (k m:Nat) (v:sq58_1.V):=body Try.prog (stepper Try.prog (cfg58 k) lim58) .go cb58_1 (sq58_1.st v) (loopK (fr58_1 k) (fu58_1 k m))
theorem pp58_1 (k m:Nat) (v:sq58_1.V):fu58_1 k (m+1) v=(bo58_1 k m v).eval∧(bo58_1 k m v).left=(bo58_1 k m v).right:=⟨by kernel_rfl,by kernel_rfl⟩
theorem fr58_1_ok (k:Nat):FragOK Try.prog lim58 (fr58_1 k) co58_1 :=
 frag_cast (by kernel_rfl) (loop_ok (cfg58_ok k) (planOK_go _) (fu58_1 k) k (fun _=>rfl) (fun _=>rfl) (pp58_1 k))
def pl58_2 (k:Nat):Plan:=(.seq .go (.seq (.sub (.seq .go (.seq .go (.seq (.seq .go (.sub (.frag (fr58_0 k)))) (.seq (.seq .go (.sub (.frag (fr58_1 k)))) .go))))) .go))
noncomputable def bo58_2 (k m:Nat) (v:sq58_2.V):=body Try.prog (stepper Try.prog (cfg58 k) lim58) (pl58_2 k) cb58_2 (sq58_2.st v) (loopK (fr58_2 k) (fu58_2 k m))
theorem pp58_2 (k m:Nat) (v:sq58_2.V):fu58_2 k (m+1) v=(bo58_2 k m v).eval∧(bo58_2 k m v).left=(bo58_2 k m v).right:=⟨by kernel_rfl,by kernel_rfl⟩
theorem fr58_2_ok (k:Nat):FragOK Try.prog lim58 (fr58_2 k) co58_2 :=
 frag_cast (by kernel_rfl) (loop_ok (cfg58_ok k) (plan_of (L:=[(fr58_0 k,co58_0),(fr58_1 k,co58_1)]) (by kernel_rfl) (.cons (fr58_0_ok k) (.cons (fr58_1_ok k) .nil))) (fu58_2 k) k (fun _=>rfl) (fun _=>rfl) (pp58_2 k))
def pl58 (k:Nat):Plan:=(.seq .go (.seq .go (.seq (.seq .go (.sub (.frag (fr58_2 k)))) .go)))
noncomputable def bo58 (k:Nat) (x:AT (sp58 k).ps):=fnT Try.prog (cfg58 k) lim58 Try.f58 (bodyOf Try.f58) (pl58 k) (sp58 k) x
theorem vv58 (k:Nat) (x:AT (sp58 k).ps):(sp58 k).impl x=(bo58 k x).eval∧(bo58 k x).left=(bo58 k x).right:=⟨by kernel_rfl,by kernel_rfl⟩
theorem v58 (k:Nat):Callable Try.prog 58∧Valid Try.prog 58 (sp58 k) :=
 fn_of (n:=lim58) (fn:=Try.f58) (p:=(pl58 k)) (cfg58_ok k) (by kernel_rfl) (plan_of (L:=[(fr58_2 k,co58_2)]) (by kernel_rfl) (.cons (fr58_2_ok k) .nil)) (vv58 k)
def F32_0 (k:Nat):Nat→(List Int)→(List Int)→Int→Option ((Unit×Unit)⊕TY85)
 |0,_,_,_=>none
 |n+1,t0,t1,t5 =>
  let x4:=(decide (t5<(length t0:Int)))
  bif x4 then
  if 0≤t5∧t5<(length t0:Int) then
  if 0≤t5∧t5<(length t1:Int) then
  let x5:=((getD t0 (toNat t5) (0:Int)) != (getD t1 (toNat t5) (0:Int)))
  bif x5 then
  some (.inr ((false,()),()))
  else
  (F32_0 k n t0 t1 (wrap .i64 (t5+(1:Int)))).bind some
  else none
  else none
  else
  some (.inl ((),()))
def sq32_0:Shape:=⟨[],[(0,.val KD74),(1,.val KD74),(5,.val (.int .i64))],[]⟩
def fu32_0 (k m:Nat) (v:sq32_0.V):=F32_0 k m v.1.1 v.1.2.1 v.1.2.2.1
def fr32_0 (k:Nat):Frag:=⟨sq32_0,[(.exit 0,⟨[],[],[]⟩),(.ret,⟨[],[(4,.val .bool)],[]⟩)],fu32_0 k k⟩
def F32 (k:Nat) (a0:(List Int)) (a1:(List Int)):Option TY85 :=
 let x1:=((length a0:Int) != (length a1:Int))
 bif x1 then
 some ((false,()),())
 else
 (F32_0 k k a0 a1 (0:Int)).bind fun r6 =>
 match r6 with
 |.inl r7 =>
  some ((true,()),())
 |.inr r7 =>
  some ((r7.1.1,()),())
def sp32 (k:Nat):Spec:=⟨[.val KD74,.val KD74],[.val .bool],fun x=>F32 k x.1 x.2.1⟩
def lim32:Lim:=⟨26,2,false,false,[],[]⟩
def cfg32 (k:Nat):Nat→Option Spec:=cfgL []
noncomputable def co32_0:Code:=codeAt (bodyOf Try.f32) [.r,.r,.l,.r,.s]
noncomputable def cb32_0:Code:=codeAt (bodyOf Try.f32) [.r,.r,.l,.r,.s,.b]
noncomputable def co32:Code:=codeAt (bodyOf Try.f32) []
theorem cfg32_ok (k:Nat):CfgOK Try.prog (cfg32 k):=cfgL_nil
noncomputable def bo32_0 (k m:Nat) (v:sq32_0.V):=body Try.prog (stepper Try.prog (cfg32 k) lim32) .go cb32_0 (sq32_0.st v) (loopK (fr32_0 k) (fu32_0 k m))
theorem pp32_0 (k m:Nat) (v:sq32_0.V):fu32_0 k (m+1) v=(bo32_0 k m v).eval∧(bo32_0 k m v).left=(bo32_0 k m v).right:=⟨by kernel_rfl,by kernel_rfl⟩
theorem fr32_0_ok (k:Nat):FragOK Try.prog lim32 (fr32_0 k) co32_0 :=
 frag_cast (by kernel_rfl) (loop_ok (cfg32_ok k) (planOK_go _) (fu32_0 k) k (fun _=>rfl) (fun _=>rfl) (pp32_0 k))
def pl32 (k:Nat):Plan:=(.seq .go (.seq .go (.seq (.seq .go (.sub (.frag (fr32_0 k)))) .go)))
noncomputable def bo32 (k:Nat) (x:AT (sp32 k).ps):=fnT Try.prog (cfg32 k) lim32 Try.f32 (bodyOf Try.f32) (pl32 k) (sp32 k) x
theorem vv32 (k:Nat) (x:AT (sp32 k).ps):(sp32 k).impl x=(bo32 k x).eval∧(bo32 k x).left=(bo32 k x).right:=⟨by kernel_rfl,by kernel_rfl⟩
theorem v32 (k:Nat):Callable Try.prog 32∧Valid Try.prog 32 (sp32 k) :=
 fn_of (n:=lim32) (fn:=Try.f32) (p:=(pl32 k)) (cfg32_ok k) (by kernel_rfl) (plan_of (L:=[(fr32_0 k,co32_0)]) (by kernel_rfl) (.cons (fr32_0_ok k) .nil)) (vv32 k)
def F59_0 (k:Nat):Nat→(List (List Int))→(List (List Int))→Int→Option ((Unit×Unit)⊕TY85)
 |0,_,_,_=>none
 |n+1,t0,t1,t5 =>
  let x5:=(decide (t5<(length t0:Int)))
  bif x5 then
  if 0≤t5∧t5<(length t0:Int) then
  let x6:=(getD t0 (toNat t5) ([]:(List Int)))
  if 0≤t5∧t5<(length t1:Int) then
  let x7:=(getD t1 (toNat t5) ([]:(List Int)))
  (F32 k x6 x7).bind fun r8 =>
  bif (!r8.1.1) then
  some (.inr ((false,()),()))
  else
  (F59_0 k n t0 t1 (wrap .i64 (t5+(1:Int)))).bind some
  else none
  else none
  else
  some (.inl ((),()))
def sq59_0:Shape:=⟨[],[(0,.val KD60),(1,.val KD60),(5,.val (.int .i64))],[]⟩
def fu59_0 (k m:Nat) (v:sq59_0.V):=F59_0 k m v.1.1 v.1.2.1 v.1.2.2.1
def fr59_0 (k:Nat):Frag:=⟨sq59_0,[(.exit 0,⟨[],[],[]⟩),(.ret,⟨[],[(4,.val .bool)],[]⟩)],fu59_0 k k⟩
def F59 (k:Nat) (a0:(List (List Int))) (a1:(List (List Int))):Option TY85 :=
 (F59_0 k k a0 a1 (0:Int)).bind fun r9 =>
 match r9 with
 |.inl r10 =>
  some ((true,()),())
 |.inr r10 =>
  some ((r10.1.1,()),())
def sp59 (k:Nat):Spec:=⟨[.val KD60,.val KD60],[.val .bool],fun x=>F59 k x.1 x.2.1⟩
def lim59:Lim:=⟨22,2,false,false,[],[]⟩
def cfg59 (k:Nat):Nat→Option Spec:=cfgL [(32,sp32 k)]
noncomputable def co59_0:Code:=codeAt (bodyOf Try.f59) [.r,.l,.r,.s]
noncomputable def cb59_0:Code:=codeAt (bodyOf Try.f59) [.r,.l,.r,.s,.b]
noncomputable def co59:Code:=codeAt (bodyOf Try.f59) []
theorem cfg59_ok (k:Nat):CfgOK Try.prog (cfg59 k):=cfgL_cons (v32 k) (cfgL_nil)
noncomputable def bo59_0 (k m:Nat) (v:sq59_0.V):=body Try.prog (stepper Try.prog (cfg59 k) lim59) .go cb59_0 (sq59_0.st v) (loopK (fr59_0 k) (fu59_0 k m))
theorem pp59_0 (k m:Nat) (v:sq59_0.V):fu59_0 k (m+1) v=(bo59_0 k m v).eval∧(bo59_0 k m v).left=(bo59_0 k m v).right:=⟨by kernel_rfl,by kernel_rfl⟩
theorem fr59_0_ok (k:Nat):FragOK Try.prog lim59 (fr59_0 k) co59_0 :=
 frag_cast (by kernel_rfl) (loop_ok (cfg59_ok k) (planOK_go _) (fu59_0 k) k (fun _=>rfl) (fun _=>rfl) (pp59_0 k))
def pl59 (k:Nat):Plan:=(.seq .go (.seq (.seq .go (.sub (.frag (fr59_0 k)))) .go))
noncomputable def bo59 (k:Nat) (x:AT (sp59 k).ps):=fnT Try.prog (cfg59 k) lim59 Try.f59 (bodyOf Try.f59) (pl59 k) (sp59 k) x
theorem vv59 (k:Nat) (x:AT (sp59 k).ps):(sp59 k).impl x=(bo59 k x).eval∧(bo59 k x).left=(bo59 k x).right:=⟨by kernel_rfl,by kernel_rfl⟩
theorem v59 (k:Nat):Callable Try.prog 59∧Valid Try.prog 59 (sp59 k) :=
 fn_of (n:=lim59) (fn:=Try.f59) (p:=(pl59 k)) (cfg59_ok k) (by kernel_rfl) (plan_of (L:=[(fr59_0 k,co59_0)]) (by kernel_rfl) (.cons (fr59_0_ok k) .nil)) (vv59 k)
def F60_0 (k:Nat):Nat→TY27→TY36→(List (List Int))→(List Bool)→Int→Int→Int→(List Int)→(List Int)→Option (((TY27×TY36×(List (List Int))×(List Bool)×Int×Int×Unit)×((List Int)×(List Int)×Unit)))
 |0,_,_,_,_,_,_,_,_,_=>none
 |n+1,t0,t1,t2,t3,t10,t11,t12,c8,c9 =>
  if 0≤t10∧t10<(length t2:Int) then
  let x10:=(getD t2 (toNat t10) ([]:(List Int)))
  let x11:=(decide (t12<(length x10:Int)))
  bif x11 then
  if 0≤t10∧t10<(length t2:Int) then
  let x12:=(getD t2 (toNat t10) ([]:(List Int)))
  if 0≤t12∧t12<(length x12:Int) then
  if 0≤t10∧t10<(length t1:Int) then
  let x13:=(getD t1 (toNat t10) (([]:(List Int)),(([]:(List Int)),(([]:(List Int)),(([]:TY69),((0:Int),()))))))
  if 0≤t12∧t12<(length x13.2.2.1:Int) then
  let x14:=(getD x13.2.2.1 (toNat t12) (0:Int))
  (F34 k (getD x12 (toNat t12) (0:Int)) x14).bind fun r15 =>
  (F60_0 k n t0 t1 t2 t3 t10 (minI t11 r15.1.1) (wrap .i64 (t12+(1:Int))) c8 c9).bind some
  else none
  else none
  else none
  else none
  else
  some ((t0,t1,t2,t3,t10,t11,()),(c8,c9,()))
  else none
def sq60_0:Shape:=⟨[],[(0,.val KD12),(1,.val KD13),(2,.val KD60),(3,.val KD82),(8,.ptr 8 []),(9,.ptr 9 []),(10,.val (.int .i64)),(11,.val (.int .i64)),(12,.val (.int .i64))],[(8,some 69,(.arr 3 (.int .i64))),(9,some 69,(.arr 3 (.int .i64)))]⟩
def fu60_0 (k m:Nat) (v:sq60_0.V):=F60_0 k m v.1.1 v.1.2.1 v.1.2.2.1 v.1.2.2.2.1 v.1.2.2.2.2.1 v.1.2.2.2.2.2.1 v.1.2.2.2.2.2.2.1 v.2.1 v.2.2.1
def fr60_0 (k:Nat):Frag:=⟨sq60_0,[(.exit 2,⟨[],[(0,.val KD12),(1,.val KD13),(2,.val KD60),(3,.val KD82),(8,.ptr 8 []),(9,.ptr 9 []),(10,.val (.int .i64)),(11,.val (.int .i64))],[(8,some 69,(.arr 3 (.int .i64))),(9,some 69,(.arr 3 (.int .i64)))]⟩)],fu60_0 k k⟩
def F60_1 (k:Nat):Nat→TY27→TY36→(List (List Int))→(List Bool)→Int→(List Int)→(List Int)→Option TY65
 |0,_,_,_,_,_,_,_=>none
 |n+1,t0,t1,t2,t3,t10,c8,c9 =>
  let x30:=(decide (t10<(length t0:Int)))
  bif x30 then
  if 0≤t10∧t10<(length t3:Int) then
  bif (!(getD t3 (toNat t10) false)) then
  (F60_1 k n t0 t1 t2 t3 (wrap .i64 (t10+(1:Int))) c8 c9).bind some
  else
  if 0≤t10∧t10<(length t1:Int) then
  let x31:=(getD t1 (toNat t10) (([]:(List Int)),(([]:(List Int)),(([]:(List Int)),(([]:TY69),((0:Int),()))))))
  (F60_0 k k t0 t1 t2 t3 t10 x31.2.2.2.2.1 (0:Int) c8 c9).bind fun r32 =>
  let y33:=r32.1.1
  let y37:=r32.1.2.2.2.2.1
  if 0≤y37∧y37<(length y33:Int) then
  let x41:=(getD y33 (toNat y37) ((0:Int),((0:Int),((Tree.mk ((0:Int),((0:Int),((0:Int),((0:Int),(ByteArray.empty,()))))) []),((Tree.mk ((0:Int),((0:Int),((0:Int),((0:Int),(ByteArray.empty,()))))) []),())))))
  if 0≤y37∧y37<(length y33:Int) then
  let x42:=(getD y33 (toNat y37) ((0:Int),((0:Int),((Tree.mk ((0:Int),((0:Int),((0:Int),((0:Int),(ByteArray.empty,()))))) []),((Tree.mk ((0:Int),((0:Int),((0:Int),((0:Int),(ByteArray.empty,()))))) []),())))))
  if 0≤x42.1∧x42.1<((3:Nat):Int) then
  if 0≤y37∧y37<(length y33:Int) then
  let x43:=(getD y33 (toNat y37) ((0:Int),((0:Int),((Tree.mk ((0:Int),((0:Int),((0:Int),((0:Int),(ByteArray.empty,()))))) []),((Tree.mk ((0:Int),((0:Int),((0:Int),((0:Int),(ByteArray.empty,()))))) []),())))))
  (F34 k x43.2.1 r32.1.2.2.2.2.2.1).bind fun r44 =>
  let x45:=(minI (getD r32.2.2.1 (toNat x42.1) (0:Int)) r44.1.1)
  if 0≤x41.1∧x41.1<((3:Nat):Int) then
  (F60_1 k n y33 r32.1.2.1 r32.1.2.2.1 r32.1.2.2.2.1 (wrap .i64 (y37+(1:Int))) r32.2.1 (List.set r32.2.2.1 (toNat x41.1) x45)).bind some
  else none
  else none
  else none
  else none
  else none
  else none
  else none
  else
  some ((),(c8,c9,()))
def sq60_1:Shape:=⟨[],[(0,.val KD12),(1,.val KD13),(2,.val KD60),(3,.val KD82),(8,.ptr 8 []),(9,.ptr 9 []),(10,.val (.int .i64))],[(8,some 69,(.arr 3 (.int .i64))),(9,some 69,(.arr 3 (.int .i64)))]⟩
def fu60_1 (k m:Nat) (v:sq60_1.V):=F60_1 k m v.1.1 v.1.2.1 v.1.2.2.1 v.1.2.2.2.1 v.1.2.2.2.2.1 v.2.1 v.2.2.1
def fr60_1 (k:Nat):Frag:=⟨sq60_1,[(.exit 0,⟨[],[(8,.ptr 8 []),(9,.ptr 9 [])],[(8,some 69,(.arr 3 (.int .i64))),(9,some 69,(.arr 3 (.int .i64)))]⟩)],fu60_1 k k⟩
def F60 (k:Nat) (a0:TY27) (a1:TY36) (a2:(List (List Int))) (a3:(List Bool)):Option TY77 :=
 (F30 k).bind fun r1 =>
 (F60_1 k k a0 a1 a2 a3 (0:Int) (replicate 3 (0:Int)) r1.1.1).bind fun r46 =>
 some ((r46.2.2.1,()),())
def sp60 (k:Nat):Spec:=⟨[.val KD12,.val KD13,.val KD60,.val KD82],[.val (.arr 3 (.int .i64))],fun x=>F60 k x.1 x.2.1 x.2.2.1 x.2.2.2.1⟩
def lim60:Lim:=⟨79,4,false,false,[],[]⟩
def cfg60 (k:Nat):Nat→Option Spec:=cfgL [(30,sp30 k),(34,sp34 k)]
noncomputable def co60_0:Code:=codeAt (bodyOf Try.f60) [.r,.r,.l,.r,.s,.b,.r,.l,.s,.r,.r,.l,.r,.s]
noncomputable def cb60_0:Code:=codeAt (bodyOf Try.f60) [.r,.r,.l,.r,.s,.b,.r,.l,.s,.r,.r,.l,.r,.s,.b]
noncomputable def co60_1:Code:=codeAt (bodyOf Try.f60) [.r,.r,.l,.r,.s]
noncomputable def cb60_1:Code:=codeAt (bodyOf Try.f60) [.r,.r,.l,.r,.s,.b]
noncomputable def co60:Code:=codeAt (bodyOf Try.f60) []
theorem cfg60_ok (k:Nat):CfgOK Try.prog (cfg60 k):=cfgL_cons (v30 k) (cfgL_cons (v34 k) (cfgL_nil))
noncomputable def bo60_0 (k m:Nat) (v:sq60_0.V):=body Try.prog (stepper Try.prog (cfg60 k) lim60) .go cb60_0 (sq60_0.st v) (loopK (fr60_0 k) (fu60_0 k m))
theorem pp60_0 (k m:Nat) (v:sq60_0.V):fu60_0 k (m+1) v=(bo60_0 k m v).eval∧(bo60_0 k m v).left=(bo60_0 k m v).right:=⟨by kernel_rfl,by kernel_rfl⟩
theorem fr60_0_ok (k:Nat):FragOK Try.prog lim60 (fr60_0 k) co60_0 :=
 frag_cast (by kernel_rfl) (loop_ok (cfg60_ok k) (planOK_go _) (fu60_0 k) k (fun _=>rfl) (fun _=>rfl) (pp60_0 k))
def pl60_1 (k:Nat):Plan:=(.seq .go (.seq (.sub (.seq .go (.seq .go (.seq (.seq .go (.sub (.frag (fr60_0 k)))) .go)))) .go))
noncomputable def bo60_1 (k m:Nat) (v:sq60_1.V):=body Try.prog (stepper Try.prog (cfg60 k) lim60) (pl60_1 k) cb60_1 (sq60_1.st v) (loopK (fr60_1 k) (fu60_1 k m))
theorem pp60_1 (k m:Nat) (v:sq60_1.V):fu60_1 k (m+1) v=(bo60_1 k m v).eval∧(bo60_1 k m v).left=(bo60_1 k m v).right:=⟨by kernel_rfl,by kernel_rfl⟩
theorem fr60_1_ok (k:Nat):FragOK Try.prog lim60 (fr60_1 k) co60_1 :=
 frag_cast (by kernel_rfl) (loop_ok (cfg60_ok k) (plan_of (L:=[(fr60_0 k,co60_0)]) (by kernel_rfl) (.cons (fr60_0_ok k) .nil)) (fu60_1 k) k (fun _=>rfl) (fun _=>rfl) (pp60_1 k))
def pl60 (k:Nat):Plan:=(.seq .go (.seq .go (.seq (.seq .go (.sub (.frag (fr60_1 k)))) .go)))
noncomputable def bo60 (k:Nat) (x:AT (sp60 k).ps):=fnT Try.prog (cfg60 k) lim60 Try.f60 (bodyOf Try.f60) (pl60 k) (sp60 k) x
theorem vv60 (k:Nat) (x:AT (sp60 k).ps):(sp60 k).impl x=(bo60 k x).eval∧(bo60 k x).left=(bo60 k x).right:=⟨by kernel_rfl,by kernel_rfl⟩
theorem v60 (k:Nat):Callable Try.prog 60∧Valid Try.prog 60 (sp60 k) :=
 fn_of (n:=lim60) (fn:=Try.f60) (p:=(pl60 k)) (cfg60_ok k) (by kernel_rfl) (plan_of (L:=[(fr60_1 k,co60_1)]) (by kernel_rfl) (.cons (fr60_1_ok k) .nil)) (vv60 k)
def F20_0 (k:Nat):Nat→TY27→TY36→(List (List Bool))→Int→(List (List Bool))→Int→Int→Int→TY58→(List (List Int))→(List Int)→Option (((TY27×TY36×(List (List Bool))×Int×(List (List Bool))×Int×Int×Unit)×(TY58×(List (List Int))×(List Int)×Unit)))
 |0,_,_,_,_,_,_,_,_,_,_,_=>none
 |n+1,t0,t1,t2,t3,t4,t5,t15,t17,c12,e0,e1 =>
  if 0≤t15∧t15<(length t1:Int) then
  let x2:=(getD t1 (toNat t15) (([]:(List Int)),(([]:(List Int)),(([]:(List Int)),(([]:TY69),((0:Int),()))))))
  let x3:=(decide (t17<(length x2.1:Int)))
  bif x3 then
  let x4:=(List.set (replicate 1 (0:Int)) 0 (1152921504606846976:Int))
  if (length e1+length x4)*(8*2)≤281474976710656∧length e1+length x4≤9223372036854775807 then
  (F20_0 k n t0 t1 t2 t3 t4 t5 t15 (wrap .i64 (t17+(1:Int))) c12 e0 (e1++x4)).bind some
  else none
  else
  some ((t0,t1,t2,t3,t4,t5,t15,()),(c12,e0,e1,()))
  else none
def sq20_0:Shape:=⟨[(14,KD62),(16,KD76)],[(0,.val KD12),(1,.val KD13),(2,.val KD64),(3,.val (.int .i64)),(4,.val KD64),(5,.val (.int .i64)),(12,.ptr 12 []),(14,.at 2000014 []),(15,.val (.int .i64)),(16,.at 2000016 []),(17,.val (.int .i64))],[(12,some 45,(.pair KD62 (.pair (.sl true 56 (.sl true 69 (.arr 3 (.int .i64)) none) none) .unit))),(2000014,none,KD62),(2000016,none,KD76)]⟩
def fu20_0 (k m:Nat) (v:sq20_0.V):=F20_0 k m v.1.1 v.1.2.1 v.1.2.2.1 v.1.2.2.2.1 v.1.2.2.2.2.1 v.1.2.2.2.2.2.1 v.1.2.2.2.2.2.2.1 v.1.2.2.2.2.2.2.2.1 v.2.1 v.2.2.1 v.2.2.2.1
def fr20_0 (k:Nat):Frag:=⟨sq20_0,[(.exit 2,⟨[],[(0,.val KD12),(1,.val KD13),(2,.val KD64),(3,.val (.int .i64)),(4,.val KD64),(5,.val (.int .i64)),(12,.ptr 12 []),(14,.at 2000014 []),(15,.val (.int .i64)),(16,.at 2000016 [])],[(12,some 45,(.pair KD62 (.pair (.sl true 56 (.sl true 69 (.arr 3 (.int .i64)) none) none) .unit))),(2000014,none,KD62),(2000016,none,KD76)]⟩)],fu20_0 k k⟩
def F20_1 (k:Nat):Nat→TY27→TY36→(List (List Bool))→Int→(List (List Bool))→Int→Int→TY58→(List (List Int))→Option (((TY27×TY36×(List (List Bool))×Int×(List (List Bool))×Int×Unit)×(TY58×(List (List Int))×Unit)))
 |0,_,_,_,_,_,_,_,_,_=>none
 |n+1,t0,t1,t2,t3,t4,t5,t15,c12,e0 =>
  let x1:=(decide (t15<(length t1:Int)))
  bif x1 then
  (F20_0 k k t0 t1 t2 t3 t4 t5 t15 (0:Int) c12 e0 []).bind fun r5 =>
  if (length r5.2.2.1+length [r5.2.2.2.1])*(24*2)≤281474976710656∧length r5.2.2.1+length [r5.2.2.2.1]≤9223372036854775807 then
  (F20_1 k n r5.1.1 r5.1.2.1 r5.1.2.2.1 r5.1.2.2.2.1 r5.1.2.2.2.2.1 r5.1.2.2.2.2.2.1 (wrap .i64 (r5.1.2.2.2.2.2.2.1+(1:Int))) r5.2.1 (r5.2.2.1++[r5.2.2.2.1])).bind some
  else none
  else
  some ((t0,t1,t2,t3,t4,t5,()),(c12,e0,()))
def sq20_1:Shape:=⟨[(14,KD62)],[(0,.val KD12),(1,.val KD13),(2,.val KD64),(3,.val (.int .i64)),(4,.val KD64),(5,.val (.int .i64)),(12,.ptr 12 []),(14,.at 2000014 []),(15,.val (.int .i64))],[(12,some 45,(.pair KD62 (.pair (.sl true 56 (.sl true 69 (.arr 3 (.int .i64)) none) none) .unit))),(2000014,none,KD62)]⟩
def fu20_1 (k m:Nat) (v:sq20_1.V):=F20_1 k m v.1.1 v.1.2.1 v.1.2.2.1 v.1.2.2.2.1 v.1.2.2.2.2.1 v.1.2.2.2.2.2.1 v.1.2.2.2.2.2.2.1 v.2.1 v.2.2.1
def fr20_1 (k:Nat):Frag:=⟨sq20_1,[(.exit 0,⟨[(14,KD62)],[(0,.val KD12),(1,.val KD13),(2,.val KD64),(3,.val (.int .i64)),(4,.val KD64),(5,.val (.int .i64)),(12,.ptr 12 []),(14,.at 2000014 [])],[(12,some 45,(.pair KD62 (.pair (.sl true 56 (.sl true 69 (.arr 3 (.int .i64)) none) none) .unit))),(2000014,none,KD62)]⟩)],fu20_1 k k⟩
def F20_2 (k:Nat):Nat→TY27→TY36→(List (List Bool))→Int→(List (List Bool))→Int→Int→Int→Int→Int→Bool→TY58→TY58→(List (List Int))→(List (List (List Int)))→(List Int)→Option (((TY27×TY36×(List (List Bool))×Int×(List (List Bool))×Int×Int×Int×Int×Int×Bool×Unit)×(TY58×TY58×(List (List Int))×(List (List (List Int)))×(List Int)×Unit)))
 |0,_,_,_,_,_,_,_,_,_,_,_,_,_,_,_,_=>none
 |n+1,t0,t1,t2,t3,t4,t5,t20,t22,t24,t64,t65,c12,c19,e0,e1,e2 =>
  let x29:=(decide (t24<(length e1:Int)))
  bif x29 then
  if 0≤t24∧t24<(length e1:Int) then
  (F59 k (getD e1 (toNat t24) ([]:(List (List Int)))) e0).bind fun r30 =>
  bif (!r30.1.1) then
  (F20_2 k n t0 t1 t2 t3 t4 t5 t20 t22 (wrap .i64 (t24+(1:Int))) t64 t65 c12 c19 e0 e1 e2).bind some
  else
  some ((t0,t1,t2,t3,t4,t5,t20,t22,t24,t64,t65,()),(c12,c19,e0,e1,e2,()))
  else none
  else
  some ((t0,t1,t2,t3,t4,t5,t20,t22,t24,t64,t65,()),(c12,c19,e0,e1,e2,()))
def sq20_2:Shape:=⟨[(18,KD50),(21,KD76)],[(0,.val KD12),(1,.val KD13),(2,.val KD64),(3,.val (.int .i64)),(4,.val KD64),(5,.val (.int .i64)),(12,.ptr 12 []),(18,.at 2000018 []),(19,.ptr 19 []),(20,.val (.int .i64)),(21,.at 2000021 []),(22,.val (.int .i64)),(23,.at 1001280 []),(24,.val (.int .i64)),(64,.val (.int .i64)),(65,.val .bool)],[(12,some 45,(.pair KD62 (.pair (.sl true 56 (.sl true 69 (.arr 3 (.int .i64)) none) none) .unit))),(19,some 45,(.pair KD62 (.pair (.sl true 56 (.sl true 69 (.arr 3 (.int .i64)) none) none) .unit))),(1001280,none,KD62),(2000018,none,KD50),(2000021,none,KD76)]⟩
def fu20_2 (k m:Nat) (v:sq20_2.V):=F20_2 k m v.1.1 v.1.2.1 v.1.2.2.1 v.1.2.2.2.1 v.1.2.2.2.2.1 v.1.2.2.2.2.2.1 v.1.2.2.2.2.2.2.1 v.1.2.2.2.2.2.2.2.1 v.1.2.2.2.2.2.2.2.2.1 v.1.2.2.2.2.2.2.2.2.2.1 v.1.2.2.2.2.2.2.2.2.2.2.1 v.2.1 v.2.2.1 v.2.2.2.1 v.2.2.2.2.1 v.2.2.2.2.2.1
def fr20_2 (k:Nat):Frag:=⟨sq20_2,[(.exit 8,⟨[],[(0,.val KD12),(1,.val KD13),(2,.val KD64),(3,.val (.int .i64)),(4,.val KD64),(5,.val (.int .i64)),(12,.ptr 12 []),(18,.at 2000018 []),(19,.ptr 19 []),(20,.val (.int .i64)),(21,.at 2000021 []),(22,.val (.int .i64)),(23,.at 1001280 []),(24,.val (.int .i64)),(64,.val (.int .i64)),(65,.val .bool)],[(12,some 45,(.pair KD62 (.pair (.sl true 56 (.sl true 69 (.arr 3 (.int .i64)) none) none) .unit))),(19,some 45,(.pair KD62 (.pair (.sl true 56 (.sl true 69 (.arr 3 (.int .i64)) none) none) .unit))),(1001280,none,KD62),(2000018,none,KD50),(2000021,none,KD76)]⟩)],fu20_2 k k⟩
def F20_3 (k:Nat):Nat→TY27→TY36→(List (List Bool))→Int→(List (List Bool))→Int→Int→Int→Int→Bool→TY58→TY58→(List (List (List Int)))→(List Int)→Option ((TY11×(TY58×TY58×(List (List (List Int)))×(List Int)×Unit)))
 |0,_,_,_,_,_,_,_,_,_,_,_,_,_,_=>none
 |n+1,t0,t1,t2,t3,t4,t5,t20,t22,t64,t65,c12,c19,e0,e1 =>
  bif (decide (t22<t3)) then
  if 0≤t20∧t20<(length e0:Int) then
  (F58 k t1 t2 (getD e0 (toNat t20) ([]:(List (List Int)))) t22).bind fun r28 =>
  (F20_2 k k t0 t1 t2 t3 t4 t5 t20 t22 (0:Int) t64 t65 c12 c19 r28.1.1 e0 e1).bind fun r31 =>
  let y39:=r31.1.2.2.2.2.2.2.2.1
  let y40:=r31.1.2.2.2.2.2.2.2.2.1
  let y41:=r31.1.2.2.2.2.2.2.2.2.2.1
  let y42:=r31.1.2.2.2.2.2.2.2.2.2.2.1
  let y46:=r31.2.2.2.2.1
  let y47:=r31.2.2.2.2.2.1
  bif (y40==(length y46:Int)) then
  if (length y46+length [r31.2.2.2.1])*(24*2)≤281474976710656∧length y46+length [r31.2.2.2.1]≤9223372036854775807 then
  let x48:=(List.set (replicate 1 (0:Int)) 0 y40)
  if (length y47+length x48)*(8*2)≤281474976710656∧length y47+length x48≤9223372036854775807 then
  (F20_3 k n r31.1.1 r31.1.2.1 r31.1.2.2.1 r31.1.2.2.2.1 r31.1.2.2.2.2.1 r31.1.2.2.2.2.2.1 r31.1.2.2.2.2.2.2.1 (wrap .i64 (y39+(1:Int))) y41 y42 r31.2.1 r31.2.2.1 (y46++[r31.2.2.2.1]) (y47++x48)).bind some
  else none
  else none
  else
  let x49:=(List.set (replicate 1 (0:Int)) 0 y40)
  if (length y47+length x49)*(8*2)≤281474976710656∧length y47+length x49≤9223372036854775807 then
  (F20_3 k n r31.1.1 r31.1.2.1 r31.1.2.2.1 r31.1.2.2.2.1 r31.1.2.2.2.2.1 r31.1.2.2.2.2.2.1 r31.1.2.2.2.2.2.2.1 (wrap .i64 (y39+(1:Int))) y41 y42 r31.2.1 r31.2.2.1 y46 (y47++x49)).bind some
  else none
  else none
  else
  some ((t0,t1,t2,t3,t4,t5,t20,t64,t65,()),(c12,c19,e0,e1,()))
def sq20_3:Shape:=⟨[(18,KD50),(21,KD76)],[(0,.val KD12),(1,.val KD13),(2,.val KD64),(3,.val (.int .i64)),(4,.val KD64),(5,.val (.int .i64)),(12,.ptr 12 []),(18,.at 2000018 []),(19,.ptr 19 []),(20,.val (.int .i64)),(21,.at 2000021 []),(22,.val (.int .i64)),(64,.val (.int .i64)),(65,.val .bool)],[(12,some 45,(.pair KD62 (.pair (.sl true 56 (.sl true 69 (.arr 3 (.int .i64)) none) none) .unit))),(19,some 45,(.pair KD62 (.pair (.sl true 56 (.sl true 69 (.arr 3 (.int .i64)) none) none) .unit))),(2000018,none,KD50),(2000021,none,KD76)]⟩
def fu20_3 (k m:Nat) (v:sq20_3.V):=F20_3 k m v.1.1 v.1.2.1 v.1.2.2.1 v.1.2.2.2.1 v.1.2.2.2.2.1 v.1.2.2.2.2.2.1 v.1.2.2.2.2.2.2.1 v.1.2.2.2.2.2.2.2.1 v.1.2.2.2.2.2.2.2.2.1 v.1.2.2.2.2.2.2.2.2.2.1 v.2.1 v.2.2.1 v.2.2.2.1 v.2.2.2.2.1
def fr20_3 (k:Nat):Frag:=⟨sq20_3,[(.exit 6,⟨[(18,KD50),(21,KD76)],[(0,.val KD12),(1,.val KD13),(2,.val KD64),(3,.val (.int .i64)),(4,.val KD64),(5,.val (.int .i64)),(12,.ptr 12 []),(18,.at 2000018 []),(19,.ptr 19 []),(20,.val (.int .i64)),(21,.at 2000021 []),(64,.val (.int .i64)),(65,.val .bool)],[(12,some 45,(.pair KD62 (.pair (.sl true 56 (.sl true 69 (.arr 3 (.int .i64)) none) none) .unit))),(19,some 45,(.pair KD62 (.pair (.sl true 56 (.sl true 69 (.arr 3 (.int .i64)) none) none) .unit))),(2000018,none,KD50),(2000021,none,KD76)]⟩)],fu20_3 k k⟩
def F20_4 (k:Nat):Nat→TY27→TY36→(List (List Bool))→Int→(List (List Bool))→Int→Int→Int→Int→Bool→TY58→TY58→(List (List (List Int)))→(List Int)→(List (List Int))→Option ((TY11×(TY58×TY58×(List (List (List Int)))×(List Int)×(List (List Int))×Unit)))
 |0,_,_,_,_,_,_,_,_,_,_,_,_,_,_,_=>none
 |n+1,t0,t1,t2,t3,t4,t5,t20,t26,t64,t65,c12,c19,e0,e1,e2 =>
  let x64:=(decide (t26<(length t4:Int)))
  bif x64 then
  if 0≤t20∧t20<(length e0:Int) then
  if 0≤t26∧t26<(length t4:Int) then
  let x65:=(getD t4 (toNat t26) ([]:(List Bool)))
  (F60 k t0 t1 (getD e0 (toNat t20) ([]:(List (List Int)))) x65).bind fun r66 =>
  let x67:=(List.set (replicate 1 (replicate 3 (0:Int))) 0 r66.1.1)
  if (length e2+length x67)*(24*2)≤281474976710656∧length e2+length x67≤9223372036854775807 then
  (F20_4 k n t0 t1 t2 t3 t4 t5 t20 (wrap .i64 (t26+(1:Int))) t64 t65 c12 c19 e0 e1 (e2++x67)).bind some
  else none
  else none
  else none
  else
  some ((t0,t1,t2,t3,t4,t5,t20,t64,t65,()),(c12,c19,e0,e1,e2,()))
def sq20_4:Shape:=⟨[(25,(.sl true 69 (.arr 3 (.int .i64)) none))],[(0,.val KD12),(1,.val KD13),(2,.val KD64),(3,.val (.int .i64)),(4,.val KD64),(5,.val (.int .i64)),(12,.ptr 12 []),(18,.at 2000018 []),(19,.ptr 19 []),(20,.val (.int .i64)),(21,.at 2000021 []),(25,.at 2000025 []),(26,.val (.int .i64)),(64,.val (.int .i64)),(65,.val .bool)],[(12,some 45,(.pair KD62 (.pair (.sl true 56 (.sl true 69 (.arr 3 (.int .i64)) none) none) .unit))),(19,some 45,(.pair KD62 (.pair (.sl true 56 (.sl true 69 (.arr 3 (.int .i64)) none) none) .unit))),(2000018,none,KD50),(2000021,none,KD76),(2000025,none,(.sl true 69 (.arr 3 (.int .i64)) none))]⟩
def fu20_4 (k m:Nat) (v:sq20_4.V):=F20_4 k m v.1.1 v.1.2.1 v.1.2.2.1 v.1.2.2.2.1 v.1.2.2.2.2.1 v.1.2.2.2.2.2.1 v.1.2.2.2.2.2.2.1 v.1.2.2.2.2.2.2.2.1 v.1.2.2.2.2.2.2.2.2.1 v.1.2.2.2.2.2.2.2.2.2.1 v.2.1 v.2.2.1 v.2.2.2.1 v.2.2.2.2.1 v.2.2.2.2.2.1
def fr20_4 (k:Nat):Frag:=⟨sq20_4,[(.exit 10,⟨[(25,(.sl true 69 (.arr 3 (.int .i64)) none))],[(0,.val KD12),(1,.val KD13),(2,.val KD64),(3,.val (.int .i64)),(4,.val KD64),(5,.val (.int .i64)),(12,.ptr 12 []),(18,.at 2000018 []),(19,.ptr 19 []),(20,.val (.int .i64)),(21,.at 2000021 []),(25,.at 2000025 []),(64,.val (.int .i64)),(65,.val .bool)],[(12,some 45,(.pair KD62 (.pair (.sl true 56 (.sl true 69 (.arr 3 (.int .i64)) none) none) .unit))),(19,some 45,(.pair KD62 (.pair (.sl true 56 (.sl true 69 (.arr 3 (.int .i64)) none) none) .unit))),(2000018,none,KD50),(2000021,none,KD76),(2000025,none,(.sl true 69 (.arr 3 (.int .i64)) none))]⟩)],fu20_4 k k⟩
def F20_5 (k:Nat):Nat→TY27→TY36→(List (List Bool))→Int→(List (List Bool))→Int→Int→TY58→TY58→(List (List (List Int)))→Option (TY31⊕TY46)
 |0,_,_,_,_,_,_,_,_,_,_=>none
 |n+1,t0,t1,t2,t3,t4,t5,t20,c12,c19,e0 =>
  let x25:=(decide (t20<(length e0:Int)))
  bif x25 then
  let x26:=(decide ((length e0:Int)>t5))
  bif x26 then
  some (.inr (((4:Int),()),((([]:(List (List Int))),(([]:(List (List (List Int)))),())),())))
  else
  let x27:=(decide ((length e0:Int)>(100000:Int)))
  bif x27 then
  some (.inr (((4:Int),()),((([]:(List (List Int))),(([]:(List (List (List Int)))),())),())))
  else
  (F20_3 k k t0 t1 t2 t3 t4 t5 t20 (0:Int) (length e0:Int) x27 c12 c19 e0 []).bind fun r50 =>
  (F20_4 k k r50.1.1 r50.1.2.1 r50.1.2.2.1 r50.1.2.2.2.1 r50.1.2.2.2.2.1 r50.1.2.2.2.2.2.1 r50.1.2.2.2.2.2.2.1 (0:Int) r50.1.2.2.2.2.2.2.2.1 r50.1.2.2.2.2.2.2.2.2.1 r50.2.1 r50.2.2.1 r50.2.2.2.1 r50.2.2.2.2.1 []).bind fun r68 =>
  let y79:=r68.2.2.1
  let y81:=r68.2.2.2.2.1
  let y82:=r68.2.2.2.2.2.1
  if (length y79.1+length [y81])*(24*2)≤281474976710656∧length y79.1+length [y81]≤9223372036854775807 then
  if (length y79.2.1+length [y82])*(24*2)≤281474976710656∧length y79.2.1+length [y82]≤9223372036854775807 then
  (F20_5 k n r68.1.1 r68.1.2.1 r68.1.2.2.1 r68.1.2.2.2.1 r68.1.2.2.2.2.1 r68.1.2.2.2.2.2.1 (wrap .i64 (r68.1.2.2.2.2.2.2.1+(1:Int))) r68.2.1 ((y79.1++[y81]),((y79.2.1++[y82]),y79.2.2)) r68.2.2.2.1).bind some
  else none
  else none
  else
  some (.inl ((),(c12,c19,())))
def sq20_5:Shape:=⟨[(18,KD50)],[(0,.val KD12),(1,.val KD13),(2,.val KD64),(3,.val (.int .i64)),(4,.val KD64),(5,.val (.int .i64)),(12,.ptr 12 []),(18,.at 2000018 []),(19,.ptr 19 []),(20,.val (.int .i64))],[(12,some 45,(.pair KD62 (.pair (.sl true 56 (.sl true 69 (.arr 3 (.int .i64)) none) none) .unit))),(19,some 45,(.pair KD62 (.pair (.sl true 56 (.sl true 69 (.arr 3 (.int .i64)) none) none) .unit))),(2000018,none,KD50)]⟩
def fu20_5 (k m:Nat) (v:sq20_5.V):=F20_5 k m v.1.1 v.1.2.1 v.1.2.2.1 v.1.2.2.2.1 v.1.2.2.2.2.1 v.1.2.2.2.2.2.1 v.1.2.2.2.2.2.2.1 v.2.1 v.2.2.1 v.2.2.2.1
def fr20_5 (k:Nat):Frag:=⟨sq20_5,[(.exit 4,⟨[],[(12,.ptr 12 []),(19,.ptr 19 [])],[(12,some 45,(.pair KD62 (.pair (.sl true 56 (.sl true 69 (.arr 3 (.int .i64)) none) none) .unit))),(19,some 45,(.pair KD62 (.pair (.sl true 56 (.sl true 69 (.arr 3 (.int .i64)) none) none) .unit)))]⟩),(.ret,⟨[],[(12,.ptr 12 []),(13,.val (.int .i64))],[(12,some 45,(.pair KD62 (.pair (.sl true 56 (.sl true 69 (.arr 3 (.int .i64)) none) none) .unit)))]⟩)],fu20_5 k k⟩
def F20 (k:Nat) (a0:TY27) (a1:TY36) (a2:(List (List Bool))) (a3:Int) (a4:(List (List Bool))) (a5:Int):Option TY47 :=
 (F20_1 k k a0 a1 a2 a3 a4 a5 (0:Int) (([]:(List (List Int))),(([]:(List (List (List Int)))),())) []).bind fun r16 =>
 (F20_5 k k r16.1.1 r16.1.2.1 r16.1.2.2.1 r16.1.2.2.2.1 r16.1.2.2.2.2.1 r16.1.2.2.2.2.2.1 (0:Int) r16.2.1 (([]:(List (List Int))),(([]:(List (List (List Int)))),())) [r16.2.2.1]).bind fun r83 =>
 match r83 with
 |.inl r84 =>
  some ((r84.2.2.1,(0:Int),()),())
 |.inr r84 =>
  some ((r84.2.1,r84.1.1,()),())
def sp20 (k:Nat):Spec:=⟨[.val KD12,.val KD13,.val KD64,.val (.int .i64),.val KD64,.val (.int .i64)],[.own (.pair KD62 (.pair (.sl true 56 (.sl true 69 (.arr 3 (.int .i64)) none) none) .unit)),.val (.int .i64)],fun x=>F20 k x.1 x.2.1 x.2.2.1 x.2.2.2.1 x.2.2.2.2.1 x.2.2.2.2.2.1⟩
def lim20:Lim:=⟨141,6,false,false,[],[]⟩
def cfg20 (k:Nat):Nat→Option Spec:=cfgL [(58,sp58 k),(59,sp59 k),(60,sp60 k)]
noncomputable def co20_0:Code:=codeAt (bodyOf Try.f20) [.r,.r,.l,.r,.s,.b,.r,.l,.s,.r,.l,.r,.s]
noncomputable def cb20_0:Code:=codeAt (bodyOf Try.f20) [.r,.r,.l,.r,.s,.b,.r,.l,.s,.r,.l,.r,.s,.b]
noncomputable def co20_1:Code:=codeAt (bodyOf Try.f20) [.r,.r,.l,.r,.s]
noncomputable def cb20_1:Code:=codeAt (bodyOf Try.f20) [.r,.r,.l,.r,.s,.b]
noncomputable def co20_2:Code:=codeAt (bodyOf Try.f20) [.r,.r,.r,.r,.r,.l,.r,.s,.b,.r,.l,.s,.r,.r,.l,.r,.s,.b,.r,.l,.s,.r,.r,.l,.s]
noncomputable def cb20_2:Code:=codeAt (bodyOf Try.f20) [.r,.r,.r,.r,.r,.l,.r,.s,.b,.r,.l,.s,.r,.r,.l,.r,.s,.b,.r,.l,.s,.r,.r,.l,.s,.b]
noncomputable def co20_3:Code:=codeAt (bodyOf Try.f20) [.r,.r,.r,.r,.r,.l,.r,.s,.b,.r,.l,.s,.r,.r,.l,.r,.s]
noncomputable def cb20_3:Code:=codeAt (bodyOf Try.f20) [.r,.r,.r,.r,.r,.l,.r,.s,.b,.r,.l,.s,.r,.r,.l,.r,.s,.b]
noncomputable def co20_4:Code:=codeAt (bodyOf Try.f20) [.r,.r,.r,.r,.r,.l,.r,.s,.b,.r,.l,.s,.r,.r,.r,.r,.l,.r,.s]
noncomputable def cb20_4:Code:=codeAt (bodyOf Try.f20) [.r,.r,.r,.r,.r,.l,.r,.s,.b,.r,.l,.s,.r,.r,.r,.r,.l,.r,.s,.b]
noncomputable def co20_5:Code:=codeAt (bodyOf Try.f20) [.r,.r,.r,.r,.r,.l,.r,.s]
noncomputable def cb20_5:Code:=codeAt (bodyOf Try.f20) [.r,.r,.r,.r,.r,.l,.r,.s,.b]
noncomputable def co20:Code:=codeAt (bodyOf Try.f20) []
theorem cfg20_ok (k:Nat):CfgOK Try.prog (cfg20 k):=cfgL_cons (v58 k) (cfgL_cons (v59 k) (cfgL_cons (v60 k) (cfgL_nil)))
noncomputable def bo20_0 (k m:Nat) (v:sq20_0.V):=body Try.prog (stepper Try.prog (cfg20 k) lim20) .go cb20_0 (sq20_0.st v) (loopK (fr20_0 k) (fu20_0 k m))
theorem pp20_0 (k m:Nat) (v:sq20_0.V):fu20_0 k (m+1) v=(bo20_0 k m v).eval∧(bo20_0 k m v).left=(bo20_0 k m v).right:=⟨by kernel_rfl,by kernel_rfl⟩
theorem fr20_0_ok (k:Nat):FragOK Try.prog lim20 (fr20_0 k) co20_0 :=
 frag_cast (by kernel_rfl) (loop_ok (cfg20_ok k) (planOK_go _) (fu20_0 k) k (fun _=>rfl) (fun _=>rfl) (pp20_0 k))
def pl20_1 (k:Nat):Plan:=(.seq .go (.seq (.sub (.seq .go (.seq (.seq .go (.sub (.frag (fr20_0 k)))) .go))) .go))
noncomputable def bo20_1 (k m:Nat) (v:sq20_1.V):=body Try.prog (stepper Try.prog (cfg20 k) lim20) (pl20_1 k) cb20_1 (sq20_1.st v) (loopK (fr20_1 k) (fu20_1 k m))
theorem pp20_1 (k m:Nat) (v:sq20_1.V):fu20_1 k (m+1) v=(bo20_1 k m v).eval∧(bo20_1 k m v).left=(bo20_1 k m v).right:=⟨by kernel_rfl,by kernel_rfl⟩
theorem fr20_1_ok (k:Nat):FragOK Try.prog lim20 (fr20_1 k) co20_1 :=
 frag_cast (by kernel_rfl) (loop_ok (cfg20_ok k) (plan_of (L:=[(fr20_0 k,co20_0)]) (by kernel_rfl) (.cons (fr20_0_ok k) .nil)) (fu20_1 k) k (fun _=>rfl) (fun _=>rfl) (pp20_1 k))
noncomputable def bo20_2 (k m:Nat) (v:sq20_2.V):=body Try.prog (stepper Try.prog (cfg20 k) lim20) .go cb20_2 (sq20_2.st v) (loopK (fr20_2 k) (fu20_2 k m))
theorem pp20_2 (k m:Nat) (v:sq20_2.V):fu20_2 k (m+1) v=(bo20_2 k m v).eval∧(bo20_2 k m v).left=(bo20_2 k m v).right:=⟨by kernel_rfl,by kernel_rfl⟩
theorem fr20_2_ok (k:Nat):FragOK Try.prog lim20 (fr20_2 k) co20_2 :=
 frag_cast (by kernel_rfl) (loop_ok (cfg20_ok k) (planOK_go _) (fu20_2 k) k (fun _=>rfl) (fun _=>rfl) (pp20_2 k))
def pl20_3 (k:Nat):Plan:=(.seq .go (.seq (.sub (.seq .go (.seq .go (.seq (.sub (.frag (fr20_2 k))) .go)))) .go))
noncomputable def bo20_3 (k m:Nat) (v:sq20_3.V):=body Try.prog (stepper Try.prog (cfg20 k) lim20) (pl20_3 k) cb20_3 (sq20_3.st v) (loopK (fr20_3 k) (fu20_3 k m))
theorem pp20_3 (k m:Nat) (v:sq20_3.V):fu20_3 k (m+1) v=(bo20_3 k m v).eval∧(bo20_3 k m v).left=(bo20_3 k m v).right:=⟨by kernel_rfl,by kernel_rfl⟩
theorem fr20_3_ok (k:Nat):FragOK Try.prog lim20 (fr20_3 k) co20_3 :=
 frag_cast (by kernel_rfl) (loop_ok (cfg20_ok k) (plan_of (L:=[(fr20_2 k,co20_2)]) (by kernel_rfl) (.cons (fr20_2_ok k) .nil)) (fu20_3 k) k (fun _=>rfl) (fun _=>rfl) (pp20_3 k))
noncomputable def bo20_4 (k m:Nat) (v:sq20_4.V):=body Try.prog (stepper Try.prog (cfg20 k) lim20) .go cb20_4 (sq20_4.st v) (loopK (fr20_4 k) (fu20_4 k m))
theorem pp20_4 (k m:Nat) (v:sq20_4.V):fu20_4 k (m+1) v=(bo20_4 k m v).eval∧(bo20_4 k m v).left=(bo20_4 k m v).right:=⟨by kernel_rfl,by kernel_rfl⟩
theorem fr20_4_ok (k:Nat):FragOK Try.prog lim20 (fr20_4 k) co20_4 :=
 frag_cast (by kernel_rfl) (loop_ok (cfg20_ok k) (planOK_go _) (fu20_4 k) k (fun _=>rfl) (fun _=>rfl) (pp20_4 k))
def pl20_5 (k:Nat):Plan:=(.seq .go (.seq (.sub (.seq .go (.seq .go (.seq (.seq .go (.sub (.frag (fr20_3 k)))) (.seq .go (.seq (.seq .go (.sub (.frag (fr20_4 k)))) .go)))))) .go))
noncomputable def bo20_5 (k m:Nat) (v:sq20_5.V):=body Try.prog (stepper Try.prog (cfg20 k) lim20) (pl20_5 k) cb20_5 (sq20_5.st v) (loopK (fr20_5 k) (fu20_5 k m))
theorem pp20_5 (k m:Nat) (v:sq20_5.V):fu20_5 k (m+1) v=(bo20_5 k m v).eval∧(bo20_5 k m v).left=(bo20_5 k m v).right:=⟨by kernel_rfl,by kernel_rfl⟩
theorem fr20_5_ok (k:Nat):FragOK Try.prog lim20 (fr20_5 k) co20_5 :=
 frag_cast (by kernel_rfl) (loop_ok (cfg20_ok k) (plan_of (L:=[(fr20_3 k,co20_3),(fr20_4 k,co20_4)]) (by kernel_rfl) (.cons (fr20_3_ok k) (.cons (fr20_4_ok k) .nil))) (fu20_5 k) k (fun _=>rfl) (fun _=>rfl) (pp20_5 k))
def pl20 (k:Nat):Plan:=(.seq .go (.seq .go (.seq (.seq .go (.sub (.frag (fr20_1 k)))) (.seq .go (.seq .go (.seq (.seq .go (.sub (.frag (fr20_5 k)))) .go))))))
noncomputable def bo20 (k:Nat) (x:AT (sp20 k).ps):=fnT Try.prog (cfg20 k) lim20 Try.f20 (bodyOf Try.f20) (pl20 k) (sp20 k) x
theorem vv20 (k:Nat) (x:AT (sp20 k).ps):(sp20 k).impl x=(bo20 k x).eval∧(bo20 k x).left=(bo20 k x).right:=⟨by kernel_rfl,by kernel_rfl⟩
theorem v20 (k:Nat):Callable Try.prog 20∧Valid Try.prog 20 (sp20 k) :=
 fn_of (n:=lim20) (fn:=Try.f20) (p:=(pl20 k)) (cfg20_ok k) (by kernel_rfl) (plan_of (L:=[(fr20_1 k,co20_1),(fr20_5 k,co20_5)]) (by kernel_rfl) (.cons (fr20_1_ok k) (.cons (fr20_5_ok k) .nil))) (vv20 k)
def F25_0 (k:Nat):Nat→(List (List Int))→(List (List Int))→Int→Option ((Unit×Unit)⊕TY85)
 |0,_,_,_=>none
 |n+1,t0,t1,t5 =>
  let x5:=(decide (t5<(length t0:Int)))
  bif x5 then
  if 0≤t5∧t5<(length t0:Int) then
  let x6:=(getD t0 (toNat t5) ([]:(List Int)))
  if 0≤t5∧t5<(length t1:Int) then
  let x7:=(getD t1 (toNat t5) ([]:(List Int)))
  bif (!(x6==x7)) then
  some (.inr ((false,()),()))
  else
  (F25_0 k n t0 t1 (wrap .i64 (t5+(1:Int)))).bind some
  else none
  else none
  else
  some (.inl ((),()))
def sq25_0:Shape:=⟨[],[(0,.val (.sl false 69 (.arr 3 (.int .i64)) none)),(1,.val (.sl false 69 (.arr 3 (.int .i64)) none)),(5,.val (.int .i64))],[]⟩
def fu25_0 (k m:Nat) (v:sq25_0.V):=F25_0 k m v.1.1 v.1.2.1 v.1.2.2.1
def fr25_0 (k:Nat):Frag:=⟨sq25_0,[(.exit 0,⟨[],[],[]⟩),(.ret,⟨[],[(4,.val .bool)],[]⟩)],fu25_0 k k⟩
def F25 (k:Nat) (a0:(List (List Int))) (a1:(List (List Int))):Option TY85 :=
 let x1:=((length a0:Int) != (length a1:Int))
 bif x1 then
 some ((false,()),())
 else
 (F25_0 k k a0 a1 (0:Int)).bind fun r8 =>
 match r8 with
 |.inl r9 =>
  some ((true,()),())
 |.inr r9 =>
  some ((r9.1.1,()),())
def sp25 (k:Nat):Spec:=⟨[.val (.sl false 69 (.arr 3 (.int .i64)) none),.val (.sl false 69 (.arr 3 (.int .i64)) none)],[.val .bool],fun x=>F25 k x.1 x.2.1⟩
def lim25:Lim:=⟨26,2,false,false,[],[]⟩
def cfg25 (k:Nat):Nat→Option Spec:=cfgL []
noncomputable def co25_0:Code:=codeAt (bodyOf Try.f25) [.r,.r,.l,.r,.s]
noncomputable def cb25_0:Code:=codeAt (bodyOf Try.f25) [.r,.r,.l,.r,.s,.b]
noncomputable def co25:Code:=codeAt (bodyOf Try.f25) []
theorem cfg25_ok (k:Nat):CfgOK Try.prog (cfg25 k):=cfgL_nil
noncomputable def bo25_0 (k m:Nat) (v:sq25_0.V):=body Try.prog (stepper Try.prog (cfg25 k) lim25) .go cb25_0 (sq25_0.st v) (loopK (fr25_0 k) (fu25_0 k m))
theorem pp25_0 (k m:Nat) (v:sq25_0.V):fu25_0 k (m+1) v=(bo25_0 k m v).eval∧(bo25_0 k m v).left=(bo25_0 k m v).right:=⟨by kernel_rfl,by kernel_rfl⟩
theorem fr25_0_ok (k:Nat):FragOK Try.prog lim25 (fr25_0 k) co25_0 :=
 frag_cast (by kernel_rfl) (loop_ok (cfg25_ok k) (planOK_go _) (fu25_0 k) k (fun _=>rfl) (fun _=>rfl) (pp25_0 k))
def pl25 (k:Nat):Plan:=(.seq .go (.seq .go (.seq (.seq .go (.sub (.frag (fr25_0 k)))) .go)))
noncomputable def bo25 (k:Nat) (x:AT (sp25 k).ps):=fnT Try.prog (cfg25 k) lim25 Try.f25 (bodyOf Try.f25) (pl25 k) (sp25 k) x
theorem vv25 (k:Nat) (x:AT (sp25 k).ps):(sp25 k).impl x=(bo25 k x).eval∧(bo25 k x).left=(bo25 k x).right:=⟨by kernel_rfl,by kernel_rfl⟩
theorem v25 (k:Nat):Callable Try.prog 25∧Valid Try.prog 25 (sp25 k) :=
 fn_of (n:=lim25) (fn:=Try.f25) (p:=(pl25 k)) (cfg25_ok k) (by kernel_rfl) (plan_of (L:=[(fr25_0 k,co25_0)]) (by kernel_rfl) (.cons (fr25_0_ok k) .nil)) (vv25 k)
def F21_0 (k:Nat):Nat→Int→TY58→TY58→Option (TY31⊕TY85)
 |0,_,_,_=>none
 |n+1,t5,c2,c3 =>
  let x7:=(decide (t5<(length c2.1:Int)))
  bif x7 then
  if 0≤t5∧t5<(length c2.1:Int) then
  let x8:=(getD c2.1 (toNat t5) ([]:(List Int)))
  if 0≤t5∧t5<(length c3.1:Int) then
  let x9:=(getD c3.1 (toNat t5) ([]:(List Int)))
  (F32 k x8 x9).bind fun r10 =>
  bif (!r10.1.1) then
  some (.inr ((false,()),()))
  else
  (F21_0 k n (wrap .i64 (t5+(1:Int))) c2 c3).bind some
  else none
  else none
  else
  some (.inl ((),(c2,c3,())))
def sq21_0:Shape:=⟨[],[(2,.ptr 2 []),(3,.ptr 3 []),(5,.val (.int .i64))],[(2,some 45,(.pair KD60 (.pair (.sl false 56 (.sl false 69 (.arr 3 (.int .i64)) none) none) .unit))),(3,some 45,(.pair KD60 (.pair (.sl false 56 (.sl false 69 (.arr 3 (.int .i64)) none) none) .unit)))]⟩
def fu21_0 (k m:Nat) (v:sq21_0.V):=F21_0 k m v.1.1 v.2.1 v.2.2.1
def fr21_0 (k:Nat):Frag:=⟨sq21_0,[(.exit 0,⟨[],[(2,.ptr 2 []),(3,.ptr 3 [])],[(2,some 45,(.pair KD60 (.pair (.sl false 56 (.sl false 69 (.arr 3 (.int .i64)) none) none) .unit))),(3,some 45,(.pair KD60 (.pair (.sl false 56 (.sl false 69 (.arr 3 (.int .i64)) none) none) .unit)))]⟩),(.ret,⟨[],[(4,.val .bool)],[]⟩)],fu21_0 k k⟩
def F21_1 (k:Nat):Nat→Int→TY58→TY58→Option ((Unit×Unit)⊕TY85)
 |0,_,_,_=>none
 |n+1,t6,c2,c3 =>
  let x19:=(decide (t6<(length c2.2.1:Int)))
  bif x19 then
  if 0≤t6∧t6<(length c2.2.1:Int) then
  let x20:=(getD c2.2.1 (toNat t6) ([]:(List (List Int))))
  if 0≤t6∧t6<(length c3.2.1:Int) then
  let x21:=(getD c3.2.1 (toNat t6) ([]:(List (List Int))))
  (F25 k x20 x21).bind fun r22 =>
  bif (!r22.1.1) then
  some (.inr ((false,()),()))
  else
  (F21_1 k n (wrap .i64 (t6+(1:Int))) c2 c3).bind some
  else none
  else none
  else
  some (.inl ((),()))
def sq21_1:Shape:=⟨[],[(2,.ptr 2 []),(3,.ptr 3 []),(6,.val (.int .i64))],[(2,some 45,(.pair KD60 (.pair (.sl false 56 (.sl false 69 (.arr 3 (.int .i64)) none) none) .unit))),(3,some 45,(.pair KD60 (.pair (.sl false 56 (.sl false 69 (.arr 3 (.int .i64)) none) none) .unit)))]⟩
def fu21_1 (k m:Nat) (v:sq21_1.V):=F21_1 k m v.1.1 v.2.1 v.2.2.1
def fr21_1 (k:Nat):Frag:=⟨sq21_1,[(.exit 2,⟨[],[],[]⟩),(.ret,⟨[],[(4,.val .bool)],[]⟩)],fu21_1 k k⟩
def F21 (k:Nat) (a0:TY58) (a1:TY58):Option TY85 :=
 let x1:=((length a0.1:Int) != (length a1.1:Int))
 bif x1 then
 some ((false,()),())
 else
 let x2:=((length a0.2.1:Int) != (length a1.2.1:Int))
 bif x2 then
 some ((false,()),())
 else
 (F21_0 k k (0:Int) a0 a1).bind fun r11 =>
 match r11 with
 |.inl r12 =>
  (F21_1 k k (0:Int) r12.2.1 r12.2.2.1).bind fun r23 =>
  match r23 with
  |.inl r24 =>
   some ((true,()),())
  |.inr r24 =>
   some ((r24.1.1,()),())
 |.inr r12 =>
  some ((r12.1.1,()),())
def sp21 (k:Nat):Spec:=⟨[.val (.pair KD60 (.pair (.sl false 56 (.sl false 69 (.arr 3 (.int .i64)) none) none) .unit)),.val (.pair KD60 (.pair (.sl false 56 (.sl false 69 (.arr 3 (.int .i64)) none) none) .unit))],[.val .bool],fun x=>F21 k x.1 x.2.1⟩
def lim21:Lim:=⟨61,2,false,false,[],[]⟩
def cfg21 (k:Nat):Nat→Option Spec:=cfgL [(25,sp25 k),(32,sp32 k)]
noncomputable def co21_0:Code:=codeAt (bodyOf Try.f21) [.r,.r,.l,.r,.s]
noncomputable def cb21_0:Code:=codeAt (bodyOf Try.f21) [.r,.r,.l,.r,.s,.b]
noncomputable def co21_1:Code:=codeAt (bodyOf Try.f21) [.r,.r,.r,.l,.r,.s]
noncomputable def cb21_1:Code:=codeAt (bodyOf Try.f21) [.r,.r,.r,.l,.r,.s,.b]
noncomputable def co21:Code:=codeAt (bodyOf Try.f21) []
theorem cfg21_ok (k:Nat):CfgOK Try.prog (cfg21 k):=cfgL_cons (v25 k) (cfgL_cons (v32 k) (cfgL_nil))
noncomputable def bo21_0 (k m:Nat) (v:sq21_0.V):=body Try.prog (stepper Try.prog (cfg21 k) lim21) .go cb21_0 (sq21_0.st v) (loopK (fr21_0 k) (fu21_0 k m))
theorem pp21_0 (k m:Nat) (v:sq21_0.V):fu21_0 k (m+1) v=(bo21_0 k m v).eval∧(bo21_0 k m v).left=(bo21_0 k m v).right:=⟨by kernel_rfl,by kernel_rfl⟩
theorem fr21_0_ok (k:Nat):FragOK Try.prog lim21 (fr21_0 k) co21_0 :=
 frag_cast (by kernel_rfl) (loop_ok (cfg21_ok k) (planOK_go _) (fu21_0 k) k (fun _=>rfl) (fun _=>rfl) (pp21_0 k))
noncomputable def bo21_1 (k m:Nat) (v:sq21_1.V):=body Try.prog (stepper Try.prog (cfg21 k) lim21) .go cb21_1 (sq21_1.st v) (loopK (fr21_1 k) (fu21_1 k m))
theorem pp21_1 (k m:Nat) (v:sq21_1.V):fu21_1 k (m+1) v=(bo21_1 k m v).eval∧(bo21_1 k m v).left=(bo21_1 k m v).right:=⟨by kernel_rfl,by kernel_rfl⟩
theorem fr21_1_ok (k:Nat):FragOK Try.prog lim21 (fr21_1 k) co21_1 :=
 frag_cast (by kernel_rfl) (loop_ok (cfg21_ok k) (planOK_go _) (fu21_1 k) k (fun _=>rfl) (fun _=>rfl) (pp21_1 k))
def pl21 (k:Nat):Plan:=(.seq .go (.seq .go (.seq (.seq .go (.sub (.frag (fr21_0 k)))) (.seq (.seq .go (.sub (.frag (fr21_1 k)))) .go))))
noncomputable def bo21 (k:Nat) (x:AT (sp21 k).ps):=fnT Try.prog (cfg21 k) lim21 Try.f21 (bodyOf Try.f21) (pl21 k) (sp21 k) x
theorem vv21 (k:Nat) (x:AT (sp21 k).ps):(sp21 k).impl x=(bo21 k x).eval∧(bo21 k x).left=(bo21 k x).right:=⟨by kernel_rfl,by kernel_rfl⟩
theorem v21 (k:Nat):Callable Try.prog 21∧Valid Try.prog 21 (sp21 k) :=
 fn_of (n:=lim21) (fn:=Try.f21) (p:=(pl21 k)) (cfg21_ok k) (by kernel_rfl) (plan_of (L:=[(fr21_0 k,co21_0),(fr21_1 k,co21_1)]) (by kernel_rfl) (.cons (fr21_0_ok k) (.cons (fr21_1_ok k) .nil))) (vv21 k)
def F12_0 (k:Nat):Nat→Int→Int→Int→TY4→TY4→TY58→(List (List Bool))→Option TY0
 |0,_,_,_,_,_,_,_=>none
 |n+1,t3,t18,t19,c9,c11,c16,e0 =>
  if 0≤t18∧t18<(length c16.1:Int) then
  let x19:=(length (getD c16.1 (toNat t18) ([]:(List Int))):Int)
  bif (decide (t19<x19)) then
  if 0≤t18∧t18<(length c16.1:Int) then
  if 0≤t19∧t19<(length (getD c16.1 (toNat t18) ([]:(List Int))):Int) then
  let x20:=(List.set c16.1 (toNat t18) (List.set (getD c16.1 (toNat t18) ([]:(List Int))) (toNat t19) t3))
  (F12_0 k n t3 t18 (wrap .i64 (t19+(1:Int))) c9 c11 (x20,c16.2) e0).bind some
  else none
  else none
  else
  some ((t3,t18,()),(c9,c11,c16,e0,()))
  else none
def sq12_0:Shape:=⟨[],[(3,.val (.int .i64)),(9,.ptr 9 []),(11,.ptr 11 []),(14,.at 1000929 []),(16,.ptr 16 []),(18,.val (.int .i64)),(19,.val (.int .i64))],[(9,some 33,KD2),(11,some 33,KD2),(16,some 45,(.pair KD62 (.pair (.sl true 56 (.sl true 69 (.arr 3 (.int .i64)) none) none) .unit))),(1000929,none,KD66)]⟩
def fu12_0 (k m:Nat) (v:sq12_0.V):=F12_0 k m v.1.1 v.1.2.1 v.1.2.2.1 v.2.1 v.2.2.1 v.2.2.2.1 v.2.2.2.2.1
def fr12_0 (k:Nat):Frag:=⟨sq12_0,[(.exit 2,⟨[],[(3,.val (.int .i64)),(9,.ptr 9 []),(11,.ptr 11 []),(14,.at 1000929 []),(16,.ptr 16 []),(18,.val (.int .i64))],[(9,some 33,KD2),(11,some 33,KD2),(16,some 45,(.pair KD62 (.pair (.sl true 56 (.sl true 69 (.arr 3 (.int .i64)) none) none) .unit))),(1000929,none,KD66)]⟩)],fu12_0 k k⟩
def F12_1 (k:Nat):Nat→Int→Int→Int→TY4→TY4→TY58→(List (List Bool))→Option TY0
 |0,_,_,_,_,_,_,_=>none
 |n+1,t3,t18,t20,c9,c11,c16,e0 =>
  let x32:=(decide (t18<(length c16.2.1:Int)))
  bif x32 then
  if 0≤t18∧t18<(length c16.2.1:Int) then
  let x33:=(length (getD c16.2.1 (toNat t18) ([]:(List (List Int)))):Int)
  bif (decide (t20<x33)) then
  if 0≤t18∧t18<(length c16.2.1:Int) then
  let x34:=(List.set (List.set (List.set (replicate 3 (0:Int)) 0 (7:Int)) 1 (7:Int)) 2 (7:Int))
  if 0≤t20∧t20<(length (getD c16.2.1 (toNat t18) ([]:(List (List Int)))):Int) then
  let x35:=(List.set c16.2.1 (toNat t18) (List.set (getD c16.2.1 (toNat t18) ([]:(List (List Int)))) (toNat t20) x34))
  (F12_1 k n t3 t18 (wrap .i64 (t20+(1:Int))) c9 c11 (c16.1,(x35,c16.2.2)) e0).bind some
  else none
  else none
  else
  some ((t3,t18,()),(c9,c11,c16,e0,()))
  else none
  else
  some ((t3,t18,()),(c9,c11,c16,e0,()))
def sq12_1:Shape:=⟨[],[(3,.val (.int .i64)),(9,.ptr 9 []),(11,.ptr 11 []),(14,.at 1000929 []),(16,.ptr 16 []),(18,.val (.int .i64)),(20,.val (.int .i64))],[(9,some 33,KD2),(11,some 33,KD2),(16,some 45,(.pair KD62 (.pair (.sl true 56 (.sl true 69 (.arr 3 (.int .i64)) none) none) .unit))),(1000929,none,KD66)]⟩
def fu12_1 (k m:Nat) (v:sq12_1.V):=F12_1 k m v.1.1 v.1.2.1 v.1.2.2.1 v.2.1 v.2.2.1 v.2.2.2.1 v.2.2.2.2.1
def fr12_1 (k:Nat):Frag:=⟨sq12_1,[(.exit 4,⟨[],[(3,.val (.int .i64)),(9,.ptr 9 []),(11,.ptr 11 []),(14,.at 1000929 []),(16,.ptr 16 []),(18,.val (.int .i64))],[(9,some 33,KD2),(11,some 33,KD2),(16,some 45,(.pair KD62 (.pair (.sl true 56 (.sl true 69 (.arr 3 (.int .i64)) none) none) .unit))),(1000929,none,KD66)]⟩)],fu12_1 k k⟩
def F12_2 (k:Nat):Nat→Int→Int→TY4→TY4→TY58→(List (List Bool))→Option ((Unit×(TY4×TY4×(List (List Bool))×Unit)))
 |0,_,_,_,_,_,_=>none
 |n+1,t3,t18,c9,c11,c16,e0 =>
  let x43:=(decide (t18<(length c16.1:Int)))
  bif x43 then
  (F12_0 k k t3 t18 (0:Int) c9 c11 c16 e0).bind fun r44 =>
  (F12_1 k k r44.1.1 r44.1.2.1 (0:Int) r44.2.1 r44.2.2.1 r44.2.2.2.1 r44.2.2.2.2.1).bind fun r51 =>
  (F12_2 k n r51.1.1 (wrap .i64 (r51.1.2.1+(1:Int))) r51.2.1 r51.2.2.1 r51.2.2.2.1 r51.2.2.2.2.1).bind some
  else
  some ((),(c9,c11,e0,()))
def sq12_2:Shape:=⟨[],[(3,.val (.int .i64)),(9,.ptr 9 []),(11,.ptr 11 []),(14,.at 1000929 []),(16,.ptr 16 []),(18,.val (.int .i64))],[(9,some 33,KD2),(11,some 33,KD2),(16,some 45,(.pair KD62 (.pair (.sl true 56 (.sl true 69 (.arr 3 (.int .i64)) none) none) .unit))),(1000929,none,KD66)]⟩
def fu12_2 (k m:Nat) (v:sq12_2.V):=F12_2 k m v.1.1 v.1.2.1 v.2.1 v.2.2.1 v.2.2.2.1 v.2.2.2.2.1
def fr12_2 (k:Nat):Frag:=⟨sq12_2,[(.exit 0,⟨[],[(9,.ptr 9 []),(11,.ptr 11 []),(14,.at 1000929 [])],[(9,some 33,KD2),(11,some 33,KD2),(1000929,none,KD66)]⟩)],fu12_2 k k⟩
def F12 (k:Nat) (a0:TY71) (a1:(List Int)) (a2:(List Int)) (a3:Int):Option TY85 :=
 (F13 k).bind fun r1 =>
 bif (!r1.1.1) then
 some ((false,()),())
 else
 (F14 k a0).bind fun r2 =>
 bif (!r2.1.1) then
 some ((true,()),())
 else
 (F15 k a0 a1 a2).bind fun r3 =>
 (F15 k a0 a1 a2).bind fun r8 =>
 bif (!r3.1.2.1) then
 some ((true,()),())
 else
 (F16 k r3.1.1).bind fun r13 =>
 bif (!r13.1.1) then
 some ((true,()),())
 else
 (F17 k r3.1.1.2.2.2.2.2.1 r3.1.1.2.2.2.1 r3.1.1.2.2.2.2.2.2.1 (40:Int)).bind fun r14 =>
 bif (r14.1.2.2.1 != (0:Int)) then
 some ((true,()),())
 else
 (F19 k r3.1.1.1.2.1 r3.1.1.2.2.2.2.1 r3.1.1.2.2.2.1 r3.1.1.2.2.2.2.2.2.1 r14.1.2.1 (60:Int)).bind fun r15 =>
 (F12_2 k k a3 (0:Int) r3.1.1 r8.1.1 r15.1.1 r14.1.2.1).bind fun r58 =>
 let y60:=r58.2.2.1
 (F19 k r58.2.1.1.2.1 r58.2.1.2.2.2.2.1 r58.2.1.2.2.2.1 r58.2.1.2.2.2.2.2.2.1 r58.2.2.2.1 (60:Int)).bind fun r62 =>
 (F20 k y60.1.2.1 y60.2.2.2.2.1 y60.2.2.2.1 y60.2.2.2.2.2.2.1 r58.2.2.2.1 (60:Int)).bind fun r63 =>
 bif (r62.1.2.1==r63.1.2.1) then
 (F21 k r62.1.1 r63.1.1).bind fun r64 =>
 some ((r64.1.1,()),())
 else
 some ((false,()),())
def sp12 (k:Nat):Spec:=⟨[.val KD59,.val KD74,.val KD74,.val (.int .i64)],[.val .bool],fun x=>F12 k x.1 x.2.1 x.2.2.1 x.2.2.2.1⟩
def lim12:Lim:=⟨164,4,false,false,[],[]⟩
def cfg12 (k:Nat):Nat→Option Spec:=cfgL [(13,sp13 k),(14,sp14 k),(15,sp15 k),(16,sp16 k),(17,sp17 k),(19,sp19 k),(20,sp20 k),(21,sp21 k)]
noncomputable def co12_0:Code:=codeAt (bodyOf Try.f12) [.r,.r,.r,.r,.r,.r,.r,.r,.r,.l,.r,.s,.b,.r,.l,.s,.l,.r,.s]
noncomputable def cb12_0:Code:=codeAt (bodyOf Try.f12) [.r,.r,.r,.r,.r,.r,.r,.r,.r,.l,.r,.s,.b,.r,.l,.s,.l,.r,.s,.b]
noncomputable def co12_1:Code:=codeAt (bodyOf Try.f12) [.r,.r,.r,.r,.r,.r,.r,.r,.r,.l,.r,.s,.b,.r,.l,.s,.r,.r,.s]
noncomputable def cb12_1:Code:=codeAt (bodyOf Try.f12) [.r,.r,.r,.r,.r,.r,.r,.r,.r,.l,.r,.s,.b,.r,.l,.s,.r,.r,.s,.b]
noncomputable def co12_2:Code:=codeAt (bodyOf Try.f12) [.r,.r,.r,.r,.r,.r,.r,.r,.r,.l,.r,.s]
noncomputable def cb12_2:Code:=codeAt (bodyOf Try.f12) [.r,.r,.r,.r,.r,.r,.r,.r,.r,.l,.r,.s,.b]
noncomputable def co12:Code:=codeAt (bodyOf Try.f12) []
theorem cfg12_ok (k:Nat):CfgOK Try.prog (cfg12 k):=cfgL_cons (v13 k) (cfgL_cons (v14 k) (cfgL_cons (v15 k) (cfgL_cons (v16 k) (cfgL_cons (v17 k) (cfgL_cons (v19 k) (cfgL_cons (v20 k) (cfgL_cons (v21 k) (cfgL_nil))))))))
noncomputable def bo12_0 (k m:Nat) (v:sq12_0.V):=body Try.prog (stepper Try.prog (cfg12 k) lim12) .go cb12_0 (sq12_0.st v) (loopK (fr12_0 k) (fu12_0 k m))
theorem pp12_0 (k m:Nat) (v:sq12_0.V):fu12_0 k (m+1) v=(bo12_0 k m v).eval∧(bo12_0 k m v).left=(bo12_0 k m v).right:=⟨by kernel_rfl,by kernel_rfl⟩
theorem fr12_0_ok (k:Nat):FragOK Try.prog lim12 (fr12_0 k) co12_0 :=
 frag_cast (by kernel_rfl) (loop_ok (cfg12_ok k) (planOK_go _) (fu12_0 k) k (fun _=>rfl) (fun _=>rfl) (pp12_0 k))
noncomputable def bo12_1 (k m:Nat) (v:sq12_1.V):=body Try.prog (stepper Try.prog (cfg12 k) lim12) .go cb12_1 (sq12_1.st v) (loopK (fr12_1 k) (fu12_1 k m))
theorem pp12_1 (k m:Nat) (v:sq12_1.V):fu12_1 k (m+1) v=(bo12_1 k m v).eval∧(bo12_1 k m v).left=(bo12_1 k m v).right:=⟨by kernel_rfl,by kernel_rfl⟩
theorem fr12_1_ok (k:Nat):FragOK Try.prog lim12 (fr12_1 k) co12_1 :=
 frag_cast (by kernel_rfl) (loop_ok (cfg12_ok k) (planOK_go _) (fu12_1 k) k (fun _=>rfl) (fun _=>rfl) (pp12_1 k))
def pl12_2 (k:Nat):Plan:=(.seq .go (.seq (.sub (.seq (.seq .go (.sub (.frag (fr12_0 k)))) (.seq .go (.sub (.frag (fr12_1 k)))))) .go))
noncomputable def bo12_2 (k m:Nat) (v:sq12_2.V):=body Try.prog (stepper Try.prog (cfg12 k) lim12) (pl12_2 k) cb12_2 (sq12_2.st v) (loopK (fr12_2 k) (fu12_2 k m))
theorem pp12_2 (k m:Nat) (v:sq12_2.V):fu12_2 k (m+1) v=(bo12_2 k m v).eval∧(bo12_2 k m v).left=(bo12_2 k m v).right:=⟨by kernel_rfl,by kernel_rfl⟩
theorem fr12_2_ok (k:Nat):FragOK Try.prog lim12 (fr12_2 k) co12_2 :=
 frag_cast (by kernel_rfl) (loop_ok (cfg12_ok k) (plan_of (L:=[(fr12_0 k,co12_0),(fr12_1 k,co12_1)]) (by kernel_rfl) (.cons (fr12_0_ok k) (.cons (fr12_1_ok k) .nil))) (fu12_2 k) k (fun _=>rfl) (fun _=>rfl) (pp12_2 k))
def pl12 (k:Nat):Plan:=(.seq .go (.seq .go (.seq .go (.seq .go (.seq .go (.seq .go (.seq .go (.seq .go (.seq .go (.seq (.seq .go (.sub (.frag (fr12_2 k)))) .go))))))))))
noncomputable def bo12 (k:Nat) (x:AT (sp12 k).ps):=fnT Try.prog (cfg12 k) lim12 Try.f12 (bodyOf Try.f12) (pl12 k) (sp12 k) x
theorem vv12 (k:Nat) (x:AT (sp12 k).ps):(sp12 k).impl x=(bo12 k x).eval∧(bo12 k x).left=(bo12 k x).right:=⟨by kernel_rfl,by kernel_rfl⟩
theorem v12 (k:Nat):Callable Try.prog 12∧Valid Try.prog 12 (sp12 k) :=
 fn_of (n:=lim12) (fn:=Try.f12) (p:=(pl12 k)) (cfg12_ok k) (by kernel_rfl) (plan_of (L:=[(fr12_2 k,co12_2)]) (by kernel_rfl) (.cons (fr12_2_ok k) .nil)) (vv12 k)
end Go.Proofs.YtgmmopbpldgpcaaE

