/- Functions of the program, as Lean functions, with their contracts; printed by gen.py. Conditions: none. -/
import Derived.Test.YtgmmopbpldgpcaaG0
set_option linter.unusedVariables false
namespace Go.Proofs.YtgmmopbpldgpcaaE
open Kd
open List (length getD replicate take drop)
open Int (toNat)
open IntKind (wrap)
set_option maxRecDepth 20000
def F97_0 (k:Nat):Nat→Int→Int→Int→TY33→TY33→TY33→TY33→Option (((Int×Int×Unit)×(TY33×TY33×TY33×TY33×Unit)))
 |0,_,_,_,_,_,_,_=>none
 |n+1,t5,t7,t8,c2,c3,c4,c6 =>
  let x10:=(decide (t8<(length c3.1:Int)))
  bif x10 then
  if 0≤t7∧t7<(length c2.2.2.1:Int) then
  let x11:=(getD c2.2.2.1 (toNat t7) (0:Int))
  if 0≤t8∧t8<(length c3.2.1:Int) then
  (F34 k x11 (getD c3.2.1 (toNat t8) (0:Int))).bind fun r12 =>
  (F102 k c6.2.2.2.1 (t7,((wrap .i64 (t5+t8)),(r12.1.1,())))).bind fun r13 =>
  (F97_0 k n t5 t7 (wrap .i64 (t8+(1:Int))) c2 c3 c4 (c6.1,(c6.2.1,(c6.2.2.1,(r13.1.1,c6.2.2.2.2))))).bind some
  else none
  else none
  else
  some ((t5,t7,()),(c2,c3,c4,c6,()))
def sq97_0:Shape:=⟨[],[(2,.ptr 2 []),(3,.ptr 3 []),(4,.ptr 4 []),(5,.val (.int .i64)),(6,.ptr 6 []),(7,.val (.int .i64)),(8,.val (.int .i64))],[(2,some 81,KD15),(3,some 81,KD15),(4,some 81,KD16),(6,some 81,KD16)]⟩
def fu97_0 (k m:Nat) (v:sq97_0.V):=F97_0 k m v.1.1 v.1.2.1 v.1.2.2.1 v.2.1 v.2.2.1 v.2.2.2.1 v.2.2.2.2.1
def fr97_0 (k:Nat):Frag:=⟨sq97_0,[(.exit 2,⟨[],[(2,.ptr 2 []),(3,.ptr 3 []),(4,.ptr 4 []),(5,.val (.int .i64)),(6,.ptr 6 []),(7,.val (.int .i64))],[(2,some 81,KD15),(3,some 81,KD15),(4,some 81,KD16),(6,some 81,KD16)]⟩)],fu97_0 k k⟩
def F97_1 (k:Nat):Nat→Int→Int→TY33→TY33→TY33→TY33→Option TY8
 |0,_,_,_,_,_,_=>none
 |n+1,t5,t7,c2,c3,c4,c6 =>
  bif (decide (t7<t5)) then
  if 0≤t7∧t7<(length c2.2.1:Int) then
  if 0≤t7∧t7<(length c2.2.2.1:Int) then
  let x21:=(getD c2.2.2.1 (toNat t7) (0:Int))
  (F34 k x21 c3.2.2.2.2.1).bind fun r22 =>
  if 0≤t7∧t7<(length c6.2.1:Int) then
  let x23:=(List.set c6.2.1 (toNat t7) (getD c2.2.1 (toNat t7) (0:Int)))
  if 0≤t7∧t7<(length c6.2.2.1:Int) then
  (F97_0 k k t5 t7 (0:Int) c2 c3 c4 (c6.1,(x23,((List.set c6.2.2.1 (toNat t7) r22.1.1),c6.2.2.2)))).bind fun r24 =>
  (F97_1 k n r24.1.1 (wrap .i64 (r24.1.2.1+(1:Int))) r24.2.1 r24.2.2.1 r24.2.2.2.1 r24.2.2.2.2.1).bind some
  else none
  else none
  else none
  else none
  else
  some ((t5,()),(c2,c3,c4,c6,()))
def sq97_1:Shape:=⟨[],[(2,.ptr 2 []),(3,.ptr 3 []),(4,.ptr 4 []),(5,.val (.int .i64)),(6,.ptr 6 []),(7,.val (.int .i64))],[(2,some 81,KD15),(3,some 81,KD15),(4,some 81,KD16),(6,some 81,KD16)]⟩
def fu97_1 (k m:Nat) (v:sq97_1.V):=F97_1 k m v.1.1 v.1.2.1 v.2.1 v.2.2.1 v.2.2.2.1 v.2.2.2.2.1
def fr97_1 (k:Nat):Frag:=⟨sq97_1,[(.exit 0,⟨[],[(2,.ptr 2 []),(3,.ptr 3 []),(4,.ptr 4 []),(5,.val (.int .i64)),(6,.ptr 6 [])],[(2,some 81,KD15),(3,some 81,KD15),(4,some 81,KD16),(6,some 81,KD16)]⟩)],fu97_1 k k⟩
def F97_2 (k:Nat):Nat→Int→Int→TY33→TY33→TY33→TY33→Option TY17
 |0,_,_,_,_,_,_=>none
 |n+1,t5,t9,c2,c3,c4,c6 =>
  let x42:=(decide (t9<(length c3.1:Int)))
  bif x42 then
  if 0≤t9∧t9<(length c3.2.1:Int) then
  if 0≤t9∧t9<(length c3.2.2.1:Int) then
  let x43:=(getD c3.2.2.1 (toNat t9) (0:Int))
  (F34 k c2.2.2.2.2.1 (getD c3.2.1 (toNat t9) (0:Int))).bind fun r44 =>
  if 0≤(wrap .i64 (t5+t9))∧(wrap .i64 (t5+t9))<(length c6.2.1:Int) then
  let x45:=(toNat (wrap .i64 (t5+t9)))
  if 0≤(wrap .i64 (t5+t9))∧(wrap .i64 (t5+t9))<(length c6.2.2.1:Int) then
  let x46:=(toNat (wrap .i64 (t5+t9)))
  (F97_2 k n t5 (wrap .i64 (t9+(1:Int))) c2 c3 c4 (c6.1,((List.set c6.2.1 x45 r44.1.1),((List.set c6.2.2.1 x46 x43),c6.2.2.2)))).bind some
  else none
  else none
  else none
  else none
  else
  some ((),(c4,c6,()))
def sq97_2:Shape:=⟨[],[(2,.ptr 2 []),(3,.ptr 3 []),(4,.ptr 4 []),(5,.val (.int .i64)),(6,.ptr 6 []),(9,.val (.int .i64))],[(2,some 81,KD15),(3,some 81,KD15),(4,some 81,KD16),(6,some 81,KD16)]⟩
def fu97_2 (k m:Nat) (v:sq97_2.V):=F97_2 k m v.1.1 v.1.2.1 v.2.1 v.2.2.1 v.2.2.2.1 v.2.2.2.2.1
def fr97_2 (k:Nat):Frag:=⟨sq97_2,[(.exit 4,⟨[],[(4,.ptr 4 []),(6,.ptr 6 [])],[(4,some 81,KD16),(6,some 81,KD16)]⟩)],fu97_2 k k⟩
def F97 (k:Nat) (a0:TY33) (a1:TY33):Option TY29 :=
 (F101 k a0 a1).bind fun r1 =>
 (F34 k a0.2.2.2.2.1 a1.2.2.2.2.1).bind fun r2 =>
 (F97_1 k k (length a0.1:Int) (0:Int) a0 a1 (([]:(List Int)),(([]:(List Int)),(([]:(List Int)),(([]:TY57),((0:Int),()))))) (r1.1.1.1,(r1.1.1.2.1,(r1.1.1.2.2.1,(r1.1.1.2.2.2.1,(r2.1.1,r1.1.1.2.2.2.2.2)))))).bind fun r31 =>
 (F97_2 k k r31.1.1 (0:Int) r31.2.1 r31.2.2.1 r31.2.2.2.1 r31.2.2.2.2.1).bind fun r47 =>
 some ((r47.2.2.1,()),())
def sp97 (k:Nat):Spec:=⟨[.val KD15,.val KD15],[.own KD16],fun x=>F97 k x.1 x.2.1⟩
def lim97:Lim:=⟨108,2,false,false,[],[]⟩
def cfg97 (k:Nat):Nat→Option Spec:=cfgL [(34,sp34 k),(101,sp101 k),(102,sp102 k)]
noncomputable def co97_0:Code:=codeAt (bodyOf Try.f97) [.r,.r,.r,.r,.l,.r,.s,.b,.r,.l,.s,.r,.r,.s]
noncomputable def cb97_0:Code:=codeAt (bodyOf Try.f97) [.r,.r,.r,.r,.l,.r,.s,.b,.r,.l,.s,.r,.r,.s,.b]
noncomputable def co97_1:Code:=codeAt (bodyOf Try.f97) [.r,.r,.r,.r,.l,.r,.s]
noncomputable def cb97_1:Code:=codeAt (bodyOf Try.f97) [.r,.r,.r,.r,.l,.r,.s,.b]
noncomputable def co97_2:Code:=codeAt (bodyOf Try.f97) [.r,.r,.r,.r,.r,.l,.r,.s]
noncomputable def cb97_2:Code:=codeAt (bodyOf Try.f97) [.r,.r,.r,.r,.r,.l,.r,.s,.b]
noncomputable def co97:Code:=codeAt (bodyOf Try.f97) []
theorem cfg97_ok (k:Nat):CfgOK Try.prog (cfg97 k):=cfgL_cons (v34 k) (cfgL_cons (v101 k) (cfgL_cons (v102 k) (cfgL_nil)))
noncomputable def bo97_0 (k m:Nat) (v:sq97_0.V):=body Try.prog (stepper Try.prog (cfg97 k) lim97) .go cb97_0 (sq97_0.st v) (loopK (fr97_0 k) (fu97_0 k m))
theorem pp97_0 (k m:Nat) (v:sq97_0.V):fu97_0 k (m+1) v=(bo97_0 k m v).eval∧(bo97_0 k m v).left=(bo97_0 k m v).right:=⟨by kernel_rfl,by kernel_rfl⟩
theorem fr97_0_ok (k:Nat):FragOK Try.prog lim97 (fr97_0 k) co97_0 :=
 frag_cast (by kernel_rfl) (loop_ok (cfg97_ok k) (planOK_go _) (fu97_0 k) k (fun _=>rfl) (fun _=>rfl) (pp97_0 k))
def pl97_1 (k:Nat):Plan:=(.seq .go (.seq (.sub (.seq .go (.seq .go (.sub (.frag (fr97_0 k)))))) .go))
noncomputable def bo97_1 (k m:Nat) (v:sq97_1.V):=body Try.prog (stepper Try.prog (cfg97 k) lim97) (pl97_1 k) cb97_1 (sq97_1.st v) (loopK (fr97_1 k) (fu97_1 k m))
theorem pp97_1 (k m:Nat) (v:sq97_1.V):fu97_1 k (m+1) v=(bo97_1 k m v).eval∧(bo97_1 k m v).left=(bo97_1 k m v).right:=⟨by kernel_rfl,by kernel_rfl⟩
theorem fr97_1_ok (k:Nat):FragOK Try.prog lim97 (fr97_1 k) co97_1 :=
 frag_cast (by kernel_rfl) (loop_ok (cfg97_ok k) (plan_of (L:=[(fr97_0 k,co97_0)]) (by kernel_rfl) (.cons (fr97_0_ok k) .nil)) (fu97_1 k) k (fun _=>rfl) (fun _=>rfl) (pp97_1 k))
noncomputable def bo97_2 (k m:Nat) (v:sq97_2.V):=body Try.prog (stepper Try.prog (cfg97 k) lim97) .go cb97_2 (sq97_2.st v) (loopK (fr97_2 k) (fu97_2 k m))
theorem pp97_2 (k m:Nat) (v:sq97_2.V):fu97_2 k (m+1) v=(bo97_2 k m v).eval∧(bo97_2 k m v).left=(bo97_2 k m v).right:=⟨by kernel_rfl,by kernel_rfl⟩
theorem fr97_2_ok (k:Nat):FragOK Try.prog lim97 (fr97_2 k) co97_2 :=
 frag_cast (by kernel_rfl) (loop_ok (cfg97_ok k) (planOK_go _) (fu97_2 k) k (fun _=>rfl) (fun _=>rfl) (pp97_2 k))
def pl97 (k:Nat):Plan:=(.seq .go (.seq .go (.seq .go (.seq .go (.seq (.seq .go (.sub (.frag (fr97_1 k)))) (.seq (.seq .go (.sub (.frag (fr97_2 k)))) .go))))))
noncomputable def bo97 (k:Nat) (x:AT (sp97 k).ps):=fnT Try.prog (cfg97 k) lim97 Try.f97 (bodyOf Try.f97) (pl97 k) (sp97 k) x
theorem vv97 (k:Nat) (x:AT (sp97 k).ps):(sp97 k).impl x=(bo97 k x).eval∧(bo97 k x).left=(bo97 k x).right:=⟨by kernel_rfl,by kernel_rfl⟩
theorem v97 (k:Nat):Callable Try.prog 97∧Valid Try.prog 97 (sp97 k) :=
 fn_of (n:=lim97) (fn:=Try.f97) (p:=(pl97 k)) (cfg97_ok k) (by kernel_rfl) (plan_of (L:=[(fr97_1 k,co97_1),(fr97_2 k,co97_2)]) (by kernel_rfl) (.cons (fr97_1_ok k) (.cons (fr97_2_ok k) .nil))) (vv97 k)
def F98_0 (k:Nat):Nat→Int→Int→TY33→TY33→TY33→TY33→Option (((Int×Unit)×(TY33×TY33×TY33×Unit)))
 |0,_,_,_,_,_,_=>none
 |n+1,t5,t7,c2,c3,c4,c6 =>
  bif (decide (t7<t5)) then
  if 0≤t7∧t7<(length c2.2.1:Int) then
  if 0≤t7∧t7<(length c2.2.2.1:Int) then
  let x4:=(getD c2.2.2.1 (toNat t7) (0:Int))
  if 0≤t7∧t7<(length c6.2.1:Int) then
  let x5:=(List.set c6.2.1 (toNat t7) (getD c2.2.1 (toNat t7) (0:Int)))
  if 0≤t7∧t7<(length c6.2.2.1:Int) then
  (F98_0 k n t5 (wrap .i64 (t7+(1:Int))) c2 c3 c4 (c6.1,(x5,((List.set c6.2.2.1 (toNat t7) x4),c6.2.2.2)))).bind some
  else none
  else none
  else none
  else none
  else
  some ((t5,()),(c3,c4,c6,()))
def sq98_0:Shape:=⟨[],[(2,.ptr 2 []),(3,.ptr 3 []),(4,.ptr 4 []),(5,.val (.int .i64)),(6,.ptr 6 []),(7,.val (.int .i64))],[(2,some 81,KD15),(3,some 81,KD15),(4,some 81,KD16),(6,some 81,KD16)]⟩
def fu98_0 (k m:Nat) (v:sq98_0.V):=F98_0 k m v.1.1 v.1.2.1 v.2.1 v.2.2.1 v.2.2.2.1 v.2.2.2.2.1
def fr98_0 (k:Nat):Frag:=⟨sq98_0,[(.exit 0,⟨[],[(3,.ptr 3 []),(4,.ptr 4 []),(5,.val (.int .i64)),(6,.ptr 6 [])],[(3,some 81,KD15),(4,some 81,KD16),(6,some 81,KD16)]⟩)],fu98_0 k k⟩
def F98_1 (k:Nat):Nat→Int→Int→TY33→TY33→TY33→Option TY17
 |0,_,_,_,_,_=>none
 |n+1,t5,t8,c3,c4,c6 =>
  let x16:=(decide (t8<(length c3.1:Int)))
  bif x16 then
  if 0≤t8∧t8<(length c3.2.1:Int) then
  if 0≤t8∧t8<(length c3.2.2.1:Int) then
  let x17:=(getD c3.2.2.1 (toNat t8) (0:Int))
  if 0≤(wrap .i64 (t5+t8))∧(wrap .i64 (t5+t8))<(length c6.2.1:Int) then
  let x18:=(toNat (wrap .i64 (t5+t8)))
  let x19:=(List.set c6.2.1 x18 (getD c3.2.1 (toNat t8) (0:Int)))
  if 0≤(wrap .i64 (t5+t8))∧(wrap .i64 (t5+t8))<(length c6.2.2.1:Int) then
  let x20:=(toNat (wrap .i64 (t5+t8)))
  (F98_1 k n t5 (wrap .i64 (t8+(1:Int))) c3 c4 (c6.1,(x19,((List.set c6.2.2.1 x20 x17),c6.2.2.2)))).bind some
  else none
  else none
  else none
  else none
  else
  some ((),(c4,c6,()))
def sq98_1:Shape:=⟨[],[(3,.ptr 3 []),(4,.ptr 4 []),(5,.val (.int .i64)),(6,.ptr 6 []),(8,.val (.int .i64))],[(3,some 81,KD15),(4,some 81,KD16),(6,some 81,KD16)]⟩
def fu98_1 (k m:Nat) (v:sq98_1.V):=F98_1 k m v.1.1 v.1.2.1 v.2.1 v.2.2.1 v.2.2.2.1
def fr98_1 (k:Nat):Frag:=⟨sq98_1,[(.exit 2,⟨[],[(4,.ptr 4 []),(6,.ptr 6 [])],[(4,some 81,KD16),(6,some 81,KD16)]⟩)],fu98_1 k k⟩
def F98 (k:Nat) (a0:TY33) (a1:TY33):Option TY29 :=
 (F101 k a0 a1).bind fun r1 =>
 (F98_0 k k (length a0.1:Int) (0:Int) a0 a1 (([]:(List Int)),(([]:(List Int)),(([]:(List Int)),(([]:TY57),((0:Int),()))))) (r1.1.1.1,(r1.1.1.2.1,(r1.1.1.2.2.1,(r1.1.1.2.2.2.1,((minI a0.2.2.2.2.1 a1.2.2.2.2.1),r1.1.1.2.2.2.2.2)))))).bind fun r6 =>
 (F98_1 k k r6.1.1 (0:Int) r6.2.1 r6.2.2.1 r6.2.2.2.1).bind fun r21 =>
 some ((r21.2.2.1,()),())
def sp98 (k:Nat):Spec:=⟨[.val KD15,.val KD15],[.own KD16],fun x=>F98 k x.1 x.2.1⟩
def lim98:Lim:=⟨74,2,false,false,[],[]⟩
def cfg98 (k:Nat):Nat→Option Spec:=cfgL [(101,sp101 k)]
noncomputable def co98_0:Code:=codeAt (bodyOf Try.f98) [.r,.r,.r,.r,.l,.r,.s]
noncomputable def cb98_0:Code:=codeAt (bodyOf Try.f98) [.r,.r,.r,.r,.l,.r,.s,.b]
noncomputable def co98_1:Code:=codeAt (bodyOf Try.f98) [.r,.r,.r,.r,.r,.l,.r,.s]
noncomputable def cb98_1:Code:=codeAt (bodyOf Try.f98) [.r,.r,.r,.r,.r,.l,.r,.s,.b]
noncomputable def co98:Code:=codeAt (bodyOf Try.f98) []
theorem cfg98_ok (k:Nat):CfgOK Try.prog (cfg98 k):=cfgL_cons (v101 k) (cfgL_nil)
noncomputable def bo98_0 (k m:Nat) (v:sq98_0.V):=body Try.prog (stepper Try.prog (cfg98 k) lim98) .go cb98_0 (sq98_0.st v) (loopK (fr98_0 k) (fu98_0 k m))
theorem pp98_0 (k m:Nat) (v:sq98_0.V):fu98_0 k (m+1) v=(bo98_0 k m v).eval∧(bo98_0 k m v).left=(bo98_0 k m v).right:=⟨by kernel_rfl,by kernel_rfl⟩
theorem fr98_0_ok (k:Nat):FragOK Try.prog lim98 (fr98_0 k) co98_0 :=
 frag_cast (by kernel_rfl) (loop_ok (cfg98_ok k) (planOK_go _) (fu98_0 k) k (fun _=>rfl) (fun _=>rfl) (pp98_0 k))
noncomputable def bo98_1 (k m:Nat) (v:sq98_1.V):=body Try.prog (stepper Try.prog (cfg98 k) lim98) .go cb98_1 (sq98_1.st v) (loopK (fr98_1 k) (fu98_1 k m))
theorem pp98_1 (k m:Nat) (v:sq98_1.V):fu98_1 k (m+1) v=(bo98_1 k m v).eval∧(bo98_1 k m v).left=(bo98_1 k m v).right:=⟨by kernel_rfl,by kernel_rfl⟩
theorem fr98_1_ok (k:Nat):FragOK Try.prog lim98 (fr98_1 k) co98_1 :=
 frag_cast (by kernel_rfl) (loop_ok (cfg98_ok k) (planOK_go _) (fu98_1 k) k (fun _=>rfl) (fun _=>rfl) (pp98_1 k))
def pl98 (k:Nat):Plan:=(.seq .go (.seq .go (.seq .go (.seq .go (.seq (.seq .go (.sub (.frag (fr98_0 k)))) (.seq (.seq .go (.sub (.frag (fr98_1 k)))) .go))))))
noncomputable def bo98 (k:Nat) (x:AT (sp98 k).ps):=fnT Try.prog (cfg98 k) lim98 Try.f98 (bodyOf Try.f98) (pl98 k) (sp98 k) x
theorem vv98 (k:Nat) (x:AT (sp98 k).ps):(sp98 k).impl x=(bo98 k x).eval∧(bo98 k x).left=(bo98 k x).right:=⟨by kernel_rfl,by kernel_rfl⟩
theorem v98 (k:Nat):Callable Try.prog 98∧Valid Try.prog 98 (sp98 k) :=
 fn_of (n:=lim98) (fn:=Try.f98) (p:=(pl98 k)) (cfg98_ok k) (by kernel_rfl) (plan_of (L:=[(fr98_0 k,co98_0),(fr98_1 k,co98_1)]) (by kernel_rfl) (.cons (fr98_0_ok k) (.cons (fr98_1_ok k) .nil))) (vv98 k)
def F99_0 (k:Nat):Nat→Int→Int→TY33→TY33→TY57→Option (((Int×Unit)×TY14))
 |0,_,_,_,_,_=>none
 |n+1,t4,t5,c1,c2,e0 =>
  let x3:=(decide (t5<(length c1.1:Int)))
  bif x3 then
  if 0≤t4∧t4<(length c1.2.2.1:Int) then
  let x4:=(getD c1.2.2.1 (toNat t4) (0:Int))
  if 0≤t5∧t5<(length c1.2.1:Int) then
  (F34 k x4 (getD c1.2.1 (toNat t5) (0:Int))).bind fun r5 =>
  (F102 k e0 (t4,(t5,(r5.1.1,())))).bind fun r6 =>
  (F99_0 k n t4 (wrap .i64 (t5+(1:Int))) c1 c2 r6.1.1).bind some
  else none
  else none
  else
  some ((t4,()),(c1,c2,e0,()))
def sq99_0:Shape:=⟨[(3,KD38)],[(1,.ptr 1 []),(2,.ptr 2 []),(3,.at 2000003 []),(4,.val (.int .i64)),(5,.val (.int .i64))],[(1,some 81,KD16),(2,some 81,KD16),(2000003,none,KD38)]⟩
def fu99_0 (k m:Nat) (v:sq99_0.V):=F99_0 k m v.1.1 v.1.2.1 v.2.1 v.2.2.1 v.2.2.2.1
def fr99_0 (k:Nat):Frag:=⟨sq99_0,[(.exit 2,⟨[(3,KD38)],[(1,.ptr 1 []),(2,.ptr 2 []),(3,.at 2000003 []),(4,.val (.int .i64))],[(1,some 81,KD16),(2,some 81,KD16),(2000003,none,KD38)]⟩)],fu99_0 k k⟩
def F99_1 (k:Nat):Nat→Int→TY33→TY33→TY57→Option ((Unit×TY14))
 |0,_,_,_,_=>none
 |n+1,t4,c1,c2,e0 =>
  let x2:=(decide (t4<(length c1.1:Int)))
  bif x2 then
  (F99_0 k k t4 (0:Int) c1 c2 e0).bind fun r7 =>
  (F99_1 k n (wrap .i64 (r7.1.1+(1:Int))) r7.2.1 r7.2.2.1 r7.2.2.2.1).bind some
  else
  some ((),(c1,c2,e0,()))
def sq99_1:Shape:=⟨[(3,KD38)],[(1,.ptr 1 []),(2,.ptr 2 []),(3,.at 2000003 []),(4,.val (.int .i64))],[(1,some 81,KD16),(2,some 81,KD16),(2000003,none,KD38)]⟩
def fu99_1 (k m:Nat) (v:sq99_1.V):=F99_1 k m v.1.1 v.2.1 v.2.2.1 v.2.2.2.1
def fr99_1 (k:Nat):Frag:=⟨sq99_1,[(.exit 0,⟨[(3,KD38)],[(1,.ptr 1 []),(2,.ptr 2 []),(3,.at 2000003 [])],[(1,some 81,KD16),(2,some 81,KD16),(2000003,none,KD38)]⟩)],fu99_1 k k⟩
def F99 (k:Nat) (a0:TY33):Option TY29 :=
 let x1:=(replicate 0 ((0:Int),((0:Int),((0:Int),()))))
 if (length x1+length a0.2.2.2.1)*(24*2)≤281474976710656∧length x1+length a0.2.2.2.1≤9223372036854775807 then
 (F99_1 k k (0:Int) (a0.1,(a0.2.1,(a0.2.2.1,(a0.2.2.2.1,((0:Int),a0.2.2.2.2.2))))) (([]:(List Int)),(([]:(List Int)),(([]:(List Int)),(([]:TY57),((0:Int),()))))) (x1++a0.2.2.2.1)).bind fun r12 =>
 some (((r12.2.1.1,(r12.2.1.2.1,(r12.2.1.2.2.1,(r12.2.2.2.1,r12.2.1.2.2.2.2)))),()),())
 else none
def sp99 (k:Nat):Spec:=⟨[.own KD16],[.own KD16],fun x=>F99 k x.1⟩
def lim99:Lim:=⟨44,1,false,false,[],[]⟩
def cfg99 (k:Nat):Nat→Option Spec:=cfgL [(34,sp34 k),(102,sp102 k)]
noncomputable def co99_0:Code:=codeAt (bodyOf Try.f99) [.r,.r,.r,.l,.r,.s,.b,.r,.l,.s,.r,.s]
noncomputable def cb99_0:Code:=codeAt (bodyOf Try.f99) [.r,.r,.r,.l,.r,.s,.b,.r,.l,.s,.r,.s,.b]
noncomputable def co99_1:Code:=codeAt (bodyOf Try.f99) [.r,.r,.r,.l,.r,.s]
noncomputable def cb99_1:Code:=codeAt (bodyOf Try.f99) [.r,.r,.r,.l,.r,.s,.b]
noncomputable def co99:Code:=codeAt (bodyOf Try.f99) []
theorem cfg99_ok (k:Nat):CfgOK Try.prog (cfg99 k):=cfgL_cons (v34 k) (cfgL_cons (v102 k) (cfgL_nil))
noncomputable def bo99_0 (k m:Nat) (v:sq99_0.V):=body Try.prog (stepper Try.prog (cfg99 k) lim99) .go cb99_0 (sq99_0.st v) (loopK (fr99_0 k) (fu99_0 k m))
theorem pp99_0 (k m:Nat) (v:sq99_0.V):fu99_0 k (m+1) v=(bo99_0 k m v).eval∧(bo99_0 k m v).left=(bo99_0 k m v).right:=⟨by kernel_rfl,by kernel_rfl⟩
theorem fr99_0_ok (k:Nat):FragOK Try.prog lim99 (fr99_0 k) co99_0 :=
 frag_cast (by kernel_rfl) (loop_ok (cfg99_ok k) (planOK_go _) (fu99_0 k) k (fun _=>rfl) (fun _=>rfl) (pp99_0 k))
def pl99_1 (k:Nat):Plan:=(.seq .go (.seq (.sub (.seq .go (.sub (.frag (fr99_0 k))))) .go))
noncomputable def bo99_1 (k m:Nat) (v:sq99_1.V):=body Try.prog (stepper Try.prog (cfg99 k) lim99) (pl99_1 k) cb99_1 (sq99_1.st v) (loopK (fr99_1 k) (fu99_1 k m))
theorem pp99_1 (k m:Nat) (v:sq99_1.V):fu99_1 k (m+1) v=(bo99_1 k m v).eval∧(bo99_1 k m v).left=(bo99_1 k m v).right:=⟨by kernel_rfl,by kernel_rfl⟩
theorem fr99_1_ok (k:Nat):FragOK Try.prog lim99 (fr99_1 k) co99_1 :=
 frag_cast (by kernel_rfl) (loop_ok (cfg99_ok k) (plan_of (L:=[(fr99_0 k,co99_0)]) (by kernel_rfl) (.cons (fr99_0_ok k) .nil)) (fu99_1 k) k (fun _=>rfl) (fun _=>rfl) (pp99_1 k))
def pl99 (k:Nat):Plan:=(.seq .go (.seq .go (.seq .go (.seq (.seq .go (.sub (.frag (fr99_1 k)))) .go))))
noncomputable def bo99 (k:Nat) (x:AT (sp99 k).ps):=fnT Try.prog (cfg99 k) lim99 Try.f99 (bodyOf Try.f99) (pl99 k) (sp99 k) x
theorem vv99 (k:Nat) (x:AT (sp99 k).ps):(sp99 k).impl x=(bo99 k x).eval∧(bo99 k x).left=(bo99 k x).right:=⟨by kernel_rfl,by kernel_rfl⟩
theorem v99 (k:Nat):Callable Try.prog 99∧Valid Try.prog 99 (sp99 k) :=
 fn_of (n:=lim99) (fn:=Try.f99) (p:=(pl99 k)) (cfg99_ok k) (by kernel_rfl) (plan_of (L:=[(fr99_1 k,co99_1)]) (by kernel_rfl) (.cons (fr99_1_ok k) .nil)) (vv99 k)
def rs74 (f74:(TY47→TY13→Option TY29)):Spec:=⟨[.val KD30,.val KD5],[.own KD16],fun x=>f74 x.1 x.2.1⟩
def F74_0 (k:Nat) (f74:(TY47→TY13→Option TY29)):Nat→Int→TY28→TY33→TY33→Option TY17
 |0,_,_,_,_=>none
 |n+1,t7,c2,c4,c6 =>
  let x30:=(decide (t7<(length c6.2.1:Int)))
  bif x30 then
  if 0≤t7∧t7<(length c6.2.1:Int) then
  (F34 k (getD c6.2.1 (toNat t7) (0:Int)) c2.2.2.2.1).bind fun r31 =>
  if 0≤t7∧t7<(length c6.2.1:Int) then
  (F74_0 k f74 n (wrap .i64 (t7+(1:Int))) c2 c4 (c6.1,((List.set c6.2.1 (toNat t7) r31.1.1),c6.2.2))).bind some
  else none
  else none
  else
  some ((),(c4,c6,()))
def sq74_0:Shape:=⟨[],[(2,.ptr 2 []),(4,.ptr 4 []),(6,.ptr 6 []),(7,.val (.int .i64))],[(2,some 65,KD19),(4,some 81,KD16),(6,some 81,KD16)]⟩
def fu74_0 (k:Nat) (f74:(TY47→TY13→Option TY29)) (m:Nat) (v:sq74_0.V):=F74_0 k f74 m v.1.1 v.2.1 v.2.2.1 v.2.2.2.1
def fr74_0 (k:Nat) (f74:(TY47→TY13→Option TY29)):Frag:=⟨sq74_0,[(.exit 1,⟨[],[(4,.ptr 4 []),(6,.ptr 6 [])],[(4,some 81,KD16),(6,some 81,KD16)]⟩)],fu74_0 k f74 k⟩
def F74_1 (k:Nat) (f74:(TY47→TY13→Option TY29)):Nat→Int→TY28→TY33→TY33→TY33→Option TY17
 |0,_,_,_,_,_=>none
 |n+1,t10,c2,c4,c8,c9 =>
  bif (decide (t10≥(1:Int))) then
  (F97 k c9 c8).bind fun r39 =>
  bif (decide (t10>c2.2.1)) then
  (F74_1 k f74 n (wrap .i64 (t10-(1:Int))) c2 c4 (r39.1.1.1,(r39.1.1.2.1,(r39.1.1.2.2.1,(r39.1.1.2.2.2.1,((0:Int),r39.1.1.2.2.2.2.2))))) c9).bind some
  else
  (F74_1 k f74 n (wrap .i64 (t10-(1:Int))) c2 c4 r39.1.1 c9).bind some
  else
  some ((),(c4,c8,()))
def sq74_1:Shape:=⟨[],[(2,.ptr 2 []),(4,.ptr 4 []),(8,.ptr 8 []),(9,.ptr 9 []),(10,.val (.int .i64))],[(2,some 65,KD19),(4,some 81,KD16),(8,some 81,KD16),(9,some 81,KD16)]⟩
def fu74_1 (k:Nat) (f74:(TY47→TY13→Option TY29)) (m:Nat) (v:sq74_1.V):=F74_1 k f74 m v.1.1 v.2.1 v.2.2.1 v.2.2.2.1 v.2.2.2.2.1
def fr74_1 (k:Nat) (f74:(TY47→TY13→Option TY29)):Frag:=⟨sq74_1,[(.exit 3,⟨[],[(4,.ptr 4 []),(8,.ptr 8 [])],[(4,some 81,KD16),(8,some 81,KD16)]⟩)],fu74_1 k f74 k⟩
def B74 (k:Nat) (f74:(TY47→TY13→Option TY29)) (a0:TY47) (a1:TY13):Option TY29 :=
 bif ((Tree.a a0).1==(1:Int)) then
 (F95 k).bind fun r1 =>
 some ((r1.1.1,()),())
 else
 bif ((Tree.a a0).1==(2:Int)) then
 (F96 k (1:Int)).bind fun r2 =>
 if 0≤(0:Int)∧(0:Int)<(length r2.1.1.1:Int) then
 let x3:=(List.set r2.1.1.1 (toNat (0:Int)) (-1:Int))
 if 0≤(0:Int)∧(0:Int)<(length r2.1.1.2.1:Int) then
 let x4:=(List.set r2.1.1.2.1 (toNat (0:Int)) (0:Int))
 if 0≤(0:Int)∧(0:Int)<(length r2.1.1.2.2.1:Int) then
 let x5:=(List.set r2.1.1.2.2.1 (toNat (0:Int)) (0:Int))
 bif ((Tree.a a0).1==(2:Int)) then
 (F83 k a1 (Tree.a a0).2.2.2.2.1).bind fun r6 =>
 if 0≤(0:Int)∧(0:Int)<(length x3:Int) then
 some ((((List.set x3 (toNat (0:Int)) r6.1.1),(x4,(x5,r2.1.1.2.2.2))),()),())
 else none
 else
 some (((x3,(x4,(x5,r2.1.1.2.2.2))),()),())
 else none
 else none
 else none
 else
 bif ((Tree.a a0).1==(3:Int)) then
 (F96 k (1:Int)).bind fun r7 =>
 if 0≤(0:Int)∧(0:Int)<(length r7.1.1.1:Int) then
 let x8:=(List.set r7.1.1.1 (toNat (0:Int)) (-1:Int))
 if 0≤(0:Int)∧(0:Int)<(length r7.1.1.2.1:Int) then
 let x9:=(List.set r7.1.1.2.1 (toNat (0:Int)) (0:Int))
 if 0≤(0:Int)∧(0:Int)<(length r7.1.1.2.2.1:Int) then
 let x10:=(List.set r7.1.1.2.2.1 (toNat (0:Int)) (0:Int))
 bif ((Tree.a a0).1==(2:Int)) then
 (F83 k a1 (Tree.a a0).2.2.2.2.1).bind fun r11 =>
 if 0≤(0:Int)∧(0:Int)<(length x8:Int) then
 some ((((List.set x8 (toNat (0:Int)) r11.1.1),(x9,(x10,r7.1.1.2.2.2))),()),())
 else none
 else
 some (((x8,(x9,(x10,r7.1.1.2.2.2))),()),())
 else none
 else none
 else none
 else
 bif ((Tree.a a0).1==(4:Int)) then
 if 0≤(0:Int)∧(0:Int)<(length (Tree.l a0):Int) then
 let x12:=(getD (Tree.l a0) (toNat (0:Int)) (Tree.mk ((0:Int),((0:Int),((0:Int),((0:Int),(ByteArray.empty,()))))) []))
 if 0≤(1:Int)∧(1:Int)<(length (Tree.l a0):Int) then
 let x13:=(getD (Tree.l a0) (toNat (1:Int)) (Tree.mk ((0:Int),((0:Int),((0:Int),((0:Int),(ByteArray.empty,()))))) []))
 (f74 x12 a1).bind fun r14 =>
 (f74 x13 a1).bind fun r15 =>
 (F97 k r14.1.1 r15.1.1).bind fun r16 =>
 some ((r16.1.1,()),())
 else none
 else none
 else
 bif ((Tree.a a0).1==(5:Int)) then
 if 0≤(0:Int)∧(0:Int)<(length (Tree.l a0):Int) then
 let x17:=(getD (Tree.l a0) (toNat (0:Int)) (Tree.mk ((0:Int),((0:Int),((0:Int),((0:Int),(ByteArray.empty,()))))) []))
 if 0≤(1:Int)∧(1:Int)<(length (Tree.l a0):Int) then
 let x18:=(getD (Tree.l a0) (toNat (1:Int)) (Tree.mk ((0:Int),((0:Int),((0:Int),((0:Int),(ByteArray.empty,()))))) []))
 (f74 x17 a1).bind fun r19 =>
 (f74 x18 a1).bind fun r20 =>
 (F98 k r19.1.1 r20.1.1).bind fun r21 =>
 some ((r21.1.1,()),())
 else none
 else none
 else
 bif ((Tree.a a0).1==(6:Int)) then
 if 0≤(0:Int)∧(0:Int)<(length (Tree.l a0):Int) then
 let x22:=(getD (Tree.l a0) (toNat (0:Int)) (Tree.mk ((0:Int),((0:Int),((0:Int),((0:Int),(ByteArray.empty,()))))) []))
 (f74 x22 a1).bind fun r23 =>
 (F99 k r23.1.1).bind fun r24 =>
 some ((r24.1.1,()),())
 else none
 else
 bif ((Tree.a a0).1==(8:Int)) then
 if 0≤(0:Int)∧(0:Int)<(length (Tree.l a0):Int) then
 let x25:=(getD (Tree.l a0) (toNat (0:Int)) (Tree.mk ((0:Int),((0:Int),((0:Int),((0:Int),(ByteArray.empty,()))))) []))
 (f74 x25 a1).bind fun r26 =>
 (F34 k r26.1.1.2.2.2.2.1 (Tree.a a0).2.2.2.1).bind fun r27 =>
 (F74_0 k f74 k (0:Int) ((Tree.a a0).1,((Tree.a a0).2.1,((Tree.a a0).2.2.1,((Tree.a a0).2.2.2.1,((Tree.a a0).2.2.2.2.1,((Tree.l a0),())))))) (([]:(List Int)),(([]:(List Int)),(([]:(List Int)),(([]:TY57),((0:Int),()))))) (r26.1.1.1,(r26.1.1.2.1,(r26.1.1.2.2.1,(r26.1.1.2.2.2.1,(r27.1.1,r26.1.1.2.2.2.2.2)))))).bind fun r32 =>
 some ((r32.2.2.1,()),())
 else none
 else
 if 0≤(0:Int)∧(0:Int)<(length (Tree.l a0):Int) then
 let x35:=(getD (Tree.l a0) (toNat (0:Int)) (Tree.mk ((0:Int),((0:Int),((0:Int),((0:Int),(ByteArray.empty,()))))) []))
 (F95 k).bind fun r36 =>
 (f74 x35 a1).bind fun r37 =>
 (F74_1 k f74 k (Tree.a a0).2.2.1 ((Tree.a a0).1,((Tree.a a0).2.1,((Tree.a a0).2.2.1,((Tree.a a0).2.2.2.1,((Tree.a a0).2.2.2.2.1,((Tree.l a0),())))))) (([]:(List Int)),(([]:(List Int)),(([]:(List Int)),(([]:TY57),((0:Int),()))))) r36.1.1 r37.1.1).bind fun r40 =>
 some ((r40.2.2.1,()),())
 else none
def sb74 (k:Nat) (f74:(TY47→TY13→Option TY29)):Spec:=rs74 (B74 k f74)
def lim74:Lim:=⟨135,2,false,false,[],[]⟩
def cfg74 (k:Nat) (f74:(TY47→TY13→Option TY29)):Nat→Option Spec:=cfgL [(34,sp34 k),(74,rs74 f74),(83,sp83 k),(95,sp95 k),(96,sp96 k),(97,sp97 k),(98,sp98 k),(99,sp99 k)]
noncomputable def co74_0:Code:=codeAt (bodyOf Try.f74) [.r,.l,.r,.s,.r,.r,.r,.r,.r,.r,.r,.r,.r,.r,.r,.l,.r,.r,.l,.r,.s]
noncomputable def cb74_0:Code:=codeAt (bodyOf Try.f74) [.r,.l,.r,.s,.r,.r,.r,.r,.r,.r,.r,.r,.r,.r,.r,.l,.r,.r,.l,.r,.s,.b]
noncomputable def co74_1:Code:=codeAt (bodyOf Try.f74) [.r,.r,.r,.l,.r,.s]
noncomputable def cb74_1:Code:=codeAt (bodyOf Try.f74) [.r,.r,.r,.l,.r,.s,.b]
noncomputable def co74:Code:=codeAt (bodyOf Try.f74) []
theorem cfg74_ok (k:Nat) (f74:(TY47→TY13→Option TY29)) (h74:Callable Try.prog 74∧Valid Try.prog 74 (rs74 f74)):CfgOK Try.prog (cfg74 k f74):=cfgL_cons (v34 k) (cfgL_cons h74 (cfgL_cons (v83 k) (cfgL_cons (v95 k) (cfgL_cons (v96 k) (cfgL_cons (v97 k) (cfgL_cons (v98 k) (cfgL_cons (v99 k) (cfgL_nil))))))))
noncomputable def bo74_0 (k:Nat) (f74:(TY47→TY13→Option TY29)) (m:Nat) (v:sq74_0.V):=body Try.prog (stepper Try.prog (cfg74 k f74) lim74) .go cb74_0 (sq74_0.st v) (loopK (fr74_0 k f74) (fu74_0 k f74 m))
theorem pp74_0 (k:Nat) (f74:(TY47→TY13→Option TY29)) (m:Nat) (v:sq74_0.V):fu74_0 k f74 (m+1) v=(bo74_0 k f74 m v).eval∧(bo74_0 k f74 m v).left=(bo74_0 k f74 m v).right:=⟨by kernel_rfl,by kernel_rfl⟩
theorem fr74_0_ok (k:Nat) (f74:(TY47→TY13→Option TY29)) (h74:Callable Try.prog 74∧Valid Try.prog 74 (rs74 f74)):FragOK Try.prog lim74 (fr74_0 k f74) co74_0 :=
 frag_cast (by kernel_rfl) (loop_ok (cfg74_ok k f74 h74) (planOK_go _) (fu74_0 k f74) k (fun _=>rfl) (fun _=>rfl) (pp74_0 k f74))
noncomputable def bo74_1 (k:Nat) (f74:(TY47→TY13→Option TY29)) (m:Nat) (v:sq74_1.V):=body Try.prog (stepper Try.prog (cfg74 k f74) lim74) .go cb74_1 (sq74_1.st v) (loopK (fr74_1 k f74) (fu74_1 k f74 m))
theorem pp74_1 (k:Nat) (f74:(TY47→TY13→Option TY29)) (m:Nat) (v:sq74_1.V):fu74_1 k f74 (m+1) v=(bo74_1 k f74 m v).eval∧(bo74_1 k f74 m v).left=(bo74_1 k f74 m v).right:=⟨by kernel_rfl,by kernel_rfl⟩
theorem fr74_1_ok (k:Nat) (f74:(TY47→TY13→Option TY29)) (h74:Callable Try.prog 74∧Valid Try.prog 74 (rs74 f74)):FragOK Try.prog lim74 (fr74_1 k f74) co74_1 :=
 frag_cast (by kernel_rfl) (loop_ok (cfg74_ok k f74 h74) (planOK_go _) (fu74_1 k f74) k (fun _=>rfl) (fun _=>rfl) (pp74_1 k f74))
def pl74 (k:Nat) (f74:(TY47→TY13→Option TY29)):Plan:=(.seq .go (.seq (.seq .go (.sub (.seq .go (.seq .go (.seq .go (.seq .go (.seq .go (.seq .go (.seq .go (.seq .go (.seq .go (.seq .go (.seq .go (.seq (.seq .go (.seq .go (.seq (.seq .go (.sub (.frag (fr74_0 k f74)))) .go))) .go)))))))))))))) (.seq .go (.seq (.seq .go (.sub (.frag (fr74_1 k f74)))) .go))))
noncomputable def bo74 (k:Nat) (f74:(TY47→TY13→Option TY29)) (x:AT (sb74 k f74).ps):=fnT Try.prog (cfg74 k f74) lim74 Try.f74 (bodyOf Try.f74) (pl74 k f74) (sb74 k f74) x
theorem vv74 (k:Nat) (f74:(TY47→TY13→Option TY29)) (x:AT (sb74 k f74).ps):(sb74 k f74).impl x=(bo74 k f74 x).eval∧(bo74 k f74 x).left=(bo74 k f74 x).right:=⟨by kernel_rfl,by kernel_rfl⟩
theorem b74 (k:Nat) (f74:(TY47→TY13→Option TY29)) (h74:Callable Try.prog 74∧Valid Try.prog 74 (rs74 f74)):Callable Try.prog 74∧Valid Try.prog 74 (sb74 k f74) :=
 fn_of (n:=lim74) (fn:=Try.f74) (p:=(pl74 k f74)) (cfg74_ok k f74 h74) (by kernel_rfl) (plan_of (L:=[(fr74_0 k f74,co74_0),(fr74_1 k f74,co74_1)]) (by kernel_rfl) (.cons (fr74_0_ok k f74 h74) (.cons (fr74_1_ok k f74 h74) .nil))) (vv74 k f74)
def R74:Nat→(TY47→TY13→Option TY29)
 |0=>fun _ _=>none
 |k+1=>B74 k (R74 k)
def F74 (k:Nat) (a0_:TY47) (a1_:TY13):Option TY29:=(R74 k) a0_ a1_
def sp74 (k:Nat):Spec:=⟨[.val KD30,.val KD5],[.own KD16],fun x=>F74 k x.1 x.2.1⟩
theorem r74 (k:Nat):(Callable Try.prog 74∧Valid Try.prog 74 (rs74 (R74 k))):=by
 induction k with
 |zero=>exact ⟨⟨Try.f74,by kernel_rfl,by kernel_rfl,by kernel_rfl⟩,fun x r h=>by cases (show (none:Option _)=some r from h)⟩
 |succ k ih=>exact b74 k (R74 k) ih
theorem v74 (k:Nat):Callable Try.prog 74∧Valid Try.prog 74 (sp74 k):=(r74 k)
def F41 (k:Nat) (a0:TY47) (a1:TY13):Option ((TY33×Bool×Unit)×Unit) :=
 let x1:=(Tree.mk ((Tree.a a0).1,((Tree.a a0).2.1,((Tree.a a0).2.2.1,((Tree.a a0).2.2.2.1,((Tree.a a0).2.2.2.2.1,()))))) (Tree.l a0))
 (F73 k x1).bind fun r2 =>
 bif (decide (r2.1.1>(120:Int))) then
 some (((([]:(List Int)),(([]:(List Int)),(([]:(List Int)),(([]:TY57),((0:Int),()))))),false,()),())
 else
 let x3:=(Tree.mk ((Tree.a a0).1,((Tree.a a0).2.1,((Tree.a a0).2.2.1,((Tree.a a0).2.2.2.1,((Tree.a a0).2.2.2.2.1,()))))) (Tree.l a0))
 (F74 k x3 a1).bind fun r4 =>
 some ((r4.1.1,true,()),())
def sp41 (k:Nat):Spec:=⟨[.val KD30,.val KD5],[.own KD16,.val .bool],fun x=>F41 k x.1 x.2.1⟩
def lim41:Lim:=⟨13,2,false,false,[],[]⟩
def cfg41 (k:Nat):Nat→Option Spec:=cfgL [(73,sp73 k),(74,sp74 k)]
noncomputable def co41:Code:=codeAt (bodyOf Try.f41) []
theorem cfg41_ok (k:Nat):CfgOK Try.prog (cfg41 k):=cfgL_cons (v73 k) (cfgL_cons (v74 k) (cfgL_nil))
noncomputable def bo41 (k:Nat) (x:AT (sp41 k).ps):=fnT Try.prog (cfg41 k) lim41 Try.f41 (bodyOf Try.f41) .go (sp41 k) x
theorem vv41 (k:Nat) (x:AT (sp41 k).ps):(sp41 k).impl x=(bo41 k x).eval∧(bo41 k x).left=(bo41 k x).right:=⟨by kernel_rfl,by kernel_rfl⟩
theorem v41 (k:Nat):Callable Try.prog 41∧Valid Try.prog 41 (sp41 k) :=
 fn_of (n:=lim41) (fn:=Try.f41) (p:=.go) (cfg41_ok k) (by kernel_rfl) (planOK_go _) (vv41 k)
def F75_0 (k:Nat):Nat→(List (List Bool))→Int→Int→TY33→Option ((Unit×Unit)⊕TY72)
 |0,_,_,_,_=>none
 |n+1,t1,t2,t7,c3 =>
  if 0≤t2∧t2<(length c3.1:Int) then
  if 0≤(getD c3.1 (toNat t2) (0:Int))∧(getD c3.1 (toNat t2) (0:Int))<(length t1:Int) then
  let x5:=(getD t1 (toNat (getD c3.1 (toNat t2) (0:Int))) ([]:(List Bool)))
  let x6:=(decide (t7<(length x5:Int)))
  bif x6 then
  if 0≤t2∧t2<(length c3.1:Int) then
  if 0≤(getD c3.1 (toNat t2) (0:Int))∧(getD c3.1 (toNat t2) (0:Int))<(length t1:Int) then
  let x7:=(getD t1 (toNat (getD c3.1 (toNat t2) (0:Int))) ([]:(List Bool)))
  if 0≤t7∧t7<(length x7:Int) then
  bif (getD x7 (toNat t7) false) then
  some (.inr ((true,()),()))
  else
  (F75_0 k n t1 t2 (wrap .i64 (t7+(1:Int))) c3).bind some
  else none
  else none
  else none
  else
  some (.inl ((),()))
  else none
  else none
def sq75_0:Shape:=⟨[],[(1,.val KD54),(2,.val (.int .i64)),(3,.ptr 3 []),(7,.val (.int .i64))],[(3,some 81,KD15)]⟩
def fu75_0 (k m:Nat) (v:sq75_0.V):=F75_0 k m v.1.1 v.1.2.1 v.1.2.2.1 v.2.1
def fr75_0 (k:Nat):Frag:=⟨sq75_0,[(.exit 0,⟨[],[],[]⟩),(.ret,⟨[],[(6,.val .bool)],[]⟩)],fu75_0 k k⟩
def F75 (k:Nat) (a0:TY33) (a1:(List (List Bool))) (a2:Int):Option TY72 :=
 if 0≤a2∧a2<(length a0.1:Int) then
 let x1:=(decide ((getD a0.1 (toNat a2) (0:Int))<(0:Int)))
 bif x1 then
 some ((true,()),())
 else
 (F75_0 k k a1 a2 (0:Int) a0).bind fun r8 =>
 match r8 with
 |.inl r9 =>
  some ((false,()),())
 |.inr r9 =>
  some ((r9.1.1,()),())
 else none
def sp75 (k:Nat):Spec:=⟨[.val KD15,.val KD54,.val (.int .i64)],[.val .bool],fun x=>F75 k x.1 x.2.1 x.2.2.1⟩
def lim75:Lim:=⟨38,3,false,false,[],[]⟩
def cfg75 (k:Nat):Nat→Option Spec:=cfgL []
noncomputable def co75_0:Code:=codeAt (bodyOf Try.f75) [.r,.r,.l,.r,.s]
noncomputable def cb75_0:Code:=codeAt (bodyOf Try.f75) [.r,.r,.l,.r,.s,.b]
noncomputable def co75:Code:=codeAt (bodyOf Try.f75) []
theorem cfg75_ok (k:Nat):CfgOK Try.prog (cfg75 k):=cfgL_nil
noncomputable def bo75_0 (k m:Nat) (v:sq75_0.V):=body Try.prog (stepper Try.prog (cfg75 k) lim75) .go cb75_0 (sq75_0.st v) (loopK (fr75_0 k) (fu75_0 k m))
theorem pp75_0 (k m:Nat) (v:sq75_0.V):fu75_0 k (m+1) v=(bo75_0 k m v).eval∧(bo75_0 k m v).left=(bo75_0 k m v).right:=⟨by kernel_rfl,by kernel_rfl⟩
theorem fr75_0_ok (k:Nat):FragOK Try.prog lim75 (fr75_0 k) co75_0 :=
 frag_cast (by kernel_rfl) (loop_ok (cfg75_ok k) (planOK_go _) (fu75_0 k) k (fun _=>rfl) (fun _=>rfl) (pp75_0 k))
def pl75 (k:Nat):Plan:=(.seq .go (.seq .go (.seq (.seq .go (.sub (.frag (fr75_0 k)))) .go)))
noncomputable def bo75 (k:Nat) (x:AT (sp75 k).ps):=fnT Try.prog (cfg75 k) lim75 Try.f75 (bodyOf Try.f75) (pl75 k) (sp75 k) x
theorem vv75 (k:Nat) (x:AT (sp75 k).ps):(sp75 k).impl x=(bo75 k x).eval∧(bo75 k x).left=(bo75 k x).right:=⟨by kernel_rfl,by kernel_rfl⟩
theorem v75 (k:Nat):Callable Try.prog 75∧Valid Try.prog 75 (sp75 k) :=
 fn_of (n:=lim75) (fn:=Try.f75) (p:=(pl75 k)) (cfg75_ok k) (by kernel_rfl) (plan_of (L:=[(fr75_0 k,co75_0)]) (by kernel_rfl) (.cons (fr75_0_ok k) .nil)) (vv75 k)
def F42_0 (k:Nat):Nat→(List (List Bool))→Int→Int→TY33→TY33→(List Bool)→(List Bool)→(List Bool)→Option (((Int×Unit)×TY12))
 |0,_,_,_,_,_,_,_,_=>none
 |n+1,t1,t5,t9,c2,c4,c22,c24,c26 =>
  bif (decide (t9<t5)) then
  (F75 k c2 t1 t9).bind fun r13 =>
  if 0≤t9∧t9<(length c26:Int) then
  if 0≤t9∧t9<(length (List.set c26 (toNat t9) r13.1.1):Int) then
  let x14:=(getD (List.set c26 (toNat t9) r13.1.1) (toNat t9) false)
  bif x14 then
  if 0≤t9∧t9<(length c2.2.1:Int) then
  let x15:=(decide ((getD c2.2.1 (toNat t9) (0:Int))<(1152921504606846976:Int)))
  if 0≤t9∧t9<(length (List.set c26 (toNat t9) r13.1.1):Int) then
  let x16:=(getD (List.set c26 (toNat t9) r13.1.1) (toNat t9) false)
  bif x16 then
  if 0≤t9∧t9<(length c2.2.2.1:Int) then
  let x17:=(getD c2.2.2.1 (toNat t9) (0:Int))
  if 0≤t9∧t9<(length c22:Int) then
  if 0≤t9∧t9<(length c24:Int) then
  let x18:=(List.set c24 (toNat t9) (decide (x17<(1152921504606846976:Int))))
  (F42_0 k n t1 t5 (wrap .i64 (t9+(1:Int))) c2 c4 (List.set c22 (toNat t9) x15) x18 (List.set c26 (toNat t9) r13.1.1)).bind some
  else none
  else none
  else none
  else
  if 0≤t9∧t9<(length c22:Int) then
  if 0≤t9∧t9<(length c24:Int) then
  (F42_0 k n t1 t5 (wrap .i64 (t9+(1:Int))) c2 c4 (List.set c22 (toNat t9) x15) (List.set c24 (toNat t9) false) (List.set c26 (toNat t9) r13.1.1)).bind some
  else none
  else none
  else none
  else none
  else
  if 0≤t9∧t9<(length (List.set c26 (toNat t9) r13.1.1):Int) then
  let x19:=(getD (List.set c26 (toNat t9) r13.1.1) (toNat t9) false)
  bif x19 then
  if 0≤t9∧t9<(length c2.2.2.1:Int) then
  let x20:=(getD c2.2.2.1 (toNat t9) (0:Int))
  if 0≤t9∧t9<(length c22:Int) then
  if 0≤t9∧t9<(length c24:Int) then
  let x21:=(List.set c24 (toNat t9) (decide (x20<(1152921504606846976:Int))))
  (F42_0 k n t1 t5 (wrap .i64 (t9+(1:Int))) c2 c4 (List.set c22 (toNat t9) false) x21 (List.set c26 (toNat t9) r13.1.1)).bind some
  else none
  else none
  else none
  else
  if 0≤t9∧t9<(length c22:Int) then
  if 0≤t9∧t9<(length c24:Int) then
  (F42_0 k n t1 t5 (wrap .i64 (t9+(1:Int))) c2 c4 (List.set c22 (toNat t9) false) (List.set c24 (toNat t9) false) (List.set c26 (toNat t9) r13.1.1)).bind some
  else none
  else none
  else none
  else none
  else none
  else
  some ((t5,()),(c2,c4,c22,c24,c26,()))
def sq42_0:Shape:=⟨[],[(1,.val KD54),(2,.ptr 2 []),(4,.ptr 4 []),(5,.val (.int .i64)),(6,.at 22 []),(7,.at 24 []),(8,.at 26 []),(9,.val (.int .i64))],[(2,some 81,KD15),(4,some 81,KD16),(22,none,KD71),(24,none,KD71),(26,none,KD71)]⟩
def fu42_0 (k m:Nat) (v:sq42_0.V):=F42_0 k m v.1.1 v.1.2.1 v.1.2.2.1 v.2.1 v.2.2.1 v.2.2.2.1 v.2.2.2.2.1 v.2.2.2.2.2.1
def fr42_0 (k:Nat):Frag:=⟨sq42_0,[(.exit 0,⟨[],[(2,.ptr 2 []),(4,.ptr 4 []),(5,.val (.int .i64)),(6,.at 22 []),(7,.at 24 []),(8,.at 26 [])],[(2,some 81,KD15),(4,some 81,KD16),(22,none,KD71),(24,none,KD71),(26,none,KD71)]⟩)],fu42_0 k k⟩
def F42_1 (k:Nat):Nat→Int→Bool→Int→TY33→TY33→(List Bool)→(List Bool)→(List Bool)→Option (((Int×Bool×Unit)×TY12))
 |0,_,_,_,_,_,_,_,_=>none
 |n+1,t5,t10,t11,c2,c4,c22,c24,c26 =>
  let x31:=(decide (t11<(length c2.2.2.2.1:Int)))
  bif x31 then
  if 0≤t11∧t11<(length c2.2.2.2.1:Int) then
  let x32:=(getD c2.2.2.2.1 (toNat t11) ((0:Int),((0:Int),((0:Int),()))))
  if 0≤x32.1∧x32.1<(length c22:Int) then
  bif (getD c22 (toNat x32.1) false) then
  if 0≤x32.2.1∧x32.2.1<(length c26:Int) then
  bif (getD c26 (toNat x32.2.1) false) then
  if 0≤x32.2.1∧x32.2.1<(length c22:Int) then
  bif (!(getD c22 (toNat x32.2.1) false)) then
  if 0≤x32.2.1∧x32.2.1<(length c22:Int) then
  if 0≤x32.2.1∧x32.2.1<(length c24:Int) then
  bif (getD c24 (toNat x32.2.1) false) then
  if 0≤x32.1∧x32.1<(length c26:Int) then
  bif (getD c26 (toNat x32.1) false) then
  if 0≤x32.1∧x32.1<(length c24:Int) then
  bif (!(getD c24 (toNat x32.1) false)) then
  if 0≤x32.1∧x32.1<(length c24:Int) then
  (F42_1 k n t5 true (wrap .i64 (t11+(1:Int))) c2 c4 (List.set c22 (toNat x32.2.1) true) (List.set c24 (toNat x32.1) true) c26).bind some
  else none
  else
  (F42_1 k n t5 true (wrap .i64 (t11+(1:Int))) c2 c4 (List.set c22 (toNat x32.2.1) true) c24 c26).bind some
  else none
  else
  (F42_1 k n t5 true (wrap .i64 (t11+(1:Int))) c2 c4 (List.set c22 (toNat x32.2.1) true) c24 c26).bind some
  else none
  else
  (F42_1 k n t5 true (wrap .i64 (t11+(1:Int))) c2 c4 (List.set c22 (toNat x32.2.1) true) c24 c26).bind some
  else none
  else none
  else
  if 0≤x32.2.1∧x32.2.1<(length c24:Int) then
  bif (getD c24 (toNat x32.2.1) false) then
  if 0≤x32.1∧x32.1<(length c26:Int) then
  bif (getD c26 (toNat x32.1) false) then
  if 0≤x32.1∧x32.1<(length c24:Int) then
  bif (!(getD c24 (toNat x32.1) false)) then
  if 0≤x32.1∧x32.1<(length c24:Int) then
  (F42_1 k n t5 true (wrap .i64 (t11+(1:Int))) c2 c4 c22 (List.set c24 (toNat x32.1) true) c26).bind some
  else none
  else
  (F42_1 k n t5 t10 (wrap .i64 (t11+(1:Int))) c2 c4 c22 c24 c26).bind some
  else none
  else
  (F42_1 k n t5 t10 (wrap .i64 (t11+(1:Int))) c2 c4 c22 c24 c26).bind some
  else none
  else
  (F42_1 k n t5 t10 (wrap .i64 (t11+(1:Int))) c2 c4 c22 c24 c26).bind some
  else none
  else none
  else
  if 0≤x32.2.1∧x32.2.1<(length c24:Int) then
  bif (getD c24 (toNat x32.2.1) false) then
  if 0≤x32.1∧x32.1<(length c26:Int) then
  bif (getD c26 (toNat x32.1) false) then
  if 0≤x32.1∧x32.1<(length c24:Int) then
  bif (!(getD c24 (toNat x32.1) false)) then
  if 0≤x32.1∧x32.1<(length c24:Int) then
  (F42_1 k n t5 true (wrap .i64 (t11+(1:Int))) c2 c4 c22 (List.set c24 (toNat x32.1) true) c26).bind some
  else none
  else
  (F42_1 k n t5 t10 (wrap .i64 (t11+(1:Int))) c2 c4 c22 c24 c26).bind some
  else none
  else
  (F42_1 k n t5 t10 (wrap .i64 (t11+(1:Int))) c2 c4 c22 c24 c26).bind some
  else none
  else
  (F42_1 k n t5 t10 (wrap .i64 (t11+(1:Int))) c2 c4 c22 c24 c26).bind some
  else none
  else none
  else
  if 0≤x32.2.1∧x32.2.1<(length c24:Int) then
  bif (getD c24 (toNat x32.2.1) false) then
  if 0≤x32.1∧x32.1<(length c26:Int) then
  bif (getD c26 (toNat x32.1) false) then
  if 0≤x32.1∧x32.1<(length c24:Int) then
  bif (!(getD c24 (toNat x32.1) false)) then
  if 0≤x32.1∧x32.1<(length c24:Int) then
  (F42_1 k n t5 true (wrap .i64 (t11+(1:Int))) c2 c4 c22 (List.set c24 (toNat x32.1) true) c26).bind some
  else none
  else
  (F42_1 k n t5 t10 (wrap .i64 (t11+(1:Int))) c2 c4 c22 c24 c26).bind some
  else none
  else
  (F42_1 k n t5 t10 (wrap .i64 (t11+(1:Int))) c2 c4 c22 c24 c26).bind some
  else none
  else
  (F42_1 k n t5 t10 (wrap .i64 (t11+(1:Int))) c2 c4 c22 c24 c26).bind some
  else none
  else none
  else none
  else
  some ((t5,t10,()),(c2,c4,c22,c24,c26,()))
def sq42_1:Shape:=⟨[],[(2,.ptr 2 []),(4,.ptr 4 []),(5,.val (.int .i64)),(6,.at 22 []),(7,.at 24 []),(8,.at 26 []),(10,.val .bool),(11,.val (.int .i64))],[(2,some 81,KD15),(4,some 81,KD16),(22,none,KD71),(24,none,KD71),(26,none,KD71)]⟩
def fu42_1 (k m:Nat) (v:sq42_1.V):=F42_1 k m v.1.1 v.1.2.1 v.1.2.2.1 v.2.1 v.2.2.1 v.2.2.2.1 v.2.2.2.2.1 v.2.2.2.2.2.1
def fr42_1 (k:Nat):Frag:=⟨sq42_1,[(.exit 4,⟨[],[(2,.ptr 2 []),(4,.ptr 4 []),(5,.val (.int .i64)),(6,.at 22 []),(7,.at 24 []),(8,.at 26 []),(10,.val .bool)],[(2,some 81,KD15),(4,some 81,KD16),(22,none,KD71),(24,none,KD71),(26,none,KD71)]⟩)],fu42_1 k k⟩
def F42_2 (k:Nat):Nat→Int→Bool→TY33→TY33→(List Bool)→(List Bool)→(List Bool)→Option (((Int×Unit)×(TY33×TY33×(List Bool)×(List Bool)×Unit)))
 |0,_,_,_,_,_,_,_=>none
 |n+1,t5,t10,c2,c4,c22,c24,c26 =>
  bif t10 then
  (F42_1 k k t5 false (0:Int) c2 c4 c22 c24 c26).bind fun r41 =>
  (F42_2 k n r41.1.1 r41.1.2.1 r41.2.1 r41.2.2.1 r41.2.2.2.1 r41.2.2.2.2.1 r41.2.2.2.2.2.1).bind some
  else
  some ((t5,()),(c2,c4,c22,c24,()))
def sq42_2:Shape:=⟨[],[(2,.ptr 2 []),(4,.ptr 4 []),(5,.val (.int .i64)),(6,.at 22 []),(7,.at 24 []),(8,.at 26 []),(10,.val .bool)],[(2,some 81,KD15),(4,some 81,KD16),(22,none,KD71),(24,none,KD71),(26,none,KD71)]⟩
def fu42_2 (k m:Nat) (v:sq42_2.V):=F42_2 k m v.1.1 v.1.2.1 v.2.1 v.2.2.1 v.2.2.2.1 v.2.2.2.2.1 v.2.2.2.2.2.1
def fr42_2 (k:Nat):Frag:=⟨sq42_2,[(.exit 2,⟨[],[(2,.ptr 2 []),(4,.ptr 4 []),(5,.val (.int .i64)),(6,.at 22 []),(7,.at 24 [])],[(2,some 81,KD15),(4,some 81,KD16),(22,none,KD71),(24,none,KD71)]⟩)],fu42_2 k k⟩
def F42_3 (k:Nat):Nat→Int→Int→TY33→TY33→TY33→(List Bool)→(List Bool)→(List Int)→Option ((Unit×(TY33×TY33×TY33×(List Int)×Unit)))
 |0,_,_,_,_,_,_,_,_=>none
 |n+1,t5,t15,c2,c4,c13,c22,c24,c134 =>
  bif (decide (t15<t5)) then
  if 0≤t15∧t15<(length c134:Int) then
  if 0≤t15∧t15<(length c22:Int) then
  bif (getD c22 (toNat t15) false) then
  if 0≤t15∧t15<(length c24:Int) then
  bif (getD c24 (toNat t15) false) then
  if 0≤t15∧t15<(length (List.set c134 (toNat t15) (-1:Int)):Int) then
  let x60:=(List.set (List.set c134 (toNat t15) (-1:Int)) (toNat t15) (length c13.1:Int))
  if 0≤t15∧t15<(length c2.1:Int) then
  if 0≤t15∧t15<(length c2.2.1:Int) then
  if 0≤t15∧t15<(length c2.2.2.1:Int) then
  let x61:=(getD c2.2.2.1 (toNat t15) (0:Int))
  let x62:=(List.set (replicate 1 (0:Int)) 0 (getD c2.1 (toNat t15) (0:Int)))
  if (length c13.1+length x62)*(8*2)≤281474976710656∧length c13.1+length x62≤9223372036854775807 then
  let x63:=(List.set (replicate 1 (0:Int)) 0 (getD c2.2.1 (toNat t15) (0:Int)))
  if (length c13.2.1+length x63)*(8*2)≤281474976710656∧length c13.2.1+length x63≤9223372036854775807 then
  let x64:=(List.set (replicate 1 (0:Int)) 0 x61)
  if (length c13.2.2.1+length x64)*(8*2)≤281474976710656∧length c13.2.2.1+length x64≤9223372036854775807 then
  (F42_3 k n t5 (wrap .i64 (t15+(1:Int))) c2 c4 ((c13.1++x62),((c13.2.1++x63),((c13.2.2.1++x64),c13.2.2.2))) c22 c24 x60).bind some
  else none
  else none
  else none
  else none
  else none
  else none
  else none
  else
  (F42_3 k n t5 (wrap .i64 (t15+(1:Int))) c2 c4 c13 c22 c24 (List.set c134 (toNat t15) (-1:Int))).bind some
  else none
  else
  (F42_3 k n t5 (wrap .i64 (t15+(1:Int))) c2 c4 c13 c22 c24 (List.set c134 (toNat t15) (-1:Int))).bind some
  else none
  else none
  else
  some ((),(c2,c4,c13,c134,()))
def sq42_3:Shape:=⟨[],[(2,.ptr 2 []),(4,.ptr 4 []),(5,.val (.int .i64)),(6,.at 22 []),(7,.at 24 []),(13,.ptr 13 []),(14,.at 134 []),(15,.val (.int .i64))],[(2,some 81,KD15),(4,some 81,KD16),(13,some 81,KD16),(22,none,KD71),(24,none,KD71),(134,none,KD64)]⟩
def fu42_3 (k m:Nat) (v:sq42_3.V):=F42_3 k m v.1.1 v.1.2.1 v.2.1 v.2.2.1 v.2.2.2.1 v.2.2.2.2.1 v.2.2.2.2.2.1 v.2.2.2.2.2.2.1
def fr42_3 (k:Nat):Frag:=⟨sq42_3,[(.exit 6,⟨[],[(2,.ptr 2 []),(4,.ptr 4 []),(13,.ptr 13 []),(14,.at 134 [])],[(2,some 81,KD15),(4,some 81,KD16),(13,some 81,KD16),(134,none,KD64)]⟩)],fu42_3 k k⟩
def F42_4 (k:Nat):Nat→Int→TY33→TY33→TY33→(List Int)→Option TY17
 |0,_,_,_,_,_=>none
 |n+1,t16,c2,c4,c13,c134 =>
  let x76:=(decide (t16<(length c2.2.2.2.1:Int)))
  bif x76 then
  if 0≤t16∧t16<(length c2.2.2.2.1:Int) then
  let x77:=(getD c2.2.2.2.1 (toNat t16) ((0:Int),((0:Int),((0:Int),()))))
  if 0≤x77.1∧x77.1<(length c134:Int) then
  let x78:=(decide ((getD c134 (toNat x77.1) (0:Int))≥(0:Int)))
  bif x78 then
  if 0≤x77.2.1∧x77.2.1<(length c134:Int) then
  let x79:=(getD c134 (toNat x77.2.1) (0:Int))
  bif (decide (x79≥(0:Int))) then
  if 0≤x77.1∧x77.1<(length c134:Int) then
  if 0≤x77.2.1∧x77.2.1<(length c134:Int) then
  let x80:=(getD c134 (toNat x77.2.1) (0:Int))
  let x81:=(List.set (replicate 1 ((0:Int),((0:Int),((0:Int),())))) 0 ((getD c134 (toNat x77.1) (0:Int)),(x80,(x77.2.2.1,()))))
  if (length c13.2.2.2.1+length x81)*(24*2)≤281474976710656∧length c13.2.2.2.1+length x81≤9223372036854775807 then
  (F42_4 k n (wrap .i64 (t16+(1:Int))) c2 c4 (c13.1,(c13.2.1,(c13.2.2.1,((c13.2.2.2.1++x81),c13.2.2.2.2)))) c134).bind some
  else none
  else none
  else none
  else
  (F42_4 k n (wrap .i64 (t16+(1:Int))) c2 c4 c13 c134).bind some
  else none
  else
  (F42_4 k n (wrap .i64 (t16+(1:Int))) c2 c4 c13 c134).bind some
  else none
  else none
  else
  some ((),(c4,c13,()))
def sq42_4:Shape:=⟨[],[(2,.ptr 2 []),(4,.ptr 4 []),(13,.ptr 13 []),(14,.at 134 []),(16,.val (.int .i64))],[(2,some 81,KD15),(4,some 81,KD16),(13,some 81,KD16),(134,none,KD64)]⟩
def fu42_4 (k m:Nat) (v:sq42_4.V):=F42_4 k m v.1.1 v.2.1 v.2.2.1 v.2.2.2.1 v.2.2.2.2.1
def fr42_4 (k:Nat):Frag:=⟨sq42_4,[(.exit 8,⟨[],[(4,.ptr 4 []),(13,.ptr 13 [])],[(4,some 81,KD16),(13,some 81,KD16)]⟩)],fu42_4 k k⟩
def F42 (k:Nat) (a0:TY33) (a1:(List (List Bool))):Option TY29 :=
 if (0≤(length a0.1:Int)∧(length a0.1:Int)<(length a0.1:Int)+1)∧(length a0.1:Int)≤9223372036854775807∧((1:Nat):Int)*(length a0.1:Int)≤281474976710656 then
 let x1:=(replicate (toNat (length a0.1:Int)) false)
 if (0≤(length a0.1:Int)∧(length a0.1:Int)<(length a0.1:Int)+1)∧(length a0.1:Int)≤9223372036854775807∧((1:Nat):Int)*(length a0.1:Int)≤281474976710656 then
 let x2:=(replicate (toNat (length a0.1:Int)) false)
 if (0≤(length a0.1:Int)∧(length a0.1:Int)<(length a0.1:Int)+1)∧(length a0.1:Int)≤9223372036854775807∧((1:Nat):Int)*(length a0.1:Int)≤281474976710656 then
 let x3:=(replicate (toNat (length a0.1:Int)) false)
 (F42_0 k k a1 (length a0.1:Int) (0:Int) a0 (([]:(List Int)),(([]:(List Int)),(([]:(List Int)),(([]:TY57),((0:Int),()))))) x1 x2 x3).bind fun r22 =>
 (F42_2 k k r22.1.1 true r22.2.1 r22.2.2.1 r22.2.2.2.1 r22.2.2.2.2.1 r22.2.2.2.2.2.1).bind fun r49 =>
 let y50:=r49.1.1
 if (0≤y50∧y50<y50+1)∧y50≤9223372036854775807∧((8:Nat):Int)*y50≤281474976710656 then
 (F42_3 k k y50 (0:Int) r49.2.1 r49.2.2.1 (([]:(List Int)),(([]:(List Int)),(([]:(List Int)),(([]:TY57),(r49.2.1.2.2.2.2.1,()))))) r49.2.2.2.1 r49.2.2.2.2.1 (replicate (toNat y50) (0:Int))).bind fun r65 =>
 (F42_4 k k (0:Int) r65.2.1 r65.2.2.1 r65.2.2.2.1 r65.2.2.2.2.1).bind fun r82 =>
 some ((r82.2.2.1,()),())
 else none
 else none
 else none
 else none
def sp42 (k:Nat):Spec:=⟨[.val KD15,.val KD54],[.own KD16],fun x=>F42 k x.1 x.2.1⟩
def lim42:Lim:=⟨234,2,false,false,[],[]⟩
def cfg42 (k:Nat):Nat→Option Spec:=cfgL [(75,sp75 k)]
noncomputable def co42_0:Code:=codeAt (bodyOf Try.f42) [.r,.r,.r,.r,.l,.r,.s]
noncomputable def cb42_0:Code:=codeAt (bodyOf Try.f42) [.r,.r,.r,.r,.l,.r,.s,.b]
noncomputable def co42_1:Code:=codeAt (bodyOf Try.f42) [.r,.r,.r,.r,.r,.l,.r,.s,.b,.r,.s,.r,.r,.s]
noncomputable def cb42_1:Code:=codeAt (bodyOf Try.f42) [.r,.r,.r,.r,.r,.l,.r,.s,.b,.r,.s,.r,.r,.s,.b]
noncomputable def co42_2:Code:=codeAt (bodyOf Try.f42) [.r,.r,.r,.r,.r,.l,.r,.s]
noncomputable def cb42_2:Code:=codeAt (bodyOf Try.f42) [.r,.r,.r,.r,.r,.l,.r,.s,.b]
noncomputable def co42_3:Code:=codeAt (bodyOf Try.f42) [.r,.r,.r,.r,.r,.r,.r,.r,.l,.r,.s]
noncomputable def cb42_3:Code:=codeAt (bodyOf Try.f42) [.r,.r,.r,.r,.r,.r,.r,.r,.l,.r,.s,.b]
noncomputable def co42_4:Code:=codeAt (bodyOf Try.f42) [.r,.r,.r,.r,.r,.r,.r,.r,.r,.l,.r,.s]
noncomputable def cb42_4:Code:=codeAt (bodyOf Try.f42) [.r,.r,.r,.r,.r,.r,.r,.r,.r,.l,.r,.s,.b]
noncomputable def co42:Code:=codeAt (bodyOf Try.f42) []
theorem cfg42_ok (k:Nat):CfgOK Try.prog (cfg42 k):=cfgL_cons (v75 k) (cfgL_nil)
noncomputable def bo42_0 (k m:Nat) (v:sq42_0.V):=body Try.prog (stepper Try.prog (cfg42 k) lim42) .go cb42_0 (sq42_0.st v) (loopK (fr42_0 k) (fu42_0 k m))
theorem pp42_0 (k m:Nat) (v:sq42_0.V):fu42_0 k (m+1) v=(bo42_0 k m v).eval∧(bo42_0 k m v).left=(bo42_0 k m v).right:=⟨by kernel_rfl,by kernel_rfl⟩
theorem fr42_0_ok (k:Nat):FragOK Try.prog lim42 (fr42_0 k) co42_0 :=
 frag_cast (by kernel_rfl) (loop_ok (cfg42_ok k) (planOK_go _) (fu42_0 k) k (fun _=>rfl) (fun _=>rfl) (pp42_0 k))
noncomputable def bo42_1 (k m:Nat) (v:sq42_1.V):=body Try.prog (stepper Try.prog (cfg42 k) lim42) .go cb42_1 (sq42_1.st v) (loopK (fr42_1 k) (fu42_1 k m))
theorem pp42_1 (k m:Nat) (v:sq42_1.V):fu42_1 k (m+1) v=(bo42_1 k m v).eval∧(bo42_1 k m v).left=(bo42_1 k m v).right:=⟨by kernel_rfl,by kernel_rfl⟩
theorem fr42_1_ok (k:Nat):FragOK Try.prog lim42 (fr42_1 k) co42_1 :=
 frag_cast (by kernel_rfl) (loop_ok (cfg42_ok k) (planOK_go _) (fu42_1 k) k (fun _=>rfl) (fun _=>rfl) (pp42_1 k))
def pl42_2 (k:Nat):Plan:=(.seq .go (.sub (.seq .go (.seq .go (.sub (.frag (fr42_1 k)))))))
noncomputable def bo42_2 (k m:Nat) (v:sq42_2.V):=body Try.prog (stepper Try.prog (cfg42 k) lim42) (pl42_2 k) cb42_2 (sq42_2.st v) (loopK (fr42_2 k) (fu42_2 k m))
theorem pp42_2 (k m:Nat) (v:sq42_2.V):fu42_2 k (m+1) v=(bo42_2 k m v).eval∧(bo42_2 k m v).left=(bo42_2 k m v).right:=⟨by kernel_rfl,by kernel_rfl⟩
theorem fr42_2_ok (k:Nat):FragOK Try.prog lim42 (fr42_2 k) co42_2 :=
 frag_cast (by kernel_rfl) (loop_ok (cfg42_ok k) (plan_of (L:=[(fr42_1 k,co42_1)]) (by kernel_rfl) (.cons (fr42_1_ok k) .nil)) (fu42_2 k) k (fun _=>rfl) (fun _=>rfl) (pp42_2 k))
noncomputable def bo42_3 (k m:Nat) (v:sq42_3.V):=body Try.prog (stepper Try.prog (cfg42 k) lim42) .go cb42_3 (sq42_3.st v) (loopK (fr42_3 k) (fu42_3 k m))
theorem pp42_3 (k m:Nat) (v:sq42_3.V):fu42_3 k (m+1) v=(bo42_3 k m v).eval∧(bo42_3 k m v).left=(bo42_3 k m v).right:=⟨by kernel_rfl,by kernel_rfl⟩
theorem fr42_3_ok (k:Nat):FragOK Try.prog lim42 (fr42_3 k) co42_3 :=
 frag_cast (by kernel_rfl) (loop_ok (cfg42_ok k) (planOK_go _) (fu42_3 k) k (fun _=>rfl) (fun _=>rfl) (pp42_3 k))
noncomputable def bo42_4 (k m:Nat) (v:sq42_4.V):=body Try.prog (stepper Try.prog (cfg42 k) lim42) .go cb42_4 (sq42_4.st v) (loopK (fr42_4 k) (fu42_4 k m))
theorem pp42_4 (k m:Nat) (v:sq42_4.V):fu42_4 k (m+1) v=(bo42_4 k m v).eval∧(bo42_4 k m v).left=(bo42_4 k m v).right:=⟨by kernel_rfl,by kernel_rfl⟩
theorem fr42_4_ok (k:Nat):FragOK Try.prog lim42 (fr42_4 k) co42_4 :=
 frag_cast (by kernel_rfl) (loop_ok (cfg42_ok k) (planOK_go _) (fu42_4 k) k (fun _=>rfl) (fun _=>rfl) (pp42_4 k))
def pl42 (k:Nat):Plan:=(.seq .go (.seq .go (.seq .go (.seq .go (.seq (.seq .go (.sub (.frag (fr42_0 k)))) (.seq (.seq .go (.sub (.frag (fr42_2 k)))) (.seq .go (.seq .go (.seq (.seq .go (.sub (.frag (fr42_3 k)))) (.seq (.seq .go (.sub (.frag (fr42_4 k)))) .go))))))))))
noncomputable def bo42 (k:Nat) (x:AT (sp42 k).ps):=fnT Try.prog (cfg42 k) lim42 Try.f42 (bodyOf Try.f42) (pl42 k) (sp42 k) x
theorem vv42 (k:Nat) (x:AT (sp42 k).ps):(sp42 k).impl x=(bo42 k x).eval∧(bo42 k x).left=(bo42 k x).right:=⟨by kernel_rfl,by kernel_rfl⟩
theorem v42 (k:Nat):Callable Try.prog 42∧Valid Try.prog 42 (sp42 k) :=
 fn_of (n:=lim42) (fn:=Try.f42) (p:=(pl42 k)) (cfg42_ok k) (by kernel_rfl) (plan_of (L:=[(fr42_0 k,co42_0),(fr42_2 k,co42_2),(fr42_3 k,co42_3),(fr42_4 k,co42_4)]) (by kernel_rfl) (.cons (fr42_0_ok k) (.cons (fr42_2_ok k) (.cons (fr42_3_ok k) (.cons (fr42_4_ok k) .nil))))) (vv42 k)
def F15_0 (k:Nat):Nat→Int→TY3→TY3→Option ((Unit×(TY3×TY3×Unit))⊕((Bool×Unit)×(TY3×Unit)))
 |0,_,_,_=>none
 |n+1,t10,c6,c8 =>
  let x25:=(decide (t10<(length c8.1.2.1:Int)))
  bif x25 then
  if 0≤t10∧t10<(length c8.1.2.1:Int) then
  let x26:=(getD c8.1.2.1 (toNat t10) ((0:Int),((0:Int),((Tree.mk ((0:Int),((0:Int),((0:Int),((0:Int),(ByteArray.empty,()))))) []),((Tree.mk ((0:Int),((0:Int),((0:Int),((0:Int),(ByteArray.empty,()))))) []),())))))
  (F41 k x26.2.2.1 c8.1).bind fun r27 =>
  if 0≤t10∧t10<(length c8.1.2.1:Int) then
  let x28:=(getD c8.1.2.1 (toNat t10) ((0:Int),((0:Int),((Tree.mk ((0:Int),((0:Int),((0:Int),((0:Int),(ByteArray.empty,()))))) []),((Tree.mk ((0:Int),((0:Int),((0:Int),((0:Int),(ByteArray.empty,()))))) []),())))))
  (F41 k x28.2.2.2.1 c8.1).bind fun r29 =>
  bif (!r27.1.2.1) then
  some (.inr ((false,()),(c8,())))
  else
  bif (!r29.1.2.1) then
  some (.inr ((false,()),(c8,())))
  else
  (F42 k r27.1.1 c8.2.2.2.1).bind fun r30 =>
  let x31:=(List.set (replicate 1 (([]:(List Int)),(([]:(List Int)),(([]:(List Int)),(([]:TY57),((0:Int),())))))) 0 r30.1.1)
  if (length c8.2.2.2.2.1+length x31)*(104*2)≤281474976710656∧length c8.2.2.2.2.1+length x31≤9223372036854775807 then
  (F42 k r29.1.1 c8.2.2.2.1).bind fun r32 =>
  let x33:=(List.set (replicate 1 (([]:(List Int)),(([]:(List Int)),(([]:(List Int)),(([]:TY57),((0:Int),())))))) 0 r32.1.1)
  if (length c8.2.2.2.2.2.1+length x33)*(104*2)≤281474976710656∧length c8.2.2.2.2.2.1+length x33≤9223372036854775807 then
  (F15_0 k n (wrap .i64 (t10+(1:Int))) c6 (c8.1,(c8.2.1,(c8.2.2.1,(c8.2.2.2.1,((c8.2.2.2.2.1++x31),((c8.2.2.2.2.2.1++x33),c8.2.2.2.2.2.2))))))).bind some
  else none
  else none
  else none
  else none
  else
  some (.inl ((),(c6,c8,())))
def sq15_0:Shape:=⟨[],[(6,.ptr 6 []),(8,.ptr 8 []),(10,.val (.int .i64))],[(6,some 33,KD2),(8,some 33,KD1)]⟩
def fu15_0 (k m:Nat) (v:sq15_0.V):=F15_0 k m v.1.1 v.2.1 v.2.2.1
def fr15_0 (k:Nat):Frag:=⟨sq15_0,[(.exit 0,⟨[],[(6,.ptr 6 []),(8,.ptr 8 [])],[(6,some 33,KD2),(8,some 33,KD1)]⟩),(.ret,⟨[],[(6,.ptr 6 []),(7,.val .bool)],[(6,some 33,KD1)]⟩)],fu15_0 k k⟩
def F15 (k:Nat) (a0:TY58) (a1:(List Int)) (a2:(List Int)):Option ((TY3×Bool×Unit)×Unit) :=
 let x1:=([]:TY41)
 let x2:=([]:TY23)
 let x3:=([]:TY31)
 let x4:=([]:TY31)
 (F36 k a0 a1 a2).bind fun r5 =>
 let x6:=([]:TY31)
 let x7:=([]:TY31)
 (F37 k r5.1.1).bind fun r12 =>
 (F38 k r12.1.1).bind fun r13 =>
 (F39 k r12.1.1 r13.1.1 r13.1.2.1).bind fun r14 =>
 (F40 k r13.1.2.1).bind fun r15 =>
 (F15_0 k k (0:Int) ((x1,(x2,())),(([]:(List Int)),(([]:(List Int)),(([]:(List (List Bool))),(x3,(x4,((0:Int),()))))))) (r5.1.1,(r13.1.1,(r13.1.2.1,(r14.1.1,(x6,(x7,(r15.1.1,())))))))).bind fun r34 =>
 match r34 with
 |.inl r35 =>
  some ((r35.2.2.1,true,()),())
 |.inr r35 =>
  some ((r35.2.1,r35.1.1,()),())
def sp15 (k:Nat):Spec:=⟨[.val KD50,.val KD62,.val KD62],[.own KD1,.val .bool],fun x=>F15 k x.1 x.2.1 x.2.2.1⟩
def lim15:Lim:=⟨101,3,false,false,[18,87,95],[(19,KD1)]⟩
def cfg15 (k:Nat):Nat→Option Spec:=cfgL [(36,sp36 k),(37,sp37 k),(38,sp38 k),(39,sp39 k),(40,sp40 k),(41,sp41 k),(42,sp42 k)]
noncomputable def co15_0:Code:=codeAt (bodyOf Try.f15) [.r,.r,.r,.r,.r,.r,.l,.r,.s]
noncomputable def cb15_0:Code:=codeAt (bodyOf Try.f15) [.r,.r,.r,.r,.r,.r,.l,.r,.s,.b]
noncomputable def co15:Code:=codeAt (bodyOf Try.f15) []
theorem cfg15_ok (k:Nat):CfgOK Try.prog (cfg15 k):=cfgL_cons (v36 k) (cfgL_cons (v37 k) (cfgL_cons (v38 k) (cfgL_cons (v39 k) (cfgL_cons (v40 k) (cfgL_cons (v41 k) (cfgL_cons (v42 k) (cfgL_nil)))))))
noncomputable def bo15_0 (k m:Nat) (v:sq15_0.V):=body Try.prog (stepper Try.prog (cfg15 k) lim15) .go cb15_0 (sq15_0.st v) (loopK (fr15_0 k) (fu15_0 k m))
theorem pp15_0 (k m:Nat) (v:sq15_0.V):fu15_0 k (m+1) v=(bo15_0 k m v).eval∧(bo15_0 k m v).left=(bo15_0 k m v).right:=⟨by kernel_rfl,by kernel_rfl⟩
theorem fr15_0_ok (k:Nat):FragOK Try.prog lim15 (fr15_0 k) co15_0 :=
 frag_cast (by kernel_rfl) (loop_ok (cfg15_ok k) (planOK_go _) (fu15_0 k) k (fun _=>rfl) (fun _=>rfl) (pp15_0 k))
def pl15 (k:Nat):Plan:=(.seq .go (.seq .go (.seq .go (.seq .go (.seq .go (.seq .go (.seq (.seq .go (.sub (.frag (fr15_0 k)))) .go)))))))
noncomputable def bo15 (k:Nat) (x:AT (sp15 k).ps):=fnT Try.prog (cfg15 k) lim15 Try.f15 (bodyOf Try.f15) (pl15 k) (sp15 k) x
theorem vv15 (k:Nat) (x:AT (sp15 k).ps):(sp15 k).impl x=(bo15 k x).eval∧(bo15 k x).left=(bo15 k x).right:=⟨by kernel_rfl,by kernel_rfl⟩
theorem v15 (k:Nat):Callable Try.prog 15∧Valid Try.prog 15 (sp15 k) :=
 fn_of (n:=lim15) (fn:=Try.f15) (p:=(pl15 k)) (cfg15_ok k) (by kernel_rfl) (plan_of (L:=[(fr15_0 k,co15_0)]) (by kernel_rfl) (.cons (fr15_0_ok k) .nil)) (vv15 k)
def F43_0 (k:Nat):Nat→Int→Int→TY33→(List (List Bool))→Option TY25
 |0,_,_,_,_=>none
 |n+1,t3,t5,c1,c16 =>
  bif (decide (t5<t3)) then
  if (0≤t3∧t3<t3+1)∧t3≤9223372036854775807∧((1:Nat):Int)*t3≤281474976710656 then
  if 0≤t5∧t5<(length c16:Int) then
  let x4:=(List.set c16 (toNat t5) (replicate (toNat t3) false))
  if 0≤t5∧t5<(length x4:Int) then
  if 0≤t5∧t5<(length (getD x4 (toNat t5) ([]:(List Bool))):Int) then
  let x5:=(List.set x4 (toNat t5) (List.set (getD x4 (toNat t5) ([]:(List Bool))) (toNat t5) true))
  (F43_0 k n t3 (wrap .i64 (t5+(1:Int))) c1 x5).bind some
  else none
  else none
  else none
  else none
  else
  some ((t3,()),(c1,c16,()))
def sq43_0:Shape:=⟨[],[(1,.ptr 1 []),(3,.val (.int .i64)),(4,.at 16 []),(5,.val (.int .i64))],[(1,some 81,KD15),(16,none,KD55)]⟩
def fu43_0 (k m:Nat) (v:sq43_0.V):=F43_0 k m v.1.1 v.1.2.1 v.2.1 v.2.2.1
def fr43_0 (k:Nat):Frag:=⟨sq43_0,[(.exit 0,⟨[],[(1,.ptr 1 []),(3,.val (.int .i64)),(4,.at 16 [])],[(1,some 81,KD15),(16,none,KD55)]⟩)],fu43_0 k k⟩
def F43_1 (k:Nat):Nat→Int→Int→TY33→(List (List Bool))→Option TY25
 |0,_,_,_,_=>none
 |n+1,t3,t6,c1,c16 =>
  let x14:=(decide (t6<(length c1.2.2.2.1:Int)))
  bif x14 then
  if 0≤t6∧t6<(length c1.2.2.2.1:Int) then
  let x15:=(getD c1.2.2.2.1 (toNat t6) ((0:Int),((0:Int),((0:Int),()))))
  if 0≤x15.1∧x15.1<(length c16:Int) then
  if 0≤t6∧t6<(length c1.2.2.2.1:Int) then
  let x16:=(getD c1.2.2.2.1 (toNat t6) ((0:Int),((0:Int),((0:Int),()))))
  if 0≤x16.2.1∧x16.2.1<(length (getD c16 (toNat x15.1) ([]:(List Bool))):Int) then
  let x17:=(List.set c16 (toNat x15.1) (List.set (getD c16 (toNat x15.1) ([]:(List Bool))) (toNat x16.2.1) true))
  (F43_1 k n t3 (wrap .i64 (t6+(1:Int))) c1 x17).bind some
  else none
  else none
  else none
  else none
  else
  some ((t3,()),(c1,c16,()))
def sq43_1:Shape:=⟨[],[(1,.ptr 1 []),(3,.val (.int .i64)),(4,.at 16 []),(6,.val (.int .i64))],[(1,some 81,KD15),(16,none,KD55)]⟩
def fu43_1 (k m:Nat) (v:sq43_1.V):=F43_1 k m v.1.1 v.1.2.1 v.2.1 v.2.2.1
def fr43_1 (k:Nat):Frag:=⟨sq43_1,[(.exit 2,⟨[],[(1,.ptr 1 []),(3,.val (.int .i64)),(4,.at 16 [])],[(1,some 81,KD15),(16,none,KD55)]⟩)],fu43_1 k k⟩
def F43_2 (k:Nat):Nat→Int→Int→Int→Int→TY33→(List (List Bool))→Option (((Int×Int×Int×Unit)×TY27))
 |0,_,_,_,_,_,_=>none
 |n+1,t3,t7,t8,t9,c1,c16 =>
  bif (decide (t9<t3)) then
  if 0≤t8∧t8<(length c16:Int) then
  if 0≤t8∧t8<(length c16:Int) then
  if 0≤t9∧t9<(length (getD c16 (toNat t8) ([]:(List Bool))):Int) then
  let x28:=(getD (getD c16 (toNat t8) ([]:(List Bool))) (toNat t9) false)
  bif x28 then
  if 0≤t9∧t9<(length (getD c16 (toNat t8) ([]:(List Bool))):Int) then
  let x29:=(List.set c16 (toNat t8) (List.set (getD c16 (toNat t8) ([]:(List Bool))) (toNat t9) true))
  (F43_2 k n t3 t7 t8 (wrap .i64 (t9+(1:Int))) c1 x29).bind some
  else none
  else
  if 0≤t8∧t8<(length c16:Int) then
  if 0≤t7∧t7<(length (getD c16 (toNat t8) ([]:(List Bool))):Int) then
  let x30:=(getD (getD c16 (toNat t8) ([]:(List Bool))) (toNat t7) false)
  bif x30 then
  if 0≤t7∧t7<(length c16:Int) then
  if 0≤t9∧t9<(length (getD c16 (toNat t7) ([]:(List Bool))):Int) then
  let x31:=(getD (getD c16 (toNat t7) ([]:(List Bool))) (toNat t9) false)
  if 0≤t9∧t9<(length (getD c16 (toNat t8) ([]:(List Bool))):Int) then
  let x32:=(List.set c16 (toNat t8) (List.set (getD c16 (toNat t8) ([]:(List Bool))) (toNat t9) x31))
  (F43_2 k n t3 t7 t8 (wrap .i64 (t9+(1:Int))) c1 x32).bind some
  else none
  else none
  else none
  else
  if 0≤t9∧t9<(length (getD c16 (toNat t8) ([]:(List Bool))):Int) then
  let x33:=(List.set c16 (toNat t8) (List.set (getD c16 (toNat t8) ([]:(List Bool))) (toNat t9) false))
  (F43_2 k n t3 t7 t8 (wrap .i64 (t9+(1:Int))) c1 x33).bind some
  else none
  else none
  else none
  else none
  else none
  else none
  else
  some ((t3,t7,t8,()),(c1,c16,()))
def sq43_2:Shape:=⟨[],[(1,.ptr 1 []),(3,.val (.int .i64)),(4,.at 16 []),(7,.val (.int .i64)),(8,.val (.int .i64)),(9,.val (.int .i64))],[(1,some 81,KD15),(16,none,KD55)]⟩
def fu43_2 (k m:Nat) (v:sq43_2.V):=F43_2 k m v.1.1 v.1.2.1 v.1.2.2.1 v.1.2.2.2.1 v.2.1 v.2.2.1
def fr43_2 (k:Nat):Frag:=⟨sq43_2,[(.exit 8,⟨[],[(1,.ptr 1 []),(3,.val (.int .i64)),(4,.at 16 []),(7,.val (.int .i64)),(8,.val (.int .i64))],[(1,some 81,KD15),(16,none,KD55)]⟩)],fu43_2 k k⟩
def F43_3 (k:Nat):Nat→Int→Int→Int→TY33→(List (List Bool))→Option (((Int×Int×Unit)×TY27))
 |0,_,_,_,_,_=>none
 |n+1,t3,t7,t8,c1,c16 =>
  bif (decide (t8<t3)) then
  (F43_2 k k t3 t7 t8 (0:Int) c1 c16).bind fun r40 =>
  (F43_3 k n r40.1.1 r40.1.2.1 (wrap .i64 (r40.1.2.2.1+(1:Int))) r40.2.1 r40.2.2.1).bind some
  else
  some ((t3,t7,()),(c1,c16,()))
def sq43_3:Shape:=⟨[],[(1,.ptr 1 []),(3,.val (.int .i64)),(4,.at 16 []),(7,.val (.int .i64)),(8,.val (.int .i64))],[(1,some 81,KD15),(16,none,KD55)]⟩
def fu43_3 (k m:Nat) (v:sq43_3.V):=F43_3 k m v.1.1 v.1.2.1 v.1.2.2.1 v.2.1 v.2.2.1
def fr43_3 (k:Nat):Frag:=⟨sq43_3,[(.exit 6,⟨[],[(1,.ptr 1 []),(3,.val (.int .i64)),(4,.at 16 []),(7,.val (.int .i64))],[(1,some 81,KD15),(16,none,KD55)]⟩)],fu43_3 k k⟩
def F43_4 (k:Nat):Nat→Int→Int→TY33→(List (List Bool))→Option ((Unit×TY27))
 |0,_,_,_,_=>none
 |n+1,t3,t7,c1,c16 =>
  bif (decide (t7<t3)) then
  (F43_3 k k t3 t7 (0:Int) c1 c16).bind fun r51 =>
  (F43_4 k n r51.1.1 (wrap .i64 (r51.1.2.1+(1:Int))) r51.2.1 r51.2.2.1).bind some
  else
  some ((),(c1,c16,()))
def sq43_4:Shape:=⟨[],[(1,.ptr 1 []),(3,.val (.int .i64)),(4,.at 16 []),(7,.val (.int .i64))],[(1,some 81,KD15),(16,none,KD55)]⟩
def fu43_4 (k m:Nat) (v:sq43_4.V):=F43_4 k m v.1.1 v.1.2.1 v.2.1 v.2.2.1
def fr43_4 (k:Nat):Frag:=⟨sq43_4,[(.exit 4,⟨[],[(1,.ptr 1 []),(4,.at 16 [])],[(1,some 81,KD15),(16,none,KD55)]⟩)],fu43_4 k k⟩
def F43_5 (k:Nat):Nat→Int→TY33→(List (List Bool))→Option ((Unit×Unit)⊕TY72)
 |0,_,_,_=>none
 |n+1,t10,c1,c16 =>
  let x62:=(decide (t10<(length c1.2.2.2.1:Int)))
  bif x62 then
  if 0≤t10∧t10<(length c1.2.2.2.1:Int) then
  let x63:=(getD c1.2.2.2.1 (toNat t10) ((0:Int),((0:Int),((0:Int),()))))
  bif (decide (x63.2.2.1>(0:Int))) then
  if 0≤x63.2.1∧x63.2.1<(length c16:Int) then
  if 0≤x63.1∧x63.1<(length (getD c16 (toNat x63.2.1) ([]:(List Bool))):Int) then
  let x64:=(getD (getD c16 (toNat x63.2.1) ([]:(List Bool))) (toNat x63.1) false)
  bif x64 then
  some (.inr ((true,()),()))
  else
  (F43_5 k n (wrap .i64 (t10+(1:Int))) c1 c16).bind some
  else none
  else none
  else
  (F43_5 k n (wrap .i64 (t10+(1:Int))) c1 c16).bind some
  else none
  else
  some (.inl ((),()))
def sq43_5:Shape:=⟨[],[(1,.ptr 1 []),(4,.at 16 []),(10,.val (.int .i64))],[(1,some 81,KD15),(16,none,KD55)]⟩
def fu43_5 (k m:Nat) (v:sq43_5.V):=F43_5 k m v.1.1 v.2.1 v.2.2.1
def fr43_5 (k:Nat):Frag:=⟨sq43_5,[(.exit 10,⟨[],[],[]⟩),(.ret,⟨[],[(2,.val .bool)],[]⟩)],fu43_5 k k⟩
def F43 (k:Nat) (a0:TY33):Option TY72 :=
 if (0≤(length a0.1:Int)∧(length a0.1:Int)<(length a0.1:Int)+1)∧(length a0.1:Int)≤9223372036854775807∧((24:Nat):Int)*(length a0.1:Int)≤281474976710656 then
 let x1:=(replicate (toNat (length a0.1:Int)) ([]:(List Bool)))
 (F43_0 k k (length a0.1:Int) (0:Int) a0 x1).bind fun r6 =>
 (F43_1 k k r6.1.1 (0:Int) r6.2.1 r6.2.2.1).bind fun r18 =>
 (F43_4 k k r18.1.1 (0:Int) r18.2.1 r18.2.2.1).bind fun r56 =>
 (F43_5 k k (0:Int) r56.2.1 r56.2.2.1).bind fun r65 =>
 match r65 with
 |.inl r66 =>
  some ((false,()),())
 |.inr r66 =>
  some ((r66.1.1,()),())
 else none
def sp43 (k:Nat):Spec:=⟨[.val KD15],[.val .bool],fun x=>F43 k x.1⟩
def lim43:Lim:=⟨128,1,false,false,[],[]⟩
def cfg43 (k:Nat):Nat→Option Spec:=cfgL []
noncomputable def co43_0:Code:=codeAt (bodyOf Try.f43) [.r,.r,.r,.l,.r,.s]
noncomputable def cb43_0:Code:=codeAt (bodyOf Try.f43) [.r,.r,.r,.l,.r,.s,.b]
noncomputable def co43_1:Code:=codeAt (bodyOf Try.f43) [.r,.r,.r,.r,.l,.r,.s]
noncomputable def cb43_1:Code:=codeAt (bodyOf Try.f43) [.r,.r,.r,.r,.l,.r,.s,.b]
noncomputable def co43_2:Code:=codeAt (bodyOf Try.f43) [.r,.r,.r,.r,.r,.l,.r,.s,.b,.r,.l,.s,.r,.s,.b,.r,.l,.s,.r,.s]
noncomputable def cb43_2:Code:=codeAt (bodyOf Try.f43) [.r,.r,.r,.r,.r,.l,.r,.s,.b,.r,.l,.s,.r,.s,.b,.r,.l,.s,.r,.s,.b]
noncomputable def co43_3:Code:=codeAt (bodyOf Try.f43) [.r,.r,.r,.r,.r,.l,.r,.s,.b,.r,.l,.s,.r,.s]
noncomputable def cb43_3:Code:=codeAt (bodyOf Try.f43) [.r,.r,.r,.r,.r,.l,.r,.s,.b,.r,.l,.s,.r,.s,.b]
noncomputable def co43_4:Code:=codeAt (bodyOf Try.f43) [.r,.r,.r,.r,.r,.l,.r,.s]
noncomputable def cb43_4:Code:=codeAt (bodyOf Try.f43) [.r,.r,.r,.r,.r,.l,.r,.s,.b]
noncomputable def co43_5:Code:=codeAt (bodyOf Try.f43) [.r,.r,.r,.r,.r,.r,.l,.r,.s]
noncomputable def cb43_5:Code:=codeAt (bodyOf Try.f43) [.r,.r,.r,.r,.r,.r,.l,.r,.s,.b]
noncomputable def co43:Code:=codeAt (bodyOf Try.f43) []
theorem cfg43_ok (k:Nat):CfgOK Try.prog (cfg43 k):=cfgL_nil
noncomputable def bo43_0 (k m:Nat) (v:sq43_0.V):=body Try.prog (stepper Try.prog (cfg43 k) lim43) .go cb43_0 (sq43_0.st v) (loopK (fr43_0 k) (fu43_0 k m))
theorem pp43_0 (k m:Nat) (v:sq43_0.V):fu43_0 k (m+1) v=(bo43_0 k m v).eval∧(bo43_0 k m v).left=(bo43_0 k m v).right:=⟨by kernel_rfl,by kernel_rfl⟩
theorem fr43_0_ok (k:Nat):FragOK Try.prog lim43 (fr43_0 k) co43_0 :=
 frag_cast (by kernel_rfl) (loop_ok (cfg43_ok k) (planOK_go _) (fu43_0 k) k (fun _=>rfl) (fun _=>rfl) (pp43_0 k))
noncomputable def bo43_1 (k m:Nat) (v:sq43_1.V):=body Try.prog (stepper Try.prog (cfg43 k) lim43) .go cb43_1 (sq43_1.st v) (loopK (fr43_1 k) (fu43_1 k m))
theorem pp43_1 (k m:Nat) (v:sq43_1.V):fu43_1 k (m+1) v=(bo43_1 k m v).eval∧(bo43_1 k m v).left=(bo43_1 k m v).right:=⟨by kernel_rfl,by kernel_rfl⟩
theorem fr43_1_ok (k:Nat):FragOK Try.prog lim43 (fr43_1 k) co43_1 :=
 frag_cast (by kernel_rfl) (loop_ok (cfg43_ok k) (planOK_go _) (fu43_1 k) k (fun _=>rfl) (fun _=>rfl) (pp43_1 k))
noncomputable def bo43_2 (k m:Nat) (v:sq43_2.V):=body Try.prog (stepper Try.prog (cfg43 k) lim43) .go cb43_2 (sq43_2.st v) (loopK (fr43_2 k) (fu43_2 k m))
theorem pp43_2 (k m:Nat) (v:sq43_2.V):fu43_2 k (m+1) v=(bo43_2 k m v).eval∧(bo43_2 k m v).left=(bo43_2 k m v).right:=⟨by kernel_rfl,by kernel_rfl⟩
theorem fr43_2_ok (k:Nat):FragOK Try.prog lim43 (fr43_2 k) co43_2 :=
 frag_cast (by kernel_rfl) (loop_ok (cfg43_ok k) (planOK_go _) (fu43_2 k) k (fun _=>rfl) (fun _=>rfl) (pp43_2 k))
def pl43_3 (k:Nat):Plan:=(.seq .go (.seq (.sub (.seq .go (.sub (.frag (fr43_2 k))))) .go))
noncomputable def bo43_3 (k m:Nat) (v:sq43_3.V):=body Try.prog (stepper Try.prog (cfg43 k) lim43) (pl43_3 k) cb43_3 (sq43_3.st v) (loopK (fr43_3 k) (fu43_3 k m))
theorem pp43_3 (k m:Nat) (v:sq43_3.V):fu43_3 k (m+1) v=(bo43_3 k m v).eval∧(bo43_3 k m v).left=(bo43_3 k m v).right:=⟨by kernel_rfl,by kernel_rfl⟩
theorem fr43_3_ok (k:Nat):FragOK Try.prog lim43 (fr43_3 k) co43_3 :=
 frag_cast (by kernel_rfl) (loop_ok (cfg43_ok k) (plan_of (L:=[(fr43_2 k,co43_2)]) (by kernel_rfl) (.cons (fr43_2_ok k) .nil)) (fu43_3 k) k (fun _=>rfl) (fun _=>rfl) (pp43_3 k))
def pl43_4 (k:Nat):Plan:=(.seq .go (.seq (.sub (.seq .go (.sub (.frag (fr43_3 k))))) .go))
noncomputable def bo43_4 (k m:Nat) (v:sq43_4.V):=body Try.prog (stepper Try.prog (cfg43 k) lim43) (pl43_4 k) cb43_4 (sq43_4.st v) (loopK (fr43_4 k) (fu43_4 k m))
theorem pp43_4 (k m:Nat) (v:sq43_4.V):fu43_4 k (m+1) v=(bo43_4 k m v).eval∧(bo43_4 k m v).left=(bo43_4 k m v).right:=⟨by kernel_rfl,by kernel_rfl⟩
theorem fr43_4_ok (k:Nat):FragOK Try.prog lim43 (fr43_4 k) co43_4 :=
 frag_cast (by kernel_rfl) (loop_ok (cfg43_ok k) (plan_of (L:=[(fr43_3 k,co43_3)]) (by kernel_rfl) (.cons (fr43_3_ok k) .nil)) (fu43_4 k) k (fun _=>rfl) (fun _=>rfl) (pp43_4 k))
noncomputable def bo43_5 (k m:Nat) (v:sq43_5.V):=body Try.prog (stepper Try.prog (cfg43 k) lim43) .go cb43_5 (sq43_5.st v) (loopK (fr43_5 k) (fu43_5 k m))
theorem pp43_5 (k m:Nat) (v:sq43_5.V):fu43_5 k (m+1) v=(bo43_5 k m v).eval∧(bo43_5 k m v).left=(bo43_5 k m v).right:=⟨by kernel_rfl,by kernel_rfl⟩
theorem fr43_5_ok (k:Nat):FragOK Try.prog lim43 (fr43_5 k) co43_5 :=
 frag_cast (by kernel_rfl) (loop_ok (cfg43_ok k) (planOK_go _) (fu43_5 k) k (fun _=>rfl) (fun _=>rfl) (pp43_5 k))
def pl43 (k:Nat):Plan:=(.seq .go (.seq .go (.seq .go (.seq (.seq .go (.sub (.frag (fr43_0 k)))) (.seq (.seq .go (.sub (.frag (fr43_1 k)))) (.seq (.seq .go (.sub (.frag (fr43_4 k)))) (.seq (.seq .go (.sub (.frag (fr43_5 k)))) .go)))))))
noncomputable def bo43 (k:Nat) (x:AT (sp43 k).ps):=fnT Try.prog (cfg43 k) lim43 Try.f43 (bodyOf Try.f43) (pl43 k) (sp43 k) x
theorem vv43 (k:Nat) (x:AT (sp43 k).ps):(sp43 k).impl x=(bo43 k x).eval∧(bo43 k x).left=(bo43 k x).right:=⟨by kernel_rfl,by kernel_rfl⟩
theorem v43 (k:Nat):Callable Try.prog 43∧Valid Try.prog 43 (sp43 k) :=
 fn_of (n:=lim43) (fn:=Try.f43) (p:=(pl43 k)) (cfg43_ok k) (by kernel_rfl) (plan_of (L:=[(fr43_0 k,co43_0),(fr43_1 k,co43_1),(fr43_4 k,co43_4),(fr43_5 k,co43_5)]) (by kernel_rfl) (.cons (fr43_0_ok k) (.cons (fr43_1_ok k) (.cons (fr43_4_ok k) (.cons (fr43_5_ok k) .nil))))) (vv43 k)
def F16_0 (k:Nat):Nat→Int→TY3→Option ((Unit×Unit)⊕TY72)
 |0,_,_=>none
 |n+1,t3,c1 =>
  let x4:=(decide (t3<(length c1.2.2.2.2.1:Int)))
  bif x4 then
  if 0≤t3∧t3<(length c1.2.2.2.2.1:Int) then
  let x5:=(getD c1.2.2.2.2.1 (toNat t3) (([]:(List Int)),(([]:(List Int)),(([]:(List Int)),(([]:TY57),((0:Int),()))))))
  (F43 k x5).bind fun r6 =>
  bif r6.1.1 then
  some (.inr ((false,()),()))
  else
  (F16_0 k n (wrap .i64 (t3+(1:Int))) c1).bind some
  else none
  else
  some (.inl ((),()))
def sq16_0:Shape:=⟨[],[(1,.ptr 1 []),(3,.val (.int .i64))],[(1,some 33,KD0)]⟩
def fu16_0 (k m:Nat) (v:sq16_0.V):=F16_0 k m v.1.1 v.2.1
def fr16_0 (k:Nat):Frag:=⟨sq16_0,[(.exit 0,⟨[],[],[]⟩),(.ret,⟨[],[(2,.val .bool)],[]⟩)],fu16_0 k k⟩
def F16 (k:Nat) (a0:TY3):Option TY72 :=
 (F16_0 k k (0:Int) a0).bind fun r7 =>
 match r7 with
 |.inl r8 =>
  some ((true,()),())
 |.inr r8 =>
  some ((r8.1.1,()),())
def sp16 (k:Nat):Spec:=⟨[.val KD0],[.val .bool],fun x=>F16 k x.1⟩
def lim16:Lim:=⟨17,1,false,false,[],[]⟩
def cfg16 (k:Nat):Nat→Option Spec:=cfgL [(43,sp43 k)]
noncomputable def co16_0:Code:=codeAt (bodyOf Try.f16) [.r,.l,.r,.s]
noncomputable def cb16_0:Code:=codeAt (bodyOf Try.f16) [.r,.l,.r,.s,.b]
noncomputable def co16:Code:=codeAt (bodyOf Try.f16) []
theorem cfg16_ok (k:Nat):CfgOK Try.prog (cfg16 k):=cfgL_cons (v43 k) (cfgL_nil)
noncomputable def bo16_0 (k m:Nat) (v:sq16_0.V):=body Try.prog (stepper Try.prog (cfg16 k) lim16) .go cb16_0 (sq16_0.st v) (loopK (fr16_0 k) (fu16_0 k m))
theorem pp16_0 (k m:Nat) (v:sq16_0.V):fu16_0 k (m+1) v=(bo16_0 k m v).eval∧(bo16_0 k m v).left=(bo16_0 k m v).right:=⟨by kernel_rfl,by kernel_rfl⟩
theorem fr16_0_ok (k:Nat):FragOK Try.prog lim16 (fr16_0 k) co16_0 :=
 frag_cast (by kernel_rfl) (loop_ok (cfg16_ok k) (planOK_go _) (fu16_0 k) k (fun _=>rfl) (fun _=>rfl) (pp16_0 k))
def pl16 (k:Nat):Plan:=(.seq .go (.seq (.seq .go (.sub (.frag (fr16_0 k)))) .go))
noncomputable def bo16 (k:Nat) (x:AT (sp16 k).ps):=fnT Try.prog (cfg16 k) lim16 Try.f16 (bodyOf Try.f16) (pl16 k) (sp16 k) x
theorem vv16 (k:Nat) (x:AT (sp16 k).ps):(sp16 k).impl x=(bo16 k x).eval∧(bo16 k x).left=(bo16 k x).right:=⟨by kernel_rfl,by kernel_rfl⟩
theorem v16 (k:Nat):Callable Try.prog 16∧Valid Try.prog 16 (sp16 k) :=
 fn_of (n:=lim16) (fn:=Try.f16) (p:=(pl16 k)) (cfg16_ok k) (by kernel_rfl) (plan_of (L:=[(fr16_0 k,co16_0)]) (by kernel_rfl) (.cons (fr16_0_ok k) .nil)) (vv16 k)
def F62 (k:Nat) (a0:Int) (a1:Int):Option TY73 :=
 if a1≠0 then
 bif (decide ((Int.tmod a0 a1)<(0:Int))) then
 some (((wrap .i64 ((Int.tmod a0 a1)+a1)),()),())
 else
 some (((Int.tmod a0 a1),()),())
 else none
def sp62 (k:Nat):Spec:=⟨[.val (.int .i64),.val (.int .i64)],[.val (.int .i64)],fun x=>F62 k x.1 x.2.1⟩
def lim62:Lim:=⟨15,2,false,false,[],[]⟩
def cfg62 (k:Nat):Nat→Option Spec:=cfgL []
noncomputable def co62:Code:=codeAt (bodyOf Try.f62) []
theorem cfg62_ok (k:Nat):CfgOK Try.prog (cfg62 k):=cfgL_nil
noncomputable def bo62 (k:Nat) (x:AT (sp62 k).ps):=fnT Try.prog (cfg62 k) lim62 Try.f62 (bodyOf Try.f62) .go (sp62 k) x
theorem vv62 (k:Nat) (x:AT (sp62 k).ps):(sp62 k).impl x=(bo62 k x).eval∧(bo62 k x).left=(bo62 k x).right:=⟨by kernel_rfl,by kernel_rfl⟩
theorem v62 (k:Nat):Callable Try.prog 62∧Valid Try.prog 62 (sp62 k) :=
 fn_of (n:=lim62) (fn:=Try.f62) (p:=.go) (cfg62_ok k) (by kernel_rfl) (planOK_go _) (vv62 k)
def F23_0 (k:Nat):Nat→(List Int)→Int→Int→(List Int)→Option TY63
 |0,_,_,_,_=>none
 |n+1,t0,t1,t6,e0 =>
  let x1:=(decide (t6<(length t0:Int)))
  bif x1 then
  bif (decide (t6<t1)) then
  let x2:=(List.set (List.set (List.set (List.set (List.set (List.set (List.set (List.set (List.set (List.set (List.set (List.set (replicate 12 (0:Int)) 0 (97:Int)) 1 (97:Int)) 2 (98:Int)) 3 (99:Int)) 4 (49:Int)) 5 (55:Int)) 6 (32:Int)) 7 (120:Int)) 8 (19969:Int)) 9 (128512:Int)) 10 (45:Int)) 11 (50:Int))
  if 0≤t6∧t6<(length t0:Int) then
  (F62 k (getD t0 (toNat t6) (0:Int)) (12:Int)).bind fun r3 =>
  if 0≤r3.1.1∧r3.1.1<(length x2:Int) then
  let x4:=(List.set (replicate 1 (0:Int)) 0 (getD x2 (toNat r3.1.1) (0:Int)))
  if (length e0+length x4)*(8*2)≤281474976710656∧length e0+length x4≤9223372036854775807 then
  (F23_0 k n t0 t1 (wrap .i64 (t6+(1:Int))) (e0++x4)).bind some
  else none
  else none
  else none
  else
  some ((),(e0,()))
  else
  some ((),(e0,()))
def sq23_0:Shape:=⟨[(5,KD64)],[(0,.val KD62),(1,.val (.int .i64)),(5,.at 2000005 []),(6,.val (.int .i64))],[(2000005,none,KD64)]⟩
def fu23_0 (k m:Nat) (v:sq23_0.V):=F23_0 k m v.1.1 v.1.2.1 v.1.2.2.1 v.2.1
def fr23_0 (k:Nat):Frag:=⟨sq23_0,[(.exit 0,⟨[(5,KD64)],[(5,.at 2000005 [])],[(2000005,none,KD64)]⟩)],fu23_0 k k⟩
def F23 (k:Nat) (a0:(List Int)) (a1:Int):Option TY65 :=
 (F23_0 k k a0 a1 (0:Int) []).bind fun r5 =>
 some ((r5.2.1,()),())
def sp23 (k:Nat):Spec:=⟨[.val KD62,.val (.int .i64)],[.own KD64],fun x=>F23 k x.1 x.2.1⟩
def lim23:Lim:=⟨30,2,false,false,[],[]⟩
def cfg23 (k:Nat):Nat→Option Spec:=cfgL [(62,sp62 k)]
noncomputable def co23_0:Code:=codeAt (bodyOf Try.f23) [.r,.r,.l,.r,.s]
noncomputable def cb23_0:Code:=codeAt (bodyOf Try.f23) [.r,.r,.l,.r,.s,.b]
noncomputable def co23:Code:=codeAt (bodyOf Try.f23) []
theorem cfg23_ok (k:Nat):CfgOK Try.prog (cfg23 k):=cfgL_cons (v62 k) (cfgL_nil)
noncomputable def bo23_0 (k m:Nat) (v:sq23_0.V):=body Try.prog (stepper Try.prog (cfg23 k) lim23) .go cb23_0 (sq23_0.st v) (loopK (fr23_0 k) (fu23_0 k m))
theorem pp23_0 (k m:Nat) (v:sq23_0.V):fu23_0 k (m+1) v=(bo23_0 k m v).eval∧(bo23_0 k m v).left=(bo23_0 k m v).right:=⟨by kernel_rfl,by kernel_rfl⟩
theorem fr23_0_ok (k:Nat):FragOK Try.prog lim23 (fr23_0 k) co23_0 :=
 frag_cast (by kernel_rfl) (loop_ok (cfg23_ok k) (planOK_go _) (fu23_0 k) k (fun _=>rfl) (fun _=>rfl) (pp23_0 k))
def pl23 (k:Nat):Plan:=(.seq .go (.seq .go (.seq (.seq .go (.sub (.frag (fr23_0 k)))) .go)))
noncomputable def bo23 (k:Nat) (x:AT (sp23 k).ps):=fnT Try.prog (cfg23 k) lim23 Try.f23 (bodyOf Try.f23) (pl23 k) (sp23 k) x
theorem vv23 (k:Nat) (x:AT (sp23 k).ps):(sp23 k).impl x=(bo23 k x).eval∧(bo23 k x).left=(bo23 k x).right:=⟨by kernel_rfl,by kernel_rfl⟩
theorem v23 (k:Nat):Callable Try.prog 23∧Valid Try.prog 23 (sp23 k) :=
 fn_of (n:=lim23) (fn:=Try.f23) (p:=(pl23 k)) (cfg23_ok k) (by kernel_rfl) (plan_of (L:=[(fr23_0 k,co23_0)]) (by kernel_rfl) (.cons (fr23_0_ok k) .nil)) (vv23 k)
def F61_0 (k:Nat):Nat→(List Int)→(List Int)→Int→Int→Option ((((List Int)×Int×Unit)×Unit))
 |0,_,_,_,_=>none
 |n+1,t0,t1,t2,t7 =>
  let x3:=(decide ((wrap .i64 (t7+(1:Int)))<(length t0:Int)))
  bif x3 then
  if 0≤(wrap .i64 (t7+(1:Int)))∧(wrap .i64 (t7+(1:Int)))<(length t0:Int) then
  let x4:=(getD t0 (toNat (wrap .i64 (t7+(1:Int)))) (0:Int))
  bif (decide (x4≤t2)) then
  (F61_0 k n t0 t1 t2 (wrap .i64 (t7+(1:Int)))).bind some
  else
  some ((t1,t7,()),())
  else none
  else
  some ((t1,t7,()),())
def sq61_0:Shape:=⟨[],[(0,.val KD62),(1,.val KD62),(2,.val (.int .i64)),(7,.val (.int .i64))],[]⟩
def fu61_0 (k m:Nat) (v:sq61_0.V):=F61_0 k m v.1.1 v.1.2.1 v.1.2.2.1 v.1.2.2.2.1
def fr61_0 (k:Nat):Frag:=⟨sq61_0,[(.exit 0,⟨[],[(1,.val KD62),(7,.val (.int .i64))],[]⟩)],fu61_0 k k⟩
def F61 (k:Nat) (a0:(List Int)) (a1:(List Int)) (a2:Int):Option TY73 :=
 (F61_0 k k a0 a1 a2 (0:Int)).bind fun r5 =>
 if 0≤r5.1.2.1∧r5.1.2.1<(length r5.1.1:Int) then
 some (((getD r5.1.1 (toNat r5.1.2.1) (0:Int)),()),())
 else none
def sp61 (k:Nat):Spec:=⟨[.val KD62,.val KD62,.val (.int .i64)],[.val (.int .i64)],fun x=>F61 k x.1 x.2.1 x.2.2.1⟩
def lim61:Lim:=⟨28,3,false,false,[],[]⟩
def cfg61 (k:Nat):Nat→Option Spec:=cfgL []
noncomputable def co61_0:Code:=codeAt (bodyOf Try.f61) [.r,.r,.l,.s]
noncomputable def cb61_0:Code:=codeAt (bodyOf Try.f61) [.r,.r,.l,.s,.b]
noncomputable def co61:Code:=codeAt (bodyOf Try.f61) []
theorem cfg61_ok (k:Nat):CfgOK Try.prog (cfg61 k):=cfgL_nil
noncomputable def bo61_0 (k m:Nat) (v:sq61_0.V):=body Try.prog (stepper Try.prog (cfg61 k) lim61) .go cb61_0 (sq61_0.st v) (loopK (fr61_0 k) (fu61_0 k m))
theorem pp61_0 (k m:Nat) (v:sq61_0.V):fu61_0 k (m+1) v=(bo61_0 k m v).eval∧(bo61_0 k m v).left=(bo61_0 k m v).right:=⟨by kernel_rfl,by kernel_rfl⟩
theorem fr61_0_ok (k:Nat):FragOK Try.prog lim61 (fr61_0 k) co61_0 :=
 frag_cast (by kernel_rfl) (loop_ok (cfg61_ok k) (planOK_go _) (fu61_0 k) k (fun _=>rfl) (fun _=>rfl) (pp61_0 k))
def pl61 (k:Nat):Plan:=(.seq .go (.seq .go (.seq (.sub (.frag (fr61_0 k))) .go)))
noncomputable def bo61 (k:Nat) (x:AT (sp61 k).ps):=fnT Try.prog (cfg61 k) lim61 Try.f61 (bodyOf Try.f61) (pl61 k) (sp61 k) x
theorem vv61 (k:Nat) (x:AT (sp61 k).ps):(sp61 k).impl x=(bo61 k x).eval∧(bo61 k x).left=(bo61 k x).right:=⟨by kernel_rfl,by kernel_rfl⟩
theorem v61 (k:Nat):Callable Try.prog 61∧Valid Try.prog 61 (sp61 k) :=
 fn_of (n:=lim61) (fn:=Try.f61) (p:=(pl61 k)) (cfg61_ok k) (by kernel_rfl) (plan_of (L:=[(fr61_0 k,co61_0)]) (by kernel_rfl) (.cons (fr61_0_ok k) .nil)) (vv61 k)
def F22_0 (k:Nat):Nat→(List Int)→Int→TY3→(List Int)→Option TY63
 |0,_,_,_,_=>none
 |n+1,t1,t6,c2,e0 =>
  let x1:=(decide (t6<(length t1:Int)))
  bif x1 then
  if 0≤t6∧t6<(length t1:Int) then
  (F61 k c2.2.1 c2.2.2.1 (getD t1 (toNat t6) (0:Int))).bind fun r2 =>
  let x3:=(List.set (replicate 1 (0:Int)) 0 r2.1.1)
  if (length e0+length x3)*(8*2)≤281474976710656∧length e0+length x3≤9223372036854775807 then
  (F22_0 k n t1 (wrap .i64 (t6+(1:Int))) c2 (e0++x3)).bind some
  else none
  else none
  else
  some ((),(e0,()))
def sq22_0:Shape:=⟨[(5,KD64)],[(1,.val KD62),(2,.ptr 2 []),(5,.at 2000005 []),(6,.val (.int .i64))],[(2,some 33,KD0),(2000005,none,KD64)]⟩
def fu22_0 (k m:Nat) (v:sq22_0.V):=F22_0 k m v.1.1 v.1.2.1 v.2.1 v.2.2.1
def fr22_0 (k:Nat):Frag:=⟨sq22_0,[(.exit 0,⟨[(5,KD64)],[(5,.at 2000005 [])],[(2000005,none,KD64)]⟩)],fu22_0 k k⟩
def F22 (k:Nat) (a0:TY3) (a1:(List Int)):Option TY65 :=
 (F22_0 k k a1 (0:Int) a0 []).bind fun r4 =>
 some ((r4.2.1,()),())
def sp22 (k:Nat):Spec:=⟨[.val KD0,.val KD62],[.own KD64],fun x=>F22 k x.1 x.2.1⟩
def lim22:Lim:=⟨26,2,false,false,[],[]⟩
def cfg22 (k:Nat):Nat→Option Spec:=cfgL [(61,sp61 k)]
noncomputable def co22_0:Code:=codeAt (bodyOf Try.f22) [.r,.r,.l,.r,.s]
noncomputable def cb22_0:Code:=codeAt (bodyOf Try.f22) [.r,.r,.l,.r,.s,.b]
noncomputable def co22:Code:=codeAt (bodyOf Try.f22) []
theorem cfg22_ok (k:Nat):CfgOK Try.prog (cfg22 k):=cfgL_cons (v61 k) (cfgL_nil)
noncomputable def bo22_0 (k m:Nat) (v:sq22_0.V):=body Try.prog (stepper Try.prog (cfg22 k) lim22) .go cb22_0 (sq22_0.st v) (loopK (fr22_0 k) (fu22_0 k m))
theorem pp22_0 (k m:Nat) (v:sq22_0.V):fu22_0 k (m+1) v=(bo22_0 k m v).eval∧(bo22_0 k m v).left=(bo22_0 k m v).right:=⟨by kernel_rfl,by kernel_rfl⟩
theorem fr22_0_ok (k:Nat):FragOK Try.prog lim22 (fr22_0 k) co22_0 :=
 frag_cast (by kernel_rfl) (loop_ok (cfg22_ok k) (planOK_go _) (fu22_0 k) k (fun _=>rfl) (fun _=>rfl) (pp22_0 k))
def pl22 (k:Nat):Plan:=(.seq .go (.seq .go (.seq (.seq .go (.sub (.frag (fr22_0 k)))) .go)))
noncomputable def bo22 (k:Nat) (x:AT (sp22 k).ps):=fnT Try.prog (cfg22 k) lim22 Try.f22 (bodyOf Try.f22) (pl22 k) (sp22 k) x
theorem vv22 (k:Nat) (x:AT (sp22 k).ps):(sp22 k).impl x=(bo22 k x).eval∧(bo22 k x).left=(bo22 k x).right:=⟨by kernel_rfl,by kernel_rfl⟩
theorem v22 (k:Nat):Callable Try.prog 22∧Valid Try.prog 22 (sp22 k) :=
 fn_of (n:=lim22) (fn:=Try.f22) (p:=(pl22 k)) (cfg22_ok k) (by kernel_rfl) (plan_of (L:=[(fr22_0 k,co22_0)]) (by kernel_rfl) (.cons (fr22_0_ok k) .nil)) (vv22 k)
def F65 (k:Nat) (a0:TY33) (a1:TY59) (a2:Int) (a3:Int):Option TY72 :=
 if 0≤a2∧a2<(length a0.1:Int) then
 let x1:=(decide ((getD a0.1 (toNat a2) (0:Int))<(0:Int)))
 bif x1 then
 some ((true,()),())
 else
 if 0≤a2∧a2<(length a0.1:Int) then
 if 0≤(getD a0.1 (toNat a2) (0:Int))∧(getD a0.1 (toNat a2) (0:Int))<(length a1:Int) then
 let x2:=(getD a1 (toNat (getD a0.1 (toNat a2) (0:Int))) ([]:TY68))
 (F72 k x2 a3).bind fun r3 =>
 some ((r3.1.1,()),())
 else none
 else none
 else none
def sp65 (k:Nat):Spec:=⟨[.val KD15,.val KD36,.val (.int .i64),.val (.int .i64)],[.val .bool],fun x=>F65 k x.1 x.2.1 x.2.2.1 x.2.2.2.1⟩
def lim65:Lim:=⟨27,4,false,false,[],[]⟩
def cfg65 (k:Nat):Nat→Option Spec:=cfgL [(72,sp72 k)]
noncomputable def co65:Code:=codeAt (bodyOf Try.f65) []
theorem cfg65_ok (k:Nat):CfgOK Try.prog (cfg65 k):=cfgL_cons (v72 k) (cfgL_nil)
noncomputable def bo65 (k:Nat) (x:AT (sp65 k).ps):=fnT Try.prog (cfg65 k) lim65 Try.f65 (bodyOf Try.f65) .go (sp65 k) x
theorem vv65 (k:Nat) (x:AT (sp65 k).ps):(sp65 k).impl x=(bo65 k x).eval∧(bo65 k x).left=(bo65 k x).right:=⟨by kernel_rfl,by kernel_rfl⟩
theorem v65 (k:Nat):Callable Try.prog 65∧Valid Try.prog 65 (sp65 k) :=
 fn_of (n:=lim65) (fn:=Try.f65) (p:=.go) (cfg65_ok k) (by kernel_rfl) (planOK_go _) (vv65 k)
def F33_0 (k:Nat):Nat→(List Int)→Int→Int→Int→TY33→(List Int)→TY59→(List Int)→Option ((((List Int)×Int×Int×Unit)×(TY33×(List Int)×TY59×(List Int)×Unit)))
 |0,_,_,_,_,_,_,_,_=>none
 |n+1,t2,t4,t13,t15,c5,c39,e0,e1 =>
  let x3:=(decide (t15<(length e1:Int)))
  bif x3 then
  if 0≤t15∧t15<(length c39:Int) then
  let x4:=(List.set c39 (toNat t15) (1152921504606846976:Int))
  if 0≤t13∧t13<(length t2:Int) then
  (F65 k c5 e0 t15 (getD t2 (toNat t13) (0:Int))).bind fun r5 =>
  bif (!r5.1.1) then
  if 0≤t15∧t15<(length e1:Int) then
  let x6:=(List.set e1 (toNat t15) (1152921504606846976:Int))
  (F33_0 k n t2 t4 t13 (wrap .i64 (t15+(1:Int))) c5 x4 e0 x6).bind some
  else none
  else
  (F33_0 k n t2 t4 t13 (wrap .i64 (t15+(1:Int))) c5 x4 e0 e1).bind some
  else none
  else none
  else
  some ((t2,t4,t13,()),(c5,c39,e0,e1,()))
def sq33_0:Shape:=⟨[(12,KD64)],[(2,.val KD62),(4,.val (.int .i64)),(5,.ptr 5 []),(11,.at 1000416 []),(12,.at 2000012 []),(13,.val (.int .i64)),(14,.at 39 []),(15,.val (.int .i64))],[(5,some 81,KD15),(39,none,KD64),(1000416,none,KD37),(2000012,none,KD64)]⟩
def fu33_0 (k m:Nat) (v:sq33_0.V):=F33_0 k m v.1.1 v.1.2.1 v.1.2.2.1 v.1.2.2.2.1 v.2.1 v.2.2.1 v.2.2.2.1 v.2.2.2.2.1
def fr33_0 (k:Nat):Frag:=⟨sq33_0,[(.exit 2,⟨[],[(2,.val KD62),(4,.val (.int .i64)),(5,.ptr 5 []),(11,.at 1000416 []),(12,.at 2000012 []),(13,.val (.int .i64)),(14,.at 39 [])],[(5,some 81,KD15),(39,none,KD64),(1000416,none,KD37),(2000012,none,KD64)]⟩)],fu33_0 k k⟩
def F33_1 (k:Nat):Nat→(List Int)→Int→Int→Int→TY33→(List Int)→TY59→(List Int)→Option ((((List Int)×Int×Int×Unit)×(TY33×(List Int)×TY59×Unit)))
 |0,_,_,_,_,_,_,_,_=>none
 |n+1,t2,t4,t13,t16,c5,c39,e0,e1 =>
  let x16:=(decide (t16<(length c5.2.2.2.1:Int)))
  bif x16 then
  if 0≤t16∧t16<(length c5.2.2.2.1:Int) then
  let x17:=(getD c5.2.2.2.1 (toNat t16) ((0:Int),((0:Int),((0:Int),()))))
  if 0≤x17.2.1∧x17.2.1<(length c39:Int) then
  let x18:=(getD c39 (toNat x17.2.1) (0:Int))
  if 0≤x17.1∧x17.1<(length e1:Int) then
  let x19:=(getD e1 (toNat x17.1) (0:Int))
  (F34 k x19 x17.2.2.1).bind fun r20 =>
  if 0≤x17.2.1∧x17.2.1<(length c39:Int) then
  let x21:=(List.set c39 (toNat x17.2.1) (minI x18 r20.1.1))
  (F33_1 k n t2 t4 t13 (wrap .i64 (t16+(1:Int))) c5 x21 e0 e1).bind some
  else none
  else none
  else none
  else none
  else
  some ((t2,t4,t13,()),(c5,c39,e0,()))
def sq33_1:Shape:=⟨[(12,KD64)],[(2,.val KD62),(4,.val (.int .i64)),(5,.ptr 5 []),(11,.at 1000416 []),(12,.at 2000012 []),(13,.val (.int .i64)),(14,.at 39 []),(16,.val (.int .i64))],[(5,some 81,KD15),(39,none,KD64),(1000416,none,KD37),(2000012,none,KD64)]⟩
def fu33_1 (k m:Nat) (v:sq33_1.V):=F33_1 k m v.1.1 v.1.2.1 v.1.2.2.1 v.1.2.2.2.1 v.2.1 v.2.2.1 v.2.2.2.1 v.2.2.2.2.1
def fr33_1 (k:Nat):Frag:=⟨sq33_1,[(.exit 4,⟨[],[(2,.val KD62),(4,.val (.int .i64)),(5,.ptr 5 []),(11,.at 1000416 []),(13,.val (.int .i64)),(14,.at 39 [])],[(5,some 81,KD15),(39,none,KD64),(1000416,none,KD37)]⟩)],fu33_1 k k⟩
def F33_2 (k:Nat):Nat→(List Int)→Int→Int→TY33→TY59→(List Int)→Option ((Unit×(TY33×(List Int)×Unit)))
 |0,_,_,_,_,_,_=>none
 |n+1,t2,t4,t13,c5,e0,e1 =>
  bif (decide (t13<t4)) then
  if (0≤(length e1:Int)∧(length e1:Int)<(length e1:Int)+1)∧(length e1:Int)≤9223372036854775807∧((8:Nat):Int)*(length e1:Int)≤281474976710656 then
  let x2:=(replicate (toNat (length e1:Int)) (0:Int))
  (F33_0 k k t2 t4 t13 (0:Int) c5 x2 e0 e1).bind fun r7 =>
  let x15:=(r7.1.2.2.1==(wrap .i64 (r7.1.2.1-(1:Int))))
  bif x15 then
  some ((),(r7.2.1,r7.2.2.2.2.1,()))
  else
  (F33_1 k k r7.1.1 r7.1.2.1 r7.1.2.2.1 (0:Int) r7.2.1 r7.2.2.1 r7.2.2.2.1 r7.2.2.2.2.1).bind fun r22 =>
  (F33_2 k n r22.1.1 r22.1.2.1 (wrap .i64 (r22.1.2.2.1+(1:Int))) r22.2.1 r22.2.2.2.1 r22.2.2.1).bind some
  else none
  else
  some ((),(c5,e1,()))
def sq33_2:Shape:=⟨[(12,KD64)],[(2,.val KD62),(4,.val (.int .i64)),(5,.ptr 5 []),(11,.at 1000416 []),(12,.at 2000012 []),(13,.val (.int .i64))],[(5,some 81,KD15),(1000416,none,KD37),(2000012,none,KD64)]⟩
def fu33_2 (k m:Nat) (v:sq33_2.V):=F33_2 k m v.1.1 v.1.2.1 v.1.2.2.1 v.2.1 v.2.2.1 v.2.2.2.1
def fr33_2 (k:Nat):Frag:=⟨sq33_2,[(.exit 0,⟨[(12,KD64)],[(5,.ptr 5 []),(12,.at 2000012 [])],[(5,some 81,KD15),(2000012,none,KD64)]⟩)],fu33_2 k k⟩
def F33_3 (k:Nat):Nat→Int→Int→TY33→(List Int)→Option TY70
 |0,_,_,_,_=>none
 |n+1,t18,t19,c5,e0 =>
  let x32:=(decide (t19<(length e0:Int)))
  bif x32 then
  if 0≤t19∧t19<(length e0:Int) then
  let x33:=(getD e0 (toNat t19) (0:Int))
  if 0≤t19∧t19<(length c5.2.2.1:Int) then
  let x34:=(getD c5.2.2.1 (toNat t19) (0:Int))
  (F34 k x33 x34).bind fun r35 =>
  (F33_3 k n (minI t18 r35.1.1) (wrap .i64 (t19+(1:Int))) c5 e0).bind some
  else none
  else none
  else
  some ((t18,()),())
def sq33_3:Shape:=⟨[],[(5,.ptr 5 []),(12,.at 2000012 []),(18,.val (.int .i64)),(19,.val (.int .i64))],[(5,some 81,KD15),(2000012,none,KD64)]⟩
def fu33_3 (k m:Nat) (v:sq33_3.V):=F33_3 k m v.1.1 v.1.2.1 v.2.1 v.2.2.1
def fr33_3 (k:Nat):Frag:=⟨sq33_3,[(.exit 6,⟨[],[(18,.val (.int .i64))],[]⟩)],fu33_3 k k⟩
def F33 (k:Nat) (a0:TY33) (a1:TY13) (a2:(List Int)) (a3:Int) (a4:Int):Option TY73 :=
 bif (a3==a4) then
 some ((a0.2.2.2.2.1,()),())
 else
 (F37 k a1).bind fun r1 =>
 if (length (replicate 0 (0:Int))+length a0.2.1)*(8*2)≤281474976710656∧length (replicate 0 (0:Int))+length a0.2.1≤9223372036854775807 then
 (F33_2 k k a2 a4 a3 a0 r1.1.1 ((replicate 0 (0:Int))++a0.2.1)).bind fun r29 =>
 (F33_3 k k (1152921504606846976:Int) (0:Int) r29.2.1 r29.2.2.1).bind fun r36 =>
 some ((r36.1.1,()),())
 else none
def sp33 (k:Nat):Spec:=⟨[.val KD15,.val KD5,.val KD62,.val (.int .i64),.val (.int .i64)],[.val (.int .i64)],fun x=>F33 k x.1 x.2.1 x.2.2.1 x.2.2.2.1 x.2.2.2.2.1⟩
def lim33:Lim:=⟨115,5,false,false,[],[]⟩
def cfg33 (k:Nat):Nat→Option Spec:=cfgL [(34,sp34 k),(37,sp37 k),(65,sp65 k)]
noncomputable def co33_0:Code:=codeAt (bodyOf Try.f33) [.r,.r,.r,.r,.l,.r,.s,.b,.r,.l,.s,.r,.l,.r,.s]
noncomputable def cb33_0:Code:=codeAt (bodyOf Try.f33) [.r,.r,.r,.r,.l,.r,.s,.b,.r,.l,.s,.r,.l,.r,.s,.b]
noncomputable def co33_1:Code:=codeAt (bodyOf Try.f33) [.r,.r,.r,.r,.l,.r,.s,.b,.r,.l,.s,.r,.r,.r,.l,.r,.s]
noncomputable def cb33_1:Code:=codeAt (bodyOf Try.f33) [.r,.r,.r,.r,.l,.r,.s,.b,.r,.l,.s,.r,.r,.r,.l,.r,.s,.b]
noncomputable def co33_2:Code:=codeAt (bodyOf Try.f33) [.r,.r,.r,.r,.l,.r,.s]
noncomputable def cb33_2:Code:=codeAt (bodyOf Try.f33) [.r,.r,.r,.r,.l,.r,.s,.b]
noncomputable def co33_3:Code:=codeAt (bodyOf Try.f33) [.r,.r,.r,.r,.r,.r,.l,.r,.s]
noncomputable def cb33_3:Code:=codeAt (bodyOf Try.f33) [.r,.r,.r,.r,.r,.r,.l,.r,.s,.b]
noncomputable def co33:Code:=codeAt (bodyOf Try.f33) []
theorem cfg33_ok (k:Nat):CfgOK Try.prog (cfg33 k):=cfgL_cons (v34 k) (cfgL_cons (v37 k) (cfgL_cons (v65 k) (cfgL_nil)))
noncomputable def bo33_0 (k m:Nat) (v:sq33_0.V):=body Try.prog (stepper Try.prog (cfg33 k) lim33) .go cb33_0 (sq33_0.st v) (loopK (fr33_0 k) (fu33_0 k m))
theorem pp33_0 (k m:Nat) (v:sq33_0.V):fu33_0 k (m+1) v=(bo33_0 k m v).eval∧(bo33_0 k m v).left=(bo33_0 k m v).right:=⟨by kernel_rfl,by kernel_rfl⟩
theorem fr33_0_ok (k:Nat):FragOK Try.prog lim33 (fr33_0 k) co33_0 :=
 frag_cast (by kernel_rfl) (loop_ok (cfg33_ok k) (planOK_go _) (fu33_0 k) k (fun _=>rfl) (fun _=>rfl) (pp33_0 k))
noncomputable def bo33_1 (k m:Nat) (v:sq33_1.V):=body Try.prog (stepper Try.prog (cfg33 k) lim33) .go cb33_1 (sq33_1.st v) (loopK (fr33_1 k) (fu33_1 k m))
theorem pp33_1 (k m:Nat) (v:sq33_1.V):fu33_1 k (m+1) v=(bo33_1 k m v).eval∧(bo33_1 k m v).left=(bo33_1 k m v).right:=⟨by kernel_rfl,by kernel_rfl⟩
theorem fr33_1_ok (k:Nat):FragOK Try.prog lim33 (fr33_1 k) co33_1 :=
 frag_cast (by kernel_rfl) (loop_ok (cfg33_ok k) (planOK_go _) (fu33_1 k) k (fun _=>rfl) (fun _=>rfl) (pp33_1 k))
def pl33_2 (k:Nat):Plan:=(.seq .go (.seq (.sub (.seq .go (.seq (.seq .go (.sub (.frag (fr33_0 k)))) (.seq .go (.seq (.seq .go (.sub (.frag (fr33_1 k)))) .go))))) .go))
noncomputable def bo33_2 (k m:Nat) (v:sq33_2.V):=body Try.prog (stepper Try.prog (cfg33 k) lim33) (pl33_2 k) cb33_2 (sq33_2.st v) (loopK (fr33_2 k) (fu33_2 k m))
theorem pp33_2 (k m:Nat) (v:sq33_2.V):fu33_2 k (m+1) v=(bo33_2 k m v).eval∧(bo33_2 k m v).left=(bo33_2 k m v).right:=⟨by kernel_rfl,by kernel_rfl⟩
theorem fr33_2_ok (k:Nat):FragOK Try.prog lim33 (fr33_2 k) co33_2 :=
 frag_cast (by kernel_rfl) (loop_ok (cfg33_ok k) (plan_of (L:=[(fr33_0 k,co33_0),(fr33_1 k,co33_1)]) (by kernel_rfl) (.cons (fr33_0_ok k) (.cons (fr33_1_ok k) .nil))) (fu33_2 k) k (fun _=>rfl) (fun _=>rfl) (pp33_2 k))
noncomputable def bo33_3 (k m:Nat) (v:sq33_3.V):=body Try.prog (stepper Try.prog (cfg33 k) lim33) .go cb33_3 (sq33_3.st v) (loopK (fr33_3 k) (fu33_3 k m))
theorem pp33_3 (k m:Nat) (v:sq33_3.V):fu33_3 k (m+1) v=(bo33_3 k m v).eval∧(bo33_3 k m v).left=(bo33_3 k m v).right:=⟨by kernel_rfl,by kernel_rfl⟩
theorem fr33_3_ok (k:Nat):FragOK Try.prog lim33 (fr33_3 k) co33_3 :=
 frag_cast (by kernel_rfl) (loop_ok (cfg33_ok k) (planOK_go _) (fu33_3 k) k (fun _=>rfl) (fun _=>rfl) (pp33_3 k))
def pl33 (k:Nat):Plan:=(.seq .go (.seq .go (.seq .go (.seq .go (.seq (.seq .go (.sub (.frag (fr33_2 k)))) (.seq .go (.seq (.seq .go (.sub (.frag (fr33_3 k)))) .go)))))))
noncomputable def bo33 (k:Nat) (x:AT (sp33 k).ps):=fnT Try.prog (cfg33 k) lim33 Try.f33 (bodyOf Try.f33) (pl33 k) (sp33 k) x
theorem vv33 (k:Nat) (x:AT (sp33 k).ps):(sp33 k).impl x=(bo33 k x).eval∧(bo33 k x).left=(bo33 k x).right:=⟨by kernel_rfl,by kernel_rfl⟩
theorem v33 (k:Nat):Callable Try.prog 33∧Valid Try.prog 33 (sp33 k) :=
 fn_of (n:=lim33) (fn:=Try.f33) (p:=(pl33 k)) (cfg33_ok k) (by kernel_rfl) (plan_of (L:=[(fr33_2 k,co33_2),(fr33_3 k,co33_3)]) (by kernel_rfl) (.cons (fr33_2_ok k) (.cons (fr33_3_ok k) .nil))) (vv33 k)
def F11_0 (k:Nat):Nat→Int→Int→Int→Int→TY3→(List Int)→(List (List Int))→Option (((Int×Int×Int×Unit)×(TY3×(List Int)×(List (List Int))×Unit)))
 |0,_,_,_,_,_,_,_=>none
 |n+1,t3,t16,t17,t18,c10,e0,e1 =>
  bif (decide (t18≤t16)) then
  if 0≤(0:Int)∧(0:Int)<(length c10.2.2.2.2.1:Int) then
  let x25:=(getD c10.2.2.2.2.1 (toNat (0:Int)) (([]:(List Int)),(([]:(List Int)),(([]:(List Int)),(([]:TY57),((0:Int),()))))))
  (F33 k x25 c10.1 e0 t18 t16).bind fun r26 =>
  (F11_0 k n t3 t16 (minI t17 r26.1.1) (wrap .i64 (t18+(1:Int))) c10 e0 e1).bind some
  else none
  else
  some ((t3,t16,t17,()),(c10,e0,e1,()))
def sq11_0:Shape:=⟨[],[(3,.val (.int .i64)),(10,.ptr 10 []),(14,.at 1001136 []),(15,.at 1001280 []),(16,.val (.int .i64)),(17,.val (.int .i64)),(18,.val (.int .i64))],[(10,some 33,KD1),(1001136,none,KD64),(1001280,none,(.sl true 69 (.arr 3 (.int .i64)) none))]⟩
def fu11_0 (k m:Nat) (v:sq11_0.V):=F11_0 k m v.1.1 v.1.2.1 v.1.2.2.1 v.1.2.2.2.1 v.2.1 v.2.2.1 v.2.2.2.1
def fr11_0 (k:Nat):Frag:=⟨sq11_0,[(.exit 2,⟨[],[(3,.val (.int .i64)),(10,.ptr 10 []),(14,.at 1001136 []),(15,.at 1001280 []),(16,.val (.int .i64)),(17,.val (.int .i64))],[(10,some 33,KD1),(1001136,none,KD64),(1001280,none,(.sl true 69 (.arr 3 (.int .i64)) none))]⟩)],fu11_0 k k⟩
def F11_1 (k:Nat):Nat→Int→Int→TY3→(List Int)→(List (List Int))→Option ((Unit×Unit)⊕TY72)
 |0,_,_,_,_,_=>none
 |n+1,t3,t16,c10,e0,e1 =>
  let x38:=(decide (t16≤(length e0:Int)))
  bif x38 then
  (F11_0 k k t3 t16 (1152921504606846976:Int) (0:Int) c10 e0 e1).bind fun r39 =>
  let y41:=r39.1.2.1
  let y45:=r39.2.2.2.1
  if 0≤y41∧y41<(length y45:Int) then
  if 0≤(0:Int)∧(0:Int)<((3:Nat):Int) then
  let x46:=(getD (getD y45 (toNat y41) ([]:(List Int))) (toNat (0:Int)) (0:Int))
  (F18 k r39.1.1 (20:Int)).bind fun r47 =>
  (F34 k r39.1.2.2.1 r47.1.1).bind fun r48 =>
  bif (x46 != r48.1.1) then
  some (.inr ((false,()),()))
  else
  if 0≤y41∧y41<(length y45:Int) then
  if 0≤(1:Int)∧(1:Int)<((3:Nat):Int) then
  let x49:=(getD (getD y45 (toNat y41) ([]:(List Int))) (toNat (1:Int)) (0:Int))
  bif (x49 != (1152921504606846976:Int)) then
  some (.inr ((false,()),()))
  else
  (F11_1 k n r39.1.1 (wrap .i64 (y41+(1:Int))) r39.2.1 r39.2.2.1 y45).bind some
  else none
  else none
  else none
  else none
  else
  some (.inl ((),()))
def sq11_1:Shape:=⟨[],[(3,.val (.int .i64)),(10,.ptr 10 []),(14,.at 1001136 []),(15,.at 1001280 []),(16,.val (.int .i64))],[(10,some 33,KD1),(1001136,none,KD64),(1001280,none,(.sl true 69 (.arr 3 (.int .i64)) none))]⟩
def fu11_1 (k m:Nat) (v:sq11_1.V):=F11_1 k m v.1.1 v.1.2.1 v.2.1 v.2.2.1 v.2.2.2.1
def fr11_1 (k:Nat):Frag:=⟨sq11_1,[(.exit 0,⟨[],[],[]⟩),(.ret,⟨[],[(8,.val .bool)],[]⟩)],fu11_1 k k⟩
def F11 (k:Nat) (a0:TY58) (a1:(List Int)) (a2:(List Int)) (a3:Int):Option TY72 :=
 (F13 k).bind fun r1 =>
 bif (!r1.1.1) then
 some ((false,()),())
 else
 (F14 k a0).bind fun r2 =>
 bif (!r2.1.1) then
 some ((true,()),())
 else
 let x3:=((length a0:Int)==(0:Int))
 bif x3 then
 some ((true,()),())
 else
 if 0≤(0:Int)∧(0:Int)<(length a0:Int) then
 let x4:=(getD a0 (toNat (0:Int)) (Tree.mk ((0:Int),((0:Int),())) []))
 let x5:=(Tree.a (Tree.mk ((0:Int),((0:Int),())) [])).2.1
 let x6:=(Tree.l (Tree.mk ((0:Int),((0:Int),())) []))
 let x7:=(List.set (List.set (replicate 2 (Tree.mk ((0:Int),((0:Int),())) [])) 0 x4) 1 (Tree.mk ((0:Int),(x5,())) x6))
 (F18 k a3 (20:Int)).bind fun r8 =>
 let x9:=(List.set (replicate 1 (0:Int)) 0 (wrap .i64 ((3:Int)*r8.1.1)))
 (F15 k x7 x9 a1).bind fun r10 =>
 bif (!r10.1.2.1) then
 some ((true,()),())
 else
 (F16 k r10.1.1).bind fun r15 =>
 bif (!r15.1.1) then
 some ((true,()),())
 else
 (F19 k r10.1.1.1.2.1 r10.1.1.2.2.2.2.1 r10.1.1.2.2.2.1 r10.1.1.2.2.2.2.2.2.1 [(List.set (replicate 1 false) 0 true)] (80:Int)).bind fun r16 =>
 bif (r16.1.2.1 != (0:Int)) then
 some (((r16.1.2.1==(4:Int)),()),())
 else
 (F23 k a2 (7:Int)).bind fun r17 =>
 let x18:=(wrap .i64 ((length r17.1.1:Int)+(1:Int)))
 (F22 k r10.1.1 r17.1.1).bind fun r19 =>
 if (0≤x18∧x18<x18+1)∧x18≤9223372036854775807∧((8:Nat):Int)*x18≤281474976710656 then
 (F26 k r16.1.1 r19.1.1 (replicate (toNat x18) (0:Int))).bind fun r20 =>
 let x21:=(wrap .i64 ((length r17.1.1:Int)+(1:Int)))
 bif ((length r20.1.1:Int) != x21) then
 some ((false,()),())
 else
 (F11_1 k k a3 (0:Int) r10.1.1 r17.1.1 r20.1.1).bind fun r50 =>
 match r50 with
 |.inl r51 =>
  some ((true,()),())
 |.inr r51 =>
  some ((r51.1.1,()),())
 else none
 else none
def sp11 (k:Nat):Spec:=⟨[.val KD50,.val KD62,.val KD62,.val (.int .i64)],[.val .bool],fun x=>F11 k x.1 x.2.1 x.2.2.1 x.2.2.2.1⟩
def lim11:Lim:=⟨128,4,false,false,[39],[]⟩
def cfg11 (k:Nat):Nat→Option Spec:=cfgL [(13,sp13 k),(14,sp14 k),(15,sp15 k),(16,sp16 k),(18,sp18 k),(19,sp19 k),(22,sp22 k),(23,sp23 k),(26,sp26 k),(33,sp33 k),(34,sp34 k)]
noncomputable def co11_0:Code:=codeAt (bodyOf Try.f11) [.r,.r,.r,.r,.r,.r,.r,.r,.r,.r,.r,.l,.r,.s,.b,.r,.l,.s,.r,.l,.r,.s]
noncomputable def cb11_0:Code:=codeAt (bodyOf Try.f11) [.r,.r,.r,.r,.r,.r,.r,.r,.r,.r,.r,.l,.r,.s,.b,.r,.l,.s,.r,.l,.r,.s,.b]
noncomputable def co11_1:Code:=codeAt (bodyOf Try.f11) [.r,.r,.r,.r,.r,.r,.r,.r,.r,.r,.r,.l,.r,.s]
noncomputable def cb11_1:Code:=codeAt (bodyOf Try.f11) [.r,.r,.r,.r,.r,.r,.r,.r,.r,.r,.r,.l,.r,.s,.b]
noncomputable def co11:Code:=codeAt (bodyOf Try.f11) []
theorem cfg11_ok (k:Nat):CfgOK Try.prog (cfg11 k):=cfgL_cons (v13 k) (cfgL_cons (v14 k) (cfgL_cons (v15 k) (cfgL_cons (v16 k) (cfgL_cons (v18 k) (cfgL_cons (v19 k) (cfgL_cons (v22 k) (cfgL_cons (v23 k) (cfgL_cons (v26 k) (cfgL_cons (v33 k) (cfgL_cons (v34 k) (cfgL_nil)))))))))))
noncomputable def bo11_0 (k m:Nat) (v:sq11_0.V):=body Try.prog (stepper Try.prog (cfg11 k) lim11) .go cb11_0 (sq11_0.st v) (loopK (fr11_0 k) (fu11_0 k m))
theorem pp11_0 (k m:Nat) (v:sq11_0.V):fu11_0 k (m+1) v=(bo11_0 k m v).eval∧(bo11_0 k m v).left=(bo11_0 k m v).right:=⟨by kernel_rfl,by kernel_rfl⟩
theorem fr11_0_ok (k:Nat):FragOK Try.prog lim11 (fr11_0 k) co11_0 :=
 frag_cast (by kernel_rfl) (loop_ok (cfg11_ok k) (planOK_go _) (fu11_0 k) k (fun _=>rfl) (fun _=>rfl) (pp11_0 k))
def pl11_1 (k:Nat):Plan:=(.seq .go (.seq (.sub (.seq .go (.seq (.seq .go (.sub (.frag (fr11_0 k)))) .go))) .go))
noncomputable def bo11_1 (k m:Nat) (v:sq11_1.V):=body Try.prog (stepper Try.prog (cfg11 k) lim11) (pl11_1 k) cb11_1 (sq11_1.st v) (loopK (fr11_1 k) (fu11_1 k m))
theorem pp11_1 (k m:Nat) (v:sq11_1.V):fu11_1 k (m+1) v=(bo11_1 k m v).eval∧(bo11_1 k m v).left=(bo11_1 k m v).right:=⟨by kernel_rfl,by kernel_rfl⟩
theorem fr11_1_ok (k:Nat):FragOK Try.prog lim11 (fr11_1 k) co11_1 :=
 frag_cast (by kernel_rfl) (loop_ok (cfg11_ok k) (plan_of (L:=[(fr11_0 k,co11_0)]) (by kernel_rfl) (.cons (fr11_0_ok k) .nil)) (fu11_1 k) k (fun _=>rfl) (fun _=>rfl) (pp11_1 k))
def pl11 (k:Nat):Plan:=(.seq .go (.seq .go (.seq .go (.seq .go (.seq .go (.seq .go (.seq .go (.seq .go (.seq .go (.seq .go (.seq .go (.seq (.seq .go (.sub (.frag (fr11_1 k)))) .go))))))))))))
noncomputable def bo11 (k:Nat) (x:AT (sp11 k).ps):=fnT Try.prog (cfg11 k) lim11 Try.f11 (bodyOf Try.f11) (pl11 k) (sp11 k) x
theorem vv11 (k:Nat) (x:AT (sp11 k).ps):(sp11 k).impl x=(bo11 k x).eval∧(bo11 k x).left=(bo11 k x).right:=⟨by kernel_rfl,by kernel_rfl⟩
theorem v11 (k:Nat):Callable Try.prog 11∧Valid Try.prog 11 (sp11 k) :=
 fn_of (n:=lim11) (fn:=Try.f11) (p:=(pl11 k)) (cfg11_ok k) (by kernel_rfl) (plan_of (L:=[(fr11_1 k,co11_1)]) (by kernel_rfl) (.cons (fr11_1_ok k) .nil)) (vv11 k)
end Go.Proofs.YtgmmopbpldgpcaaE

