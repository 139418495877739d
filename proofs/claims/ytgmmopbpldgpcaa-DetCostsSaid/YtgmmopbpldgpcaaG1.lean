/- Functions of the program, as Lean functions, with their contracts; printed by gen.py. Conditions: none. -/
import Derived.Test.YtgmmopbpldgpcaaG0
set_option linter.unusedVariables false
namespace Go.Proofs.YtgmmopbpldgpcaaE
open Kd
open List (length getD replicate take drop)
open Int (toNat)
open IntKind (wrap)
set_option maxRecDepth 20000
def F97_0 (k:Nat):Nat→Int→Int→Int→TY37→TY37→TY37→TY37→Option (((Int×Int×Unit)×(TY37×TY37×TY37×TY37×Unit)))
 |0,_,_,_,_,_,_,_=>none
 |n+1,t5,t7,t8,c2,c3,c4,c6 =>
  let x10:=(decide (t8<(length c3.1:Int)))
  bif x10 then
  if 0≤t7∧t7<(length c2.2.2.1:Int) then
  let x11:=(getD c2.2.2.1 (toNat t7) (0:Int))
  if 0≤t8∧t8<(length c3.2.1:Int) then
  (F34 k x11 (getD c3.2.1 (toNat t8) (0:Int))).bind fun r12 =>
  (F102 k c6.2.2.2.1 (t7,((wrap .i64 (t5+t8)),(r12.1.1,())))).bind fun r13 =>
  (F97_0 k n t5 t7 (wrap .i64 (t8+(1:Int))) c2 c3 c4 (c6.1,(c6.2.1,(c6.2.2.1,(r13.1.1,c6.2.2.2.2))))).bind some
  else none
  else none
  else
  some ((t5,t7,()),(c2,c3,c4,c6,()))
def sq97_0:Shape:=⟨[],[(2,.ptr 2 []),(3,.ptr 3 []),(4,.ptr 4 []),(5,.val (.int .i64)),(6,.ptr 6 []),(7,.val (.int .i64)),(8,.val (.int .i64))],[(2,some 81,KD16),(3,some 81,KD16),(4,some 81,KD17),(6,some 81,KD17)]⟩
def fu97_0 (k m:Nat) (v:sq97_0.V):=F97_0 k m v.1.1 v.1.2.1 v.1.2.2.1 v.2.1 v.2.2.1 v.2.2.2.1 v.2.2.2.2.1
def fr97_0 (k:Nat):Frag:=⟨sq97_0,[(.exit 2,⟨[],[(2,.ptr 2 []),(3,.ptr 3 []),(4,.ptr 4 []),(5,.val (.int .i64)),(6,.ptr 6 []),(7,.val (.int .i64))],[(2,some 81,KD16),(3,some 81,KD16),(4,some 81,KD17),(6,some 81,KD17)]⟩)],fu97_0 k k⟩
def F97_1 (k:Nat):Nat→Int→Int→TY37→TY37→TY37→TY37→Option TY8
 |0,_,_,_,_,_,_=>none
 |n+1,t5,t7,c2,c3,c4,c6 =>
  bif (decide (t7<t5)) then
  if 0≤t7∧t7<(length c2.2.1:Int) then
  if 0≤t7∧t7<(length c2.2.2.1:Int) then
  let x21:=(getD c2.2.2.1 (toNat t7) (0:Int))
  (F34 k x21 c3.2.2.2.2.1).bind fun r22 =>
  if 0≤t7∧t7<(length c6.2.1:Int) then
  let x23:=(List.set c6.2.1 (toNat t7) (getD c2.2.1 (toNat t7) (0:Int)))
  if 0≤t7∧t7<(length c6.2.2.1:Int) then
  (F97_0 k k t5 t7 (0:Int) c2 c3 c4 (c6.1,(x23,((List.set c6.2.2.1 (toNat t7) r22.1.1),c6.2.2.2)))).bind fun r24 =>
  (F97_1 k n r24.1.1 (wrap .i64 (r24.1.2.1+(1:Int))) r24.2.1 r24.2.2.1 r24.2.2.2.1 r24.2.2.2.2.1).bind some
  else none
  else none
  else none
  else none
  else
  some ((t5,()),(c2,c3,c4,c6,()))
def sq97_1:Shape:=⟨[],[(2,.ptr 2 []),(3,.ptr 3 []),(4,.ptr 4 []),(5,.val (.int .i64)),(6,.ptr 6 []),(7,.val (.int .i64))],[(2,some 81,KD16),(3,some 81,KD16),(4,some 81,KD17),(6,some 81,KD17)]⟩
def fu97_1 (k m:Nat) (v:sq97_1.V):=F97_1 k m v.1.1 v.1.2.1 v.2.1 v.2.2.1 v.2.2.2.1 v.2.2.2.2.1
def fr97_1 (k:Nat):Frag:=⟨sq97_1,[(.exit 0,⟨[],[(2,.ptr 2 []),(3,.ptr 3 []),(4,.ptr 4 []),(5,.val (.int .i64)),(6,.ptr 6 [])],[(2,some 81,KD16),(3,some 81,KD16),(4,some 81,KD17),(6,some 81,KD17)]⟩)],fu97_1 k k⟩
def F97_2 (k:Nat):Nat→Int→Int→TY37→TY37→TY37→TY37→Option TY18
 |0,_,_,_,_,_,_=>none
 |n+1,t5,t9,c2,c3,c4,c6 =>
  let x42:=(decide (t9<(length c3.1:Int)))
  bif x42 then
  if 0≤t9∧t9<(length c3.2.1:Int) then
  if 0≤t9∧t9<(length c3.2.2.1:Int) then
  let x43:=(getD c3.2.2.1 (toNat t9) (0:Int))
  (F34 k c2.2.2.2.2.1 (getD c3.2.1 (toNat t9) (0:Int))).bind fun r44 =>
  if 0≤(wrap .i64 (t5+t9))∧(wrap .i64 (t5+t9))<(length c6.2.1:Int) then
  let x45:=(toNat (wrap .i64 (t5+t9)))
  if 0≤(wrap .i64 (t5+t9))∧(wrap .i64 (t5+t9))<(length c6.2.2.1:Int) then
  let x46:=(toNat (wrap .i64 (t5+t9)))
  (F97_2 k n t5 (wrap .i64 (t9+(1:Int))) c2 c3 c4 (c6.1,((List.set c6.2.1 x45 r44.1.1),((List.set c6.2.2.1 x46 x43),c6.2.2.2)))).bind some
  else none
  else none
  else none
  else none
  else
  some ((),(c4,c6,()))
def sq97_2:Shape:=⟨[],[(2,.ptr 2 []),(3,.ptr 3 []),(4,.ptr 4 []),(5,.val (.int .i64)),(6,.ptr 6 []),(9,.val (.int .i64))],[(2,some 81,KD16),(3,some 81,KD16),(4,some 81,KD17),(6,some 81,KD17)]⟩
def fu97_2 (k m:Nat) (v:sq97_2.V):=F97_2 k m v.1.1 v.1.2.1 v.2.1 v.2.2.1 v.2.2.2.1 v.2.2.2.2.1
def fr97_2 (k:Nat):Frag:=⟨sq97_2,[(.exit 4,⟨[],[(4,.ptr 4 []),(6,.ptr 6 [])],[(4,some 81,KD17),(6,some 81,KD17)]⟩)],fu97_2 k k⟩
def F97 (k:Nat) (a0:TY37) (a1:TY37):Option TY31 :=
 (F101 k a0 a1).bind fun r1 =>
 (F34 k a0.2.2.2.2.1 a1.2.2.2.2.1).bind fun r2 =>
 (F97_1 k k (length a0.1:Int) (0:Int) a0 a1 (([]:(List Int)),(([]:(List Int)),(([]:(List Int)),(([]:TY64),((0:Int),()))))) (r1.1.1.1,(r1.1.1.2.1,(r1.1.1.2.2.1,(r1.1.1.2.2.2.1,(r2.1.1,r1.1.1.2.2.2.2.2)))))).bind fun r31 =>
 (F97_2 k k r31.1.1 (0:Int) r31.2.1 r31.2.2.1 r31.2.2.2.1 r31.2.2.2.2.1).bind fun r47 =>
 some ((r47.2.2.1,()),())
def sp97 (k:Nat):Spec:=⟨[.val KD16,.val KD16],[.own KD17],fun x=>F97 k x.1 x.2.1⟩
def lim97:Lim:=⟨108,2,false,false,[],[]⟩
def cfg97 (k:Nat):Nat→Option Spec:=cfgL [(34,sp34 k),(101,sp101 k),(102,sp102 k)]
noncomputable def co97_0:Code:=codeAt (bodyOf Try.f97) [.r,.r,.r,.r,.l,.r,.s,.b,.r,.l,.s,.r,.r,.s]
noncomputable def cb97_0:Code:=codeAt (bodyOf Try.f97) [.r,.r,.r,.r,.l,.r,.s,.b,.r,.l,.s,.r,.r,.s,.b]
noncomputable def co97_1:Code:=codeAt (bodyOf Try.f97) [.r,.r,.r,.r,.l,.r,.s]
noncomputable def cb97_1:Code:=codeAt (bodyOf Try.f97) [.r,.r,.r,.r,.l,.r,.s,.b]
noncomputable def co97_2:Code:=codeAt (bodyOf Try.f97) [.r,.r,.r,.r,.r,.l,.r,.s]
noncomputable def cb97_2:Code:=codeAt (bodyOf Try.f97) [.r,.r,.r,.r,.r,.l,.r,.s,.b]
noncomputable def co97:Code:=codeAt (bodyOf Try.f97) []
theorem cfg97_ok (k:Nat):CfgOK Try.prog (cfg97 k):=cfgL_cons (v34 k) (cfgL_cons (v101 k) (cfgL_cons (v102 k) (cfgL_nil)))
noncomputable def bo97_0 (k m:Nat) (v:sq97_0.V):=body Try.prog (stepper Try.prog (cfg97 k) lim97) .go cb97_0 (sq97_0.st v) (loopK (fr97_0 k) (fu97_0 k m))
theorem pp97_0 (k m:Nat) (v:sq97_0.V):fu97_0 k (m+1) v=(bo97_0 k m v).eval∧(bo97_0 k m v).left=(bo97_0 k m v).right:=⟨by kernel_rfl,by kernel_rfl⟩
theorem fr97_0_ok (k:Nat):FragOK Try.prog lim97 (fr97_0 k) co97_0 :=
 frag_cast (by kernel_rfl) (loop_ok (cfg97_ok k) (planOK_go _) (fu97_0 k) k (fun _=>rfl) (fun _=>rfl) (pp97_0 k))
def pl97_1 (k:Nat):Plan:=(.seq .go (.seq (.sub (.seq .go (.seq .go (.sub (.frag (fr97_0 k)))))) .go))
noncomputable def bo97_1 (k m:Nat) (v:sq97_1.V):=body Try.prog (stepper Try.prog (cfg97 k) lim97) (pl97_1 k) cb97_1 (sq97_1.st v) (loopK (fr97_1 k) (fu97_1 k m))
theorem pp97_1 (k m:Nat) (v:sq97_1.V):fu97_1 k (m+1) v=(bo97_1 k m v).eval∧(bo97_1 k m v).left=(bo97_1 k m v).right:=⟨by kernel_rfl,by kernel_rfl⟩
theorem fr97_1_ok (k:Nat):FragOK Try.prog lim97 (fr97_1 k) co97_1 :=
 frag_cast (by kernel_rfl) (loop_ok (cfg97_ok k) (plan_of (L:=[(fr97_0 k,co97_0)]) (by kernel_rfl) (.cons (fr97_0_ok k) .nil)) (fu97_1 k) k (fun _=>rfl) (fun _=>rfl) (pp97_1 k))
noncomputable def bo97_2 (k m:Nat) (v:sq97_2.V):=body Try.prog (stepper Try.prog (cfg97 k) lim97) .go cb97_2 (sq97_2.st v) (loopK (fr97_2 k) (fu97_2 k m))
theorem pp97_2 (k m:Nat) (v:sq97_2.V):fu97_2 k (m+1) v=(bo97_2 k m v).eval∧(bo97_2 k m v).left=(bo97_2 k m v).right:=⟨by kernel_rfl,by kernel_rfl⟩
theorem fr97_2_ok (k:Nat):FragOK Try.prog lim97 (fr97_2 k) co97_2 :=
 frag_cast (by kernel_rfl) (loop_ok (cfg97_ok k) (planOK_go _) (fu97_2 k) k (fun _=>rfl) (fun _=>rfl) (pp97_2 k))
def pl97 (k:Nat):Plan:=(.seq .go (.seq .go (.seq .go (.seq .go (.seq (.seq .go (.sub (.frag (fr97_1 k)))) (.seq (.seq .go (.sub (.frag (fr97_2 k)))) .go))))))
noncomputable def bo97 (k:Nat) (x:AT (sp97 k).ps):=fnT Try.prog (cfg97 k) lim97 Try.f97 (bodyOf Try.f97) (pl97 k) (sp97 k) x
theorem vv97 (k:Nat) (x:AT (sp97 k).ps):(sp97 k).impl x=(bo97 k x).eval∧(bo97 k x).left=(bo97 k x).right:=⟨by kernel_rfl,by kernel_rfl⟩
theorem v97 (k:Nat):Callable Try.prog 97∧Valid Try.prog 97 (sp97 k) :=
 fn_of (n:=lim97) (fn:=Try.f97) (p:=(pl97 k)) (cfg97_ok k) (by kernel_rfl) (plan_of (L:=[(fr97_1 k,co97_1),(fr97_2 k,co97_2)]) (by kernel_rfl) (.cons (fr97_1_ok k) (.cons (fr97_2_ok k) .nil))) (vv97 k)
def F98_0 (k:Nat):Nat→Int→Int→TY37→TY37→TY37→TY37→Option (((Int×Unit)×(TY37×TY37×TY37×Unit)))
 |0,_,_,_,_,_,_=>none
 |n+1,t5,t7,c2,c3,c4,c6 =>
  bif (decide (t7<t5)) then
  if 0≤t7∧t7<(length c2.2.1:Int) then
  if 0≤t7∧t7<(length c2.2.2.1:Int) then
  let x4:=(getD c2.2.2.1 (toNat t7) (0:Int))
  if 0≤t7∧t7<(length c6.2.1:Int) then
  let x5:=(List.set c6.2.1 (toNat t7) (getD c2.2.1 (toNat t7) (0:Int)))
  if 0≤t7∧t7<(length c6.2.2.1:Int) then
  (F98_0 k n t5 (wrap .i64 (t7+(1:Int))) c2 c3 c4 (c6.1,(x5,((List.set c6.2.2.1 (toNat t7) x4),c6.2.2.2)))).bind some
  else none
  else none
  else none
  else none
  else
  some ((t5,()),(c3,c4,c6,()))
def sq98_0:Shape:=⟨[],[(2,.ptr 2 []),(3,.ptr 3 []),(4,.ptr 4 []),(5,.val (.int .i64)),(6,.ptr 6 []),(7,.val (.int .i64))],[(2,some 81,KD16),(3,some 81,KD16),(4,some 81,KD17),(6,some 81,KD17)]⟩
def fu98_0 (k m:Nat) (v:sq98_0.V):=F98_0 k m v.1.1 v.1.2.1 v.2.1 v.2.2.1 v.2.2.2.1 v.2.2.2.2.1
def fr98_0 (k:Nat):Frag:=⟨sq98_0,[(.exit 0,⟨[],[(3,.ptr 3 []),(4,.ptr 4 []),(5,.val (.int .i64)),(6,.ptr 6 [])],[(3,some 81,KD16),(4,some 81,KD17),(6,some 81,KD17)]⟩)],fu98_0 k k⟩
def F98_1 (k:Nat):Nat→Int→Int→TY37→TY37→TY37→Option TY18
 |0,_,_,_,_,_=>none
 |n+1,t5,t8,c3,c4,c6 =>
  let x16:=(decide (t8<(length c3.1:Int)))
  bif x16 then
  if 0≤t8∧t8<(length c3.2.1:Int) then
  if 0≤t8∧t8<(length c3.2.2.1:Int) then
  let x17:=(getD c3.2.2.1 (toNat t8) (0:Int))
  if 0≤(wrap .i64 (t5+t8))∧(wrap .i64 (t5+t8))<(length c6.2.1:Int) then
  let x18:=(toNat (wrap .i64 (t5+t8)))
  let x19:=(List.set c6.2.1 x18 (getD c3.2.1 (toNat t8) (0:Int)))
  if 0≤(wrap .i64 (t5+t8))∧(wrap .i64 (t5+t8))<(length c6.2.2.1:Int) then
  let x20:=(toNat (wrap .i64 (t5+t8)))
  (F98_1 k n t5 (wrap .i64 (t8+(1:Int))) c3 c4 (c6.1,(x19,((List.set c6.2.2.1 x20 x17),c6.2.2.2)))).bind some
  else none
  else none
  else none
  else none
  else
  some ((),(c4,c6,()))
def sq98_1:Shape:=⟨[],[(3,.ptr 3 []),(4,.ptr 4 []),(5,.val (.int .i64)),(6,.ptr 6 []),(8,.val (.int .i64))],[(3,some 81,KD16),(4,some 81,KD17),(6,some 81,KD17)]⟩
def fu98_1 (k m:Nat) (v:sq98_1.V):=F98_1 k m v.1.1 v.1.2.1 v.2.1 v.2.2.1 v.2.2.2.1
def fr98_1 (k:Nat):Frag:=⟨sq98_1,[(.exit 2,⟨[],[(4,.ptr 4 []),(6,.ptr 6 [])],[(4,some 81,KD17),(6,some 81,KD17)]⟩)],fu98_1 k k⟩
def F98 (k:Nat) (a0:TY37) (a1:TY37):Option TY31 :=
 (F101 k a0 a1).bind fun r1 =>
 (F98_0 k k (length a0.1:Int) (0:Int) a0 a1 (([]:(List Int)),(([]:(List Int)),(([]:(List Int)),(([]:TY64),((0:Int),()))))) (r1.1.1.1,(r1.1.1.2.1,(r1.1.1.2.2.1,(r1.1.1.2.2.2.1,((minI a0.2.2.2.2.1 a1.2.2.2.2.1),r1.1.1.2.2.2.2.2)))))).bind fun r6 =>
 (F98_1 k k r6.1.1 (0:Int) r6.2.1 r6.2.2.1 r6.2.2.2.1).bind fun r21 =>
 some ((r21.2.2.1,()),())
def sp98 (k:Nat):Spec:=⟨[.val KD16,.val KD16],[.own KD17],fun x=>F98 k x.1 x.2.1⟩
def lim98:Lim:=⟨74,2,false,false,[],[]⟩
def cfg98 (k:Nat):Nat→Option Spec:=cfgL [(101,sp101 k)]
noncomputable def co98_0:Code:=codeAt (bodyOf Try.f98) [.r,.r,.r,.r,.l,.r,.s]
noncomputable def cb98_0:Code:=codeAt (bodyOf Try.f98) [.r,.r,.r,.r,.l,.r,.s,.b]
noncomputable def co98_1:Code:=codeAt (bodyOf Try.f98) [.r,.r,.r,.r,.r,.l,.r,.s]
noncomputable def cb98_1:Code:=codeAt (bodyOf Try.f98) [.r,.r,.r,.r,.r,.l,.r,.s,.b]
noncomputable def co98:Code:=codeAt (bodyOf Try.f98) []
theorem cfg98_ok (k:Nat):CfgOK Try.prog (cfg98 k):=cfgL_cons (v101 k) (cfgL_nil)
noncomputable def bo98_0 (k m:Nat) (v:sq98_0.V):=body Try.prog (stepper Try.prog (cfg98 k) lim98) .go cb98_0 (sq98_0.st v) (loopK (fr98_0 k) (fu98_0 k m))
theorem pp98_0 (k m:Nat) (v:sq98_0.V):fu98_0 k (m+1) v=(bo98_0 k m v).eval∧(bo98_0 k m v).left=(bo98_0 k m v).right:=⟨by kernel_rfl,by kernel_rfl⟩
theorem fr98_0_ok (k:Nat):FragOK Try.prog lim98 (fr98_0 k) co98_0 :=
 frag_cast (by kernel_rfl) (loop_ok (cfg98_ok k) (planOK_go _) (fu98_0 k) k (fun _=>rfl) (fun _=>rfl) (pp98_0 k))
noncomputable def bo98_1 (k m:Nat) (v:sq98_1.V):=body Try.prog (stepper Try.prog (cfg98 k) lim98) .go cb98_1 (sq98_1.st v) (loopK (fr98_1 k) (fu98_1 k m))
theorem pp98_1 (k m:Nat) (v:sq98_1.V):fu98_1 k (m+1) v=(bo98_1 k m v).eval∧(bo98_1 k m v).left=(bo98_1 k m v).right:=⟨by kernel_rfl,by kernel_rfl⟩
theorem fr98_1_ok (k:Nat):FragOK Try.prog lim98 (fr98_1 k) co98_1 :=
 frag_cast (by kernel_rfl) (loop_ok (cfg98_ok k) (planOK_go _) (fu98_1 k) k (fun _=>rfl) (fun _=>rfl) (pp98_1 k))
def pl98 (k:Nat):Plan:=(.seq .go (.seq .go (.seq .go (.seq .go (.seq (.seq .go (.sub (.frag (fr98_0 k)))) (.seq (.seq .go (.sub (.frag (fr98_1 k)))) .go))))))
noncomputable def bo98 (k:Nat) (x:AT (sp98 k).ps):=fnT Try.prog (cfg98 k) lim98 Try.f98 (bodyOf Try.f98) (pl98 k) (sp98 k) x
theorem vv98 (k:Nat) (x:AT (sp98 k).ps):(sp98 k).impl x=(bo98 k x).eval∧(bo98 k x).left=(bo98 k x).right:=⟨by kernel_rfl,by kernel_rfl⟩
theorem v98 (k:Nat):Callable Try.prog 98∧Valid Try.prog 98 (sp98 k) :=
 fn_of (n:=lim98) (fn:=Try.f98) (p:=(pl98 k)) (cfg98_ok k) (by kernel_rfl) (plan_of (L:=[(fr98_0 k,co98_0),(fr98_1 k,co98_1)]) (by kernel_rfl) (.cons (fr98_0_ok k) (.cons (fr98_1_ok k) .nil))) (vv98 k)
def F99_0 (k:Nat):Nat→Int→Int→TY37→TY37→TY64→Option (((Int×Unit)×TY15))
 |0,_,_,_,_,_=>none
 |n+1,t4,t5,c1,c2,e0 =>
  let x3:=(decide (t5<(length c1.1:Int)))
  bif x3 then
  if 0≤t4∧t4<(length c1.2.2.1:Int) then
  let x4:=(getD c1.2.2.1 (toNat t4) (0:Int))
  if 0≤t5∧t5<(length c1.2.1:Int) then
  (F34 k x4 (getD c1.2.1 (toNat t5) (0:Int))).bind fun r5 =>
  (F102 k e0 (t4,(t5,(r5.1.1,())))).bind fun r6 =>
  (F99_0 k n t4 (wrap .i64 (t5+(1:Int))) c1 c2 r6.1.1).bind some
  else none
  else none
  else
  some ((t4,()),(c1,c2,e0,()))
def sq99_0:Shape:=⟨[(3,KD42)],[(1,.ptr 1 []),(2,.ptr 2 []),(3,.at 2000003 []),(4,.val (.int .i64)),(5,.val (.int .i64))],[(1,some 81,KD17),(2,some 81,KD17),(2000003,none,KD42)]⟩
def fu99_0 (k m:Nat) (v:sq99_0.V):=F99_0 k m v.1.1 v.1.2.1 v.2.1 v.2.2.1 v.2.2.2.1
def fr99_0 (k:Nat):Frag:=⟨sq99_0,[(.exit 2,⟨[(3,KD42)],[(1,.ptr 1 []),(2,.ptr 2 []),(3,.at 2000003 []),(4,.val (.int .i64))],[(1,some 81,KD17),(2,some 81,KD17),(2000003,none,KD42)]⟩)],fu99_0 k k⟩
def F99_1 (k:Nat):Nat→Int→TY37→TY37→TY64→Option ((Unit×TY15))
 |0,_,_,_,_=>none
 |n+1,t4,c1,c2,e0 =>
  let x2:=(decide (t4<(length c1.1:Int)))
  bif x2 then
  (F99_0 k k t4 (0:Int) c1 c2 e0).bind fun r7 =>
  (F99_1 k n (wrap .i64 (r7.1.1+(1:Int))) r7.2.1 r7.2.2.1 r7.2.2.2.1).bind some
  else
  some ((),(c1,c2,e0,()))
def sq99_1:Shape:=⟨[(3,KD42)],[(1,.ptr 1 []),(2,.ptr 2 []),(3,.at 2000003 []),(4,.val (.int .i64))],[(1,some 81,KD17),(2,some 81,KD17),(2000003,none,KD42)]⟩
def fu99_1 (k m:Nat) (v:sq99_1.V):=F99_1 k m v.1.1 v.2.1 v.2.2.1 v.2.2.2.1
def fr99_1 (k:Nat):Frag:=⟨sq99_1,[(.exit 0,⟨[(3,KD42)],[(1,.ptr 1 []),(2,.ptr 2 []),(3,.at 2000003 [])],[(1,some 81,KD17),(2,some 81,KD17),(2000003,none,KD42)]⟩)],fu99_1 k k⟩
def F99 (k:Nat) (a0:TY37):Option TY31 :=
 let x1:=(replicate 0 ((0:Int),((0:Int),((0:Int),()))))
 if (length x1+length a0.2.2.2.1)*(24*2)≤281474976710656∧length x1+length a0.2.2.2.1≤9223372036854775807 then
 (F99_1 k k (0:Int) (a0.1,(a0.2.1,(a0.2.2.1,(a0.2.2.2.1,((0:Int),a0.2.2.2.2.2))))) (([]:(List Int)),(([]:(List Int)),(([]:(List Int)),(([]:TY64),((0:Int),()))))) (x1++a0.2.2.2.1)).bind fun r12 =>
 some (((r12.2.1.1,(r12.2.1.2.1,(r12.2.1.2.2.1,(r12.2.2.2.1,r12.2.1.2.2.2.2)))),()),())
 else none
def sp99 (k:Nat):Spec:=⟨[.own KD17],[.own KD17],fun x=>F99 k x.1⟩
def lim99:Lim:=⟨44,1,false,false,[],[]⟩
def cfg99 (k:Nat):Nat→Option Spec:=cfgL [(34,sp34 k),(102,sp102 k)]
noncomputable def co99_0:Code:=codeAt (bodyOf Try.f99) [.r,.r,.r,.l,.r,.s,.b,.r,.l,.s,.r,.s]
noncomputable def cb99_0:Code:=codeAt (bodyOf Try.f99) [.r,.r,.r,.l,.r,.s,.b,.r,.l,.s,.r,.s,.b]
noncomputable def co99_1:Code:=codeAt (bodyOf Try.f99) [.r,.r,.r,.l,.r,.s]
noncomputable def cb99_1:Code:=codeAt (bodyOf Try.f99) [.r,.r,.r,.l,.r,.s,.b]
noncomputable def co99:Code:=codeAt (bodyOf Try.f99) []
theorem cfg99_ok (k:Nat):CfgOK Try.prog (cfg99 k):=cfgL_cons (v34 k) (cfgL_cons (v102 k) (cfgL_nil))
noncomputable def bo99_0 (k m:Nat) (v:sq99_0.V):=body Try.prog (stepper Try.prog (cfg99 k) lim99) .go cb99_0 (sq99_0.st v) (loopK (fr99_0 k) (fu99_0 k m))
theorem pp99_0 (k m:Nat) (v:sq99_0.V):fu99_0 k (m+1) v=(bo99_0 k m v).eval∧(bo99_0 k m v).left=(bo99_0 k m v).right:=⟨by kernel_rfl,by kernel_rfl⟩
theorem fr99_0_ok (k:Nat):FragOK Try.prog lim99 (fr99_0 k) co99_0 :=
 frag_cast (by kernel_rfl) (loop_ok (cfg99_ok k) (planOK_go _) (fu99_0 k) k (fun _=>rfl) (fun _=>rfl) (pp99_0 k))
def pl99_1 (k:Nat):Plan:=(.seq .go (.seq (.sub (.seq .go (.sub (.frag (fr99_0 k))))) .go))
noncomputable def bo99_1 (k m:Nat) (v:sq99_1.V):=body Try.prog (stepper Try.prog (cfg99 k) lim99) (pl99_1 k) cb99_1 (sq99_1.st v) (loopK (fr99_1 k) (fu99_1 k m))
theorem pp99_1 (k m:Nat) (v:sq99_1.V):fu99_1 k (m+1) v=(bo99_1 k m v).eval∧(bo99_1 k m v).left=(bo99_1 k m v).right:=⟨by kernel_rfl,by kernel_rfl⟩
theorem fr99_1_ok (k:Nat):FragOK Try.prog lim99 (fr99_1 k) co99_1 :=
 frag_cast (by kernel_rfl) (loop_ok (cfg99_ok k) (plan_of (L:=[(fr99_0 k,co99_0)]) (by kernel_rfl) (.cons (fr99_0_ok k) .nil)) (fu99_1 k) k (fun _=>rfl) (fun _=>rfl) (pp99_1 k))
def pl99 (k:Nat):Plan:=(.seq .go (.seq .go (.seq .go (.seq (.seq .go (.sub (.frag (fr99_1 k)))) .go))))
noncomputable def bo99 (k:Nat) (x:AT (sp99 k).ps):=fnT Try.prog (cfg99 k) lim99 Try.f99 (bodyOf Try.f99) (pl99 k) (sp99 k) x
theorem vv99 (k:Nat) (x:AT (sp99 k).ps):(sp99 k).impl x=(bo99 k x).eval∧(bo99 k x).left=(bo99 k x).right:=⟨by kernel_rfl,by kernel_rfl⟩
theorem v99 (k:Nat):Callable Try.prog 99∧Valid Try.prog 99 (sp99 k) :=
 fn_of (n:=lim99) (fn:=Try.f99) (p:=(pl99 k)) (cfg99_ok k) (by kernel_rfl) (plan_of (L:=[(fr99_1 k,co99_1)]) (by kernel_rfl) (.cons (fr99_1_ok k) .nil)) (vv99 k)
def rs74 (f74:(TY52→TY14→Option TY31)):Spec:=⟨[.val KD32,.val KD5],[.own KD17],fun x=>f74 x.1 x.2.1⟩
def F74_0 (k:Nat) (f74:(TY52→TY14→Option TY31)):Nat→Int→TY30→TY37→TY37→Option TY18
 |0,_,_,_,_=>none
 |n+1,t7,c2,c4,c6 =>
  let x30:=(decide (t7<(length c6.2.1:Int)))
  bif x30 then
  if 0≤t7∧t7<(length c6.2.1:Int) then
  (F34 k (getD c6.2.1 (toNat t7) (0:Int)) c2.2.2.2.1).bind fun r31 =>
  if 0≤t7∧t7<(length c6.2.1:Int) then
  (F74_0 k f74 n (wrap .i64 (t7+(1:Int))) c2 c4 (c6.1,((List.set c6.2.1 (toNat t7) r31.1.1),c6.2.2))).bind some
  else none
  else none
  else
  some ((),(c4,c6,()))
def sq74_0:Shape:=⟨[],[(2,.ptr 2 []),(4,.ptr 4 []),(6,.ptr 6 []),(7,.val (.int .i64))],[(2,some 65,KD20),(4,some 81,KD17),(6,some 81,KD17)]⟩
def fu74_0 (k:Nat) (f74:(TY52→TY14→Option TY31)) (m:Nat) (v:sq74_0.V):=F74_0 k f74 m v.1.1 v.2.1 v.2.2.1 v.2.2.2.1
def fr74_0 (k:Nat) (f74:(TY52→TY14→Option TY31)):Frag:=⟨sq74_0,[(.exit 1,⟨[],[(4,.ptr 4 []),(6,.ptr 6 [])],[(4,some 81,KD17),(6,some 81,KD17)]⟩)],fu74_0 k f74 k⟩
def F74_1 (k:Nat) (f74:(TY52→TY14→Option TY31)):Nat→Int→TY30→TY37→TY37→TY37→Option TY18
 |0,_,_,_,_,_=>none
 |n+1,t10,c2,c4,c8,c9 =>
  bif (decide (t10≥(1:Int))) then
  (F97 k c9 c8).bind fun r39 =>
  bif (decide (t10>c2.2.1)) then
  (F74_1 k f74 n (wrap .i64 (t10-(1:Int))) c2 c4 (r39.1.1.1,(r39.1.1.2.1,(r39.1.1.2.2.1,(r39.1.1.2.2.2.1,((0:Int),r39.1.1.2.2.2.2.2))))) c9).bind some
  else
  (F74_1 k f74 n (wrap .i64 (t10-(1:Int))) c2 c4 r39.1.1 c9).bind some
  else
  some ((),(c4,c8,()))
def sq74_1:Shape:=⟨[],[(2,.ptr 2 []),(4,.ptr 4 []),(8,.ptr 8 []),(9,.ptr 9 []),(10,.val (.int .i64))],[(2,some 65,KD20),(4,some 81,KD17),(8,some 81,KD17),(9,some 81,KD17)]⟩
def fu74_1 (k:Nat) (f74:(TY52→TY14→Option TY31)) (m:Nat) (v:sq74_1.V):=F74_1 k f74 m v.1.1 v.2.1 v.2.2.1 v.2.2.2.1 v.2.2.2.2.1
def fr74_1 (k:Nat) (f74:(TY52→TY14→Option TY31)):Frag:=⟨sq74_1,[(.exit 3,⟨[],[(4,.ptr 4 []),(8,.ptr 8 [])],[(4,some 81,KD17),(8,some 81,KD17)]⟩)],fu74_1 k f74 k⟩
def B74 (k:Nat) (f74:(TY52→TY14→Option TY31)) (a0:TY52) (a1:TY14):Option TY31 :=
 bif ((Tree.a a0).1==(1:Int)) then
 (F95 k).bind fun r1 =>
 some ((r1.1.1,()),())
 else
 bif ((Tree.a a0).1==(2:Int)) then
 (F96 k (1:Int)).bind fun r2 =>
 if 0≤(0:Int)∧(0:Int)<(length r2.1.1.1:Int) then
 let x3:=(List.set r2.1.1.1 (toNat (0:Int)) (-1:Int))
 if 0≤(0:Int)∧(0:Int)<(length r2.1.1.2.1:Int) then
 let x4:=(List.set r2.1.1.2.1 (toNat (0:Int)) (0:Int))
 if 0≤(0:Int)∧(0:Int)<(length r2.1.1.2.2.1:Int) then
 let x5:=(List.set r2.1.1.2.2.1 (toNat (0:Int)) (0:Int))
 bif ((Tree.a a0).1==(2:Int)) then
 (F83 k a1 (Tree.a a0).2.2.2.2.1).bind fun r6 =>
 if 0≤(0:Int)∧(0:Int)<(length x3:Int) then
 some ((((List.set x3 (toNat (0:Int)) r6.1.1),(x4,(x5,r2.1.1.2.2.2))),()),())
 else none
 else
 some (((x3,(x4,(x5,r2.1.1.2.2.2))),()),())
 else none
 else none
 else none
 else
 bif ((Tree.a a0).1==(3:Int)) then
 (F96 k (1:Int)).bind fun r7 =>
 if 0≤(0:Int)∧(0:Int)<(length r7.1.1.1:Int) then
 let x8:=(List.set r7.1.1.1 (toNat (0:Int)) (-1:Int))
 if 0≤(0:Int)∧(0:Int)<(length r7.1.1.2.1:Int) then
 let x9:=(List.set r7.1.1.2.1 (toNat (0:Int)) (0:Int))
 if 0≤(0:Int)∧(0:Int)<(length r7.1.1.2.2.1:Int) then
 let x10:=(List.set r7.1.1.2.2.1 (toNat (0:Int)) (0:Int))
 bif ((Tree.a a0).1==(2:Int)) then
 (F83 k a1 (Tree.a a0).2.2.2.2.1).bind fun r11 =>
 if 0≤(0:Int)∧(0:Int)<(length x8:Int) then
 some ((((List.set x8 (toNat (0:Int)) r11.1.1),(x9,(x10,r7.1.1.2.2.2))),()),())
 else none
 else
 some (((x8,(x9,(x10,r7.1.1.2.2.2))),()),())
 else none
 else none
 else none
 else
 bif ((Tree.a a0).1==(4:Int)) then
 if 0≤(0:Int)∧(0:Int)<(length (Tree.l a0):Int) then
 let x12:=(getD (Tree.l a0) (toNat (0:Int)) (Tree.mk ((0:Int),((0:Int),((0:Int),((0:Int),(ByteArray.empty,()))))) []))
 if 0≤(1:Int)∧(1:Int)<(length (Tree.l a0):Int) then
 let x13:=(getD (Tree.l a0) (toNat (1:Int)) (Tree.mk ((0:Int),((0:Int),((0:Int),((0:Int),(ByteArray.empty,()))))) []))
 (f74 x12 a1).bind fun r14 =>
 (f74 x13 a1).bind fun r15 =>
 (F97 k r14.1.1 r15.1.1).bind fun r16 =>
 some ((r16.1.1,()),())
 else none
 else none
 else
 bif ((Tree.a a0).1==(5:Int)) then
 if 0≤(0:Int)∧(0:Int)<(length (Tree.l a0):Int) then
 let x17:=(getD (Tree.l a0) (toNat (0:Int)) (Tree.mk ((0:Int),((0:Int),((0:Int),((0:Int),(ByteArray.empty,()))))) []))
 if 0≤(1:Int)∧(1:Int)<(length (Tree.l a0):Int) then
 let x18:=(getD (Tree.l a0) (toNat (1:Int)) (Tree.mk ((0:Int),((0:Int),((0:Int),((0:Int),(ByteArray.empty,()))))) []))
 (f74 x17 a1).bind fun r19 =>
 (f74 x18 a1).bind fun r20 =>
 (F98 k r19.1.1 r20.1.1).bind fun r21 =>
 some ((r21.1.1,()),())
 else none
 else none
 else
 bif ((Tree.a a0).1==(6:Int)) then
 if 0≤(0:Int)∧(0:Int)<(length (Tree.l a0):Int) then
 let x22:=(getD (Tree.l a0) (toNat (0:Int)) (Tree.mk ((0:Int),((0:Int),((0:Int),((0:Int),(ByteArray.empty,()))))) []))
 (f74 x22 a1).bind fun r23 =>
 (F99 k r23.1.1).bind fun r24 =>
 some ((r24.1.1,()),())
 else none
 else
 bif ((Tree.a a0).1==(8:Int)) then
 if 0≤(0:Int)∧(0:Int)<(length (Tree.l a0):Int) then
 let x25:=(getD (Tree.l a0) (toNat (0:Int)) (Tree.mk ((0:Int),((0:Int),((0:Int),((0:Int),(ByteArray.empty,()))))) []))
 (f74 x25 a1).bind fun r26 =>
 (F34 k r26.1.1.2.2.2.2.1 (Tree.a a0).2.2.2.1).bind fun r27 =>
 (F74_0 k f74 k (0:Int) ((Tree.a a0).1,((Tree.a a0).2.1,((Tree.a a0).2.2.1,((Tree.a a0).2.2.2.1,((Tree.a a0).2.2.2.2.1,((Tree.l a0),())))))) (([]:(List Int)),(([]:(List Int)),(([]:(List Int)),(([]:TY64),((0:Int),()))))) (r26.1.1.1,(r26.1.1.2.1,(r26.1.1.2.2.1,(r26.1.1.2.2.2.1,(r27.1.1,r26.1.1.2.2.2.2.2)))))).bind fun r32 =>
 some ((r32.2.2.1,()),())
 else none
 else
 if 0≤(0:Int)∧(0:Int)<(length (Tree.l a0):Int) then
 let x35:=(getD (Tree.l a0) (toNat (0:Int)) (Tree.mk ((0:Int),((0:Int),((0:Int),((0:Int),(ByteArray.empty,()))))) []))
 (F95 k).bind fun r36 =>
 (f74 x35 a1).bind fun r37 =>
 (F74_1 k f74 k (Tree.a a0).2.2.1 ((Tree.a a0).1,((Tree.a a0).2.1,((Tree.a a0).2.2.1,((Tree.a a0).2.2.2.1,((Tree.a a0).2.2.2.2.1,((Tree.l a0),())))))) (([]:(List Int)),(([]:(List Int)),(([]:(List Int)),(([]:TY64),((0:Int),()))))) r36.1.1 r37.1.1).bind fun r40 =>
 some ((r40.2.2.1,()),())
 else none
def sb74 (k:Nat) (f74:(TY52→TY14→Option TY31)):Spec:=rs74 (B74 k f74)
def lim74:Lim:=⟨135,2,false,false,[],[]⟩
def cfg74 (k:Nat) (f74:(TY52→TY14→Option TY31)):Nat→Option Spec:=cfgL [(34,sp34 k),(74,rs74 f74),(83,sp83 k),(95,sp95 k),(96,sp96 k),(97,sp97 k),(98,sp98 k),(99,sp99 k)]
noncomputable def co74_0:Code:=codeAt (bodyOf Try.f74) [.r,.l,.r,.s,.r,.r,.r,.r,.r,.r,.r,.r,.r,.r,.r,.l,.r,.r,.l,.r,.s]
noncomputable def cb74_0:Code:=codeAt (bodyOf Try.f74) [.r,.l,.r,.s,.r,.r,.r,.r,.r,.r,.r,.r,.r,.r,.r,.l,.r,.r,.l,.r,.s,.b]
noncomputable def co74_1:Code:=codeAt (bodyOf Try.f74) [.r,.r,.r,.l,.r,.s]
noncomputable def cb74_1:Code:=codeAt (bodyOf Try.f74) [.r,.r,.r,.l,.r,.s,.b]
noncomputable def co74:Code:=codeAt (bodyOf Try.f74) []
theorem cfg74_ok (k:Nat) (f74:(TY52→TY14→Option TY31)) (h74:Callable Try.prog 74∧Valid Try.prog 74 (rs74 f74)):CfgOK Try.prog (cfg74 k f74):=cfgL_cons (v34 k) (cfgL_cons h74 (cfgL_cons (v83 k) (cfgL_cons (v95 k) (cfgL_cons (v96 k) (cfgL_cons (v97 k) (cfgL_cons (v98 k) (cfgL_cons (v99 k) (cfgL_nil))))))))
noncomputable def bo74_0 (k:Nat) (f74:(TY52→TY14→Option TY31)) (m:Nat) (v:sq74_0.V):=body Try.prog (stepper Try.prog (cfg74 k f74) lim74) .go cb74_0 (sq74_0.st v) (loopK (fr74_0 k f74) (fu74_0 k f74 m))
theorem pp74_0 (k:Nat) (f74:(TY52→TY14→Option TY31)) (m:Nat) (v:sq74_0.V):fu74_0 k f74 (m+1) v=(bo74_0 k f74 m v).eval∧(bo74_0 k f74 m v).left=(bo74_0 k f74 m v).right:=⟨by kernel_rfl,by kernel_rfl⟩
theorem fr74_0_ok (k:Nat) (f74:(TY52→TY14→Option TY31)) (h74:Callable Try.prog 74∧Valid Try.prog 74 (rs74 f74)):FragOK Try.prog lim74 (fr74_0 k f74) co74_0 :=
 frag_cast (by kernel_rfl) (loop_ok (cfg74_ok k f74 h74) (planOK_go _) (fu74_0 k f74) k (fun _=>rfl) (fun _=>rfl) (pp74_0 k f74))
noncomputable def bo74_1 (k:Nat) (f74:(TY52→TY14→Option TY31)) (m:Nat) (v:sq74_1.V):=body Try.prog (stepper Try.prog (cfg74 k f74) lim74) .go cb74_1 (sq74_1.st v) (loopK (fr74_1 k f74) (fu74_1 k f74 m))
theorem pp74_1 (k:Nat) (f74:(TY52→TY14→Option TY31)) (m:Nat) (v:sq74_1.V):fu74_1 k f74 (m+1) v=(bo74_1 k f74 m v).eval∧(bo74_1 k f74 m v).left=(bo74_1 k f74 m v).right:=⟨by kernel_rfl,by kernel_rfl⟩
theorem fr74_1_ok (k:Nat) (f74:(TY52→TY14→Option TY31)) (h74:Callable Try.prog 74∧Valid Try.prog 74 (rs74 f74)):FragOK Try.prog lim74 (fr74_1 k f74) co74_1 :=
 frag_cast (by kernel_rfl) (loop_ok (cfg74_ok k f74 h74) (planOK_go _) (fu74_1 k f74) k (fun _=>rfl) (fun _=>rfl) (pp74_1 k f74))
def pl74 (k:Nat) (f74:(TY52→TY14→Option TY31)):Plan:=(.seq .go (.seq (.seq .go (.sub (.seq .go (.seq .go (.seq .go (.seq .go (.seq .go (.seq .go (.seq .go (.seq .go (.seq .go (.seq .go (.seq .go (.seq (.seq .go (.seq .go (.seq (.seq .go (.sub (.frag (fr74_0 k f74)))) .go))) .go)))))))))))))) (.seq .go (.seq (.seq .go (.sub (.frag (fr74_1 k f74)))) .go))))
noncomputable def bo74 (k:Nat) (f74:(TY52→TY14→Option TY31)) (x:AT (sb74 k f74).ps):=fnT Try.prog (cfg74 k f74) lim74 Try.f74 (bodyOf Try.f74) (pl74 k f74) (sb74 k f74) x
theorem vv74 (k:Nat) (f74:(TY52→TY14→Option TY31)) (x:AT (sb74 k f74).ps):(sb74 k f74).impl x=(bo74 k f74 x).eval∧(bo74 k f74 x).left=(bo74 k f74 x).right:=⟨by kernel_rfl,by kernel_rfl⟩
theorem b74 (k:Nat) (f74:(TY52→TY14→Option TY31)) (h74:Callable Try.prog 74∧Valid Try.prog 74 (rs74 f74)):Callable Try.prog 74∧Valid Try.prog 74 (sb74 k f74) :=
 fn_of (n:=lim74) (fn:=Try.f74) (p:=(pl74 k f74)) (cfg74_ok k f74 h74) (by kernel_rfl) (plan_of (L:=[(fr74_0 k f74,co74_0),(fr74_1 k f74,co74_1)]) (by kernel_rfl) (.cons (fr74_0_ok k f74 h74) (.cons (fr74_1_ok k f74 h74) .nil))) (vv74 k f74)
def R74:Nat→(TY52→TY14→Option TY31)
 |0=>fun _ _=>none
 |k+1=>B74 k (R74 k)
def F74 (k:Nat) (a0_:TY52) (a1_:TY14):Option TY31:=(R74 k) a0_ a1_
def sp74 (k:Nat):Spec:=⟨[.val KD32,.val KD5],[.own KD17],fun x=>F74 k x.1 x.2.1⟩
theorem r74 (k:Nat):(Callable Try.prog 74∧Valid Try.prog 74 (rs74 (R74 k))):=by
 induction k with
 |zero=>exact ⟨⟨Try.f74,by kernel_rfl,by kernel_rfl,by kernel_rfl⟩,fun x r h=>by cases (show (none:Option _)=some r from h)⟩
 |succ k ih=>exact b74 k (R74 k) ih
theorem v74 (k:Nat):Callable Try.prog 74∧Valid Try.prog 74 (sp74 k):=(r74 k)
def F41 (k:Nat) (a0:TY52) (a1:TY14):Option ((TY37×Bool×Unit)×Unit) :=
 let x1:=(Tree.mk ((Tree.a a0).1,((Tree.a a0).2.1,((Tree.a a0).2.2.1,((Tree.a a0).2.2.2.1,((Tree.a a0).2.2.2.2.1,()))))) (Tree.l a0))
 (F73 k x1).bind fun r2 =>
 bif (decide (r2.1.1>(120:Int))) then
 some (((([]:(List Int)),(([]:(List Int)),(([]:(List Int)),(([]:TY64),((0:Int),()))))),false,()),())
 else
 let x3:=(Tree.mk ((Tree.a a0).1,((Tree.a a0).2.1,((Tree.a a0).2.2.1,((Tree.a a0).2.2.2.1,((Tree.a a0).2.2.2.2.1,()))))) (Tree.l a0))
 (F74 k x3 a1).bind fun r4 =>
 some ((r4.1.1,true,()),())
def sp41 (k:Nat):Spec:=⟨[.val KD32,.val KD5],[.own KD17,.val .bool],fun x=>F41 k x.1 x.2.1⟩
def lim41:Lim:=⟨13,2,false,false,[],[]⟩
def cfg41 (k:Nat):Nat→Option Spec:=cfgL [(73,sp73 k),(74,sp74 k)]
noncomputable def co41:Code:=codeAt (bodyOf Try.f41) []
theorem cfg41_ok (k:Nat):CfgOK Try.prog (cfg41 k):=cfgL_cons (v73 k) (cfgL_cons (v74 k) (cfgL_nil))
noncomputable def bo41 (k:Nat) (x:AT (sp41 k).ps):=fnT Try.prog (cfg41 k) lim41 Try.f41 (bodyOf Try.f41) .go (sp41 k) x
theorem vv41 (k:Nat) (x:AT (sp41 k).ps):(sp41 k).impl x=(bo41 k x).eval∧(bo41 k x).left=(bo41 k x).right:=⟨by kernel_rfl,by kernel_rfl⟩
theorem v41 (k:Nat):Callable Try.prog 41∧Valid Try.prog 41 (sp41 k) :=
 fn_of (n:=lim41) (fn:=Try.f41) (p:=.go) (cfg41_ok k) (by kernel_rfl) (planOK_go _) (vv41 k)
def F75_0 (k:Nat):Nat→(List (List Bool))→Int→Int→TY37→Option ((Unit×Unit)⊕TY80)
 |0,_,_,_,_=>none
 |n+1,t1,t2,t7,c3 =>
  if 0≤t2∧t2<(length c3.1:Int) then
  if 0≤(getD c3.1 (toNat t2) (0:Int))∧(getD c3.1 (toNat t2) (0:Int))<(length t1:Int) then
  let x5:=(getD t1 (toNat (getD c3.1 (toNat t2) (0:Int))) ([]:(List Bool)))
  let x6:=(decide (t7<(length x5:Int)))
  bif x6 then
  if 0≤t2∧t2<(length c3.1:Int) then
  if 0≤(getD c3.1 (toNat t2) (0:Int))∧(getD c3.1 (toNat t2) (0:Int))<(length t1:Int) then
  let x7:=(getD t1 (toNat (getD c3.1 (toNat t2) (0:Int))) ([]:(List Bool)))
  if 0≤t7∧t7<(length x7:Int) then
  bif (getD x7 (toNat t7) false) then
  some (.inr ((true,()),()))
  else
  (F75_0 k n t1 t2 (wrap .i64 (t7+(1:Int))) c3).bind some
  else none
  else none
  else none
  else
  some (.inl ((),()))
  else none
  else none
def sq75_0:Shape:=⟨[],[(1,.val KD59),(2,.val (.int .i64)),(3,.ptr 3 []),(7,.val (.int .i64))],[(3,some 81,KD16)]⟩
def fu75_0 (k m:Nat) (v:sq75_0.V):=F75_0 k m v.1.1 v.1.2.1 v.1.2.2.1 v.2.1
def fr75_0 (k:Nat):Frag:=⟨sq75_0,[(.exit 0,⟨[],[],[]⟩),(.ret,⟨[],[(6,.val .bool)],[]⟩)],fu75_0 k k⟩
def F75 (k:Nat) (a0:TY37) (a1:(List (List Bool))) (a2:Int):Option TY80 :=
 if 0≤a2∧a2<(length a0.1:Int) then
 let x1:=(decide ((getD a0.1 (toNat a2) (0:Int))<(0:Int)))
 bif x1 then
 some ((true,()),())
 else
 (F75_0 k k a1 a2 (0:Int) a0).bind fun r8 =>
 match r8 with
 |.inl r9 =>
  some ((false,()),())
 |.inr r9 =>
  some ((r9.1.1,()),())
 else none
def sp75 (k:Nat):Spec:=⟨[.val KD16,.val KD59,.val (.int .i64)],[.val .bool],fun x=>F75 k x.1 x.2.1 x.2.2.1⟩
def lim75:Lim:=⟨38,3,false,false,[],[]⟩
def cfg75 (k:Nat):Nat→Option Spec:=cfgL []
noncomputable def co75_0:Code:=codeAt (bodyOf Try.f75) [.r,.r,.l,.r,.s]
noncomputable def cb75_0:Code:=codeAt (bodyOf Try.f75) [.r,.r,.l,.r,.s,.b]
noncomputable def co75:Code:=codeAt (bodyOf Try.f75) []
theorem cfg75_ok (k:Nat):CfgOK Try.prog (cfg75 k):=cfgL_nil
noncomputable def bo75_0 (k m:Nat) (v:sq75_0.V):=body Try.prog (stepper Try.prog (cfg75 k) lim75) .go cb75_0 (sq75_0.st v) (loopK (fr75_0 k) (fu75_0 k m))
theorem pp75_0 (k m:Nat) (v:sq75_0.V):fu75_0 k (m+1) v=(bo75_0 k m v).eval∧(bo75_0 k m v).left=(bo75_0 k m v).right:=⟨by kernel_rfl,by kernel_rfl⟩
theorem fr75_0_ok (k:Nat):FragOK Try.prog lim75 (fr75_0 k) co75_0 :=
 frag_cast (by kernel_rfl) (loop_ok (cfg75_ok k) (planOK_go _) (fu75_0 k) k (fun _=>rfl) (fun _=>rfl) (pp75_0 k))
def pl75 (k:Nat):Plan:=(.seq .go (.seq .go (.seq (.seq .go (.sub (.frag (fr75_0 k)))) .go)))
noncomputable def bo75 (k:Nat) (x:AT (sp75 k).ps):=fnT Try.prog (cfg75 k) lim75 Try.f75 (bodyOf Try.f75) (pl75 k) (sp75 k) x
theorem vv75 (k:Nat) (x:AT (sp75 k).ps):(sp75 k).impl x=(bo75 k x).eval∧(bo75 k x).left=(bo75 k x).right:=⟨by kernel_rfl,by kernel_rfl⟩
theorem v75 (k:Nat):Callable Try.prog 75∧Valid Try.prog 75 (sp75 k) :=
 fn_of (n:=lim75) (fn:=Try.f75) (p:=(pl75 k)) (cfg75_ok k) (by kernel_rfl) (plan_of (L:=[(fr75_0 k,co75_0)]) (by kernel_rfl) (.cons (fr75_0_ok k) .nil)) (vv75 k)
def F42_0 (k:Nat):Nat→(List (List Bool))→Int→Int→TY37→TY37→(List Bool)→(List Bool)→(List Bool)→Option (((Int×Unit)×TY13))
 |0,_,_,_,_,_,_,_,_=>none
 |n+1,t1,t5,t9,c2,c4,c22,c24,c26 =>
  bif (decide (t9<t5)) then
  (F75 k c2 t1 t9).bind fun r13 =>
  if 0≤t9∧t9<(length c26:Int) then
  if 0≤t9∧t9<(length (List.set c26 (toNat t9) r13.1.1):Int) then
  let x14:=(getD (List.set c26 (toNat t9) r13.1.1) (toNat t9) false)
  bif x14 then
  if 0≤t9∧t9<(length c2.2.1:Int) then
  let x15:=(decide ((getD c2.2.1 (toNat t9) (0:Int))<(1152921504606846976:Int)))
  if 0≤t9∧t9<(length (List.set c26 (toNat t9) r13.1.1):Int) then
  let x16:=(getD (List.set c26 (toNat t9) r13.1.1) (toNat t9) false)
  bif x16 then
  if 0≤t9∧t9<(length c2.2.2.1:Int) then
  let x17:=(getD c2.2.2.1 (toNat t9) (0:Int))
  if 0≤t9∧t9<(length c22:Int) then
  if 0≤t9∧t9<(length c24:Int) then
  let x18:=(List.set c24 (toNat t9) (decide (x17<(1152921504606846976:Int))))
  (F42_0 k n t1 t5 (wrap .i64 (t9+(1:Int))) c2 c4 (List.set c22 (toNat t9) x15) x18 (List.set c26 (toNat t9) r13.1.1)).bind some
  else none
  else none
  else none
  else
  if 0≤t9∧t9<(length c22:Int) then
  if 0≤t9∧t9<(length c24:Int) then
  (F42_0 k n t1 t5 (wrap .i64 (t9+(1:Int))) c2 c4 (List.set c22 (toNat t9) x15) (List.set c24 (toNat t9) false) (List.set c26 (toNat t9) r13.1.1)).bind some
  else none
  else none
  else none
  else none
  else
  if 0≤t9∧t9<(length (List.set c26 (toNat t9) r13.1.1):Int) then
  let x19:=(getD (List.set c26 (toNat t9) r13.1.1) (toNat t9) false)
  bif x19 then
  if 0≤t9∧t9<(length c2.2.2.1:Int) then
  let x20:=(getD c2.2.2.1 (toNat t9) (0:Int))
  if 0≤t9∧t9<(length c22:Int) then
  if 0≤t9∧t9<(length c24:Int) then
  let x21:=(List.set c24 (toNat t9) (decide (x20<(1152921504606846976:Int))))
  (F42_0 k n t1 t5 (wrap .i64 (t9+(1:Int))) c2 c4 (List.set c22 (toNat t9) false) x21 (List.set c26 (toNat t9) r13.1.1)).bind some
  else none
  else none
  else none
  else
  if 0≤t9∧t9<(length c22:Int) then
  if 0≤t9∧t9<(length c24:Int) then
  (F42_0 k n t1 t5 (wrap .i64 (t9+(1:Int))) c2 c4 (List.set c22 (toNat t9) false) (List.set c24 (toNat t9) false) (List.set c26 (toNat t9) r13.1.1)).bind some
  else none
  else none
  else none
  else none
  else none
  else
  some ((t5,()),(c2,c4,c22,c24,c26,()))
def sq42_0:Shape:=⟨[],[(1,.val KD59),(2,.ptr 2 []),(4,.ptr 4 []),(5,.val (.int .i64)),(6,.at 22 []),(7,.at 24 []),(8,.at 26 []),(9,.val (.int .i64))],[(2,some 81,KD16),(4,some 81,KD17),(22,none,KD79),(24,none,KD79),(26,none,KD79)]⟩
def fu42_0 (k m:Nat) (v:sq42_0.V):=F42_0 k m v.1.1 v.1.2.1 v.1.2.2.1 v.2.1 v.2.2.1 v.2.2.2.1 v.2.2.2.2.1 v.2.2.2.2.2.1
def fr42_0 (k:Nat):Frag:=⟨sq42_0,[(.exit 0,⟨[],[(2,.ptr 2 []),(4,.ptr 4 []),(5,.val (.int .i64)),(6,.at 22 []),(7,.at 24 []),(8,.at 26 [])],[(2,some 81,KD16),(4,some 81,KD17),(22,none,KD79),(24,none,KD79),(26,none,KD79)]⟩)],fu42_0 k k⟩
def F42_1 (k:Nat):Nat→Int→Bool→Int→TY37→TY37→(List Bool)→(List Bool)→(List Bool)→Option (((Int×Bool×Unit)×TY13))
 |0,_,_,_,_,_,_,_,_=>none
 |n+1,t5,t10,t11,c2,c4,c22,c24,c26 =>
  let x31:=(decide (t11<(length c2.2.2.2.1:Int)))
  bif x31 then
  if 0≤t11∧t11<(length c2.2.2.2.1:Int) then
  let x32:=(getD c2.2.2.2.1 (toNat t11) ((0:Int),((0:Int),((0:Int),()))))
  if 0≤x32.1∧x32.1<(length c22:Int) then
  bif (getD c22 (toNat x32.1) false) then
  if 0≤x32.2.1∧x32.2.1<(length c26:Int) then
  bif (getD c26 (toNat x32.2.1) false) then
  if 0≤x32.2.1∧x32.2.1<(length c22:Int) then
  bif (!(getD c22 (toNat x32.2.1) false)) then
  if 0≤x32.2.1∧x32.2.1<(length c22:Int) then
  if 0≤x32.2.1∧x32.2.1<(length c24:Int) then
  bif (getD c24 (toNat x32.2.1) false) then
  if 0≤x32.1∧x32.1<(length c26:Int) then
  bif (getD c26 (toNat x32.1) false) then
  if 0≤x32.1∧x32.1<(length c24:Int) then
  bif (!(getD c24 (toNat x32.1) false)) then
  if 0≤x32.1∧x32.1<(length c24:Int) then
  (F42_1 k n t5 true (wrap .i64 (t11+(1:Int))) c2 c4 (List.set c22 (toNat x32.2.1) true) (List.set c24 (toNat x32.1) true) c26).bind some
  else none
  else
  (F42_1 k n t5 true (wrap .i64 (t11+(1:Int))) c2 c4 (List.set c22 (toNat x32.2.1) true) c24 c26).bind some
  else none
  else
  (F42_1 k n t5 true (wrap .i64 (t11+(1:Int))) c2 c4 (List.set c22 (toNat x32.2.1) true) c24 c26).bind some
  else none
  else
  (F42_1 k n t5 true (wrap .i64 (t11+(1:Int))) c2 c4 (List.set c22 (toNat x32.2.1) true) c24 c26).bind some
  else none
  else none
  else
  if 0≤x32.2.1∧x32.2.1<(length c24:Int) then
  bif (getD c24 (toNat x32.2.1) false) then
  if 0≤x32.1∧x32.1<(length c26:Int) then
  bif (getD c26 (toNat x32.1) false) then
  if 0≤x32.1∧x32.1<(length c24:Int) then
  bif (!(getD c24 (toNat x32.1) false)) then
  if 0≤x32.1∧x32.1<(length c24:Int) then
  (F42_1 k n t5 true (wrap .i64 (t11+(1:Int))) c2 c4 c22 (List.set c24 (toNat x32.1) true) c26).bind some
  else none
  else
  (F42_1 k n t5 t10 (wrap .i64 (t11+(1:Int))) c2 c4 c22 c24 c26).bind some
  else none
  else
  (F42_1 k n t5 t10 (wrap .i64 (t11+(1:Int))) c2 c4 c22 c24 c26).bind some
  else none
  else
  (F42_1 k n t5 t10 (wrap .i64 (t11+(1:Int))) c2 c4 c22 c24 c26).bind some
  else none
  else none
  else
  if 0≤x32.2.1∧x32.2.1<(length c24:Int) then
  bif (getD c24 (toNat x32.2.1) false) then
  if 0≤x32.1∧x32.1<(length c26:Int) then
  bif (getD c26 (toNat x32.1) false) then
  if 0≤x32.1∧x32.1<(length c24:Int) then
  bif (!(getD c24 (toNat x32.1) false)) then
  if 0≤x32.1∧x32.1<(length c24:Int) then
  (F42_1 k n t5 true (wrap .i64 (t11+(1:Int))) c2 c4 c22 (List.set c24 (toNat x32.1) true) c26).bind some
  else none
  else
  (F42_1 k n t5 t10 (wrap .i64 (t11+(1:Int))) c2 c4 c22 c24 c26).bind some
  else none
  else
  (F42_1 k n t5 t10 (wrap .i64 (t11+(1:Int))) c2 c4 c22 c24 c26).bind some
  else none
  else
  (F42_1 k n t5 t10 (wrap .i64 (t11+(1:Int))) c2 c4 c22 c24 c26).bind some
  else none
  else none
  else
  if 0≤x32.2.1∧x32.2.1<(length c24:Int) then
  bif (getD c24 (toNat x32.2.1) false) then
  if 0≤x32.1∧x32.1<(length c26:Int) then
  bif (getD c26 (toNat x32.1) false) then
  if 0≤x32.1∧x32.1<(length c24:Int) then
  bif (!(getD c24 (toNat x32.1) false)) then
  if 0≤x32.1∧x32.1<(length c24:Int) then
  (F42_1 k n t5 true (wrap .i64 (t11+(1:Int))) c2 c4 c22 (List.set c24 (toNat x32.1) true) c26).bind some
  else none
  else
  (F42_1 k n t5 t10 (wrap .i64 (t11+(1:Int))) c2 c4 c22 c24 c26).bind some
  else none
  else
  (F42_1 k n t5 t10 (wrap .i64 (t11+(1:Int))) c2 c4 c22 c24 c26).bind some
  else none
  else
  (F42_1 k n t5 t10 (wrap .i64 (t11+(1:Int))) c2 c4 c22 c24 c26).bind some
  else none
  else none
  else none
  else
  some ((t5,t10,()),(c2,c4,c22,c24,c26,()))
def sq42_1:Shape:=⟨[],[(2,.ptr 2 []),(4,.ptr 4 []),(5,.val (.int .i64)),(6,.at 22 []),(7,.at 24 []),(8,.at 26 []),(10,.val .bool),(11,.val (.int .i64))],[(2,some 81,KD16),(4,some 81,KD17),(22,none,KD79),(24,none,KD79),(26,none,KD79)]⟩
def fu42_1 (k m:Nat) (v:sq42_1.V):=F42_1 k m v.1.1 v.1.2.1 v.1.2.2.1 v.2.1 v.2.2.1 v.2.2.2.1 v.2.2.2.2.1 v.2.2.2.2.2.1
def fr42_1 (k:Nat):Frag:=⟨sq42_1,[(.exit 4,⟨[],[(2,.ptr 2 []),(4,.ptr 4 []),(5,.val (.int .i64)),(6,.at 22 []),(7,.at 24 []),(8,.at 26 []),(10,.val .bool)],[(2,some 81,KD16),(4,some 81,KD17),(22,none,KD79),(24,none,KD79),(26,none,KD79)]⟩)],fu42_1 k k⟩
def F42_2 (k:Nat):Nat→Int→Bool→TY37→TY37→(List Bool)→(List Bool)→(List Bool)→Option (((Int×Unit)×(TY37×TY37×(List Bool)×(List Bool)×Unit)))
 |0,_,_,_,_,_,_,_=>none
 |n+1,t5,t10,c2,c4,c22,c24,c26 =>
  bif t10 then
  (F42_1 k k t5 false (0:Int) c2 c4 c22 c24 c26).bind fun r41 =>
  (F42_2 k n r41.1.1 r41.1.2.1 r41.2.1 r41.2.2.1 r41.2.2.2.1 r41.2.2.2.2.1 r41.2.2.2.2.2.1).bind some
  else
  some ((t5,()),(c2,c4,c22,c24,()))
def sq42_2:Shape:=⟨[],[(2,.ptr 2 []),(4,.ptr 4 []),(5,.val (.int .i64)),(6,.at 22 []),(7,.at 24 []),(8,.at 26 []),(10,.val .bool)],[(2,some 81,KD16),(4,some 81,KD17),(22,none,KD79),(24,none,KD79),(26,none,KD79)]⟩
def fu42_2 (k m:Nat) (v:sq42_2.V):=F42_2 k m v.1.1 v.1.2.1 v.2.1 v.2.2.1 v.2.2.2.1 v.2.2.2.2.1 v.2.2.2.2.2.1
def fr42_2 (k:Nat):Frag:=⟨sq42_2,[(.exit 2,⟨[],[(2,.ptr 2 []),(4,.ptr 4 []),(5,.val (.int .i64)),(6,.at 22 []),(7,.at 24 [])],[(2,some 81,KD16),(4,some 81,KD17),(22,none,KD79),(24,none,KD79)]⟩)],fu42_2 k k⟩
def F42_3 (k:Nat):Nat→Int→Int→TY37→TY37→TY37→(List Bool)→(List Bool)→(List Int)→Option ((Unit×(TY37×TY37×TY37×(List Int)×Unit)))
 |0,_,_,_,_,_,_,_,_=>none
 |n+1,t5,t15,c2,c4,c13,c22,c24,c134 =>
  bif (decide (t15<t5)) then
  if 0≤t15∧t15<(length c134:Int) then
  if 0≤t15∧t15<(length c22:Int) then
  bif (getD c22 (toNat t15) false) then
  if 0≤t15∧t15<(length c24:Int) then
  bif (getD c24 (toNat t15) false) then
  if 0≤t15∧t15<(length (List.set c134 (toNat t15) (-1:Int)):Int) then
  let x60:=(List.set (List.set c134 (toNat t15) (-1:Int)) (toNat t15) (length c13.1:Int))
  if 0≤t15∧t15<(length c2.1:Int) then
  if 0≤t15∧t15<(length c2.2.1:Int) then
  if 0≤t15∧t15<(length c2.2.2.1:Int) then
  let x61:=(getD c2.2.2.1 (toNat t15) (0:Int))
  let x62:=(List.set (replicate 1 (0:Int)) 0 (getD c2.1 (toNat t15) (0:Int)))
  if (length c13.1+length x62)*(8*2)≤281474976710656∧length c13.1+length x62≤9223372036854775807 then
  let x63:=(List.set (replicate 1 (0:Int)) 0 (getD c2.2.1 (toNat t15) (0:Int)))
  if (length c13.2.1+length x63)*(8*2)≤281474976710656∧length c13.2.1+length x63≤9223372036854775807 then
  let x64:=(List.set (replicate 1 (0:Int)) 0 x61)
  if (length c13.2.2.1+length x64)*(8*2)≤281474976710656∧length c13.2.2.1+length x64≤9223372036854775807 then
  (F42_3 k n t5 (wrap .i64 (t15+(1:Int))) c2 c4 ((c13.1++x62),((c13.2.1++x63),((c13.2.2.1++x64),c13.2.2.2))) c22 c24 x60).bind some
  else none
  else none
  else none
  else none
  else none
  else none
  else none
  else
  (F42_3 k n t5 (wrap .i64 (t15+(1:Int))) c2 c4 c13 c22 c24 (List.set c134 (toNat t15) (-1:Int))).bind some
  else none
  else
  (F42_3 k n t5 (wrap .i64 (t15+(1:Int))) c2 c4 c13 c22 c24 (List.set c134 (toNat t15) (-1:Int))).bind some
  else none
  else none
  else
  some ((),(c2,c4,c13,c134,()))
def sq42_3:Shape:=⟨[],[(2,.ptr 2 []),(4,.ptr 4 []),(5,.val (.int .i64)),(6,.at 22 []),(7,.at 24 []),(13,.ptr 13 []),(14,.at 134 []),(15,.val (.int .i64))],[(2,some 81,KD16),(4,some 81,KD17),(13,some 81,KD17),(22,none,KD79),(24,none,KD79),(134,none,KD70)]⟩
def fu42_3 (k m:Nat) (v:sq42_3.V):=F42_3 k m v.1.1 v.1.2.1 v.2.1 v.2.2.1 v.2.2.2.1 v.2.2.2.2.1 v.2.2.2.2.2.1 v.2.2.2.2.2.2.1
def fr42_3 (k:Nat):Frag:=⟨sq42_3,[(.exit 6,⟨[],[(2,.ptr 2 []),(4,.ptr 4 []),(13,.ptr 13 []),(14,.at 134 [])],[(2,some 81,KD16),(4,some 81,KD17),(13,some 81,KD17),(134,none,KD70)]⟩)],fu42_3 k k⟩
def F42_4 (k:Nat):Nat→Int→TY37→TY37→TY37→(List Int)→Option TY18
 |0,_,_,_,_,_=>none
 |n+1,t16,c2,c4,c13,c134 =>
  let x76:=(decide (t16<(length c2.2.2.2.1:Int)))
  bif x76 then
  if 0≤t16∧t16<(length c2.2.2.2.1:Int) then
  let x77:=(getD c2.2.2.2.1 (toNat t16) ((0:Int),((0:Int),((0:Int),()))))
  if 0≤x77.1∧x77.1<(length c134:Int) then
  let x78:=(decide ((getD c134 (toNat x77.1) (0:Int))≥(0:Int)))
  bif x78 then
  if 0≤x77.2.1∧x77.2.1<(length c134:Int) then
  let x79:=(getD c134 (toNat x77.2.1) (0:Int))
  bif (decide (x79≥(0:Int))) then
  if 0≤x77.1∧x77.1<(length c134:Int) then
  if 0≤x77.2.1∧x77.2.1<(length c134:Int) then
  let x80:=(getD c134 (toNat x77.2.1) (0:Int))
  let x81:=(List.set (replicate 1 ((0:Int),((0:Int),((0:Int),())))) 0 ((getD c134 (toNat x77.1) (0:Int)),(x80,(x77.2.2.1,()))))
  if (length c13.2.2.2.1+length x81)*(24*2)≤281474976710656∧length c13.2.2.2.1+length x81≤9223372036854775807 then
  (F42_4 k n (wrap .i64 (t16+(1:Int))) c2 c4 (c13.1,(c13.2.1,(c13.2.2.1,((c13.2.2.2.1++x81),c13.2.2.2.2)))) c134).bind some
  else none
  else none
  else none
  else
  (F42_4 k n (wrap .i64 (t16+(1:Int))) c2 c4 c13 c134).bind some
  else none
  else
  (F42_4 k n (wrap .i64 (t16+(1:Int))) c2 c4 c13 c134).bind some
  else none
  else none
  else
  some ((),(c4,c13,()))
def sq42_4:Shape:=⟨[],[(2,.ptr 2 []),(4,.ptr 4 []),(13,.ptr 13 []),(14,.at 134 []),(16,.val (.int .i64))],[(2,some 81,KD16),(4,some 81,KD17),(13,some 81,KD17),(134,none,KD70)]⟩
def fu42_4 (k m:Nat) (v:sq42_4.V):=F42_4 k m v.1.1 v.2.1 v.2.2.1 v.2.2.2.1 v.2.2.2.2.1
def fr42_4 (k:Nat):Frag:=⟨sq42_4,[(.exit 8,⟨[],[(4,.ptr 4 []),(13,.ptr 13 [])],[(4,some 81,KD17),(13,some 81,KD17)]⟩)],fu42_4 k k⟩
def F42 (k:Nat) (a0:TY37) (a1:(List (List Bool))):Option TY31 :=
 if (0≤(length a0.1:Int)∧(length a0.1:Int)<(length a0.1:Int)+1)∧(length a0.1:Int)≤9223372036854775807∧((1:Nat):Int)*(length a0.1:Int)≤281474976710656 then
 let x1:=(replicate (toNat (length a0.1:Int)) false)
 if (0≤(length a0.1:Int)∧(length a0.1:Int)<(length a0.1:Int)+1)∧(length a0.1:Int)≤9223372036854775807∧((1:Nat):Int)*(length a0.1:Int)≤281474976710656 then
 let x2:=(replicate (toNat (length a0.1:Int)) false)
 if (0≤(length a0.1:Int)∧(length a0.1:Int)<(length a0.1:Int)+1)∧(length a0.1:Int)≤9223372036854775807∧((1:Nat):Int)*(length a0.1:Int)≤281474976710656 then
 let x3:=(replicate (toNat (length a0.1:Int)) false)
 (F42_0 k k a1 (length a0.1:Int) (0:Int) a0 (([]:(List Int)),(([]:(List Int)),(([]:(List Int)),(([]:TY64),((0:Int),()))))) x1 x2 x3).bind fun r22 =>
 (F42_2 k k r22.1.1 true r22.2.1 r22.2.2.1 r22.2.2.2.1 r22.2.2.2.2.1 r22.2.2.2.2.2.1).bind fun r49 =>
 let y50:=r49.1.1
 if (0≤y50∧y50<y50+1)∧y50≤9223372036854775807∧((8:Nat):Int)*y50≤281474976710656 then
 (F42_3 k k y50 (0:Int) r49.2.1 r49.2.2.1 (([]:(List Int)),(([]:(List Int)),(([]:(List Int)),(([]:TY64),(r49.2.1.2.2.2.2.1,()))))) r49.2.2.2.1 r49.2.2.2.2.1 (replicate (toNat y50) (0:Int))).bind fun r65 =>
 (F42_4 k k (0:Int) r65.2.1 r65.2.2.1 r65.2.2.2.1 r65.2.2.2.2.1).bind fun r82 =>
 some ((r82.2.2.1,()),())
 else none
 else none
 else none
 else none
def sp42 (k:Nat):Spec:=⟨[.val KD16,.val KD59],[.own KD17],fun x=>F42 k x.1 x.2.1⟩
def lim42:Lim:=⟨234,2,false,false,[],[]⟩
def cfg42 (k:Nat):Nat→Option Spec:=cfgL [(75,sp75 k)]
noncomputable def co42_0:Code:=codeAt (bodyOf Try.f42) [.r,.r,.r,.r,.l,.r,.s]
noncomputable def cb42_0:Code:=codeAt (bodyOf Try.f42) [.r,.r,.r,.r,.l,.r,.s,.b]
noncomputable def co42_1:Code:=codeAt (bodyOf Try.f42) [.r,.r,.r,.r,.r,.l,.r,.s,.b,.r,.s,.r,.r,.s]
noncomputable def cb42_1:Code:=codeAt (bodyOf Try.f42) [.r,.r,.r,.r,.r,.l,.r,.s,.b,.r,.s,.r,.r,.s,.b]
noncomputable def co42_2:Code:=codeAt (bodyOf Try.f42) [.r,.r,.r,.r,.r,.l,.r,.s]
noncomputable def cb42_2:Code:=codeAt (bodyOf Try.f42) [.r,.r,.r,.r,.r,.l,.r,.s,.b]
noncomputable def co42_3:Code:=codeAt (bodyOf Try.f42) [.r,.r,.r,.r,.r,.r,.r,.r,.l,.r,.s]
noncomputable def cb42_3:Code:=codeAt (bodyOf Try.f42) [.r,.r,.r,.r,.r,.r,.r,.r,.l,.r,.s,.b]
noncomputable def co42_4:Code:=codeAt (bodyOf Try.f42) [.r,.r,.r,.r,.r,.r,.r,.r,.r,.l,.r,.s]
noncomputable def cb42_4:Code:=codeAt (bodyOf Try.f42) [.r,.r,.r,.r,.r,.r,.r,.r,.r,.l,.r,.s,.b]
noncomputable def co42:Code:=codeAt (bodyOf Try.f42) []
theorem cfg42_ok (k:Nat):CfgOK Try.prog (cfg42 k):=cfgL_cons (v75 k) (cfgL_nil)
noncomputable def bo42_0 (k m:Nat) (v:sq42_0.V):=body Try.prog (stepper Try.prog (cfg42 k) lim42) .go cb42_0 (sq42_0.st v) (loopK (fr42_0 k) (fu42_0 k m))
theorem pp42_0 (k m:Nat) (v:sq42_0.V):fu42_0 k (m+1) v=(bo42_0 k m v).eval∧(bo42_0 k m v).left=(bo42_0 k m v).right:=⟨by kernel_rfl,by kernel_rfl⟩
theorem fr42_0_ok (k:Nat):FragOK Try.prog lim42 (fr42_0 k) co42_0 :=
 frag_cast (by kernel_rfl) (loop_ok (cfg42_ok k) (planOK_go _) (fu42_0 k) k (fun _=>rfl) (fun _=>rfl) (pp42_0 k))
noncomputable def bo42_1 (k m:Nat) (v:sq42_1.V):=body Try.prog (stepper Try.prog (cfg42 k) lim42) .go cb42_1 (sq42_1.st v) (loopK (fr42_1 k) (fu42_1 k m))
theorem pp42_1 (k m:Nat) (v:sq42_1.V):fu42_1 k (m+1) v=(bo42_1 k m v).eval∧(bo42_1 k m v).left=(bo42_1 k m v).right:=⟨by kernel_rfl,by kernel_rfl⟩
theorem fr42_1_ok (k:Nat):FragOK Try.prog lim42 (fr42_1 k) co42_1 :=
 frag_cast (by kernel_rfl) (loop_ok (cfg42_ok k) (planOK_go _) (fu42_1 k) k (fun _=>rfl) (fun _=>rfl) (pp42_1 k))
def pl42_2 (k:Nat):Plan:=(.seq .go (.sub (.seq .go (.seq .go (.sub (.frag (fr42_1 k)))))))
noncomputable def bo42_2 (k m:Nat) (v:sq42_2.V):=body Try.prog (stepper Try.prog (cfg42 k) lim42) (pl42_2 k) cb42_2 (sq42_2.st v) (loopK (fr42_2 k) (fu42_2 k m))
theorem pp42_2 (k m:Nat) (v:sq42_2.V):fu42_2 k (m+1) v=(bo42_2 k m v).eval∧(bo42_2 k m v).left=(bo42_2 k m v).right:=⟨by kernel_rfl,by kernel_rfl⟩
theorem fr42_2_ok (k:Nat):FragOK Try.prog lim42 (fr42_2 k) co42_2 :=
 frag_cast (by kernel_rfl) (loop_ok (cfg42_ok k) (plan_of (L:=[(fr42_1 k,co42_1)]) (by kernel_rfl) (.cons (fr42_1_ok k) .nil)) (fu42_2 k) k (fun _=>rfl) (fun _=>rfl) (pp42_2 k))
noncomputable def bo42_3 (k m:Nat) (v:sq42_3.V):=body Try.prog (stepper Try.prog (cfg42 k) lim42) .go cb42_3 (sq42_3.st v) (loopK (fr42_3 k) (fu42_3 k m))
theorem pp42_3 (k m:Nat) (v:sq42_3.V):fu42_3 k (m+1) v=(bo42_3 k m v).eval∧(bo42_3 k m v).left=(bo42_3 k m v).right:=⟨by kernel_rfl,by kernel_rfl⟩
theorem fr42_3_ok (k:Nat):FragOK Try.prog lim42 (fr42_3 k) co42_3 :=
 frag_cast (by kernel_rfl) (loop_ok (cfg42_ok k) (planOK_go _) (fu42_3 k) k (fun _=>rfl) (fun _=>rfl) (pp42_3 k))
noncomputable def bo42_4 (k m:Nat) (v:sq42_4.V):=body Try.prog (stepper Try.prog (cfg42 k) lim42) .go cb42_4 (sq42_4.st v) (loopK (fr42_4 k) (fu42_4 k m))
theorem pp42_4 (k m:Nat) (v:sq42_4.V):fu42_4 k (m+1) v=(bo42_4 k m v).eval∧(bo42_4 k m v).left=(bo42_4 k m v).right:=⟨by kernel_rfl,by kernel_rfl⟩
theorem fr42_4_ok (k:Nat):FragOK Try.prog lim42 (fr42_4 k) co42_4 :=
 frag_cast (by kernel_rfl) (loop_ok (cfg42_ok k) (planOK_go _) (fu42_4 k) k (fun _=>rfl) (fun _=>rfl) (pp42_4 k))
def pl42 (k:Nat):Plan:=(.seq .go (.seq .go (.seq .go (.seq .go (.seq (.seq .go (.sub (.frag (fr42_0 k)))) (.seq (.seq .go (.sub (.frag (fr42_2 k)))) (.seq .go (.seq .go (.seq (.seq .go (.sub (.frag (fr42_3 k)))) (.seq (.seq .go (.sub (.frag (fr42_4 k)))) .go))))))))))
noncomputable def bo42 (k:Nat) (x:AT (sp42 k).ps):=fnT Try.prog (cfg42 k) lim42 Try.f42 (bodyOf Try.f42) (pl42 k) (sp42 k) x
theorem vv42 (k:Nat) (x:AT (sp42 k).ps):(sp42 k).impl x=(bo42 k x).eval∧(bo42 k x).left=(bo42 k x).right:=⟨by kernel_rfl,by kernel_rfl⟩
theorem v42 (k:Nat):Callable Try.prog 42∧Valid Try.prog 42 (sp42 k) :=
 fn_of (n:=lim42) (fn:=Try.f42) (p:=(pl42 k)) (cfg42_ok k) (by kernel_rfl) (plan_of (L:=[(fr42_0 k,co42_0),(fr42_2 k,co42_2),(fr42_3 k,co42_3),(fr42_4 k,co42_4)]) (by kernel_rfl) (.cons (fr42_0_ok k) (.cons (fr42_2_ok k) (.cons (fr42_3_ok k) (.cons (fr42_4_ok k) .nil))))) (vv42 k)
def F15_0 (k:Nat):Nat→Int→TY3→TY3→Option ((Unit×(TY3×TY3×Unit))⊕((Bool×Unit)×(TY3×Unit)))
 |0,_,_,_=>none
 |n+1,t10,c6,c8 =>
  let x25:=(decide (t10<(length c8.1.2.1:Int)))
  bif x25 then
  if 0≤t10∧t10<(length c8.1.2.1:Int) then
  let x26:=(getD c8.1.2.1 (toNat t10) ((0:Int),((0:Int),((Tree.mk ((0:Int),((0:Int),((0:Int),((0:Int),(ByteArray.empty,()))))) []),((Tree.mk ((0:Int),((0:Int),((0:Int),((0:Int),(ByteArray.empty,()))))) []),())))))
  (F41 k x26.2.2.1 c8.1).bind fun r27 =>
  if 0≤t10∧t10<(length c8.1.2.1:Int) then
  let x28:=(getD c8.1.2.1 (toNat t10) ((0:Int),((0:Int),((Tree.mk ((0:Int),((0:Int),((0:Int),((0:Int),(ByteArray.empty,()))))) []),((Tree.mk ((0:Int),((0:Int),((0:Int),((0:Int),(ByteArray.empty,()))))) []),())))))
  (F41 k x28.2.2.2.1 c8.1).bind fun r29 =>
  bif (!r27.1.2.1) then
  some (.inr ((false,()),(c8,())))
  else
  bif (!r29.1.2.1) then
  some (.inr ((false,()),(c8,())))
  else
  (F42 k r27.1.1 c8.2.2.2.1).bind fun r30 =>
  let x31:=(List.set (replicate 1 (([]:(List Int)),(([]:(List Int)),(([]:(List Int)),(([]:TY64),((0:Int),())))))) 0 r30.1.1)
  if (length c8.2.2.2.2.1+length x31)*(104*2)≤281474976710656∧length c8.2.2.2.2.1+length x31≤9223372036854775807 then
  (F42 k r29.1.1 c8.2.2.2.1).bind fun r32 =>
  let x33:=(List.set (replicate 1 (([]:(List Int)),(([]:(List Int)),(([]:(List Int)),(([]:TY64),((0:Int),())))))) 0 r32.1.1)
  if (length c8.2.2.2.2.2.1+length x33)*(104*2)≤281474976710656∧length c8.2.2.2.2.2.1+length x33≤9223372036854775807 then
  (F15_0 k n (wrap .i64 (t10+(1:Int))) c6 (c8.1,(c8.2.1,(c8.2.2.1,(c8.2.2.2.1,((c8.2.2.2.2.1++x31),((c8.2.2.2.2.2.1++x33),c8.2.2.2.2.2.2))))))).bind some
  else none
  else none
  else none
  else none
  else
  some (.inl ((),(c6,c8,())))
def sq15_0:Shape:=⟨[],[(6,.ptr 6 []),(8,.ptr 8 []),(10,.val (.int .i64))],[(6,some 33,KD2),(8,some 33,KD1)]⟩
def fu15_0 (k m:Nat) (v:sq15_0.V):=F15_0 k m v.1.1 v.2.1 v.2.2.1
def fr15_0 (k:Nat):Frag:=⟨sq15_0,[(.exit 0,⟨[],[(6,.ptr 6 []),(8,.ptr 8 [])],[(6,some 33,KD2),(8,some 33,KD1)]⟩),(.ret,⟨[],[(6,.ptr 6 []),(7,.val .bool)],[(6,some 33,KD1)]⟩)],fu15_0 k k⟩
def F15 (k:Nat) (a0:TY65) (a1:(List Int)) (a2:(List Int)):Option ((TY3×Bool×Unit)×Unit) :=
 let x1:=([]:TY45)
 let x2:=([]:TY25)
 let x3:=([]:TY33)
 let x4:=([]:TY33)
 (F36 k a0 a1 a2).bind fun r5 =>
 let x6:=([]:TY33)
 let x7:=([]:TY33)
 (F37 k r5.1.1).bind fun r12 =>
 (F38 k r12.1.1).bind fun r13 =>
 (F39 k r12.1.1 r13.1.1 r13.1.2.1).bind fun r14 =>
 (F40 k r13.1.2.1).bind fun r15 =>
 (F15_0 k k (0:Int) ((x1,(x2,())),(([]:(List Int)),(([]:(List Int)),(([]:(List (List Bool))),(x3,(x4,((0:Int),()))))))) (r5.1.1,(r13.1.1,(r13.1.2.1,(r14.1.1,(x6,(x7,(r15.1.1,())))))))).bind fun r34 =>
 match r34 with
 |.inl r35 =>
  some ((r35.2.2.1,true,()),())
 |.inr r35 =>
  some ((r35.2.1,r35.1.1,()),())
def sp15 (k:Nat):Spec:=⟨[.val KD55,.val KD68,.val KD68],[.own KD1,.val .bool],fun x=>F15 k x.1 x.2.1 x.2.2.1⟩
def lim15:Lim:=⟨101,3,false,false,[18,87,95],[(19,KD1)]⟩
def cfg15 (k:Nat):Nat→Option Spec:=cfgL [(36,sp36 k),(37,sp37 k),(38,sp38 k),(39,sp39 k),(40,sp40 k),(41,sp41 k),(42,sp42 k)]
noncomputable def co15_0:Code:=codeAt (bodyOf Try.f15) [.r,.r,.r,.r,.r,.r,.l,.r,.s]
noncomputable def cb15_0:Code:=codeAt (bodyOf Try.f15) [.r,.r,.r,.r,.r,.r,.l,.r,.s,.b]
noncomputable def co15:Code:=codeAt (bodyOf Try.f15) []
theorem cfg15_ok (k:Nat):CfgOK Try.prog (cfg15 k):=cfgL_cons (v36 k) (cfgL_cons (v37 k) (cfgL_cons (v38 k) (cfgL_cons (v39 k) (cfgL_cons (v40 k) (cfgL_cons (v41 k) (cfgL_cons (v42 k) (cfgL_nil)))))))
noncomputable def bo15_0 (k m:Nat) (v:sq15_0.V):=body Try.prog (stepper Try.prog (cfg15 k) lim15) .go cb15_0 (sq15_0.st v) (loopK (fr15_0 k) (fu15_0 k m))
theorem pp15_0 (k m:Nat) (v:sq15_0.V):fu15_0 k (m+1) v=(bo15_0 k m v).eval∧(bo15_0 k m v).left=(bo15_0 k m v).right:=⟨by kernel_rfl,by kernel_rfl⟩
theorem fr15_0_ok (k:Nat):FragOK Try.prog lim15 (fr15_0 k) co15_0 :=
 frag_cast (by kernel_rfl) (loop_ok (cfg15_ok k) (planOK_go _) (fu15_0 k) k (fun _=>rfl) (fun _=>rfl) (pp15_0 k))
def pl15 (k:Nat):Plan:=(.seq .go (.seq .go (.seq .go (.seq .go (.seq .go (.seq .go (.seq (.seq .go (.sub (.frag (fr15_0 k)))) .go)))))))
noncomputable def bo15 (k:Nat) (x:AT (sp15 k).ps):=fnT Try.prog (cfg15 k) lim15 Try.f15 (bodyOf Try.f15) (pl15 k) (sp15 k) x
theorem vv15 (k:Nat) (x:AT (sp15 k).ps):(sp15 k).impl x=(bo15 k x).eval∧(bo15 k x).left=(bo15 k x).right:=⟨by kernel_rfl,by kernel_rfl⟩
theorem v15 (k:Nat):Callable Try.prog 15∧Valid Try.prog 15 (sp15 k) :=
 fn_of (n:=lim15) (fn:=Try.f15) (p:=(pl15 k)) (cfg15_ok k) (by kernel_rfl) (plan_of (L:=[(fr15_0 k,co15_0)]) (by kernel_rfl) (.cons (fr15_0_ok k) .nil)) (vv15 k)
def F43_0 (k:Nat):Nat→Int→Int→TY37→(List (List Bool))→Option TY27
 |0,_,_,_,_=>none
 |n+1,t3,t5,c1,c16 =>
  bif (decide (t5<t3)) then
  if (0≤t3∧t3<t3+1)∧t3≤9223372036854775807∧((1:Nat):Int)*t3≤281474976710656 then
  if 0≤t5∧t5<(length c16:Int) then
  let x4:=(List.set c16 (toNat t5) (replicate (toNat t3) false))
  if 0≤t5∧t5<(length x4:Int) then
  if 0≤t5∧t5<(length (getD x4 (toNat t5) ([]:(List Bool))):Int) then
  let x5:=(List.set x4 (toNat t5) (List.set (getD x4 (toNat t5) ([]:(List Bool))) (toNat t5) true))
  (F43_0 k n t3 (wrap .i64 (t5+(1:Int))) c1 x5).bind some
  else none
  else none
  else none
  else none
  else
  some ((t3,()),(c1,c16,()))
def sq43_0:Shape:=⟨[],[(1,.ptr 1 []),(3,.val (.int .i64)),(4,.at 16 []),(5,.val (.int .i64))],[(1,some 81,KD16),(16,none,KD61)]⟩
def fu43_0 (k m:Nat) (v:sq43_0.V):=F43_0 k m v.1.1 v.1.2.1 v.2.1 v.2.2.1
def fr43_0 (k:Nat):Frag:=⟨sq43_0,[(.exit 0,⟨[],[(1,.ptr 1 []),(3,.val (.int .i64)),(4,.at 16 [])],[(1,some 81,KD16),(16,none,KD61)]⟩)],fu43_0 k k⟩
def F43_1 (k:Nat):Nat→Int→Int→TY37→(List (List Bool))→Option TY27
 |0,_,_,_,_=>none
 |n+1,t3,t6,c1,c16 =>
  let x14:=(decide (t6<(length c1.2.2.2.1:Int)))
  bif x14 then
  if 0≤t6∧t6<(length c1.2.2.2.1:Int) then
  let x15:=(getD c1.2.2.2.1 (toNat t6) ((0:Int),((0:Int),((0:Int),()))))
  if 0≤x15.1∧x15.1<(length c16:Int) then
  if 0≤t6∧t6<(length c1.2.2.2.1:Int) then
  let x16:=(getD c1.2.2.2.1 (toNat t6) ((0:Int),((0:Int),((0:Int),()))))
  if 0≤x16.2.1∧x16.2.1<(length (getD c16 (toNat x15.1) ([]:(List Bool))):Int) then
  let x17:=(List.set c16 (toNat x15.1) (List.set (getD c16 (toNat x15.1) ([]:(List Bool))) (toNat x16.2.1) true))
  (F43_1 k n t3 (wrap .i64 (t6+(1:Int))) c1 x17).bind some
  else none
  else none
  else none
  else none
  else
  some ((t3,()),(c1,c16,()))
def sq43_1:Shape:=⟨[],[(1,.ptr 1 []),(3,.val (.int .i64)),(4,.at 16 []),(6,.val (.int .i64))],[(1,some 81,KD16),(16,none,KD61)]⟩
def fu43_1 (k m:Nat) (v:sq43_1.V):=F43_1 k m v.1.1 v.1.2.1 v.2.1 v.2.2.1
def fr43_1 (k:Nat):Frag:=⟨sq43_1,[(.exit 2,⟨[],[(1,.ptr 1 []),(3,.val (.int .i64)),(4,.at 16 [])],[(1,some 81,KD16),(16,none,KD61)]⟩)],fu43_1 k k⟩
def F43_2 (k:Nat):Nat→Int→Int→Int→Int→TY37→(List (List Bool))→Option (((Int×Int×Int×Unit)×TY29))
 |0,_,_,_,_,_,_=>none
 |n+1,t3,t7,t8,t9,c1,c16 =>
  bif (decide (t9<t3)) then
  if 0≤t8∧t8<(length c16:Int) then
  if 0≤t8∧t8<(length c16:Int) then
  if 0≤t9∧t9<(length (getD c16 (toNat t8) ([]:(List Bool))):Int) then
  let x28:=(getD (getD c16 (toNat t8) ([]:(List Bool))) (toNat t9) false)
  bif x28 then
  if 0≤t9∧t9<(length (getD c16 (toNat t8) ([]:(List Bool))):Int) then
  let x29:=(List.set c16 (toNat t8) (List.set (getD c16 (toNat t8) ([]:(List Bool))) (toNat t9) true))
  (F43_2 k n t3 t7 t8 (wrap .i64 (t9+(1:Int))) c1 x29).bind some
  else none
  else
  if 0≤t8∧t8<(length c16:Int) then
  if 0≤t7∧t7<(length (getD c16 (toNat t8) ([]:(List Bool))):Int) then
  let x30:=(getD (getD c16 (toNat t8) ([]:(List Bool))) (toNat t7) false)
  bif x30 then
  if 0≤t7∧t7<(length c16:Int) then
  if 0≤t9∧t9<(length (getD c16 (toNat t7) ([]:(List Bool))):Int) then
  let x31:=(getD (getD c16 (toNat t7) ([]:(List Bool))) (toNat t9) false)
  if 0≤t9∧t9<(length (getD c16 (toNat t8) ([]:(List Bool))):Int) then
  let x32:=(List.set c16 (toNat t8) (List.set (getD c16 (toNat t8) ([]:(List Bool))) (toNat t9) x31))
  (F43_2 k n t3 t7 t8 (wrap .i64 (t9+(1:Int))) c1 x32).bind some
  else none
  else none
  else none
  else
  if 0≤t9∧t9<(length (getD c16 (toNat t8) ([]:(List Bool))):Int) then
  let x33:=(List.set c16 (toNat t8) (List.set (getD c16 (toNat t8) ([]:(List Bool))) (toNat t9) false))
  (F43_2 k n t3 t7 t8 (wrap .i64 (t9+(1:Int))) c1 x33).bind some
  else none
  else none
  else none
  else none
  else none
  else none
  else
  some ((t3,t7,t8,()),(c1,c16,()))
def sq43_2:Shape:=⟨[],[(1,.ptr 1 []),(3,.val (.int .i64)),(4,.at 16 []),(7,.val (.int .i64)),(8,.val (.int .i64)),(9,.val (.int .i64))],[(1,some 81,KD16),(16,none,KD61)]⟩
def fu43_2 (k m:Nat) (v:sq43_2.V):=F43_2 k m v.1.1 v.1.2.1 v.1.2.2.1 v.1.2.2.2.1 v.2.1 v.2.2.1
def fr43_2 (k:Nat):Frag:=⟨sq43_2,[(.exit 8,⟨[],[(1,.ptr 1 []),(3,.val (.int .i64)),(4,.at 16 []),(7,.val (.int .i64)),(8,.val (.int .i64))],[(1,some 81,KD16),(16,none,KD61)]⟩)],fu43_2 k k⟩
def F43_3 (k:Nat):Nat→Int→Int→Int→TY37→(List (List Bool))→Option (((Int×Int×Unit)×TY29))
 |0,_,_,_,_,_=>none
 |n+1,t3,t7,t8,c1,c16 =>
  bif (decide (t8<t3)) then
  (F43_2 k k t3 t7 t8 (0:Int) c1 c16).bind fun r40 =>
  (F43_3 k n r40.1.1 r40.1.2.1 (wrap .i64 (r40.1.2.2.1+(1:Int))) r40.2.1 r40.2.2.1).bind some
  else
  some ((t3,t7,()),(c1,c16,()))
def sq43_3:Shape:=⟨[],[(1,.ptr 1 []),(3,.val (.int .i64)),(4,.at 16 []),(7,.val (.int .i64)),(8,.val (.int .i64))],[(1,some 81,KD16),(16,none,KD61)]⟩
def fu43_3 (k m:Nat) (v:sq43_3.V):=F43_3 k m v.1.1 v.1.2.1 v.1.2.2.1 v.2.1 v.2.2.1
def fr43_3 (k:Nat):Frag:=⟨sq43_3,[(.exit 6,⟨[],[(1,.ptr 1 []),(3,.val (.int .i64)),(4,.at 16 []),(7,.val (.int .i64))],[(1,some 81,KD16),(16,none,KD61)]⟩)],fu43_3 k k⟩
def F43_4 (k:Nat):Nat→Int→Int→TY37→(List (List Bool))→Option ((Unit×TY29))
 |0,_,_,_,_=>none
 |n+1,t3,t7,c1,c16 =>
  bif (decide (t7<t3)) then
  (F43_3 k k t3 t7 (0:Int) c1 c16).bind fun r51 =>
  (F43_4 k n r51.1.1 (wrap .i64 (r51.1.2.1+(1:Int))) r51.2.1 r51.2.2.1).bind some
  else
  some ((),(c1,c16,()))
def sq43_4:Shape:=⟨[],[(1,.ptr 1 []),(3,.val (.int .i64)),(4,.at 16 []),(7,.val (.int .i64))],[(1,some 81,KD16),(16,none,KD61)]⟩
def fu43_4 (k m:Nat) (v:sq43_4.V):=F43_4 k m v.1.1 v.1.2.1 v.2.1 v.2.2.1
def fr43_4 (k:Nat):Frag:=⟨sq43_4,[(.exit 4,⟨[],[(1,.ptr 1 []),(4,.at 16 [])],[(1,some 81,KD16),(16,none,KD61)]⟩)],fu43_4 k k⟩
def F43_5 (k:Nat):Nat→Int→TY37→(List (List Bool))→Option ((Unit×Unit)⊕TY80)
 |0,_,_,_=>none
 |n+1,t10,c1,c16 =>
  let x62:=(decide (t10<(length c1.2.2.2.1:Int)))
  bif x62 then
  if 0≤t10∧t10<(length c1.2.2.2.1:Int) then
  let x63:=(getD c1.2.2.2.1 (toNat t10) ((0:Int),((0:Int),((0:Int),()))))
  bif (decide (x63.2.2.1>(0:Int))) then
  if 0≤x63.2.1∧x63.2.1<(length c16:Int) then
  if 0≤x63.1∧x63.1<(length (getD c16 (toNat x63.2.1) ([]:(List Bool))):Int) then
  let x64:=(getD (getD c16 (toNat x63.2.1) ([]:(List Bool))) (toNat x63.1) false)
  bif x64 then
  some (.inr ((true,()),()))
  else
  (F43_5 k n (wrap .i64 (t10+(1:Int))) c1 c16).bind some
  else none
  else none
  else
  (F43_5 k n (wrap .i64 (t10+(1:Int))) c1 c16).bind some
  else none
  else
  some (.inl ((),()))
def sq43_5:Shape:=⟨[],[(1,.ptr 1 []),(4,.at 16 []),(10,.val (.int .i64))],[(1,some 81,KD16),(16,none,KD61)]⟩
def fu43_5 (k m:Nat) (v:sq43_5.V):=F43_5 k m v.1.1 v.2.1 v.2.2.1
def fr43_5 (k:Nat):Frag:=⟨sq43_5,[(.exit 10,⟨[],[],[]⟩),(.ret,⟨[],[(2,.val .bool)],[]⟩)],fu43_5 k k⟩
def F43 (k:Nat) (a0:TY37):Option TY80 :=
 if (0≤(length a0.1:Int)∧(length a0.1:Int)<(length a0.1:Int)+1)∧(length a0.1:Int)≤9223372036854775807∧((24:Nat):Int)*(length a0.1:Int)≤281474976710656 then
 let x1:=(replicate (toNat (length a0.1:Int)) ([]:(List Bool)))
 (F43_0 k k (length a0.1:Int) (0:Int) a0 x1).bind fun r6 =>
 (F43_1 k k r6.1.1 (0:Int) r6.2.1 r6.2.2.1).bind fun r18 =>
 (F43_4 k k r18.1.1 (0:Int) r18.2.1 r18.2.2.1).bind fun r56 =>
 (F43_5 k k (0:Int) r56.2.1 r56.2.2.1).bind fun r65 =>
 match r65 with
 |.inl r66 =>
  some ((false,()),())
 |.inr r66 =>
  some ((r66.1.1,()),())
 else none
def sp43 (k:Nat):Spec:=⟨[.val KD16],[.val .bool],fun x=>F43 k x.1⟩
def lim43:Lim:=⟨128,1,false,false,[],[]⟩
def cfg43 (k:Nat):Nat→Option Spec:=cfgL []
noncomputable def co43_0:Code:=codeAt (bodyOf Try.f43) [.r,.r,.r,.l,.r,.s]
noncomputable def cb43_0:Code:=codeAt (bodyOf Try.f43) [.r,.r,.r,.l,.r,.s,.b]
noncomputable def co43_1:Code:=codeAt (bodyOf Try.f43) [.r,.r,.r,.r,.l,.r,.s]
noncomputable def cb43_1:Code:=codeAt (bodyOf Try.f43) [.r,.r,.r,.r,.l,.r,.s,.b]
noncomputable def co43_2:Code:=codeAt (bodyOf Try.f43) [.r,.r,.r,.r,.r,.l,.r,.s,.b,.r,.l,.s,.r,.s,.b,.r,.l,.s,.r,.s]
noncomputable def cb43_2:Code:=codeAt (bodyOf Try.f43) [.r,.r,.r,.r,.r,.l,.r,.s,.b,.r,.l,.s,.r,.s,.b,.r,.l,.s,.r,.s,.b]
noncomputable def co43_3:Code:=codeAt (bodyOf Try.f43) [.r,.r,.r,.r,.r,.l,.r,.s,.b,.r,.l,.s,.r,.s]
noncomputable def cb43_3:Code:=codeAt (bodyOf Try.f43) [.r,.r,.r,.r,.r,.l,.r,.s,.b,.r,.l,.s,.r,.s,.b]
noncomputable def co43_4:Code:=codeAt (bodyOf Try.f43) [.r,.r,.r,.r,.r,.l,.r,.s]
noncomputable def cb43_4:Code:=codeAt (bodyOf Try.f43) [.r,.r,.r,.r,.r,.l,.r,.s,.b]
noncomputable def co43_5:Code:=codeAt (bodyOf Try.f43) [.r,.r,.r,.r,.r,.r,.l,.r,.s]
noncomputable def cb43_5:Code:=codeAt (bodyOf Try.f43) [.r,.r,.r,.r,.r,.r,.l,.r,.s,.b]
noncomputable def co43:Code:=codeAt (bodyOf Try.f43) []
theorem cfg43_ok (k:Nat):CfgOK Try.prog (cfg43 k):=cfgL_nil
noncomputable def bo43_0 (k m:Nat) (v:sq43_0.V):=body Try.prog (stepper Try.prog (cfg43 k) lim43) .go cb43_0 (sq43_0.st v) (loopK (fr43_0 k) (fu43_0 k m))
theorem pp43_0 (k m:Nat) (v:sq43_0.V):fu43_0 k (m+1) v=(bo43_0 k m v).eval∧(bo43_0 k m v).left=(bo43_0 k m v).right:=⟨by kernel_rfl,by kernel_rfl⟩
theorem fr43_0_ok (k:Nat):FragOK Try.prog lim43 (fr43_0 k) co43_0 :=
 frag_cast (by kernel_rfl) (loop_ok (cfg43_ok k) (planOK_go _) (fu43_0 k) k (fun _=>rfl) (fun _=>rfl) (pp43_0 k))
noncomputable def bo43_1 (k m:Nat) (v:sq43_1.V):=body Try.prog (stepper Try.prog (cfg43 k) lim43) .go cb43_1 (sq43_1.st v) (loopK (fr43_1 k) (fu43_1 k m))
theorem pp43_1 (k m:Nat) (v:sq43_1.V):fu43_1 k (m+1) v=(bo43_1 k m v).eval∧(bo43_1 k m v).left=(bo43_1 k m v).right:=⟨by kernel_rfl,by kernel_rfl⟩
theorem fr43_1_ok (k:Nat):FragOK Try.prog lim43 (fr43_1 k) co43_1 :=
 frag_cast (by kernel_rfl) (loop_ok (cfg43_ok k) (planOK_go _) (fu43_1 k) k (fun _=>rfl) (fun _=>rfl) (pp43_1 k))
noncomputable def bo43_2 (k m:Nat) (v:sq43_2.V):=body Try.prog (stepper Try.prog (cfg43 k) lim43) .go cb43_2 (sq43_2.st v) (loopK (fr43_2 k) (fu43_2 k m))
theorem pp43_2 (k m:Nat) (v:sq43_2.V):fu43_2 k (m+1) v=(bo43_2 k m v).eval∧(bo43_2 k m v).left=(bo43_2 k m v).right:=⟨by kernel_rfl,by kernel_rfl⟩
theorem fr43_2_ok (k:Nat):FragOK Try.prog lim43 (fr43_2 k) co43_2 :=
 frag_cast (by kernel_rfl) (loop_ok (cfg43_ok k) (planOK_go _) (fu43_2 k) k (fun _=>rfl) (fun _=>rfl) (pp43_2 k))
def pl43_3 (k:Nat):Plan:=(.seq .go (.seq (.sub (.seq .go (.sub (.frag (fr43_2 k))))) .go))
noncomputable def bo43_3 (k m:Nat) (v:sq43_3.V):=body Try.prog (stepper Try.prog (cfg43 k) lim43) (pl43_3 k) cb43_3 (sq43_3.st v) (loopK (fr43_3 k) (fu43_3 k m))
theorem pp43_3 (k m:Nat) (v:sq43_3.V):fu43_3 k (m+1) v=(bo43_3 k m v).eval∧(bo43_3 k m v).left=(bo43_3 k m v).right:=⟨by kernel_rfl,by kernel_rfl⟩
theorem fr43_3_ok (k:Nat):FragOK Try.prog lim43 (fr43_3 k) co43_3 :=
 frag_cast (by kernel_rfl) (loop_ok (cfg43_ok k) (plan_of (L:=[(fr43_2 k,co43_2)]) (by kernel_rfl) (.cons (fr43_2_ok k) .nil)) (fu43_3 k) k (fun _=>rfl) (fun _=>rfl) (pp43_3 k))
def pl43_4 (k:Nat):Plan:=(.seq .go (.seq (.sub (.seq .go (.sub (.frag (fr43_3 k))))) .go))
noncomputable def bo43_4 (k m:Nat) (v:sq43_4.V):=body Try.prog (stepper Try.prog (cfg43 k) lim43) (pl43_4 k) cb43_4 (sq43_4.st v) (loopK (fr43_4 k) (fu43_4 k m))
theorem pp43_4 (k m:Nat) (v:sq43_4.V):fu43_4 k (m+1) v=(bo43_4 k m v).eval∧(bo43_4 k m v).left=(bo43_4 k m v).right:=⟨by kernel_rfl,by kernel_rfl⟩
theorem fr43_4_ok (k:Nat):FragOK Try.prog lim43 (fr43_4 k) co43_4 :=
 frag_cast (by kernel_rfl) (loop_ok (cfg43_ok k) (plan_of (L:=[(fr43_3 k,co43_3)]) (by kernel_rfl) (.cons (fr43_3_ok k) .nil)) (fu43_4 k) k (fun _=>rfl) (fun _=>rfl) (pp43_4 k))
noncomputable def bo43_5 (k m:Nat) (v:sq43_5.V):=body Try.prog (stepper Try.prog (cfg43 k) lim43) .go cb43_5 (sq43_5.st v) (loopK (fr43_5 k) (fu43_5 k m))
theorem pp43_5 (k m:Nat) (v:sq43_5.V):fu43_5 k (m+1) v=(bo43_5 k m v).eval∧(bo43_5 k m v).left=(bo43_5 k m v).right:=⟨by kernel_rfl,by kernel_rfl⟩
theorem fr43_5_ok (k:Nat):FragOK Try.prog lim43 (fr43_5 k) co43_5 :=
 frag_cast (by kernel_rfl) (loop_ok (cfg43_ok k) (planOK_go _) (fu43_5 k) k (fun _=>rfl) (fun _=>rfl) (pp43_5 k))
def pl43 (k:Nat):Plan:=(.seq .go (.seq .go (.seq .go (.seq (.seq .go (.sub (.frag (fr43_0 k)))) (.seq (.seq .go (.sub (.frag (fr43_1 k)))) (.seq (.seq .go (.sub (.frag (fr43_4 k)))) (.seq (.seq .go (.sub (.frag (fr43_5 k)))) .go)))))))
noncomputable def bo43 (k:Nat) (x:AT (sp43 k).ps):=fnT Try.prog (cfg43 k) lim43 Try.f43 (bodyOf Try.f43) (pl43 k) (sp43 k) x
theorem vv43 (k:Nat) (x:AT (sp43 k).ps):(sp43 k).impl x=(bo43 k x).eval∧(bo43 k x).left=(bo43 k x).right:=⟨by kernel_rfl,by kernel_rfl⟩
theorem v43 (k:Nat):Callable Try.prog 43∧Valid Try.prog 43 (sp43 k) :=
 fn_of (n:=lim43) (fn:=Try.f43) (p:=(pl43 k)) (cfg43_ok k) (by kernel_rfl) (plan_of (L:=[(fr43_0 k,co43_0),(fr43_1 k,co43_1),(fr43_4 k,co43_4),(fr43_5 k,co43_5)]) (by kernel_rfl) (.cons (fr43_0_ok k) (.cons (fr43_1_ok k) (.cons (fr43_4_ok k) (.cons (fr43_5_ok k) .nil))))) (vv43 k)
def F16_0 (k:Nat):Nat→Int→TY3→Option ((Unit×Unit)⊕TY80)
 |0,_,_=>none
 |n+1,t3,c1 =>
  let x4:=(decide (t3<(length c1.2.2.2.2.1:Int)))
  bif x4 then
  if 0≤t3∧t3<(length c1.2.2.2.2.1:Int) then
  let x5:=(getD c1.2.2.2.2.1 (toNat t3) (([]:(List Int)),(([]:(List Int)),(([]:(List Int)),(([]:TY64),((0:Int),()))))))
  (F43 k x5).bind fun r6 =>
  bif r6.1.1 then
  some (.inr ((false,()),()))
  else
  (F16_0 k n (wrap .i64 (t3+(1:Int))) c1).bind some
  else none
  else
  some (.inl ((),()))
def sq16_0:Shape:=⟨[],[(1,.ptr 1 []),(3,.val (.int .i64))],[(1,some 33,KD0)]⟩
def fu16_0 (k m:Nat) (v:sq16_0.V):=F16_0 k m v.1.1 v.2.1
def fr16_0 (k:Nat):Frag:=⟨sq16_0,[(.exit 0,⟨[],[],[]⟩),(.ret,⟨[],[(2,.val .bool)],[]⟩)],fu16_0 k k⟩
def F16 (k:Nat) (a0:TY3):Option TY80 :=
 (F16_0 k k (0:Int) a0).bind fun r7 =>
 match r7 with
 |.inl r8 =>
  some ((true,()),())
 |.inr r8 =>
  some ((r8.1.1,()),())
def sp16 (k:Nat):Spec:=⟨[.val KD0],[.val .bool],fun x=>F16 k x.1⟩
def lim16:Lim:=⟨17,1,false,false,[],[]⟩
def cfg16 (k:Nat):Nat→Option Spec:=cfgL [(43,sp43 k)]
noncomputable def co16_0:Code:=codeAt (bodyOf Try.f16) [.r,.l,.r,.s]
noncomputable def cb16_0:Code:=codeAt (bodyOf Try.f16) [.r,.l,.r,.s,.b]
noncomputable def co16:Code:=codeAt (bodyOf Try.f16) []
theorem cfg16_ok (k:Nat):CfgOK Try.prog (cfg16 k):=cfgL_cons (v43 k) (cfgL_nil)
noncomputable def bo16_0 (k m:Nat) (v:sq16_0.V):=body Try.prog (stepper Try.prog (cfg16 k) lim16) .go cb16_0 (sq16_0.st v) (loopK (fr16_0 k) (fu16_0 k m))
theorem pp16_0 (k m:Nat) (v:sq16_0.V):fu16_0 k (m+1) v=(bo16_0 k m v).eval∧(bo16_0 k m v).left=(bo16_0 k m v).right:=⟨by kernel_rfl,by kernel_rfl⟩
theorem fr16_0_ok (k:Nat):FragOK Try.prog lim16 (fr16_0 k) co16_0 :=
 frag_cast (by kernel_rfl) (loop_ok (cfg16_ok k) (planOK_go _) (fu16_0 k) k (fun _=>rfl) (fun _=>rfl) (pp16_0 k))
def pl16 (k:Nat):Plan:=(.seq .go (.seq (.seq .go (.sub (.frag (fr16_0 k)))) .go))
noncomputable def bo16 (k:Nat) (x:AT (sp16 k).ps):=fnT Try.prog (cfg16 k) lim16 Try.f16 (bodyOf Try.f16) (pl16 k) (sp16 k) x
theorem vv16 (k:Nat) (x:AT (sp16 k).ps):(sp16 k).impl x=(bo16 k x).eval∧(bo16 k x).left=(bo16 k x).right:=⟨by kernel_rfl,by kernel_rfl⟩
theorem v16 (k:Nat):Callable Try.prog 16∧Valid Try.prog 16 (sp16 k) :=
 fn_of (n:=lim16) (fn:=Try.f16) (p:=(pl16 k)) (cfg16_ok k) (by kernel_rfl) (plan_of (L:=[(fr16_0 k,co16_0)]) (by kernel_rfl) (.cons (fr16_0_ok k) .nil)) (vv16 k)
def F76 (k:Nat) (a0:TY37) (a1:(List (List Bool))) (a2:Int) (a3:Int):Option TY80 :=
 if 0≤a2∧a2<(length a0.1:Int) then
 let x1:=(decide ((getD a0.1 (toNat a2) (0:Int))<(0:Int)))
 bif x1 then
 some ((true,()),())
 else
 if 0≤a2∧a2<(length a0.1:Int) then
 if 0≤(getD a0.1 (toNat a2) (0:Int))∧(getD a0.1 (toNat a2) (0:Int))<(length a1:Int) then
 let x2:=(getD a1 (toNat (getD a0.1 (toNat a2) (0:Int))) ([]:(List Bool)))
 if 0≤a3∧a3<(length x2:Int) then
 some (((getD x2 (toNat a3) false),()),())
 else none
 else none
 else none
 else none
def sp76 (k:Nat):Spec:=⟨[.val KD16,.val KD59,.val (.int .i64),.val (.int .i64)],[.val .bool],fun x=>F76 k x.1 x.2.1 x.2.2.1 x.2.2.2.1⟩
def lim76:Lim:=⟨28,4,false,false,[],[]⟩
def cfg76 (k:Nat):Nat→Option Spec:=cfgL []
noncomputable def co76:Code:=codeAt (bodyOf Try.f76) []
theorem cfg76_ok (k:Nat):CfgOK Try.prog (cfg76 k):=cfgL_nil
noncomputable def bo76 (k:Nat) (x:AT (sp76 k).ps):=fnT Try.prog (cfg76 k) lim76 Try.f76 (bodyOf Try.f76) .go (sp76 k) x
theorem vv76 (k:Nat) (x:AT (sp76 k).ps):(sp76 k).impl x=(bo76 k x).eval∧(bo76 k x).left=(bo76 k x).right:=⟨by kernel_rfl,by kernel_rfl⟩
theorem v76 (k:Nat):Callable Try.prog 76∧Valid Try.prog 76 (sp76 k) :=
 fn_of (n:=lim76) (fn:=Try.f76) (p:=.go) (cfg76_ok k) (by kernel_rfl) (planOK_go _) (vv76 k)
def F44_0 (k:Nat):Nat→TY33→(List (List Bool))→(List (List Bool))→Int→Int→Int→TY37→(List Bool)→(List (List Bool))→Option ((TY24×(TY37×(List Bool)×(List (List Bool))×Unit)))
 |0,_,_,_,_,_,_,_,_,_=>none
 |n+1,t0,t1,t2,t3,t10,t13,c11,c29,e0 =>
  let x4:=(decide (t13<(length c29:Int)))
  bif x4 then
  (F76 k c11 t1 t13 t3).bind fun r5 =>
  bif r5.1.1 then
  if 0≤t13∧t13<(length c11.2.2.1:Int) then
  let x6:=(getD c11.2.2.1 (toNat t13) (0:Int))
  if 0≤t13∧t13<(length c29:Int) then
  let x7:=(List.set c29 (toNat t13) (decide (x6<(1152921504606846976:Int))))
  (F44_0 k n t0 t1 t2 t3 t10 (wrap .i64 (t13+(1:Int))) c11 x7 e0).bind some
  else none
  else none
  else
  if 0≤t13∧t13<(length c29:Int) then
  (F44_0 k n t0 t1 t2 t3 t10 (wrap .i64 (t13+(1:Int))) c11 (List.set c29 (toNat t13) false) e0).bind some
  else none
  else
  some ((t0,t1,t2,t3,t10,()),(c11,c29,e0,()))
def sq44_0:Shape:=⟨[(9,KD61)],[(0,.val KD12),(1,.val KD59),(2,.val KD59),(3,.val (.int .i64)),(9,.at 2000009 []),(10,.val (.int .i64)),(11,.ptr 11 []),(12,.at 29 []),(13,.val (.int .i64))],[(11,some 81,KD16),(29,none,KD79),(2000009,none,KD61)]⟩
def fu44_0 (k m:Nat) (v:sq44_0.V):=F44_0 k m v.1.1 v.1.2.1 v.1.2.2.1 v.1.2.2.2.1 v.1.2.2.2.2.1 v.1.2.2.2.2.2.1 v.2.1 v.2.2.1 v.2.2.2.1
def fr44_0 (k:Nat):Frag:=⟨sq44_0,[(.exit 2,⟨[],[(0,.val KD12),(1,.val KD59),(2,.val KD59),(3,.val (.int .i64)),(9,.at 2000009 []),(10,.val (.int .i64)),(11,.ptr 11 []),(12,.at 29 [])],[(11,some 81,KD16),(29,none,KD79),(2000009,none,KD61)]⟩)],fu44_0 k k⟩
def F44_1 (k:Nat):Nat→TY33→(List (List Bool))→(List (List Bool))→Int→Int→Int→TY37→(List Bool)→(List (List Bool))→Option ((TY24×((List Bool)×(List (List Bool))×Unit)))
 |0,_,_,_,_,_,_,_,_,_=>none
 |n+1,t0,t1,t2,t3,t10,t14,c11,c29,e0 =>
  let x17:=(decide (t14<(length c11.2.2.2.1:Int)))
  bif x17 then
  if 0≤t14∧t14<(length c11.2.2.2.1:Int) then
  let x18:=(getD c11.2.2.2.1 (toNat t14) ((0:Int),((0:Int),((0:Int),()))))
  (F76 k c11 t1 x18.1 t3).bind fun r19 =>
  bif r19.1.1 then
  if 0≤t10∧t10<(length t2:Int) then
  let x20:=(getD t2 (toNat t10) ([]:(List Bool)))
  if 0≤x18.2.1∧x18.2.1<(length x20:Int) then
  bif (getD x20 (toNat x18.2.1) false) then
  if 0≤x18.1∧x18.1<(length c29:Int) then
  (F44_1 k n t0 t1 t2 t3 t10 (wrap .i64 (t14+(1:Int))) c11 (List.set c29 (toNat x18.1) true) e0).bind some
  else none
  else
  (F44_1 k n t0 t1 t2 t3 t10 (wrap .i64 (t14+(1:Int))) c11 c29 e0).bind some
  else none
  else none
  else
  (F44_1 k n t0 t1 t2 t3 t10 (wrap .i64 (t14+(1:Int))) c11 c29 e0).bind some
  else none
  else
  some ((t0,t1,t2,t3,t10,()),(c29,e0,()))
def sq44_1:Shape:=⟨[(9,KD61)],[(0,.val KD12),(1,.val KD59),(2,.val KD59),(3,.val (.int .i64)),(9,.at 2000009 []),(10,.val (.int .i64)),(11,.ptr 11 []),(12,.at 29 []),(14,.val (.int .i64))],[(11,some 81,KD16),(29,none,KD79),(2000009,none,KD61)]⟩
def fu44_1 (k m:Nat) (v:sq44_1.V):=F44_1 k m v.1.1 v.1.2.1 v.1.2.2.1 v.1.2.2.2.1 v.1.2.2.2.2.1 v.1.2.2.2.2.2.1 v.2.1 v.2.2.1 v.2.2.2.1
def fr44_1 (k:Nat):Frag:=⟨sq44_1,[(.exit 4,⟨[],[(0,.val KD12),(1,.val KD59),(2,.val KD59),(3,.val (.int .i64)),(9,.at 2000009 []),(10,.val (.int .i64)),(12,.at 29 [])],[(29,none,KD79),(2000009,none,KD61)]⟩)],fu44_1 k k⟩
def F44_2 (k:Nat):Nat→TY33→(List (List Bool))→(List (List Bool))→Int→Int→(List (List Bool))→Option ((Unit×TY73))
 |0,_,_,_,_,_,_=>none
 |n+1,t0,t1,t2,t3,t10,e0 =>
  let x1:=(decide (t10<(length t0:Int)))
  bif x1 then
  if 0≤t10∧t10<(length t0:Int) then
  let x2:=(getD t0 (toNat t10) (([]:(List Int)),(([]:(List Int)),(([]:(List Int)),(([]:TY64),((0:Int),()))))))
  if (0≤(length x2.1:Int)∧(length x2.1:Int)<(length x2.1:Int)+1)∧(length x2.1:Int)≤9223372036854775807∧((1:Nat):Int)*(length x2.1:Int)≤281474976710656 then
  let x3:=(replicate (toNat (length x2.1:Int)) false)
  (F44_0 k k t0 t1 t2 t3 t10 (0:Int) x2 x3 e0).bind fun r8 =>
  (F44_1 k k r8.1.1 r8.1.2.1 r8.1.2.2.1 r8.1.2.2.2.1 r8.1.2.2.2.2.1 (0:Int) r8.2.1 r8.2.2.1 r8.2.2.2.1).bind fun r21 =>
  if (length r21.2.2.1+length [r21.2.1])*(24*2)≤281474976710656∧length r21.2.2.1+length [r21.2.1]≤9223372036854775807 then
  (F44_2 k n r21.1.1 r21.1.2.1 r21.1.2.2.1 r21.1.2.2.2.1 (wrap .i64 (r21.1.2.2.2.2.1+(1:Int))) (r21.2.2.1++[r21.2.1])).bind some
  else none
  else none
  else none
  else
  some ((),(e0,()))
def sq44_2:Shape:=⟨[(9,KD61)],[(0,.val KD12),(1,.val KD59),(2,.val KD59),(3,.val (.int .i64)),(9,.at 2000009 []),(10,.val (.int .i64))],[(2000009,none,KD61)]⟩
def fu44_2 (k m:Nat) (v:sq44_2.V):=F44_2 k m v.1.1 v.1.2.1 v.1.2.2.1 v.1.2.2.2.1 v.1.2.2.2.2.1 v.2.1
def fr44_2 (k:Nat):Frag:=⟨sq44_2,[(.exit 0,⟨[(9,KD61)],[(9,.at 2000009 [])],[(2000009,none,KD61)]⟩)],fu44_2 k k⟩
def F44 (k:Nat) (a0:TY33) (a1:(List (List Bool))) (a2:(List (List Bool))) (a3:Int):Option (TY73×Unit) :=
 (F44_2 k k a0 a1 a2 a3 (0:Int) []).bind fun r29 =>
 some ((r29.2.1,()),())
def sp44 (k:Nat):Spec:=⟨[.val KD12,.val KD59,.val KD59,.val (.int .i64)],[.own KD61],fun x=>F44 k x.1 x.2.1 x.2.2.1 x.2.2.2.1⟩
def lim44:Lim:=⟨89,4,false,false,[],[]⟩
def cfg44 (k:Nat):Nat→Option Spec:=cfgL [(76,sp76 k)]
noncomputable def co44_0:Code:=codeAt (bodyOf Try.f44) [.r,.r,.l,.r,.s,.b,.r,.l,.s,.r,.r,.l,.r,.s]
noncomputable def cb44_0:Code:=codeAt (bodyOf Try.f44) [.r,.r,.l,.r,.s,.b,.r,.l,.s,.r,.r,.l,.r,.s,.b]
noncomputable def co44_1:Code:=codeAt (bodyOf Try.f44) [.r,.r,.l,.r,.s,.b,.r,.l,.s,.r,.r,.r,.l,.r,.s]
noncomputable def cb44_1:Code:=codeAt (bodyOf Try.f44) [.r,.r,.l,.r,.s,.b,.r,.l,.s,.r,.r,.r,.l,.r,.s,.b]
noncomputable def co44_2:Code:=codeAt (bodyOf Try.f44) [.r,.r,.l,.r,.s]
noncomputable def cb44_2:Code:=codeAt (bodyOf Try.f44) [.r,.r,.l,.r,.s,.b]
noncomputable def co44:Code:=codeAt (bodyOf Try.f44) []
theorem cfg44_ok (k:Nat):CfgOK Try.prog (cfg44 k):=cfgL_cons (v76 k) (cfgL_nil)
noncomputable def bo44_0 (k m:Nat) (v:sq44_0.V):=body Try.prog (stepper Try.prog (cfg44 k) lim44) .go cb44_0 (sq44_0.st v) (loopK (fr44_0 k) (fu44_0 k m))
theorem pp44_0 (k m:Nat) (v:sq44_0.V):fu44_0 k (m+1) v=(bo44_0 k m v).eval∧(bo44_0 k m v).left=(bo44_0 k m v).right:=⟨by kernel_rfl,by kernel_rfl⟩
theorem fr44_0_ok (k:Nat):FragOK Try.prog lim44 (fr44_0 k) co44_0 :=
 frag_cast (by kernel_rfl) (loop_ok (cfg44_ok k) (planOK_go _) (fu44_0 k) k (fun _=>rfl) (fun _=>rfl) (pp44_0 k))
noncomputable def bo44_1 (k m:Nat) (v:sq44_1.V):=body Try.prog (stepper Try.prog (cfg44 k) lim44) .go cb44_1 (sq44_1.st v) (loopK (fr44_1 k) (fu44_1 k m))
theorem pp44_1 (k m:Nat) (v:sq44_1.V):fu44_1 k (m+1) v=(bo44_1 k m v).eval∧(bo44_1 k m v).left=(bo44_1 k m v).right:=⟨by kernel_rfl,by kernel_rfl⟩
theorem fr44_1_ok (k:Nat):FragOK Try.prog lim44 (fr44_1 k) co44_1 :=
 frag_cast (by kernel_rfl) (loop_ok (cfg44_ok k) (planOK_go _) (fu44_1 k) k (fun _=>rfl) (fun _=>rfl) (pp44_1 k))
def pl44_2 (k:Nat):Plan:=(.seq .go (.seq (.sub (.seq .go (.seq .go (.seq (.seq .go (.sub (.frag (fr44_0 k)))) (.seq (.seq .go (.sub (.frag (fr44_1 k)))) .go))))) .go))
noncomputable def bo44_2 (k m:Nat) (v:sq44_2.V):=body Try.prog (stepper Try.prog (cfg44 k) lim44) (pl44_2 k) cb44_2 (sq44_2.st v) (loopK (fr44_2 k) (fu44_2 k m))
theorem pp44_2 (k m:Nat) (v:sq44_2.V):fu44_2 k (m+1) v=(bo44_2 k m v).eval∧(bo44_2 k m v).left=(bo44_2 k m v).right:=⟨by kernel_rfl,by kernel_rfl⟩
theorem fr44_2_ok (k:Nat):FragOK Try.prog lim44 (fr44_2 k) co44_2 :=
 frag_cast (by kernel_rfl) (loop_ok (cfg44_ok k) (plan_of (L:=[(fr44_0 k,co44_0),(fr44_1 k,co44_1)]) (by kernel_rfl) (.cons (fr44_0_ok k) (.cons (fr44_1_ok k) .nil))) (fu44_2 k) k (fun _=>rfl) (fun _=>rfl) (pp44_2 k))
def pl44 (k:Nat):Plan:=(.seq .go (.seq .go (.seq (.seq .go (.sub (.frag (fr44_2 k)))) .go)))
noncomputable def bo44 (k:Nat) (x:AT (sp44 k).ps):=fnT Try.prog (cfg44 k) lim44 Try.f44 (bodyOf Try.f44) (pl44 k) (sp44 k) x
theorem vv44 (k:Nat) (x:AT (sp44 k).ps):(sp44 k).impl x=(bo44 k x).eval∧(bo44 k x).left=(bo44 k x).right:=⟨by kernel_rfl,by kernel_rfl⟩
theorem v44 (k:Nat):Callable Try.prog 44∧Valid Try.prog 44 (sp44 k) :=
 fn_of (n:=lim44) (fn:=Try.f44) (p:=(pl44 k)) (cfg44_ok k) (by kernel_rfl) (plan_of (L:=[(fr44_2 k,co44_2)]) (by kernel_rfl) (.cons (fr44_2_ok k) .nil)) (vv44 k)
def F47_0 (k:Nat):Nat→(List Bool)→(List Bool)→Int→Option ((Unit×Unit)⊕TY80)
 |0,_,_,_=>none
 |n+1,t0,t1,t5 =>
  let x4:=(decide (t5<(length t0:Int)))
  bif x4 then
  if 0≤t5∧t5<(length t0:Int) then
  if 0≤t5∧t5<(length t1:Int) then
  let x5:=(!((getD t0 (toNat t5) false)==(getD t1 (toNat t5) false)))
  bif x5 then
  some (.inr ((false,()),()))
  else
  (F47_0 k n t0 t1 (wrap .i64 (t5+(1:Int)))).bind some
  else none
  else none
  else
  some (.inl ((),()))
def sq47_0:Shape:=⟨[],[(0,.val KD77),(1,.val KD77),(5,.val (.int .i64))],[]⟩
def fu47_0 (k m:Nat) (v:sq47_0.V):=F47_0 k m v.1.1 v.1.2.1 v.1.2.2.1
def fr47_0 (k:Nat):Frag:=⟨sq47_0,[(.exit 0,⟨[],[],[]⟩),(.ret,⟨[],[(4,.val .bool)],[]⟩)],fu47_0 k k⟩
def F47 (k:Nat) (a0:(List Bool)) (a1:(List Bool)):Option TY80 :=
 let x1:=((length a0:Int) != (length a1:Int))
 bif x1 then
 some ((false,()),())
 else
 (F47_0 k k a0 a1 (0:Int)).bind fun r6 =>
 match r6 with
 |.inl r7 =>
  some ((true,()),())
 |.inr r7 =>
  some ((r7.1.1,()),())
def sp47 (k:Nat):Spec:=⟨[.val KD77,.val KD77],[.val .bool],fun x=>F47 k x.1 x.2.1⟩
def lim47:Lim:=⟨26,2,false,false,[],[]⟩
def cfg47 (k:Nat):Nat→Option Spec:=cfgL []
noncomputable def co47_0:Code:=codeAt (bodyOf Try.f47) [.r,.r,.l,.r,.s]
noncomputable def cb47_0:Code:=codeAt (bodyOf Try.f47) [.r,.r,.l,.r,.s,.b]
noncomputable def co47:Code:=codeAt (bodyOf Try.f47) []
theorem cfg47_ok (k:Nat):CfgOK Try.prog (cfg47 k):=cfgL_nil
noncomputable def bo47_0 (k m:Nat) (v:sq47_0.V):=body Try.prog (stepper Try.prog (cfg47 k) lim47) .go cb47_0 (sq47_0.st v) (loopK (fr47_0 k) (fu47_0 k m))
theorem pp47_0 (k m:Nat) (v:sq47_0.V):fu47_0 k (m+1) v=(bo47_0 k m v).eval∧(bo47_0 k m v).left=(bo47_0 k m v).right:=⟨by kernel_rfl,by kernel_rfl⟩
theorem fr47_0_ok (k:Nat):FragOK Try.prog lim47 (fr47_0 k) co47_0 :=
 frag_cast (by kernel_rfl) (loop_ok (cfg47_ok k) (planOK_go _) (fu47_0 k) k (fun _=>rfl) (fun _=>rfl) (pp47_0 k))
def pl47 (k:Nat):Plan:=(.seq .go (.seq .go (.seq (.seq .go (.sub (.frag (fr47_0 k)))) .go)))
noncomputable def bo47 (k:Nat) (x:AT (sp47 k).ps):=fnT Try.prog (cfg47 k) lim47 Try.f47 (bodyOf Try.f47) (pl47 k) (sp47 k) x
theorem vv47 (k:Nat) (x:AT (sp47 k).ps):(sp47 k).impl x=(bo47 k x).eval∧(bo47 k x).left=(bo47 k x).right:=⟨by kernel_rfl,by kernel_rfl⟩
theorem v47 (k:Nat):Callable Try.prog 47∧Valid Try.prog 47 (sp47 k) :=
 fn_of (n:=lim47) (fn:=Try.f47) (p:=(pl47 k)) (cfg47_ok k) (by kernel_rfl) (plan_of (L:=[(fr47_0 k,co47_0)]) (by kernel_rfl) (.cons (fr47_0_ok k) .nil)) (vv47 k)
def F45_0 (k:Nat):Nat→(List (List Bool))→(List (List Bool))→Int→Option ((Unit×Unit)⊕TY80)
 |0,_,_,_=>none
 |n+1,t0,t1,t5 =>
  let x5:=(decide (t5<(length t0:Int)))
  bif x5 then
  if 0≤t5∧t5<(length t0:Int) then
  let x6:=(getD t0 (toNat t5) ([]:(List Bool)))
  if 0≤t5∧t5<(length t1:Int) then
  let x7:=(getD t1 (toNat t5) ([]:(List Bool)))
  (F47 k x6 x7).bind fun r8 =>
  bif (!r8.1.1) then
  some (.inr ((false,()),()))
  else
  (F45_0 k n t0 t1 (wrap .i64 (t5+(1:Int)))).bind some
  else none
  else none
  else
  some (.inl ((),()))
def sq45_0:Shape:=⟨[],[(0,.val KD59),(1,.val KD59),(5,.val (.int .i64))],[]⟩
def fu45_0 (k m:Nat) (v:sq45_0.V):=F45_0 k m v.1.1 v.1.2.1 v.1.2.2.1
def fr45_0 (k:Nat):Frag:=⟨sq45_0,[(.exit 0,⟨[],[],[]⟩),(.ret,⟨[],[(4,.val .bool)],[]⟩)],fu45_0 k k⟩
def F45 (k:Nat) (a0:(List (List Bool))) (a1:(List (List Bool))):Option TY80 :=
 (F45_0 k k a0 a1 (0:Int)).bind fun r9 =>
 match r9 with
 |.inl r10 =>
  some ((true,()),())
 |.inr r10 =>
  some ((r10.1.1,()),())
def sp45 (k:Nat):Spec:=⟨[.val KD59,.val KD59],[.val .bool],fun x=>F45 k x.1 x.2.1⟩
def lim45:Lim:=⟨22,2,false,false,[],[]⟩
def cfg45 (k:Nat):Nat→Option Spec:=cfgL [(47,sp47 k)]
noncomputable def co45_0:Code:=codeAt (bodyOf Try.f45) [.r,.l,.r,.s]
noncomputable def cb45_0:Code:=codeAt (bodyOf Try.f45) [.r,.l,.r,.s,.b]
noncomputable def co45:Code:=codeAt (bodyOf Try.f45) []
theorem cfg45_ok (k:Nat):CfgOK Try.prog (cfg45 k):=cfgL_cons (v47 k) (cfgL_nil)
noncomputable def bo45_0 (k m:Nat) (v:sq45_0.V):=body Try.prog (stepper Try.prog (cfg45 k) lim45) .go cb45_0 (sq45_0.st v) (loopK (fr45_0 k) (fu45_0 k m))
theorem pp45_0 (k m:Nat) (v:sq45_0.V):fu45_0 k (m+1) v=(bo45_0 k m v).eval∧(bo45_0 k m v).left=(bo45_0 k m v).right:=⟨by kernel_rfl,by kernel_rfl⟩
theorem fr45_0_ok (k:Nat):FragOK Try.prog lim45 (fr45_0 k) co45_0 :=
 frag_cast (by kernel_rfl) (loop_ok (cfg45_ok k) (planOK_go _) (fu45_0 k) k (fun _=>rfl) (fun _=>rfl) (pp45_0 k))
def pl45 (k:Nat):Plan:=(.seq .go (.seq (.seq .go (.sub (.frag (fr45_0 k)))) .go))
noncomputable def bo45 (k:Nat) (x:AT (sp45 k).ps):=fnT Try.prog (cfg45 k) lim45 Try.f45 (bodyOf Try.f45) (pl45 k) (sp45 k) x
theorem vv45 (k:Nat) (x:AT (sp45 k).ps):(sp45 k).impl x=(bo45 k x).eval∧(bo45 k x).left=(bo45 k x).right:=⟨by kernel_rfl,by kernel_rfl⟩
theorem v45 (k:Nat):Callable Try.prog 45∧Valid Try.prog 45 (sp45 k) :=
 fn_of (n:=lim45) (fn:=Try.f45) (p:=(pl45 k)) (cfg45_ok k) (by kernel_rfl) (plan_of (L:=[(fr45_0 k,co45_0)]) (by kernel_rfl) (.cons (fr45_0_ok k) .nil)) (vv45 k)
def F46_0 (k:Nat):Nat→TY33→(List (List Bool))→Int→Bool→Int→(List Bool)→Option (((TY33×(List (List Bool))×Int×Bool×Unit)×((List Bool)×Unit)))
 |0,_,_,_,_,_,_=>none
 |n+1,t0,t1,t6,t7,t8,e0 =>
  if 0≤t6∧t6<(length t1:Int) then
  let x4:=(getD t1 (toNat t6) ([]:(List Bool)))
  let x5:=(decide (t8<(length x4:Int)))
  bif x5 then
  bif t7 then
  (F46_0 k n t0 t1 t6 true (wrap .i64 (t8+(1:Int))) e0).bind some
  else
  if 0≤t6∧t6<(length t1:Int) then
  let x6:=(getD t1 (toNat t6) ([]:(List Bool)))
  if 0≤t8∧t8<(length x6:Int) then
  bif (getD x6 (toNat t8) false) then
  if 0≤t6∧t6<(length t0:Int) then
  let x7:=(getD t0 (toNat t6) (([]:(List Int)),(([]:(List Int)),(([]:(List Int)),(([]:TY64),((0:Int),()))))))
  if 0≤t8∧t8<(length x7.2.1:Int) then
  let x8:=(decide ((getD x7.2.1 (toNat t8) (0:Int))<(1152921504606846976:Int)))
  (F46_0 k n t0 t1 t6 x8 (wrap .i64 (t8+(1:Int))) e0).bind some
  else none
  else none
  else
  (F46_0 k n t0 t1 t6 false (wrap .i64 (t8+(1:Int))) e0).bind some
  else none
  else none
  else
  some ((t0,t1,t6,t7,()),(e0,()))
  else none
def sq46_0:Shape:=⟨[(5,KD79)],[(0,.val KD12),(1,.val KD59),(5,.at 2000005 []),(6,.val (.int .i64)),(7,.val .bool),(8,.val (.int .i64))],[(2000005,none,KD79)]⟩
def fu46_0 (k m:Nat) (v:sq46_0.V):=F46_0 k m v.1.1 v.1.2.1 v.1.2.2.1 v.1.2.2.2.1 v.1.2.2.2.2.1 v.2.1
def fr46_0 (k:Nat):Frag:=⟨sq46_0,[(.exit 2,⟨[],[(0,.val KD12),(1,.val KD59),(5,.at 2000005 []),(6,.val (.int .i64)),(7,.val .bool)],[(2000005,none,KD79)]⟩)],fu46_0 k k⟩
def F46_1 (k:Nat):Nat→TY33→(List (List Bool))→Int→(List Bool)→Option ((Unit×((List Bool)×Unit)))
 |0,_,_,_,_=>none
 |n+1,t0,t1,t6,e0 =>
  let x1:=(decide (t6<(length t0:Int)))
  bif x1 then
  if 0≤t6∧t6<(length t0:Int) then
  let x2:=(getD t0 (toNat t6) (([]:(List Int)),(([]:(List Int)),(([]:(List Int)),(([]:TY64),((0:Int),()))))))
  let x3:=(decide (x2.2.2.2.2.1<(1152921504606846976:Int)))
  (F46_0 k k t0 t1 t6 x3 (0:Int) e0).bind fun r9 =>
  let y13:=r9.1.2.2.2.1
  if (length r9.2.1+length (List.set (replicate 1 false) 0 y13))*(1*2)≤281474976710656∧length r9.2.1+length (List.set (replicate 1 false) 0 y13)≤9223372036854775807 then
  let x15:=(r9.2.1++(List.set (replicate 1 false) 0 y13))
  (F46_1 k n r9.1.1 r9.1.2.1 (wrap .i64 (r9.1.2.2.1+(1:Int))) x15).bind some
  else none
  else none
  else
  some ((),(e0,()))
def sq46_1:Shape:=⟨[(5,KD79)],[(0,.val KD12),(1,.val KD59),(5,.at 2000005 []),(6,.val (.int .i64))],[(2000005,none,KD79)]⟩
def fu46_1 (k m:Nat) (v:sq46_1.V):=F46_1 k m v.1.1 v.1.2.1 v.1.2.2.1 v.2.1
def fr46_1 (k:Nat):Frag:=⟨sq46_1,[(.exit 0,⟨[(5,KD79)],[(5,.at 2000005 [])],[(2000005,none,KD79)]⟩)],fu46_1 k k⟩
def F46 (k:Nat) (a0:TY33) (a1:(List (List Bool))):Option (((List Bool)×Unit)×Unit) :=
 (F46_1 k k a0 a1 (0:Int) []).bind fun r16 =>
 some ((r16.2.1,()),())
def sp46 (k:Nat):Spec:=⟨[.val KD12,.val KD59],[.own KD79],fun x=>F46 k x.1 x.2.1⟩
def lim46:Lim:=⟨56,2,false,false,[],[]⟩
def cfg46 (k:Nat):Nat→Option Spec:=cfgL []
noncomputable def co46_0:Code:=codeAt (bodyOf Try.f46) [.r,.r,.l,.r,.s,.b,.r,.l,.s,.r,.l,.r,.s]
noncomputable def cb46_0:Code:=codeAt (bodyOf Try.f46) [.r,.r,.l,.r,.s,.b,.r,.l,.s,.r,.l,.r,.s,.b]
noncomputable def co46_1:Code:=codeAt (bodyOf Try.f46) [.r,.r,.l,.r,.s]
noncomputable def cb46_1:Code:=codeAt (bodyOf Try.f46) [.r,.r,.l,.r,.s,.b]
noncomputable def co46:Code:=codeAt (bodyOf Try.f46) []
theorem cfg46_ok (k:Nat):CfgOK Try.prog (cfg46 k):=cfgL_nil
noncomputable def bo46_0 (k m:Nat) (v:sq46_0.V):=body Try.prog (stepper Try.prog (cfg46 k) lim46) .go cb46_0 (sq46_0.st v) (loopK (fr46_0 k) (fu46_0 k m))
theorem pp46_0 (k m:Nat) (v:sq46_0.V):fu46_0 k (m+1) v=(bo46_0 k m v).eval∧(bo46_0 k m v).left=(bo46_0 k m v).right:=⟨by kernel_rfl,by kernel_rfl⟩
theorem fr46_0_ok (k:Nat):FragOK Try.prog lim46 (fr46_0 k) co46_0 :=
 frag_cast (by kernel_rfl) (loop_ok (cfg46_ok k) (planOK_go _) (fu46_0 k) k (fun _=>rfl) (fun _=>rfl) (pp46_0 k))
def pl46_1 (k:Nat):Plan:=(.seq .go (.seq (.sub (.seq .go (.seq (.seq .go (.sub (.frag (fr46_0 k)))) .go))) .go))
noncomputable def bo46_1 (k m:Nat) (v:sq46_1.V):=body Try.prog (stepper Try.prog (cfg46 k) lim46) (pl46_1 k) cb46_1 (sq46_1.st v) (loopK (fr46_1 k) (fu46_1 k m))
theorem pp46_1 (k m:Nat) (v:sq46_1.V):fu46_1 k (m+1) v=(bo46_1 k m v).eval∧(bo46_1 k m v).left=(bo46_1 k m v).right:=⟨by kernel_rfl,by kernel_rfl⟩
theorem fr46_1_ok (k:Nat):FragOK Try.prog lim46 (fr46_1 k) co46_1 :=
 frag_cast (by kernel_rfl) (loop_ok (cfg46_ok k) (plan_of (L:=[(fr46_0 k,co46_0)]) (by kernel_rfl) (.cons (fr46_0_ok k) .nil)) (fu46_1 k) k (fun _=>rfl) (fun _=>rfl) (pp46_1 k))
def pl46 (k:Nat):Plan:=(.seq .go (.seq .go (.seq (.seq .go (.sub (.frag (fr46_1 k)))) .go)))
noncomputable def bo46 (k:Nat) (x:AT (sp46 k).ps):=fnT Try.prog (cfg46 k) lim46 Try.f46 (bodyOf Try.f46) (pl46 k) (sp46 k) x
theorem vv46 (k:Nat) (x:AT (sp46 k).ps):(sp46 k).impl x=(bo46 k x).eval∧(bo46 k x).left=(bo46 k x).right:=⟨by kernel_rfl,by kernel_rfl⟩
theorem v46 (k:Nat):Callable Try.prog 46∧Valid Try.prog 46 (sp46 k) :=
 fn_of (n:=lim46) (fn:=Try.f46) (p:=(pl46 k)) (cfg46_ok k) (by kernel_rfl) (plan_of (L:=[(fr46_1 k,co46_1)]) (by kernel_rfl) (.cons (fr46_1_ok k) .nil)) (vv46 k)
def F17_0 (k:Nat):Nat→TY33→(List (List Bool))→Int→Int→Int→TY62→(List (List Bool))→Option (((TY33×(List (List Bool))×Int×Int×Unit)×(TY62×(List (List Bool))×Unit)))
 |0,_,_,_,_,_,_,_=>none
 |n+1,t0,t1,t2,t3,t12,c8,e0 =>
  let x1:=(decide (t12<(length t0:Int)))
  bif x1 then
  if 0≤t12∧t12<(length t0:Int) then
  let x2:=(getD t0 (toNat t12) (([]:(List Int)),(([]:(List Int)),(([]:(List Int)),(([]:TY64),((0:Int),()))))))
  if (0≤(length x2.1:Int)∧(length x2.1:Int)<(length x2.1:Int)+1)∧(length x2.1:Int)≤9223372036854775807∧((1:Nat):Int)*(length x2.1:Int)≤281474976710656 then
  let x3:=(replicate (toNat (length x2.1:Int)) false)
  if (length e0+length [x3])*(24*2)≤281474976710656∧length e0+length [x3]≤9223372036854775807 then
  (F17_0 k n t0 t1 t2 t3 (wrap .i64 (t12+(1:Int))) c8 (e0++[x3])).bind some
  else none
  else none
  else none
  else
  some ((t0,t1,t2,t3,()),(c8,e0,()))
def sq17_0:Shape:=⟨[(11,KD61)],[(0,.val KD12),(1,.val KD59),(2,.val (.int .i64)),(3,.val (.int .i64)),(8,.ptr 8 []),(11,.at 2000011 []),(12,.val (.int .i64))],[(8,some 39,KD36),(2000011,none,KD61)]⟩
def fu17_0 (k m:Nat) (v:sq17_0.V):=F17_0 k m v.1.1 v.1.2.1 v.1.2.2.1 v.1.2.2.2.1 v.1.2.2.2.2.1 v.2.1 v.2.2.1
def fr17_0 (k:Nat):Frag:=⟨sq17_0,[(.exit 0,⟨[(11,KD61)],[(0,.val KD12),(1,.val KD59),(2,.val (.int .i64)),(3,.val (.int .i64)),(8,.ptr 8 []),(11,.at 2000011 [])],[(8,some 39,KD36),(2000011,none,KD61)]⟩)],fu17_0 k k⟩
def F17_1 (k:Nat):Nat→TY33→(List (List Bool))→Int→Int→Int→Int→Int→Int→Bool→TY62→TY62→(List (List Bool))→(List (List (List Bool)))→(List (List Bool))→(List Int)→Option (((TY33×(List (List Bool))×Int×Int×Int×Int×Int×Int×Bool×Unit)×(TY62×TY62×(List (List Bool))×(List (List (List Bool)))×(List (List Bool))×(List Int)×Unit)))
 |0,_,_,_,_,_,_,_,_,_,_,_,_,_,_,_=>none
 |n+1,t0,t1,t2,t3,t16,t18,t20,t53,t54,c8,c14,e0,e1,e2,e3 =>
  let x15:=(decide (t20<(length e1:Int)))
  bif x15 then
  if 0≤t20∧t20<(length e1:Int) then
  (F45 k (getD e1 (toNat t20) ([]:(List (List Bool)))) e0).bind fun r16 =>
  bif (!r16.1.1) then
  (F17_1 k n t0 t1 t2 t3 t16 t18 (wrap .i64 (t20+(1:Int))) t53 t54 c8 c14 e0 e1 e2 e3).bind some
  else
  some ((t0,t1,t2,t3,t16,t18,t20,t53,t54,()),(c8,c14,e0,e1,e2,e3,()))
  else none
  else
  some ((t0,t1,t2,t3,t16,t18,t20,t53,t54,()),(c8,c14,e0,e1,e2,e3,()))
def sq17_1:Shape:=⟨[(13,KD51),(15,KD61),(17,KD70)],[(0,.val KD12),(1,.val KD59),(2,.val (.int .i64)),(3,.val (.int .i64)),(8,.ptr 8 []),(13,.at 2000013 []),(14,.ptr 14 []),(15,.at 2000015 []),(16,.val (.int .i64)),(17,.at 2000017 []),(18,.val (.int .i64)),(19,.at 1001104 []),(20,.val (.int .i64)),(53,.val (.int .i64)),(54,.val .bool)],[(8,some 39,KD36),(14,some 39,KD36),(1001104,none,KD61),(2000013,none,KD51),(2000015,none,KD61),(2000017,none,KD70)]⟩
def fu17_1 (k m:Nat) (v:sq17_1.V):=F17_1 k m v.1.1 v.1.2.1 v.1.2.2.1 v.1.2.2.2.1 v.1.2.2.2.2.1 v.1.2.2.2.2.2.1 v.1.2.2.2.2.2.2.1 v.1.2.2.2.2.2.2.2.1 v.1.2.2.2.2.2.2.2.2.1 v.2.1 v.2.2.1 v.2.2.2.1 v.2.2.2.2.1 v.2.2.2.2.2.1 v.2.2.2.2.2.2.1
def fr17_1 (k:Nat):Frag:=⟨sq17_1,[(.exit 6,⟨[],[(0,.val KD12),(1,.val KD59),(2,.val (.int .i64)),(3,.val (.int .i64)),(8,.ptr 8 []),(13,.at 2000013 []),(14,.ptr 14 []),(15,.at 2000015 []),(16,.val (.int .i64)),(17,.at 2000017 []),(18,.val (.int .i64)),(19,.at 1001104 []),(20,.val (.int .i64)),(53,.val (.int .i64)),(54,.val .bool)],[(8,some 39,KD36),(14,some 39,KD36),(1001104,none,KD61),(2000013,none,KD51),(2000015,none,KD61),(2000017,none,KD70)]⟩)],fu17_1 k k⟩
def F17_2 (k:Nat):Nat→TY33→(List (List Bool))→Int→Int→Int→Int→Int→Bool→TY62→TY62→(List (List (List Bool)))→(List (List Bool))→(List Int)→Option (((TY33×(List (List Bool))×Int×Int×Int×Int×Bool×Unit)×(TY62×TY62×(List (List (List Bool)))×(List (List Bool))×(List Int)×Unit)))
 |0,_,_,_,_,_,_,_,_,_,_,_,_,_=>none
 |n+1,t0,t1,t2,t3,t16,t18,t53,t54,c8,c14,e0,e1,e2 =>
  bif (decide (t18<t2)) then
  if 0≤t16∧t16<(length e0:Int) then
  (F44 k t0 t1 (getD e0 (toNat t16) ([]:(List (List Bool)))) t18).bind fun r14 =>
  (F17_1 k k t0 t1 t2 t3 t16 t18 (0:Int) t53 t54 c8 c14 r14.1.1 e0 e1 e2).bind fun r17 =>
  let y24:=r17.1.2.2.2.2.2.2.1
  let y25:=r17.1.2.2.2.2.2.2.2.1
  let y26:=r17.1.2.2.2.2.2.2.2.2.1
  let y30:=r17.2.2.2.2.1
  let y32:=r17.2.2.2.2.2.2.1
  bif (y24==(length y30:Int)) then
  if (length y30+length [r17.2.2.2.1])*(24*2)≤281474976710656∧length y30+length [r17.2.2.2.1]≤9223372036854775807 then
  let x33:=(List.set (replicate 1 (0:Int)) 0 y24)
  if (length y32+length x33)*(8*2)≤281474976710656∧length y32+length x33≤9223372036854775807 then
  (F17_2 k n r17.1.1 r17.1.2.1 r17.1.2.2.1 r17.1.2.2.2.1 r17.1.2.2.2.2.1 (wrap .i64 (r17.1.2.2.2.2.2.1+(1:Int))) y25 y26 r17.2.1 r17.2.2.1 (y30++[r17.2.2.2.1]) r17.2.2.2.2.2.1 (y32++x33)).bind some
  else none
  else none
  else
  let x34:=(List.set (replicate 1 (0:Int)) 0 y24)
  if (length y32+length x34)*(8*2)≤281474976710656∧length y32+length x34≤9223372036854775807 then
  (F17_2 k n r17.1.1 r17.1.2.1 r17.1.2.2.1 r17.1.2.2.2.1 r17.1.2.2.2.2.1 (wrap .i64 (r17.1.2.2.2.2.2.1+(1:Int))) y25 y26 r17.2.1 r17.2.2.1 y30 r17.2.2.2.2.2.1 (y32++x34)).bind some
  else none
  else none
  else
  some ((t0,t1,t2,t3,t16,t53,t54,()),(c8,c14,e0,e1,e2,()))
def sq17_2:Shape:=⟨[(13,KD51),(15,KD61),(17,KD70)],[(0,.val KD12),(1,.val KD59),(2,.val (.int .i64)),(3,.val (.int .i64)),(8,.ptr 8 []),(13,.at 2000013 []),(14,.ptr 14 []),(15,.at 2000015 []),(16,.val (.int .i64)),(17,.at 2000017 []),(18,.val (.int .i64)),(53,.val (.int .i64)),(54,.val .bool)],[(8,some 39,KD36),(14,some 39,KD36),(2000013,none,KD51),(2000015,none,KD61),(2000017,none,KD70)]⟩
def fu17_2 (k m:Nat) (v:sq17_2.V):=F17_2 k m v.1.1 v.1.2.1 v.1.2.2.1 v.1.2.2.2.1 v.1.2.2.2.2.1 v.1.2.2.2.2.2.1 v.1.2.2.2.2.2.2.1 v.1.2.2.2.2.2.2.2.1 v.2.1 v.2.2.1 v.2.2.2.1 v.2.2.2.2.1 v.2.2.2.2.2.1
def fr17_2 (k:Nat):Frag:=⟨sq17_2,[(.exit 4,⟨[],[(0,.val KD12),(1,.val KD59),(2,.val (.int .i64)),(3,.val (.int .i64)),(8,.ptr 8 []),(13,.at 2000013 []),(14,.ptr 14 []),(15,.at 2000015 []),(16,.val (.int .i64)),(17,.at 2000017 []),(53,.val (.int .i64)),(54,.val .bool)],[(8,some 39,KD36),(14,some 39,KD36),(2000013,none,KD51),(2000015,none,KD61),(2000017,none,KD70)]⟩)],fu17_2 k k⟩
def F17_3 (k:Nat):Nat→TY33→(List (List Bool))→Int→Int→Int→Int→Int→Bool→TY62→TY62→(List Bool)→(List (List (List Bool)))→(List (List Bool))→(List Int)→Option (((TY33×(List (List Bool))×Int×Int×Int×Int×Int×Bool×Unit)×(TY62×TY62×(List Bool)×(List (List (List Bool)))×(List (List Bool))×(List Int)×Unit)))
 |0,_,_,_,_,_,_,_,_,_,_,_,_,_,_=>none
 |n+1,t0,t1,t2,t3,t16,t22,t53,t54,c8,c14,e0,e1,e2,e3 =>
  let x49:=(decide (t22<(length e2:Int)))
  bif x49 then
  if 0≤t22∧t22<(length e2:Int) then
  (F47 k (getD e2 (toNat t22) ([]:(List Bool))) e0).bind fun r50 =>
  bif (!r50.1.1) then
  (F17_3 k n t0 t1 t2 t3 t16 (wrap .i64 (t22+(1:Int))) t53 t54 c8 c14 e0 e1 e2 e3).bind some
  else
  some ((t0,t1,t2,t3,t16,t22,t53,t54,()),(c8,c14,e0,e1,e2,e3,()))
  else none
  else
  some ((t0,t1,t2,t3,t16,t22,t53,t54,()),(c8,c14,e0,e1,e2,e3,()))
def sq17_3:Shape:=⟨[(15,KD61)],[(0,.val KD12),(1,.val KD59),(2,.val (.int .i64)),(3,.val (.int .i64)),(8,.ptr 8 []),(13,.at 2000013 []),(14,.ptr 14 []),(15,.at 2000015 []),(16,.val (.int .i64)),(17,.at 2000017 []),(21,.at 1001632 []),(22,.val (.int .i64)),(53,.val (.int .i64)),(54,.val .bool)],[(8,some 39,KD36),(14,some 39,KD36),(1001632,none,KD79),(2000013,none,KD51),(2000015,none,KD61),(2000017,none,KD70)]⟩
def fu17_3 (k m:Nat) (v:sq17_3.V):=F17_3 k m v.1.1 v.1.2.1 v.1.2.2.1 v.1.2.2.2.1 v.1.2.2.2.2.1 v.1.2.2.2.2.2.1 v.1.2.2.2.2.2.2.1 v.1.2.2.2.2.2.2.2.1 v.2.1 v.2.2.1 v.2.2.2.1 v.2.2.2.2.1 v.2.2.2.2.2.1 v.2.2.2.2.2.2.1
def fr17_3 (k:Nat):Frag:=⟨sq17_3,[(.exit 8,⟨[],[(0,.val KD12),(1,.val KD59),(2,.val (.int .i64)),(3,.val (.int .i64)),(8,.ptr 8 []),(13,.at 2000013 []),(14,.ptr 14 []),(15,.at 2000015 []),(16,.val (.int .i64)),(17,.at 2000017 []),(21,.at 1001632 []),(22,.val (.int .i64)),(53,.val (.int .i64)),(54,.val .bool)],[(8,some 39,KD36),(14,some 39,KD36),(1001632,none,KD79),(2000013,none,KD51),(2000015,none,KD61),(2000017,none,KD70)]⟩)],fu17_3 k k⟩
def F17_4 (k:Nat):Nat→TY33→(List (List Bool))→Int→Int→Int→TY62→TY62→(List (List (List Bool)))→(List (List Bool))→Option ((Unit×(TY62×TY62×(List (List Bool))×Unit))⊕((Int×Unit)×(TY62×Unit)))
 |0,_,_,_,_,_,_,_,_,_=>none
 |n+1,t0,t1,t2,t3,t16,c8,c14,e0,e1 =>
  let x11:=(decide (t16<(length e0:Int)))
  bif x11 then
  let x12:=(decide ((length e0:Int)>t3))
  bif x12 then
  some (.inr (((4:Int),()),((([]:(List (List Int))),(([]:(List Int)),())),())))
  else
  let x13:=(decide ((length e0:Int)>(100000:Int)))
  bif x13 then
  some (.inr (((4:Int),()),((([]:(List (List Int))),(([]:(List Int)),())),())))
  else
  (F17_2 k k t0 t1 t2 t3 t16 (0:Int) (length e0:Int) x13 c8 c14 e0 e1 []).bind fun r35 =>
  let y40:=r35.1.2.2.2.2.1
  if 0≤y40∧y40<(length r35.2.2.2.1:Int) then
  (F46 k r35.1.1 (getD r35.2.2.2.1 (toNat y40) ([]:(List (List Bool))))).bind fun r48 =>
  (F17_3 k k r35.1.1 r35.1.2.1 r35.1.2.2.1 r35.1.2.2.2.1 y40 (0:Int) r35.1.2.2.2.2.2.1 r35.1.2.2.2.2.2.2.1 r35.2.1 r35.2.2.1 r48.1.1 r35.2.2.2.1 r35.2.2.2.2.1 r35.2.2.2.2.2.1).bind fun r51 =>
  let y57:=r51.1.2.2.2.2.2.1
  let y61:=r51.2.2.1
  let y64:=r51.2.2.2.2.2.1
  let y65:=r51.2.2.2.2.2.2.1
  bif (y57==(length y64:Int)) then
  if (length y64+length [r51.2.2.2.1])*(24*2)≤281474976710656∧length y64+length [r51.2.2.2.1]≤9223372036854775807 then
  if (length y61.1+length [y65])*(24*2)≤281474976710656∧length y61.1+length [y65]≤9223372036854775807 then
  let x66:=(List.set (replicate 1 (0:Int)) 0 y57)
  if (length y61.2.1+length x66)*(8*2)≤281474976710656∧length y61.2.1+length x66≤9223372036854775807 then
  (F17_4 k n r51.1.1 r51.1.2.1 r51.1.2.2.1 r51.1.2.2.2.1 (wrap .i64 (r51.1.2.2.2.2.1+(1:Int))) r51.2.1 ((y61.1++[y65]),((y61.2.1++x66),y61.2.2)) r51.2.2.2.2.1 (y64++[r51.2.2.2.1])).bind some
  else none
  else none
  else none
  else
  if (length y61.1+length [y65])*(24*2)≤281474976710656∧length y61.1+length [y65]≤9223372036854775807 then
  let x67:=(List.set (replicate 1 (0:Int)) 0 y57)
  if (length y61.2.1+length x67)*(8*2)≤281474976710656∧length y61.2.1+length x67≤9223372036854775807 then
  (F17_4 k n r51.1.1 r51.1.2.1 r51.1.2.2.1 r51.1.2.2.2.1 (wrap .i64 (r51.1.2.2.2.2.1+(1:Int))) r51.2.1 ((y61.1++[y65]),((y61.2.1++x67),y61.2.2)) r51.2.2.2.2.1 y64).bind some
  else none
  else none
  else none
  else
  some (.inl ((),(c8,c14,e1,())))
def sq17_4:Shape:=⟨[(13,KD51),(15,KD61)],[(0,.val KD12),(1,.val KD59),(2,.val (.int .i64)),(3,.val (.int .i64)),(8,.ptr 8 []),(13,.at 2000013 []),(14,.ptr 14 []),(15,.at 2000015 []),(16,.val (.int .i64))],[(8,some 39,KD36),(14,some 39,KD36),(2000013,none,KD51),(2000015,none,KD61)]⟩
def fu17_4 (k m:Nat) (v:sq17_4.V):=F17_4 k m v.1.1 v.1.2.1 v.1.2.2.1 v.1.2.2.2.1 v.1.2.2.2.2.1 v.2.1 v.2.2.1 v.2.2.2.1 v.2.2.2.2.1
def fr17_4 (k:Nat):Frag:=⟨sq17_4,[(.exit 2,⟨[(15,KD61)],[(8,.ptr 8 []),(14,.ptr 14 []),(15,.at 2000015 [])],[(8,some 39,KD36),(14,some 39,KD36),(2000015,none,KD61)]⟩),(.ret,⟨[],[(8,.ptr 8 []),(9,.nilS),(10,.val (.int .i64))],[(8,some 39,KD36)]⟩)],fu17_4 k k⟩
def F17 (k:Nat) (a0:TY33) (a1:(List (List Bool))) (a2:Int) (a3:Int):Option ((TY62×(List (List Bool))×Int×Unit)×Unit) :=
 (F17_0 k k a0 a1 a2 a3 (0:Int) (([]:(List (List Int))),(([]:(List Int)),())) []).bind fun r4 =>
 (F17_4 k k r4.1.1 r4.1.2.1 r4.1.2.2.1 r4.1.2.2.2.1 (0:Int) r4.2.1 (([]:(List (List Int))),(([]:(List Int)),())) [r4.2.2.1] []).bind fun r68 =>
 match r68 with
 |.inl r69 =>
  some ((r69.2.2.1,r69.2.2.2.1,(0:Int),()),())
 |.inr r69 =>
  some ((r69.2.1,[],r69.1.1,()),())
def sp17 (k:Nat):Spec:=⟨[.val KD12,.val KD59,.val (.int .i64),.val (.int .i64)],[.own KD36,.own KD61,.val (.int .i64)],fun x=>F17 k x.1 x.2.1 x.2.2.1 x.2.2.2.1⟩
def lim17:Lim:=⟨140,4,false,false,[],[]⟩
def cfg17 (k:Nat):Nat→Option Spec:=cfgL [(44,sp44 k),(45,sp45 k),(46,sp46 k),(47,sp47 k)]
noncomputable def co17_0:Code:=codeAt (bodyOf Try.f17) [.r,.r,.l,.r,.s]
noncomputable def cb17_0:Code:=codeAt (bodyOf Try.f17) [.r,.r,.l,.r,.s,.b]
noncomputable def co17_1:Code:=codeAt (bodyOf Try.f17) [.r,.r,.r,.r,.r,.r,.l,.r,.s,.b,.r,.l,.s,.r,.r,.l,.r,.s,.b,.r,.l,.s,.r,.r,.l,.s]
noncomputable def cb17_1:Code:=codeAt (bodyOf Try.f17) [.r,.r,.r,.r,.r,.r,.l,.r,.s,.b,.r,.l,.s,.r,.r,.l,.r,.s,.b,.r,.l,.s,.r,.r,.l,.s,.b]
noncomputable def co17_2:Code:=codeAt (bodyOf Try.f17) [.r,.r,.r,.r,.r,.r,.l,.r,.s,.b,.r,.l,.s,.r,.r,.l,.r,.s]
noncomputable def cb17_2:Code:=codeAt (bodyOf Try.f17) [.r,.r,.r,.r,.r,.r,.l,.r,.s,.b,.r,.l,.s,.r,.r,.l,.r,.s,.b]
noncomputable def co17_3:Code:=codeAt (bodyOf Try.f17) [.r,.r,.r,.r,.r,.r,.l,.r,.s,.b,.r,.l,.s,.r,.r,.r,.r,.r,.l,.s]
noncomputable def cb17_3:Code:=codeAt (bodyOf Try.f17) [.r,.r,.r,.r,.r,.r,.l,.r,.s,.b,.r,.l,.s,.r,.r,.r,.r,.r,.l,.s,.b]
noncomputable def co17_4:Code:=codeAt (bodyOf Try.f17) [.r,.r,.r,.r,.r,.r,.l,.r,.s]
noncomputable def cb17_4:Code:=codeAt (bodyOf Try.f17) [.r,.r,.r,.r,.r,.r,.l,.r,.s,.b]
noncomputable def co17:Code:=codeAt (bodyOf Try.f17) []
theorem cfg17_ok (k:Nat):CfgOK Try.prog (cfg17 k):=cfgL_cons (v44 k) (cfgL_cons (v45 k) (cfgL_cons (v46 k) (cfgL_cons (v47 k) (cfgL_nil))))
noncomputable def bo17_0 (k m:Nat) (v:sq17_0.V):=body Try.prog (stepper Try.prog (cfg17 k) lim17) .go cb17_0 (sq17_0.st v) (loopK (fr17_0 k) (fu17_0 k m))
theorem pp17_0 (k m:Nat) (v:sq17_0.V):fu17_0 k (m+1) v=(bo17_0 k m v).eval∧(bo17_0 k m v).left=(bo17_0 k m v).right:=⟨by kernel_rfl,by kernel_rfl⟩
theorem fr17_0_ok (k:Nat):FragOK Try.prog lim17 (fr17_0 k) co17_0 :=
 frag_cast (by kernel_rfl) (loop_ok (cfg17_ok k) (planOK_go _) (fu17_0 k) k (fun _=>rfl) (fun _=>rfl) (pp17_0 k))
noncomputable def bo17_1 (k m:Nat) (v:sq17_1.V):=body Try.prog (stepper Try.prog (cfg17 k) lim17) .go cb17_1 (sq17_1.st v) (loopK (fr17_1 k) (fu17_1 k m))
theorem pp17_1 (k m:Nat) (v:sq17_1.V):fu17_1 k (m+1) v=(bo17_1 k m v).eval∧(bo17_1 k m v).left=(bo17_1 k m v).right:=⟨by kernel_rfl,by kernel_rfl⟩
theorem fr17_1_ok (k:Nat):FragOK Try.prog lim17 (fr17_1 k) co17_1 :=
 frag_cast (by kernel_rfl) (loop_ok (cfg17_ok k) (planOK_go _) (fu17_1 k) k (fun _=>rfl) (fun _=>rfl) (pp17_1 k))
def pl17_2 (k:Nat):Plan:=(.seq .go (.seq (.sub (.seq .go (.seq .go (.seq (.sub (.frag (fr17_1 k))) .go)))) .go))
noncomputable def bo17_2 (k m:Nat) (v:sq17_2.V):=body Try.prog (stepper Try.prog (cfg17 k) lim17) (pl17_2 k) cb17_2 (sq17_2.st v) (loopK (fr17_2 k) (fu17_2 k m))
theorem pp17_2 (k m:Nat) (v:sq17_2.V):fu17_2 k (m+1) v=(bo17_2 k m v).eval∧(bo17_2 k m v).left=(bo17_2 k m v).right:=⟨by kernel_rfl,by kernel_rfl⟩
theorem fr17_2_ok (k:Nat):FragOK Try.prog lim17 (fr17_2 k) co17_2 :=
 frag_cast (by kernel_rfl) (loop_ok (cfg17_ok k) (plan_of (L:=[(fr17_1 k,co17_1)]) (by kernel_rfl) (.cons (fr17_1_ok k) .nil)) (fu17_2 k) k (fun _=>rfl) (fun _=>rfl) (pp17_2 k))
noncomputable def bo17_3 (k m:Nat) (v:sq17_3.V):=body Try.prog (stepper Try.prog (cfg17 k) lim17) .go cb17_3 (sq17_3.st v) (loopK (fr17_3 k) (fu17_3 k m))
theorem pp17_3 (k m:Nat) (v:sq17_3.V):fu17_3 k (m+1) v=(bo17_3 k m v).eval∧(bo17_3 k m v).left=(bo17_3 k m v).right:=⟨by kernel_rfl,by kernel_rfl⟩
theorem fr17_3_ok (k:Nat):FragOK Try.prog lim17 (fr17_3 k) co17_3 :=
 frag_cast (by kernel_rfl) (loop_ok (cfg17_ok k) (planOK_go _) (fu17_3 k) k (fun _=>rfl) (fun _=>rfl) (pp17_3 k))
def pl17_4 (k:Nat):Plan:=(.seq .go (.seq (.sub (.seq .go (.seq .go (.seq (.seq .go (.sub (.frag (fr17_2 k)))) (.seq .go (.seq .go (.seq (.sub (.frag (fr17_3 k))) .go))))))) .go))
noncomputable def bo17_4 (k m:Nat) (v:sq17_4.V):=body Try.prog (stepper Try.prog (cfg17 k) lim17) (pl17_4 k) cb17_4 (sq17_4.st v) (loopK (fr17_4 k) (fu17_4 k m))
theorem pp17_4 (k m:Nat) (v:sq17_4.V):fu17_4 k (m+1) v=(bo17_4 k m v).eval∧(bo17_4 k m v).left=(bo17_4 k m v).right:=⟨by kernel_rfl,by kernel_rfl⟩
theorem fr17_4_ok (k:Nat):FragOK Try.prog lim17 (fr17_4 k) co17_4 :=
 frag_cast (by kernel_rfl) (loop_ok (cfg17_ok k) (plan_of (L:=[(fr17_2 k,co17_2),(fr17_3 k,co17_3)]) (by kernel_rfl) (.cons (fr17_2_ok k) (.cons (fr17_3_ok k) .nil))) (fu17_4 k) k (fun _=>rfl) (fun _=>rfl) (pp17_4 k))
def pl17 (k:Nat):Plan:=(.seq .go (.seq .go (.seq (.seq .go (.sub (.frag (fr17_0 k)))) (.seq .go (.seq .go (.seq .go (.seq (.seq .go (.sub (.frag (fr17_4 k)))) .go)))))))
noncomputable def bo17 (k:Nat) (x:AT (sp17 k).ps):=fnT Try.prog (cfg17 k) lim17 Try.f17 (bodyOf Try.f17) (pl17 k) (sp17 k) x
theorem vv17 (k:Nat) (x:AT (sp17 k).ps):(sp17 k).impl x=(bo17 k x).eval∧(bo17 k x).left=(bo17 k x).right:=⟨by kernel_rfl,by kernel_rfl⟩
theorem v17 (k:Nat):Callable Try.prog 17∧Valid Try.prog 17 (sp17 k) :=
 fn_of (n:=lim17) (fn:=Try.f17) (p:=(pl17 k)) (cfg17_ok k) (by kernel_rfl) (plan_of (L:=[(fr17_0 k,co17_0),(fr17_4 k,co17_4)]) (by kernel_rfl) (.cons (fr17_0_ok k) (.cons (fr17_4_ok k) .nil))) (vv17 k)
def F18 (k:Nat) (a0:Int) (a1:Int):Option TY81 :=
 if a1≠0 then
 bif (decide ((Int.tmod a0 a1)<(0:Int))) then
 some (((wrap .i64 ((Int.tmod a0 a1)+a1)),()),())
 else
 some (((Int.tmod a0 a1),()),())
 else none
def sp18 (k:Nat):Spec:=⟨[.val (.int .i64),.val (.int .i64)],[.val (.int .i64)],fun x=>F18 k x.1 x.2.1⟩
def lim18:Lim:=⟨15,2,false,false,[],[]⟩
def cfg18 (k:Nat):Nat→Option Spec:=cfgL []
noncomputable def co18:Code:=codeAt (bodyOf Try.f18) []
theorem cfg18_ok (k:Nat):CfgOK Try.prog (cfg18 k):=cfgL_nil
noncomputable def bo18 (k:Nat) (x:AT (sp18 k).ps):=fnT Try.prog (cfg18 k) lim18 Try.f18 (bodyOf Try.f18) .go (sp18 k) x
theorem vv18 (k:Nat) (x:AT (sp18 k).ps):(sp18 k).impl x=(bo18 k x).eval∧(bo18 k x).left=(bo18 k x).right:=⟨by kernel_rfl,by kernel_rfl⟩
theorem v18 (k:Nat):Callable Try.prog 18∧Valid Try.prog 18 (sp18 k) :=
 fn_of (n:=lim18) (fn:=Try.f18) (p:=.go) (cfg18_ok k) (by kernel_rfl) (planOK_go _) (vv18 k)
def F62 (k:Nat) (a0:Int) (a1:Int):Option TY81 :=
 if a1≠0 then
 bif (decide ((Int.tmod a0 a1)<(0:Int))) then
 some (((wrap .i64 ((Int.tmod a0 a1)+a1)),()),())
 else
 some (((Int.tmod a0 a1),()),())
 else none
def sp62 (k:Nat):Spec:=⟨[.val (.int .i64),.val (.int .i64)],[.val (.int .i64)],fun x=>F62 k x.1 x.2.1⟩
def lim62:Lim:=⟨15,2,false,false,[],[]⟩
def cfg62 (k:Nat):Nat→Option Spec:=cfgL []
noncomputable def co62:Code:=codeAt (bodyOf Try.f62) []
theorem cfg62_ok (k:Nat):CfgOK Try.prog (cfg62 k):=cfgL_nil
noncomputable def bo62 (k:Nat) (x:AT (sp62 k).ps):=fnT Try.prog (cfg62 k) lim62 Try.f62 (bodyOf Try.f62) .go (sp62 k) x
theorem vv62 (k:Nat) (x:AT (sp62 k).ps):(sp62 k).impl x=(bo62 k x).eval∧(bo62 k x).left=(bo62 k x).right:=⟨by kernel_rfl,by kernel_rfl⟩
theorem v62 (k:Nat):Callable Try.prog 62∧Valid Try.prog 62 (sp62 k) :=
 fn_of (n:=lim62) (fn:=Try.f62) (p:=.go) (cfg62_ok k) (by kernel_rfl) (planOK_go _) (vv62 k)
def F23_0 (k:Nat):Nat→(List Int)→Int→Int→(List Int)→Option TY69
 |0,_,_,_,_=>none
 |n+1,t0,t1,t6,e0 =>
  let x1:=(decide (t6<(length t0:Int)))
  bif x1 then
  bif (decide (t6<t1)) then
  let x2:=(List.set (List.set (List.set (List.set (List.set (List.set (List.set (List.set (List.set (List.set (List.set (List.set (replicate 12 (0:Int)) 0 (97:Int)) 1 (97:Int)) 2 (98:Int)) 3 (99:Int)) 4 (49:Int)) 5 (55:Int)) 6 (32:Int)) 7 (120:Int)) 8 (19969:Int)) 9 (128512:Int)) 10 (45:Int)) 11 (50:Int))
  if 0≤t6∧t6<(length t0:Int) then
  (F62 k (getD t0 (toNat t6) (0:Int)) (12:Int)).bind fun r3 =>
  if 0≤r3.1.1∧r3.1.1<(length x2:Int) then
  let x4:=(List.set (replicate 1 (0:Int)) 0 (getD x2 (toNat r3.1.1) (0:Int)))
  if (length e0+length x4)*(8*2)≤281474976710656∧length e0+length x4≤9223372036854775807 then
  (F23_0 k n t0 t1 (wrap .i64 (t6+(1:Int))) (e0++x4)).bind some
  else none
  else none
  else none
  else
  some ((),(e0,()))
  else
  some ((),(e0,()))
def sq23_0:Shape:=⟨[(5,KD70)],[(0,.val KD68),(1,.val (.int .i64)),(5,.at 2000005 []),(6,.val (.int .i64))],[(2000005,none,KD70)]⟩
def fu23_0 (k m:Nat) (v:sq23_0.V):=F23_0 k m v.1.1 v.1.2.1 v.1.2.2.1 v.2.1
def fr23_0 (k:Nat):Frag:=⟨sq23_0,[(.exit 0,⟨[(5,KD70)],[(5,.at 2000005 [])],[(2000005,none,KD70)]⟩)],fu23_0 k k⟩
def F23 (k:Nat) (a0:(List Int)) (a1:Int):Option TY71 :=
 (F23_0 k k a0 a1 (0:Int) []).bind fun r5 =>
 some ((r5.2.1,()),())
def sp23 (k:Nat):Spec:=⟨[.val KD68,.val (.int .i64)],[.own KD70],fun x=>F23 k x.1 x.2.1⟩
def lim23:Lim:=⟨30,2,false,false,[],[]⟩
def cfg23 (k:Nat):Nat→Option Spec:=cfgL [(62,sp62 k)]
noncomputable def co23_0:Code:=codeAt (bodyOf Try.f23) [.r,.r,.l,.r,.s]
noncomputable def cb23_0:Code:=codeAt (bodyOf Try.f23) [.r,.r,.l,.r,.s,.b]
noncomputable def co23:Code:=codeAt (bodyOf Try.f23) []
theorem cfg23_ok (k:Nat):CfgOK Try.prog (cfg23 k):=cfgL_cons (v62 k) (cfgL_nil)
noncomputable def bo23_0 (k m:Nat) (v:sq23_0.V):=body Try.prog (stepper Try.prog (cfg23 k) lim23) .go cb23_0 (sq23_0.st v) (loopK (fr23_0 k) (fu23_0 k m))
theorem pp23_0 (k m:Nat) (v:sq23_0.V):fu23_0 k (m+1) v=(bo23_0 k m v).eval∧(bo23_0 k m v).left=(bo23_0 k m v).right:=⟨by kernel_rfl,by kernel_rfl⟩
theorem fr23_0_ok (k:Nat):FragOK Try.prog lim23 (fr23_0 k) co23_0 :=
 frag_cast (by kernel_rfl) (loop_ok (cfg23_ok k) (planOK_go _) (fu23_0 k) k (fun _=>rfl) (fun _=>rfl) (pp23_0 k))
def pl23 (k:Nat):Plan:=(.seq .go (.seq .go (.seq (.seq .go (.sub (.frag (fr23_0 k)))) .go)))
noncomputable def bo23 (k:Nat) (x:AT (sp23 k).ps):=fnT Try.prog (cfg23 k) lim23 Try.f23 (bodyOf Try.f23) (pl23 k) (sp23 k) x
theorem vv23 (k:Nat) (x:AT (sp23 k).ps):(sp23 k).impl x=(bo23 k x).eval∧(bo23 k x).left=(bo23 k x).right:=⟨by kernel_rfl,by kernel_rfl⟩
theorem v23 (k:Nat):Callable Try.prog 23∧Valid Try.prog 23 (sp23 k) :=
 fn_of (n:=lim23) (fn:=Try.f23) (p:=(pl23 k)) (cfg23_ok k) (by kernel_rfl) (plan_of (L:=[(fr23_0 k,co23_0)]) (by kernel_rfl) (.cons (fr23_0_ok k) .nil)) (vv23 k)
def F61_0 (k:Nat):Nat→(List Int)→(List Int)→Int→Int→Option ((((List Int)×Int×Unit)×Unit))
 |0,_,_,_,_=>none
 |n+1,t0,t1,t2,t7 =>
  let x3:=(decide ((wrap .i64 (t7+(1:Int)))<(length t0:Int)))
  bif x3 then
  if 0≤(wrap .i64 (t7+(1:Int)))∧(wrap .i64 (t7+(1:Int)))<(length t0:Int) then
  let x4:=(getD t0 (toNat (wrap .i64 (t7+(1:Int)))) (0:Int))
  bif (decide (x4≤t2)) then
  (F61_0 k n t0 t1 t2 (wrap .i64 (t7+(1:Int)))).bind some
  else
  some ((t1,t7,()),())
  else none
  else
  some ((t1,t7,()),())
def sq61_0:Shape:=⟨[],[(0,.val KD68),(1,.val KD68),(2,.val (.int .i64)),(7,.val (.int .i64))],[]⟩
def fu61_0 (k m:Nat) (v:sq61_0.V):=F61_0 k m v.1.1 v.1.2.1 v.1.2.2.1 v.1.2.2.2.1
def fr61_0 (k:Nat):Frag:=⟨sq61_0,[(.exit 0,⟨[],[(1,.val KD68),(7,.val (.int .i64))],[]⟩)],fu61_0 k k⟩
def F61 (k:Nat) (a0:(List Int)) (a1:(List Int)) (a2:Int):Option TY81 :=
 (F61_0 k k a0 a1 a2 (0:Int)).bind fun r5 =>
 if 0≤r5.1.2.1∧r5.1.2.1<(length r5.1.1:Int) then
 some (((getD r5.1.1 (toNat r5.1.2.1) (0:Int)),()),())
 else none
def sp61 (k:Nat):Spec:=⟨[.val KD68,.val KD68,.val (.int .i64)],[.val (.int .i64)],fun x=>F61 k x.1 x.2.1 x.2.2.1⟩
def lim61:Lim:=⟨28,3,false,false,[],[]⟩
def cfg61 (k:Nat):Nat→Option Spec:=cfgL []
noncomputable def co61_0:Code:=codeAt (bodyOf Try.f61) [.r,.r,.l,.s]
noncomputable def cb61_0:Code:=codeAt (bodyOf Try.f61) [.r,.r,.l,.s,.b]
noncomputable def co61:Code:=codeAt (bodyOf Try.f61) []
theorem cfg61_ok (k:Nat):CfgOK Try.prog (cfg61 k):=cfgL_nil
noncomputable def bo61_0 (k m:Nat) (v:sq61_0.V):=body Try.prog (stepper Try.prog (cfg61 k) lim61) .go cb61_0 (sq61_0.st v) (loopK (fr61_0 k) (fu61_0 k m))
theorem pp61_0 (k m:Nat) (v:sq61_0.V):fu61_0 k (m+1) v=(bo61_0 k m v).eval∧(bo61_0 k m v).left=(bo61_0 k m v).right:=⟨by kernel_rfl,by kernel_rfl⟩
theorem fr61_0_ok (k:Nat):FragOK Try.prog lim61 (fr61_0 k) co61_0 :=
 frag_cast (by kernel_rfl) (loop_ok (cfg61_ok k) (planOK_go _) (fu61_0 k) k (fun _=>rfl) (fun _=>rfl) (pp61_0 k))
def pl61 (k:Nat):Plan:=(.seq .go (.seq .go (.seq (.sub (.frag (fr61_0 k))) .go)))
noncomputable def bo61 (k:Nat) (x:AT (sp61 k).ps):=fnT Try.prog (cfg61 k) lim61 Try.f61 (bodyOf Try.f61) (pl61 k) (sp61 k) x
theorem vv61 (k:Nat) (x:AT (sp61 k).ps):(sp61 k).impl x=(bo61 k x).eval∧(bo61 k x).left=(bo61 k x).right:=⟨by kernel_rfl,by kernel_rfl⟩
theorem v61 (k:Nat):Callable Try.prog 61∧Valid Try.prog 61 (sp61 k) :=
 fn_of (n:=lim61) (fn:=Try.f61) (p:=(pl61 k)) (cfg61_ok k) (by kernel_rfl) (plan_of (L:=[(fr61_0 k,co61_0)]) (by kernel_rfl) (.cons (fr61_0_ok k) .nil)) (vv61 k)
def F22_0 (k:Nat):Nat→(List Int)→Int→TY3→(List Int)→Option TY69
 |0,_,_,_,_=>none
 |n+1,t1,t6,c2,e0 =>
  let x1:=(decide (t6<(length t1:Int)))
  bif x1 then
  if 0≤t6∧t6<(length t1:Int) then
  (F61 k c2.2.1 c2.2.2.1 (getD t1 (toNat t6) (0:Int))).bind fun r2 =>
  let x3:=(List.set (replicate 1 (0:Int)) 0 r2.1.1)
  if (length e0+length x3)*(8*2)≤281474976710656∧length e0+length x3≤9223372036854775807 then
  (F22_0 k n t1 (wrap .i64 (t6+(1:Int))) c2 (e0++x3)).bind some
  else none
  else none
  else
  some ((),(e0,()))
def sq22_0:Shape:=⟨[(5,KD70)],[(1,.val KD68),(2,.ptr 2 []),(5,.at 2000005 []),(6,.val (.int .i64))],[(2,some 33,KD0),(2000005,none,KD70)]⟩
def fu22_0 (k m:Nat) (v:sq22_0.V):=F22_0 k m v.1.1 v.1.2.1 v.2.1 v.2.2.1
def fr22_0 (k:Nat):Frag:=⟨sq22_0,[(.exit 0,⟨[(5,KD70)],[(5,.at 2000005 [])],[(2000005,none,KD70)]⟩)],fu22_0 k k⟩
def F22 (k:Nat) (a0:TY3) (a1:(List Int)):Option TY71 :=
 (F22_0 k k a1 (0:Int) a0 []).bind fun r4 =>
 some ((r4.2.1,()),())
def sp22 (k:Nat):Spec:=⟨[.val KD0,.val KD68],[.own KD70],fun x=>F22 k x.1 x.2.1⟩
def lim22:Lim:=⟨26,2,false,false,[],[]⟩
def cfg22 (k:Nat):Nat→Option Spec:=cfgL [(61,sp61 k)]
noncomputable def co22_0:Code:=codeAt (bodyOf Try.f22) [.r,.r,.l,.r,.s]
noncomputable def cb22_0:Code:=codeAt (bodyOf Try.f22) [.r,.r,.l,.r,.s,.b]
noncomputable def co22:Code:=codeAt (bodyOf Try.f22) []
theorem cfg22_ok (k:Nat):CfgOK Try.prog (cfg22 k):=cfgL_cons (v61 k) (cfgL_nil)
noncomputable def bo22_0 (k m:Nat) (v:sq22_0.V):=body Try.prog (stepper Try.prog (cfg22 k) lim22) .go cb22_0 (sq22_0.st v) (loopK (fr22_0 k) (fu22_0 k m))
theorem pp22_0 (k m:Nat) (v:sq22_0.V):fu22_0 k (m+1) v=(bo22_0 k m v).eval∧(bo22_0 k m v).left=(bo22_0 k m v).right:=⟨by kernel_rfl,by kernel_rfl⟩
theorem fr22_0_ok (k:Nat):FragOK Try.prog lim22 (fr22_0 k) co22_0 :=
 frag_cast (by kernel_rfl) (loop_ok (cfg22_ok k) (planOK_go _) (fu22_0 k) k (fun _=>rfl) (fun _=>rfl) (pp22_0 k))
def pl22 (k:Nat):Plan:=(.seq .go (.seq .go (.seq (.seq .go (.sub (.frag (fr22_0 k)))) .go)))
noncomputable def bo22 (k:Nat) (x:AT (sp22 k).ps):=fnT Try.prog (cfg22 k) lim22 Try.f22 (bodyOf Try.f22) (pl22 k) (sp22 k) x
theorem vv22 (k:Nat) (x:AT (sp22 k).ps):(sp22 k).impl x=(bo22 k x).eval∧(bo22 k x).left=(bo22 k x).right:=⟨by kernel_rfl,by kernel_rfl⟩
theorem v22 (k:Nat):Callable Try.prog 22∧Valid Try.prog 22 (sp22 k) :=
 fn_of (n:=lim22) (fn:=Try.f22) (p:=(pl22 k)) (cfg22_ok k) (by kernel_rfl) (plan_of (L:=[(fr22_0 k,co22_0)]) (by kernel_rfl) (.cons (fr22_0_ok k) .nil)) (vv22 k)
def F24_0 (k:Nat):Nat→(List Int)→Int→Int→TY62→(List Int)→Option TY69
 |0,_,_,_,_,_=>none
 |n+1,t1,t6,t7,c2,c11 =>
  bif (decide (t7≥(0:Int))) then
  if 0≤t6∧t6<(length c2.1:Int) then
  let x9:=(getD c2.1 (toNat t6) ([]:(List Int)))
  if 0≤t7∧t7<(length t1:Int) then
  if 0≤(getD t1 (toNat t7) (0:Int))∧(getD t1 (toNat t7) (0:Int))<(length x9:Int) then
  let x10:=(getD x9 (toNat (getD t1 (toNat t7) (0:Int))) (0:Int))
  if 0≤x10∧x10<(length c2.2.1:Int) then
  if 0≤t7∧t7<(length c11:Int) then
  let x11:=(List.set c11 (toNat t7) (getD c2.2.1 (toNat x10) (0:Int)))
  (F24_0 k n t1 x10 (wrap .i64 (t7-(1:Int))) c2 x11).bind some
  else none
  else none
  else none
  else none
  else none
  else
  some ((),(c11,()))
def sq24_0:Shape:=⟨[],[(1,.val KD68),(2,.ptr 2 []),(5,.at 11 []),(6,.val (.int .i64)),(7,.val (.int .i64))],[(2,some 39,KD35),(11,none,KD70)]⟩
def fu24_0 (k m:Nat) (v:sq24_0.V):=F24_0 k m v.1.1 v.1.2.1 v.1.2.2.1 v.2.1 v.2.2.1
def fr24_0 (k:Nat):Frag:=⟨sq24_0,[(.exit 0,⟨[],[(5,.at 11 [])],[(11,none,KD70)]⟩)],fu24_0 k k⟩
def F24 (k:Nat) (a0:TY62) (a1:(List Int)):Option TY71 :=
 let x1:=(wrap .i64 ((length a1:Int)+(1:Int)))
 if (0≤x1∧x1<x1+1)∧x1≤9223372036854775807∧((8:Nat):Int)*x1≤281474976710656 then
 if 0≤(0:Int)∧(0:Int)<(length a0.2.1:Int) then
 let x2:=(getD a0.2.1 (toNat (0:Int)) (0:Int))
 if 0≤(length a1:Int)∧(length a1:Int)<(length (replicate (toNat x1) (0:Int)):Int) then
 let x3:=(toNat (length a1:Int))
 let x4:=(List.set (replicate (toNat x1) (0:Int)) x3 x2)
 let x5:=(wrap .i64 ((length a1:Int)-(1:Int)))
 (F24_0 k k a1 (0:Int) x5 a0 x4).bind fun r12 =>
 some ((r12.2.1,()),())
 else none
 else none
 else none
def sp24 (k:Nat):Spec:=⟨[.val KD35,.val KD68],[.own KD70],fun x=>F24 k x.1 x.2.1⟩
def lim24:Lim:=⟨48,2,false,false,[],[]⟩
def cfg24 (k:Nat):Nat→Option Spec:=cfgL []
noncomputable def co24_0:Code:=codeAt (bodyOf Try.f24) [.r,.r,.r,.r,.l,.r,.s]
noncomputable def cb24_0:Code:=codeAt (bodyOf Try.f24) [.r,.r,.r,.r,.l,.r,.s,.b]
noncomputable def co24:Code:=codeAt (bodyOf Try.f24) []
theorem cfg24_ok (k:Nat):CfgOK Try.prog (cfg24 k):=cfgL_nil
noncomputable def bo24_0 (k m:Nat) (v:sq24_0.V):=body Try.prog (stepper Try.prog (cfg24 k) lim24) .go cb24_0 (sq24_0.st v) (loopK (fr24_0 k) (fu24_0 k m))
theorem pp24_0 (k m:Nat) (v:sq24_0.V):fu24_0 k (m+1) v=(bo24_0 k m v).eval∧(bo24_0 k m v).left=(bo24_0 k m v).right:=⟨by kernel_rfl,by kernel_rfl⟩
theorem fr24_0_ok (k:Nat):FragOK Try.prog lim24 (fr24_0 k) co24_0 :=
 frag_cast (by kernel_rfl) (loop_ok (cfg24_ok k) (planOK_go _) (fu24_0 k) k (fun _=>rfl) (fun _=>rfl) (pp24_0 k))
def pl24 (k:Nat):Plan:=(.seq .go (.seq .go (.seq .go (.seq .go (.seq (.seq .go (.sub (.frag (fr24_0 k)))) .go)))))
noncomputable def bo24 (k:Nat) (x:AT (sp24 k).ps):=fnT Try.prog (cfg24 k) lim24 Try.f24 (bodyOf Try.f24) (pl24 k) (sp24 k) x
theorem vv24 (k:Nat) (x:AT (sp24 k).ps):(sp24 k).impl x=(bo24 k x).eval∧(bo24 k x).left=(bo24 k x).right:=⟨by kernel_rfl,by kernel_rfl⟩
theorem v24 (k:Nat):Callable Try.prog 24∧Valid Try.prog 24 (sp24 k) :=
 fn_of (n:=lim24) (fn:=Try.f24) (p:=(pl24 k)) (cfg24_ok k) (by kernel_rfl) (plan_of (L:=[(fr24_0 k,co24_0)]) (by kernel_rfl) (.cons (fr24_0_ok k) .nil)) (vv24 k)
def F29_0 (k:Nat):Nat→Int→Int→(List Int)→(List Int)→Option TY60
 |0,_,_,_,_=>none
 |n+1,t1,t5,c2,c4 =>
  bif (decide (t5<(3:Int))) then
  if 0≤t5∧t5<((3:Nat):Int) then
  (F34 k (getD c2 (toNat t5) (0:Int)) t1).bind fun r2 =>
  if 0≤t5∧t5<((3:Nat):Int) then
  (F29_0 k n t1 (wrap .i64 (t5+(1:Int))) (List.set c2 (toNat t5) r2.1.1) c4).bind some
  else none
  else none
  else
  some ((),(c2,c4,()))
def sq29_0:Shape:=⟨[],[(1,.val (.int .i64)),(2,.ptr 2 []),(4,.ptr 4 []),(5,.val (.int .i64))],[(2,some 69,(.arr 3 (.int .i64))),(4,some 69,(.arr 3 (.int .i64)))]⟩
def fu29_0 (k m:Nat) (v:sq29_0.V):=F29_0 k m v.1.1 v.1.2.1 v.2.1 v.2.2.1
def fr29_0 (k:Nat):Frag:=⟨sq29_0,[(.exit 0,⟨[],[(2,.ptr 2 []),(4,.ptr 4 [])],[(2,some 69,(.arr 3 (.int .i64))),(4,some 69,(.arr 3 (.int .i64)))]⟩)],fu29_0 k k⟩
def F29 (k:Nat) (a0:(List Int)) (a1:Int):Option TY71 :=
 (F29_0 k k a1 (0:Int) a0 (replicate 3 (0:Int))).bind fun r3 =>
 some ((r3.2.1,()),())
def sp29 (k:Nat):Spec:=⟨[.val (.arr 3 (.int .i64)),.val (.int .i64)],[.val (.arr 3 (.int .i64))],fun x=>F29 k x.1 x.2.1⟩
def lim29:Lim:=⟨18,2,false,false,[],[]⟩
def cfg29 (k:Nat):Nat→Option Spec:=cfgL [(34,sp34 k)]
noncomputable def co29_0:Code:=codeAt (bodyOf Try.f29) [.r,.l,.r,.s]
noncomputable def cb29_0:Code:=codeAt (bodyOf Try.f29) [.r,.l,.r,.s,.b]
noncomputable def co29:Code:=codeAt (bodyOf Try.f29) []
theorem cfg29_ok (k:Nat):CfgOK Try.prog (cfg29 k):=cfgL_cons (v34 k) (cfgL_nil)
noncomputable def bo29_0 (k m:Nat) (v:sq29_0.V):=body Try.prog (stepper Try.prog (cfg29 k) lim29) .go cb29_0 (sq29_0.st v) (loopK (fr29_0 k) (fu29_0 k m))
theorem pp29_0 (k m:Nat) (v:sq29_0.V):fu29_0 k (m+1) v=(bo29_0 k m v).eval∧(bo29_0 k m v).left=(bo29_0 k m v).right:=⟨by kernel_rfl,by kernel_rfl⟩
theorem fr29_0_ok (k:Nat):FragOK Try.prog lim29 (fr29_0 k) co29_0 :=
 frag_cast (by kernel_rfl) (loop_ok (cfg29_ok k) (planOK_go _) (fu29_0 k) k (fun _=>rfl) (fun _=>rfl) (pp29_0 k))
def pl29 (k:Nat):Plan:=(.seq .go (.seq (.seq .go (.sub (.frag (fr29_0 k)))) .go))
noncomputable def bo29 (k:Nat) (x:AT (sp29 k).ps):=fnT Try.prog (cfg29 k) lim29 Try.f29 (bodyOf Try.f29) (pl29 k) (sp29 k) x
theorem vv29 (k:Nat) (x:AT (sp29 k).ps):(sp29 k).impl x=(bo29 k x).eval∧(bo29 k x).left=(bo29 k x).right:=⟨by kernel_rfl,by kernel_rfl⟩
theorem v29 (k:Nat):Callable Try.prog 29∧Valid Try.prog 29 (sp29 k) :=
 fn_of (n:=lim29) (fn:=Try.f29) (p:=(pl29 k)) (cfg29_ok k) (by kernel_rfl) (plan_of (L:=[(fr29_0 k,co29_0)]) (by kernel_rfl) (.cons (fr29_0_ok k) .nil)) (vv29 k)
def F7_0 (k:Nat):Nat→(List Int)→Int→Int→TY3→TY62→TY25→(List (List Bool))→Option ((((List Int)×Int×Unit)×(TY3×TY62×TY25×(List (List Bool))×Unit)))
 |0,_,_,_,_,_,_,_=>none
 |n+1,t3,t16,t18,c11,c13,c65,e0 =>
  let x15:=(decide (t18<(length c65:Int)))
  bif x15 then
  if 0≤t18∧t18<(length c65:Int) then
  let x16:=(getD c65 (toNat t18) ((0:Int),((0:Int),((Tree.mk ((0:Int),((0:Int),((0:Int),((0:Int),(ByteArray.empty,()))))) []),((Tree.mk ((0:Int),((0:Int),((0:Int),((0:Int),(ByteArray.empty,()))))) []),()))))).2.1
  if 0≤t18∧t18<(length c65:Int) then
  let x17:=(List.set c65 (toNat t18) ((getD c65 (toNat t18) ((0:Int),((0:Int),((Tree.mk ((0:Int),((0:Int),((0:Int),((0:Int),(ByteArray.empty,()))))) []),((Tree.mk ((0:Int),((0:Int),((0:Int),((0:Int),(ByteArray.empty,()))))) []),()))))).1,((wrap .i64 (x16+t16)),(getD c65 (toNat t18) ((0:Int),((0:Int),((Tree.mk ((0:Int),((0:Int),((0:Int),((0:Int),(ByteArray.empty,()))))) []),((Tree.mk ((0:Int),((0:Int),((0:Int),((0:Int),(ByteArray.empty,()))))) []),()))))).2.2)))
  (F7_0 k n t3 t16 (wrap .i64 (t18+(1:Int))) c11 c13 x17 e0).bind some
  else none
  else none
  else
  some ((t3,t16,()),(c11,c13,c65,e0,()))
def sq7_0:Shape:=⟨[],[(3,.val KD68),(11,.ptr 11 []),(13,.ptr 13 []),(14,.at 1000849 []),(16,.val (.int .i64)),(17,.at 65 []),(18,.val (.int .i64))],[(11,some 33,KD1),(13,some 39,KD36),(65,none,KD11),(1000849,none,KD61)]⟩
def fu7_0 (k m:Nat) (v:sq7_0.V):=F7_0 k m v.1.1 v.1.2.1 v.1.2.2.1 v.2.1 v.2.2.1 v.2.2.2.1 v.2.2.2.2.1
def fr7_0 (k:Nat):Frag:=⟨sq7_0,[(.exit 0,⟨[],[(3,.val KD68),(11,.ptr 11 []),(13,.ptr 13 []),(14,.at 1000849 []),(16,.val (.int .i64)),(17,.at 65 [])],[(11,some 33,KD1),(13,some 39,KD36),(65,none,KD11),(1000849,none,KD61)]⟩)],fu7_0 k k⟩
def F7_1 (k:Nat):Nat→Int→Int→(List (List Int))→(List (List Int))→Option ((Unit×Unit)⊕TY80)
 |0,_,_,_,_=>none
 |n+1,t16,t26,e0,e1 =>
  let x39:=(decide (t26<(length e0:Int)))
  bif x39 then
  if 0≤t26∧t26<(length e1:Int) then
  let x40:=(getD e1 (toNat t26) ([]:(List Int)))
  if 0≤t26∧t26<(length e0:Int) then
  let x41:=(getD e0 (toNat t26) ([]:(List Int)))
  (F29 k x41 t16).bind fun r42 =>
  bif (!(x40==r42.1.1)) then
  some (.inr ((false,()),()))
  else
  (F7_1 k n t16 (wrap .i64 (t26+(1:Int))) e0 e1).bind some
  else none
  else none
  else
  some (.inl ((),()))
def sq7_1:Shape:=⟨[],[(16,.val (.int .i64)),(24,.at 1002112 []),(25,.at 1002208 []),(26,.val (.int .i64))],[(1002112,none,(.sl true 69 (.arr 3 (.int .i64)) none)),(1002208,none,(.sl true 69 (.arr 3 (.int .i64)) none))]⟩
def fu7_1 (k m:Nat) (v:sq7_1.V):=F7_1 k m v.1.1 v.1.2.1 v.2.1 v.2.2.1
def fr7_1 (k:Nat):Frag:=⟨sq7_1,[(.exit 2,⟨[],[],[]⟩),(.ret,⟨[],[(10,.val .bool)],[]⟩)],fu7_1 k k⟩
def F7 (k:Nat) (a0:TY65) (a1:(List Int)) (a2:(List Int)) (a3:(List Int)) (a4:Int):Option TY80 :=
 (F13 k).bind fun r1 =>
 bif (!r1.1.1) then
 some ((false,()),())
 else
 (F14 k a0).bind fun r2 =>
 bif (!r2.1.1) then
 some ((true,()),())
 else
 (F15 k a0 a1 a2).bind fun r3 =>
 bif (!r3.1.2.1) then
 some ((true,()),())
 else
 (F16 k r3.1.1).bind fun r8 =>
 bif (!r8.1.1) then
 some ((true,()),())
 else
 (F17 k r3.1.1.2.2.2.2.2.1 r3.1.1.2.2.2.1 r3.1.1.2.2.2.2.2.2.1 (60:Int)).bind fun r9 =>
 bif (r9.1.2.2.1 != (0:Int)) then
 some ((true,()),())
 else
 (F18 k a4 (1000:Int)).bind fun r10 =>
 let x11:=(replicate 0 ((0:Int),((0:Int),((Tree.mk ((0:Int),((0:Int),((0:Int),((0:Int),(ByteArray.empty,()))))) []),((Tree.mk ((0:Int),((0:Int),((0:Int),((0:Int),(ByteArray.empty,()))))) []),())))))
 if (length x11+length r3.1.1.1.2.1)*(160*2)≤281474976710656∧length x11+length r3.1.1.1.2.1≤9223372036854775807 then
 (F7_0 k k a3 r10.1.1 (0:Int) r3.1.1 r9.1.1 (x11++r3.1.1.1.2.1) r9.1.2.1).bind fun r18 =>
 let y21:=r18.2.1
 (F19 k y21.1.2.1 y21.2.2.2.2.1 y21.2.2.2.1 y21.2.2.2.2.2.2.1 r18.2.2.2.2.1 (80:Int)).bind fun r25 =>
 (F19 k r18.2.2.2.1 y21.2.2.2.2.1 y21.2.2.2.1 y21.2.2.2.2.2.2.1 r18.2.2.2.2.1 (80:Int)).bind fun r26 =>
 bif (r25.1.2.1 != r26.1.2.1) then
 bif (r25.1.2.1==r26.1.2.1) then
 some (((r25.1.2.1==(4:Int)),()),())
 else
 some ((false,()),())
 else
 bif (r25.1.2.1 != (0:Int)) then
 bif (r25.1.2.1==r26.1.2.1) then
 some (((r25.1.2.1==(4:Int)),()),())
 else
 some ((false,()),())
 else
 (F23 k r18.1.1 (15:Int)).bind fun r27 =>
 (F22 k y21 r27.1.1).bind fun r28 =>
 (F24 k r18.2.2.1 r28.1.1).bind fun r29 =>
 (F26 k r25.1.1 r28.1.1 r29.1.1).bind fun r30 =>
 (F24 k r18.2.2.1 r28.1.1).bind fun r31 =>
 (F26 k r26.1.1 r28.1.1 r31.1.1).bind fun r32 =>
 let x33:=((length r30.1.1:Int) != (length r32.1.1:Int))
 bif x33 then
 some ((false,()),())
 else
 let x34:=(wrap .i64 ((length r28.1.1:Int)+(1:Int)))
 bif ((length r30.1.1:Int) != x34) then
 some ((false,()),())
 else
 (F7_1 k k r18.1.2.1 (0:Int) r30.1.1 r32.1.1).bind fun r43 =>
 match r43 with
 |.inl r44 =>
  some ((true,()),())
 |.inr r44 =>
  some ((r44.1.1,()),())
 else none
def sp7 (k:Nat):Spec:=⟨[.val KD55,.val KD68,.val KD68,.val KD68,.val (.int .i64)],[.val .bool],fun x=>F7 k x.1 x.2.1 x.2.2.1 x.2.2.2.1 x.2.2.2.2.1⟩
def lim7:Lim:=⟨169,5,false,false,[],[]⟩
def cfg7 (k:Nat):Nat→Option Spec:=cfgL [(13,sp13 k),(14,sp14 k),(15,sp15 k),(16,sp16 k),(17,sp17 k),(18,sp18 k),(19,sp19 k),(22,sp22 k),(23,sp23 k),(24,sp24 k),(26,sp26 k),(29,sp29 k)]
noncomputable def co7_0:Code:=codeAt (bodyOf Try.f7) [.r,.r,.r,.r,.r,.r,.r,.r,.r,.l,.r,.s]
noncomputable def cb7_0:Code:=codeAt (bodyOf Try.f7) [.r,.r,.r,.r,.r,.r,.r,.r,.r,.l,.r,.s,.b]
noncomputable def co7_1:Code:=codeAt (bodyOf Try.f7) [.r,.r,.r,.r,.r,.r,.r,.r,.r,.r,.r,.r,.r,.r,.r,.r,.l,.r,.s]
noncomputable def cb7_1:Code:=codeAt (bodyOf Try.f7) [.r,.r,.r,.r,.r,.r,.r,.r,.r,.r,.r,.r,.r,.r,.r,.r,.l,.r,.s,.b]
noncomputable def co7:Code:=codeAt (bodyOf Try.f7) []
theorem cfg7_ok (k:Nat):CfgOK Try.prog (cfg7 k):=cfgL_cons (v13 k) (cfgL_cons (v14 k) (cfgL_cons (v15 k) (cfgL_cons (v16 k) (cfgL_cons (v17 k) (cfgL_cons (v18 k) (cfgL_cons (v19 k) (cfgL_cons (v22 k) (cfgL_cons (v23 k) (cfgL_cons (v24 k) (cfgL_cons (v26 k) (cfgL_cons (v29 k) (cfgL_nil))))))))))))
noncomputable def bo7_0 (k m:Nat) (v:sq7_0.V):=body Try.prog (stepper Try.prog (cfg7 k) lim7) .go cb7_0 (sq7_0.st v) (loopK (fr7_0 k) (fu7_0 k m))
theorem pp7_0 (k m:Nat) (v:sq7_0.V):fu7_0 k (m+1) v=(bo7_0 k m v).eval∧(bo7_0 k m v).left=(bo7_0 k m v).right:=⟨by kernel_rfl,by kernel_rfl⟩
theorem fr7_0_ok (k:Nat):FragOK Try.prog lim7 (fr7_0 k) co7_0 :=
 frag_cast (by kernel_rfl) (loop_ok (cfg7_ok k) (planOK_go _) (fu7_0 k) k (fun _=>rfl) (fun _=>rfl) (pp7_0 k))
noncomputable def bo7_1 (k m:Nat) (v:sq7_1.V):=body Try.prog (stepper Try.prog (cfg7 k) lim7) .go cb7_1 (sq7_1.st v) (loopK (fr7_1 k) (fu7_1 k m))
theorem pp7_1 (k m:Nat) (v:sq7_1.V):fu7_1 k (m+1) v=(bo7_1 k m v).eval∧(bo7_1 k m v).left=(bo7_1 k m v).right:=⟨by kernel_rfl,by kernel_rfl⟩
theorem fr7_1_ok (k:Nat):FragOK Try.prog lim7 (fr7_1 k) co7_1 :=
 frag_cast (by kernel_rfl) (loop_ok (cfg7_ok k) (planOK_go _) (fu7_1 k) k (fun _=>rfl) (fun _=>rfl) (pp7_1 k))
def pl7 (k:Nat):Plan:=(.seq .go (.seq .go (.seq .go (.seq .go (.seq .go (.seq .go (.seq .go (.seq .go (.seq .go (.seq (.seq .go (.sub (.frag (fr7_0 k)))) (.seq .go (.seq .go (.seq .go (.seq .go (.seq .go (.seq .go (.seq (.seq .go (.sub (.frag (fr7_1 k)))) .go)))))))))))))))))
noncomputable def bo7 (k:Nat) (x:AT (sp7 k).ps):=fnT Try.prog (cfg7 k) lim7 Try.f7 (bodyOf Try.f7) (pl7 k) (sp7 k) x
theorem vv7 (k:Nat) (x:AT (sp7 k).ps):(sp7 k).impl x=(bo7 k x).eval∧(bo7 k x).left=(bo7 k x).right:=⟨by kernel_rfl,by kernel_rfl⟩
theorem v7 (k:Nat):Callable Try.prog 7∧Valid Try.prog 7 (sp7 k) :=
 fn_of (n:=lim7) (fn:=Try.f7) (p:=(pl7 k)) (cfg7_ok k) (by kernel_rfl) (plan_of (L:=[(fr7_0 k,co7_0),(fr7_1 k,co7_1)]) (by kernel_rfl) (.cons (fr7_0_ok k) (.cons (fr7_1_ok k) .nil))) (vv7 k)
end Go.Proofs.YtgmmopbpldgpcaaE

