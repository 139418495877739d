/- The engine. Conditions: none. -/
import Derived.Test.YtibammoednhnoaaEB
import Derived.MapKept
import Derived.Carry
import Derived.WideLaws
import Derived.Laws.Cover3
import Derived.LoopN
import Derived.Scope
set_option linter.unusedVariables false
set_option linter.unusedSimpArgs false
open List (all_eq_true contains_eq_mem drop filter_map getD getElem?_map length map_append map_cons map_map mem_append_left mem_append_right mem_cons_self mem_of_getElem? nodup_cons)
open Option (getD_some map_none map_some)
namespace Go.Proofs.YtibammoednhnoaaE
open Kd
variable {α:Type}
theorem pack_is {Γ:HF} {RF:List (Nat×RC)} {l:List SV} {vs:List Value} (hlen:l.length=vs.length) (h:∀(i:Nat) (s:SV),l[i]? = some s→∃u,vs[i]? = some u∧s.is Γ RF u):(packA l).is Γ RF (packV vs):=by
 match l,vs,hlen,h with
 | [s],[u],_,h =>
  obtain ⟨u',h1,h2⟩:=h 0 s rfl
  simp only[List.getElem?_cons_zero,Option.some.injEq] at h1
  subst h1
  exact h2
 | [],[],_,h=>exact ⟨[],rfl,rfl,fun i s hi=>by simp at hi⟩
 |s::s2::l,u::u2::vs,hl,h=>exact ⟨u::u2::vs,rfl,by simpa using hl.symm,h⟩
theorem ids_is {Γ:HF} {rcs RF:List (Nat×RC)} {keys:List Nat} {av:AV} {v:Value} (hk:∀c∈keys,offA c av=true) (hi:av.is Γ rcs v) (h:∀id r,id∉keys→look rcs id=some r→look RF id=some r):av.is Γ RF v:=by
 have one:∀ {s:SV} {u:Value},(∀c∈keys,offS c s=true)→s.is Γ rcs u→s.is Γ RF u:=by
  intro s u hk hi
  cases s with
  |val K x=>exact hi
  |eptr K x=>exact hi
  |nilS=>exact hi
  |nilP=>exact hi
  |bnd f K x=>exact hi
  |ptr i p =>
   obtain ⟨r,q,hr,x⟩:=hi
   exact ⟨r,q,h i r (fun hm=>by have:=hk i hm; simp[offS] at this) hr,x⟩
  | «at» i p =>
   obtain ⟨r,q,hr,x⟩:=hi
   exact ⟨r,q,h i r (fun hm=>by have:=hk i hm; simp[offS] at this) hr,x⟩
  |slc i p off len =>
   obtain ⟨r,t,e,hole,x',z',a,hr,x⟩:=hi
   exact ⟨r,t,e,hole,x',z',a,h i r (fun hm=>by have:=hk i hm; simp[offS] at this) hr,x⟩
  |clo f caps =>
   obtain ⟨vs,e,hl,hall⟩:=hi
   refine ⟨vs,e,hl,fun j id hj=>?_⟩
   obtain ⟨r,b,t,hr,x⟩:=hall j id hj
   refine ⟨r,b,t,h id r (fun hm=>?_) hr,x⟩
   have:=hk id hm
   simp only[offS,Bool.not_eq_true',contains_eq_mem,decide_eq_false_iff_not] at this
   exact this (mem_of_getElem? hj)
 cases av with
 |one s=>exact one hk hi
 |tup l =>
  obtain ⟨vs,e,hl,hall⟩:=hi
  refine ⟨vs,e,hl,fun i s hs=>?_⟩
  obtain ⟨u,hu,h'⟩:=hall i s hs
  exact ⟨u,hu,one (fun c hc=>List.all_eq_true.1 (hk c hc) s (mem_of_getElem? hs)) h'⟩
theorem ars_is {a:Act} {Γ:HF} {rcs:List (Nat×RC)} {us:List Value} {ids:List Nat} (hul:us.length=ids.length) (hall:∀(i id:Nat),ids[i]? = some id→∃r b t,look rcs id=some r∧r.box=some (b,t)∧us[i]? = some (.pointer (some ⟨b,0,none⟩))) (xs:List Operand) :
  ArIs a rcs (xs.map .op++ids.map .cap) (xs.map a.eval++us):=by
 induction xs with
 |cons x xs ih=>exact ⟨_,rfl,ih⟩
 |nil =>
  simp only[List.map_nil,List.nil_append]
  induction ids generalizing us with
  |nil =>
   have:us=[]:=List.eq_nil_of_length_eq_zero hul
   exact this
  |cons id ids ih =>
   obtain ⟨r,b,t,h1,h2,h3⟩:=hall 0 id rfl
   cases us with
   |nil=>cases hul
   |cons u us =>
    simp only[List.getElem?_cons_zero,Option.some.injEq] at h3
    subst h3
    exact ⟨us,r,b,t,rfl,h1,h2,ih (by simpa using hul) fun i id' hi=>by
     obtain ⟨r',b',t',q1,q2,q3⟩:=hall (i+1) id' (by simpa using hi)
     exact ⟨r',b',t',q1,q2,by simpa using q3⟩⟩
theorem run_call {P:Program} {o:Oper} {c:Call} {x:Operand} {a:Act} {f:Nat} {fs us:List Value} (ho:o.op=.call c) (hc:c.callee=.value x) (hv:a.eval x=.func (.func f) fs.toArray us.toArray) (hf:Callable P f) (w:World) :
  (execOp a.eval o).run P w=.ok (.enter f (fs.toArray++c.args.map a.eval++us.toArray)) w:=by
 simp[execOp,ho,resolve,hc,hv,Deferred.ofValue,invoke,Sem.run_bind,run_callFunc hf]
theorem call_end {F:Fr} {s:St} {a:Act} {w:World} {Γ:HF} {rcs:List (Nat×RC)} {h:HF} (g:Good F s a w Γ rcs h) {sp:Spec} {xs:AT sp.ps} {g':Got} {rcs':List (Nat×RC)} {h' hL:HF} {Rl:List (Nat×RC)} {vals:List Value}
  (A:ArgsOK F a Γ rcs rcs h 0 sp.ps vals ⟨s,[],[],[],[]⟩ g' xs rcs' h' hL Rl) {r:RT sp.rs×OT sp.ps} {v:Value} {w':World} {Γc Γ' Γn hN:HF} {vs:List Value} {lR lO:List (Nat×RC)}
  (AF:After Γc hL w Rl sp r v w' Γ' hN vs lR lO) (n1:∀b v,Γ b=some v→Γn b=some v) (n2:∀b v,Γn b=some v→Γ' b=some v) (n3:HF.dj Γn h') (n4:∀b,Γn.has b→Γ.has b∨hL.has b∨w.heap.size≤b)
  (n5:Star Γn (lR++lO) hN) (n6:ResIs Γn sp.rs r.1 vs lR) {d:Nat} (hd:d<F.n.n) (hB:∀e∈F.B,(e.id=none→hL=HF.emp)∧∀id,e.id=some id→id∉g'.tk∧id∉rids d sp.rs.length)
  {k:St→Tr α} {Kp:α→Prop} {l:List SV} {rcl:List (Nat×RC)} (hk:(callK sp s d g' r k l (rcl.map fun y=>(y.1,y.2.ck))).sat Kp) (hsl:(rcl.map (·.2)).Sublist (lR.map (·.2))) (hlen:l.length=vs.length)
  (hres:∀RF,(∀y∈rcl,look RF y.1=some y.2)→∀(i:Nat) (s:SV),l[i]? = some s→∃u,vs[i]? = some u∧s.is Γn RF u):∃s',R F s' (a.put (some d) v) w'∧(k s').sat Kp:=by
 unfold callK at hk
 split at hk
 ·rename_i hc
  simp only[Bool.and_eq_true] at hc
  obtain ⟨⟨⟨hnd,hrid⟩,hnl⟩,hbi⟩:=hc
  have ndl:=nodupB_ok hnl
  have hkeys:(rcl.map fun y=>(y.1,y.2.ck)).map (·.1)=rcl.map (·.1):=by rw[map_map]; rfl
  obtain ⟨bk1,bk2⟩:=back_ok (l:=g'.l) sp.ps 0 xs r.2 lO AF.back (fun j _=>by rw[←A.ck]; exact (look_map Rl j).symm)
  have hfil:((rcs'.filter fun x=>!(rcl.map (·.1)).contains x.1).map fun y=>(y.1,y.2.ck))=g'.s.ck.filter fun x=>!((rcl.map fun y=>(y.1,y.2.ck)).map (·.1)).contains x.1:=by
   rw[A.u.ck,hkeys,filter_map]
   rfl
  have hck:(rcl++(lO.map (ren g'.l)++rcs'.filter fun x=>!(rcl.map (·.1)).contains x.1)).map (fun y=>(y.1,y.2.ck))=(rcl.map fun y=>(y.1,y.2.ck))++(backCk g'.l 0 sp.ps r.2++g'.s.ck.filter fun x=>!((rcl.map fun y=>(y.1,y.2.ck)).map (·.1)).contains x.1):=by
   rw[map_append,map_append,bk1,hfil]
  have nd:=nodupB_ok hnd
  rw[←hck] at nd
  have hmm:((rcl++(lO.map (ren g'.l)++rcs'.filter fun x=>!(rcl.map (·.1)).contains x.1)).map (fun y=>(y.1,y.2.ck))).map (·.1)=(rcl++(lO.map (ren g'.l)++rcs'.filter fun x=>!(rcl.map (·.1)).contains x.1)).map (·.1):=by rw[map_map]; rfl
  rw[hmm] at nd
  rw[←hck] at hk
  generalize hRN:rcl++(lO.map (ren g'.l)++rcs'.filter fun x=>!(rcl.map (·.1)).contains x.1)=RN at *
  have mem1:∀y∈rcl,look RN y.1=some y.2:=fun y hy=>look_of_mem nd (by rw[←hRN]; exact mem_append_left _ hy)
  have mem2:∀y∈lO,look RN (ren g'.l y).1=some y.2:=fun y hy=>look_of_mem nd (by rw[←hRN]; exact mem_append_right _ (mem_append_left _ (List.mem_map.2 ⟨y,hy,rfl⟩)))
  have mem3:∀id r,id∉rcl.map (·.1)→look rcs' id=some r→look RN id=some r:=fun id r hn hr=>look_of_mem nd (by
   rw[←hRN]
   refine mem_append_right _ (mem_append_right _ (List.mem_filter.2 ⟨look_mem hr,?_⟩))
   simpa using hn)
  have memX:∀n rc,look RN n=some rc→(n∈rcl.map (·.1))∨(∃y∈lO,n=(look g'.l y.1).getD 0∧rc=y.2)∨look rcs' n=some rc:=by
   intro n rc hn
   have hm:=look_mem hn
   rw[←hRN] at hm
   rcases List.mem_append.1 hm with e | e
   ·exact .inl (List.mem_map.2 ⟨_,e,rfl⟩)
   ·rcases List.mem_append.1 e with e | e
    ·obtain ⟨y,hy,he⟩:=List.mem_map.1 e
     injection he with e1 e2
     exact .inr (.inl ⟨y,hy,e1.symm,e2.symm⟩)
    ·exact .inr (.inr (look_of_mem A.u.nd (List.mem_filter.1 e).1))
  have hridK:∀n∈rcl.map (·.1),n∈rids d sp.rs.length:=by
   intro n hn
   obtain ⟨y,hy,rfl⟩:=List.mem_map.1 hn
   have:=List.all_eq_true.1 hrid _ (List.mem_map.2 ⟨y,hy,rfl⟩)
   simpa using this
  have hrid6:∀n∈rids d sp.rs.length,1000000≤n:=by
   intro n hn
   obtain ⟨j,_,rfl⟩:=List.mem_map.1 hn
   unfold rid
   omega
  -- what comes back
  have lentR:∀id,id∈g'.l.map (·.2)→∃r0 n r',look rcs id=some r0∧look Rl n=some r0∧look RN id=some r'∧r'.head=r0.head∧r'.K=r0.K∧r'.box.isSome=r0.box.isSome:=by
   intro id hid
   obtain ⟨⟨n,id'⟩,hm,rfl⟩:=List.mem_map.1 hid
   rcases A.lent _ hm with e | ⟨⟨r0,e1,e2⟩,e3⟩
   ·cases e
   ·obtain ⟨r',q1,q2,q3,q4⟩:=bk2 n r0 e1 (Nat.zero_le _) e3
    have hln:look g'.l n=some id':=look_of_mem ndl hm
    have:=mem2 _ q1
    simp only[ren,hln,getD_some] at this
    exact ⟨r0,n,r',e2,e1,this,q2,q3,q4⟩
  have boxR:∀ {r0 r':RC} {b:Nat} {t:TypeId},r'.head=r0.head→r'.box.isSome=r0.box.isSome→r0.box=some (b,t)→∃t',r'.box=some (b,t'):=by
   intro r0 r' b t e1 e2 e3
   rw[e3] at e2
   obtain ⟨⟨b',t'⟩,e4⟩:=Option.isSome_iff_exists.1 (show r'.box.isSome=true from e2)
   simp only[RC.head,e3,e4] at e1
   injection e1 with e1
   injection e1 with e1
   injection e1 with e1
   subst e1
   exact ⟨t',e4⟩
  have restG:∀id r,look rcs' id=some r→look rcs id=some r:=A.subL
  -- fragments
  have stR:∃hN',Star Γn (rcl++lO.map (ren g'.l)) hN'∧∀b v,hN' b=some v→hN b=some v:=by
   refine star_some ?_ n5
   rw[map_append,map_append]
   refine List.Sublist.append hsl ?_
   rw[map_map]
   exact List.Sublist.refl _
  obtain ⟨hN',stN,subN⟩:=stR
  obtain ⟨hr,stH,subH⟩:∃hr,Star Γn (rcs'.filter fun x=>!(rcl.map (·.1)).contains x.1) hr∧∀b v,hr b=some v→h' b=some v :=
   star_some (List.Sublist.map _ List.filter_sublist) (star_mono n1 A.u.st)
  have hL_h:∀b v,hL b=some v→h b=some v:=fun b v e=>A.sub b v (un_left e)
  have h'_h:∀b v,h' b=some v→h b=some v:=fun b v e=>A.sub b v (un_right A.dj e)
  have hlt:∀b,h'.has b→b<w.heap.size:=fun b hb=>g.mem.lt (has_sub h'_h b hb)
  have dN:HF.dj hN' hr:=HF.dj_iff.2 fun b hb hx=>by
   have hb':=has_sub subH b hx
   rcases AF.own b (has_sub subN b hb) with e | e
   ·exact HF.dj_iff.1 A.dj b e hb'
   ·have:=hlt b hb'; omega
  have same:∀b,h'.has b→w'.heap[b]? = w.heap[b]? := fun b hb=>AF.keep b (hlt b hb) fun e=>HF.dj_iff.1 A.dj b e hb
  have memr:Mem hr w':=by
   intro b x e
   have hb:h'.has b:=has_sub subH b (by unfold HF.has; rw[e]; simp)
   exact (g.mem b x (h'_h b _ (subH b _ e))).same (same b hb)
  have hnew:∀b,(hN'.un hr).has b→h.has b∨w.heap.size≤b:=by
   intro b hb
   rcases HF.has_un.1 hb with e | e
   ·rcases AF.own b (has_sub subN b e) with q | q
    ·exact .inl (has_sub hL_h b q)
    ·exact .inr q
   ·exact .inl (has_sub h'_h b (has_sub subH b e))
  refine ⟨_,⟨Γn,RN,hN'.un hr,?_⟩,hk⟩
  refine ⟨rfl,nd,?_,(Mem.un dN).2 ⟨AF.mem.mono subN,memr⟩,fun b x e=>AF.memR b x (n2 b _ e),?_,g.defers,by simp[Act.put,g.tsz],?_,Nat.le_trans g.size AF.size,?_,?_,?_,fun b x e=>n1 b x (g.ro0 b x e),AF.os.trans g.os,AF.tape.trans g.tape,AF.output.trans g.output,(fun x hx=>n1 x.1 _ (g.sg x hx)),?_,?_⟩
  ·rw[←hRN,←List.append_assoc]
   exact star_append stN stH dN
  ·refine HF.dj_un.2 ⟨?_,?_⟩
   ·exact HF.dj_iff.2 fun b hb hx=>HF.dj_iff.1 AF.dj b (has_sub n2 b hb) (has_sub subN b hx)
   ·exact HF.dj_iff.2 fun b hb hx=>HF.dj_iff.1 n3 b hb (has_sub subH b hx)
  ·intro t av hm
   rcases List.mem_cons.1 hm with e | e
   ·injection e with e1 e2
    subst e1; subst e2
    refine ⟨v,by simp[Act.put,g.tsz,hd],?_⟩
    rw[AF.v]
    exact pack_is hlen (hres RN mem1)
   ·rcases List.mem_append.1 e with e | e
    ·obtain ⟨e1,e2⟩:=List.mem_filter.1 e
     simp only[Bool.and_eq_true,bne_iff_ne,ne_eq] at e2
     obtain ⟨e2,e3⟩:=e2
     obtain ⟨u,hu,hi⟩:=g.tm t av e1
     refine ⟨u,by simp only[Act.put]; rw[Array.getElem?_setIfInBounds_ne (Ne.symm e2)]; exact hu,?_⟩
     cases av with
     |tup l=>cases e3
     |one sv =>
      cases sv with
      |ptr id p =>
       simp only[keepV,Bool.and_eq_true,contains_eq_mem,decide_eq_true_eq] at e3
       obtain ⟨e4,e5⟩:=e3
       obtain ⟨r1,q,hr1,hp,hb,hv⟩:=hi
       obtain ⟨r0,n,r',f1,f2,f3,f4,f5,f6⟩:=lentR id e4
       rw[hr1] at f1
       injection f1 with f1
       subst f1
       have hcc:look s.ck id=some r1.ck:=by rw[g.chunk id,hr1]; rfl
       rw[hcc] at e5
       simp only[Bool.and_eq_true,RC.ck,Option.isSome_map] at e5
       obtain ⟨e5,e6⟩:=e5
       obtain ⟨off,hoff⟩:=Option.isSome_iff_exists.1 e5
       obtain ⟨⟨b,t1⟩,hbx⟩:=Option.isSome_iff_exists.1 e6
       obtain ⟨t',hbx'⟩:=boxR f4 f6 hbx
       obtain ⟨q1,g1,g2⟩:=offOf_pl p r1.x r1.z ((r1.box.getD (0,0)).1,0) off hoff
       rw[hp] at g1
       injection g1 with g1
       subst g1
       obtain ⟨q2,g3,g4⟩:=offOf_pl p (K:=r'.K) r'.x r'.z ((r'.box.getD (0,0)).1,0) off (by rw[f5]; exact hoff)
       refine ⟨r',q2,f3,g3,fun e=>(by rw[hbx'] at e; cases e),?_⟩
       rw[hv,g2,g4,hbx,hbx']
       rfl
      | «at» id p =>
       cases p with
       |cons _ _=>cases e3
       |nil =>
        simp only[keepV,Bool.and_eq_true,contains_eq_mem,decide_eq_true_eq] at e3
        obtain ⟨e4,e5⟩:=e3
        obtain ⟨r1,q,hr1,hp,hv⟩:=hi
        obtain ⟨r0,n,r',f1,f2,f3,f4,f5,f6⟩:=lentR id e4
        rw[hr1] at f1
        injection f1 with f1
        subst f1
        have hcc:look s.ck id=some r1.ck:=by rw[g.chunk id,hr1]; rfl
        rw[hcc] at e5
        simp only[RC.ck,Option.isNone_map,Option.isNone_iff_eq_none] at e5
        rw[e5] at f6
        have hb':r'.box=none:=by cases hq:r'.box with
         |none=>rfl
         |some x=>rw[hq] at f6; cases f6
        simp only[pl,Option.some.injEq] at hp
        subst hp
        simp only[RC.head,e5,hb'] at f4
        exact ⟨r',⟨r'.K,r'.x,r'.z,((r'.box.getD (0,0)).1,0)⟩,f3,by simp[pl],hv.trans f4.symm⟩
      |clo f ids =>
       simp only[keepV,all_eq_true,Bool.and_eq_true,contains_eq_mem,decide_eq_true_eq] at e3
       obtain ⟨us,hv,hul,hall⟩:=hi
       refine ⟨us,hv,hul,fun j id hj=>?_⟩
       obtain ⟨r1,b,t1,hr1,hbx,hvv⟩:=hall j id hj
       obtain ⟨e4,e5⟩:=e3 id (mem_of_getElem? hj)
       obtain ⟨r0,n,r',f1,f2,f3,f4,f5,f6⟩:=lentR id e4
       rw[hr1] at f1
       injection f1 with f1
       subst f1
       obtain ⟨t',hbx'⟩:=boxR f4 f6 hbx
       exact ⟨r',b,t',f3,hbx',hvv⟩
      |_=>cases e3
    ·obtain ⟨e1,e2⟩:=List.mem_filter.1 e
     simp only[Bool.and_eq_true,bne_iff_ne,ne_eq,all_eq_true] at e2
     obtain ⟨e2,e3⟩:=e2
     obtain ⟨u,hu,hi⟩:=A.u.tm (t,av) e1
     refine ⟨u,by simp only[Act.put]; rw[Array.getElem?_setIfInBounds_ne (Ne.symm e2)]; exact hu,?_⟩
     refine AV.is_mono n1 (ids_is (keys:=rcl.map (·.1)) (fun c hc=>?_) hi mem3)
     obtain ⟨y,hy,rfl⟩:=List.mem_map.1 hc
     exact e3 _ (List.mem_map.2 ⟨y,hy,rfl⟩)
  ·intro b hb1 hb2
   have:¬hL.has b:=fun e=>by
    rcases g.own b (has_sub hL_h b e) with q | q
    ·exact hb2 q
    ·omega
   rw[AF.keep b (Nat.lt_of_lt_of_le hb1 g.size) this]
   exact g.keep b hb1 hb2
  ·intro b hb
   rcases hnew b hb with e | e
   ·exact g.own b e
   ·exact .inr (Nat.le_trans g.size e)
  ·intro b hb
   rcases n4 b hb with e | e | e
   ·exact g.ro b e
   ·exact .inr (g.own b (has_sub hL_h b e))
   ·exact .inr (.inr (Nat.le_trans g.size e))
  ·intro e he
   obtain ⟨b1,b2⟩:=hB e he
   obtain ⟨⟨c1,c2⟩,c3⟩:=g.bx e he
   cases hid:e.id with
   |none =>
    have hemp:=b1 hid
    refine ⟨⟨?_,Nat.lt_of_lt_of_le c2 AF.size⟩,fun id hid'=>by rw[hid] at hid'; cases hid'⟩
    rw[AF.keep e.b c2 (by rw[hemp]; simp[HF.has,HF.emp])]
    exact c1
   |some id =>
    obtain ⟨b3,b4⟩:=b2 id hid
    obtain ⟨r1,t1,q1,q2⟩:=c3 id hid
    have q3:look rcs' id=some r1:=by rw[A.taken id b3]; exact q1
    have q4:=mem3 id r1 (fun hm=>b4 (hridK id hm)) q3
    obtain ⟨h3,h4,_,e4,o⟩:=star_take A.u.st q3
    have hbh:h'.has e.b:=by rw[e4]; exact HF.has_un.2 (.inl (box_has o q2))
    refine ⟨⟨by rw[same _ hbh]; exact c1,Nat.lt_of_lt_of_le c2 AF.size⟩,fun id' hid'=>?_⟩
    rw[hid] at hid'
    injection hid' with hid'
    subst hid'
    exact ⟨r1,t1,q4,q2⟩
  ·intro m hm r1 hr1
   have hm6:=(F.hM m hm).2
   rcases memX _ _ hr1 with e | ⟨y,hy,e1,e2⟩ | e
   ·have:=hrid6 _ (hridK _ e); omega
   ·obtain ⟨i1,r0,i2,i3⟩:=back_idx sp.ps 0 r.2 lO AF.back y hy
    obtain ⟨id,hid⟩:=Option.isSome_iff_exists.1 (List.all_eq_true.1 hbi _ i1)
    rw[hid,getD_some] at e1
    subst e2
    rcases A.lent _ (look_mem hid) with q | ⟨⟨r2,q1,q2⟩,_⟩
    ·cases q
    ·simp only at q1 q2
     rw[i2] at q1
     injection q1 with q1
     subst q1
     rw[i3]
     exact g.md m hm r0 (by rw[e1]; exact q2)
   ·exact g.md m hm r1 (restG _ _ e)
 ·exact hk.elim
theorem stCall_ok {P:Program} {F:Fr} {cfg:Nat→Option Spec} (hcfg:∀f sp,cfg f=some sp→Callable P f∧Valid P f sp) {o:Oper} {c:Call} {s:St} {k:St→Tr α} (ho:o.op=.call c):WorldOK P F o s (stCall cfg F.n o c s k) k (effCall cfg s c o.dst):=by
 unfold stCall
 split
 ·rename_i f ids pre d hcal hd
  split
  ·rename_i sp hsp
   intro Kp a w Γ rcs h Q g he hs
   obtain ⟨hf,hval⟩:=hcfg f sp hsp
   -- the callee
   obtain ⟨x,hcx,fs,us,hv,har⟩:∃x,c.callee=.value x∧∃fs us:List Value,a.eval x=.func (.func f) fs.toArray us.toArray∧ArIs a rcs (ars c ids pre) (fs++(c.args.toList.map a.eval++us)):=by
    unfold calleeOf at hcal
    split at hcal
    ·rename_i x hx
     split at hcal
     ·rename_i f' ids' hx'
      injection hcal with hcal
      injection hcal with e1 e2
      injection e2 with e2 e3
      subst e1; subst e2; subst e3
      obtain ⟨us,hv,hul,hall⟩:=g.opoIs hx'
      exact ⟨x,hx,[],us,hv,ars_is (a:=a) (Γ:=Γ) hul hall c.args.toList⟩
     ·rename_i f' K' x' hx'
      injection hcal with hcal
      injection hcal with e1 e2
      injection e2 with e2 e3
      subst e1; subst e2; subst e3
      obtain ⟨hfr,z,hown,hv⟩:=g.opoIs hx'
      exact ⟨x,hx,[toV K' (K'.cells x' z)],[],hv,_,z,rfl,hfr,hown,ars_is (a:=a) (Γ:=Γ) (us:=[]) (ids:=[]) rfl (fun i id h=>by simp at h) c.args.toList⟩
     ·cases hcal
    ·cases hcal
   obtain ⟨xs,g',rcs',h',hL,Rl,A,hs1⟩:=argsT_ok (w:=w) sp.ps (ars c ids pre) 0 ⟨s,[],[],[],[]⟩ rcs h _ g.sub (fun _ _ e=>e) har hs
   split at hs1
   ·rename_i hok
    simp only[callOK,Bool.and_eq_true,Bool.or_eq_true,decide_eq_true_eq] at hok
    obtain ⟨⟨⟨⟨ok1,ok2⟩,ok3⟩,ok4⟩,hdn⟩:=hok
    obtain ⟨r,hr,hs2⟩:=hs1
    have dLh:=A.dj
    have hL_h:∀b v,hL b=some v→h b=some v:=fun b v e=>A.sub b v (un_left e)
    have h'_h:∀b v,h' b=some v→h b=some v:=fun b v e=>A.sub b v (un_right A.dj e)
    -- what is watched
    have hB:∀e∈F.B,(e.id=none→hL=HF.emp)∧∀id,e.id=some id→id∉g'.tk∧id∉rids d sp.rs.length:=by
     intro e hm
     have h1:=he e hm
     have heff:effCall cfg s c o.dst=⟨(argIds s sp.ps (ars c ids pre)).isEmpty,argIds s sp.ps (ars c ids pre)++rids d sp.rs.length⟩:=by
      simp only[effCall,hcal,hsp,hd,getD_some]
     refine ⟨fun hid=>?_,fun id hid=>?_⟩
     ·rw[hid] at h1
      simp only at h1
      rw[h1] at ok4
      refine A.none ?_
      rcases ok4 with q | q
      ·have:g'.tk=[]:=by simpa using q
       rw[this]
      ·cases q
     ·rw[hid] at h1
      simp only at h1
      refine ⟨fun q=>?_,fun q=>?_⟩
      ·have:=List.all_eq_true.1 ok3 id q
       simp only[contains_eq_mem,decide_eq_true_eq] at this
       exact h1 this
      ·rw[heff] at h1
       exact h1 (mem_append_right _ q)
    have hcs:∀x∈g'.cs,∃r,look Rl x.1=some r∧look rcs x.2=some r:=by
     intro x hx
     have:=List.all_eq_true.1 ok1 x hx
     simp only[beq_iff_eq] at this
     rcases A.lent _ (look_mem this) with q | ⟨⟨r,q1,q2⟩,_⟩
     ·cases q
     ·exact ⟨r,q1,q2⟩
    have main:∀(Γc:HF),(∀b v,Γ b=some v→Γc b=some v)→(g'.vw≠[]→∀b v,h' b=some v→Γc b=some v)→MemR Γc w→HF.dj Γc hL →
      (∀(Γ' hN:HF) (v:Value) (w':World) (vs:List Value) (lR lO:List (Nat×RC)),After Γc hL w Rl sp r v w' Γ' hN vs lR lO→∃Γn:HF,(∀b v,Γ b=some v→Γn b=some v)∧(∀b v,Γn b=some v→Γ' b=some v)∧HF.dj Γn h'∧(∀b,Γn.has b→Γ.has b∨hL.has b∨w.heap.size≤b)∧Star Γn (lR++lO) hN∧ResIs Γn sp.rs r.1 vs lR) →
      o.wp P a w (fun a' w'=>∃s',R F s' a' w'∧(k s').sat Kp) Q:=by
     intro Γc hc1 hc2 hc3 hc4 hc5
     unfold Oper.wp
     rw[run_call ho hcx hv hf,Oper.upon_enter,hd]
     have hentry:=A.entry Γc Rl hc1 hc2 (fun _ _ e=>e) hcs
     refine (hval xs r hr w Γc hL Rl _ (by simpa using hentry) A.ck (star_mono hc1 A.st) (g.mem.mono hL_h) hc3 hc4).mono ?_
     rintro e w' ⟨v,Γ',hN,vs,lR,lO,rfl,AF⟩
     obtain ⟨Γn,n1,n2,n3,n4,n5,n6⟩:=hc5 Γ' hN v w' vs lR lO AF
     obtain ⟨l,rcl,hk,hsl,hlen,hres⟩:=resSV_ok sp.rs 0 r.1 vs lR n6 hs2
     exact call_end g A AF n1 n2 n3 n4 n5 n6 hdn hB hk hsl hlen hres
    have djh:HF.dj Γ hL:=HF.dj_iff.2 fun b hb hx=>HF.dj_iff.1 g.dj b hb (has_sub hL_h b hx)
    have djh':HF.dj Γ h':=HF.dj_iff.2 fun b hb hx=>HF.dj_iff.1 g.dj b hb (has_sub h'_h b hx)
    by_cases hvw:g'.vw=[]
    ·refine main Γ (fun _ _ e=>e) (fun q=>absurd hvw q) g.memR djh ?_
     intro Γ' hN v w' vs lR lO AF
     refine ⟨Γ',AF.ro,fun _ _ e=>e,?_,AF.rd,AF.star,AF.res⟩
     refine HF.dj_iff.2 fun b hb hx=>?_
     rcases AF.rd b hb with q | q | q
     ·exact HF.dj_iff.1 djh' b q hx
     ·exact HF.dj_iff.1 A.dj b q hx
     ·have:=g.mem.lt (has_sub h'_h b hx); omega
    ·have hsh:sp.ps.all parSh=true∧(sp.rs.all fun r=>noSh (rsKind r))=true:=by
      rcases ok2 with q | q
      ·exact absurd (by simpa using q) hvw
      ·exact q
     have sh1:∀p∈sp.ps,parSh p=true:=fun p hp=>List.all_eq_true.1 hsh.1 p hp
     have sh2:∀r∈sp.rs,noSh (rsKind r)=true:=fun r hr=>List.all_eq_true.1 hsh.2 r hr
     refine main (Γ.un h') (fun b v e=>un_left e) (fun _ b v e=>un_right djh' e) ?_ (HF.un_dj.2 ⟨djh,A.dj.symm⟩) ?_
     ·intro b x e
      cases e1:Γ b with
      |some q =>
       simp only[HF.un,e1,Option.some_or,Option.some.injEq] at e
       subst e
       exact g.memR b _ e1
      |none =>
       simp only[HF.un,e1,Option.none_or] at e
       exact (g.mem b x (h'_h b _ e)).r
     ·intro Γ' hN v w' vs lR lO AF
      refine ⟨Γ'.minus h',fun b v e=>?_,fun b v e=>(minus_sub e).1,?_,fun b hb=>?_,star_indep ?_ AF.star,resIs_indep sh2 AF.res⟩
      ·have h1:=AF.ro b v (un_left e)
       have h2:h' b=none:=by
        rcases djh' b with q | q
        ·rw[q] at e; cases e
        ·exact q
       unfold HF.minus
       rw[h2]
       exact h1
      ·intro b
       cases hb:h' b with
       |none=>exact .inr rfl
       |some x=>left; unfold HF.minus; rw[hb]
      ·cases e:(Γ'.minus h') b with
       |none=>exact absurd e hb
       |some x =>
        obtain ⟨e1,e2⟩:=minus_sub e
        rcases AF.rd b (by unfold HF.has; rw[e1]; simp) with q | q | q
        ·rcases HF.has_un.1 q with q | q
         ·exact .inl q
         ·exact absurd e2 q
        ·exact .inr (.inl q)
        ·exact .inr (.inr q)
      ·intro y hy
       rcases List.mem_append.1 hy with q | q
       ·exact resIs_kinds sh2 AF.res y q
       ·exact back_kinds sh1 AF.back y q
   ·exact hs1.elim
  ·exact world_bad
 ·exact world_bad
theorem Each.window {p:Nat→HF→Prop} {off:Nat}:∀ {n len:Nat} {h:HF},off+len≤n→Each p n h→∃h',(∀b v,h' b=some v→h b=some v)∧Each (fun i=>p (off+i)) len h'
 |0,len,h,hle,e=>by
  obtain rfl:len=0:=by omega
  exact ⟨HF.emp,fun b v e=>by simp[HF.emp] at e,rfl⟩
 |n+1,len,h,hle,e=>by
  obtain ⟨h1,h2,d,rfl,e1,e2⟩:=e
  cases len with
  |zero=>exact ⟨HF.emp,fun b v e=>by simp[HF.emp] at e,rfl⟩
  |succ len =>
   by_cases hc:off+len=n
   ·subst hc
    obtain ⟨h',s',e'⟩:=Each.window (len:=len) (Nat.le_refl _) e1
    have d':HF.dj h' h2:=HF.dj_iff.2 fun b hb hx=>HF.dj_iff.1 d b (has_sub s' b hb) hx
    exact ⟨h'.un h2,un_mono d s' (fun _ _ e=>e),h',h2,d',rfl,e',e2⟩
   ·have hl:off+(len+1)≤n:=by omega
    obtain ⟨h',s',e'⟩:=Each.window (n:=n) (len:=len+1) hl e1
    exact ⟨h',fun b v e=>un_left (s' b v e),e'⟩
theorem mono_emp {h:HF}:∀b v,HF.emp b=some v→h b=some v:=fun b v e=>by simp[HF.emp] at e
theorem own_window {Γ:HF} {t:TypeId} {e:Kd} {xs:List e.T} {b o cap off len:Nat} {zf:Nat→e.Z} {h:HF} (ho:(Kd.sl true t e none).Own Γ xs (some (b,o,cap),zf) h) (hle:off+len≤xs.length) :
  ∃h',(∀b v,h' b=some v→h b=some v)∧(Kd.sl true t e none).Own Γ ((xs.drop off).take len) (some (b,o+off*e.size,cap-off),fun i=>zf (off+i)) h':=by
 obtain ⟨c,h2,h1,h3,h4,h5,h6,h7⟩:=ho
 simp only[if_true] at h7
 obtain ⟨d,rfl⟩:=h7
 have hlen:((xs.drop off).take len).length=len:=by simp; omega
 obtain ⟨h',s',e'⟩:=Each.window hle h6
 have d':HF.dj (HF.one b c t) h':=HF.dj_iff.2 fun b hb hx=>HF.dj_iff.1 d b hb (has_sub s' b hx)
 refine ⟨(HF.one b c t).un h',un_mono d (fun _ _ e=>e) s',c,h',by rw[hlen]; omega,by omega,?_,?_,?_,?_⟩
 ·have:off*e.size+(cap-off)*e.size=cap*e.size:=by rw[←Nat.add_mul]; congr 1; omega
  omega
 ·intro i hi
  rw[hlen] at hi
  have:=h5 (off+i) (by omega)
  rw[getD_window hi,Nat.add_assoc,←Nat.add_mul]
  exact this
 ·rw[hlen]
  refine Each.congr (fun i hi h ho=>?_) e'
  rw[if_neg (by simp)] at ho ⊢
  rw[getD_window hi]
  exact ho
 ·simp only[if_true]
  exact ⟨d',trivial⟩
theorem own_window0 {Γ:HF} {t:TypeId} {e:Kd} {xs:List e.T} {b o cap off2 cap2:Nat} {zf:Nat→e.Z} {h:HF} (ho:(Kd.sl true t e none).Own Γ xs (some (b,o,cap),zf) h) (h1:cap2≤cap) (h2:off2+cap2*e.size≤o+cap*e.size) :
  ∃h',(∀b v,h' b=some v→h b=some v)∧(Kd.sl true t e none).Own Γ [] (some (b,off2,cap2),zf) h':=by
 obtain ⟨c,h2',h1',h3,h4,h5,h6,h7⟩:=ho
 simp only[if_true] at h7
 obtain ⟨d,rfl⟩:=h7
 refine ⟨HF.one b c t,fun b v e=>un_left e,c,HF.emp,Nat.zero_le _,by omega,by omega,(fun i hi=>by cases hi),rfl,?_⟩
 simp only[if_true]
 exact ⟨HF.dj_emp _,(HF.un_emp _).symm⟩
theorem Good.swap {F:Fr} {s:St} {a:Act} {w:World} {Γ:HF} {rcs:List (Nat×RC)} {h:HF} (g:Good F s a w Γ rcs h) {id new t:Nat} {r rn:RC} (hr:look rcs id=some r) (hbn:rn.box=none) (hnew:1000000≤new) (hfr:look rcs new=none)
  (hown:∀h1,r.Own Γ h1→∃hN,(∀b v,hN b=some v→h1 b=some v)∧rn.K.Own Γ rn.x rn.z hN) {v:Value} (ht:a.tmps[t]? = some v) (hv:v=toV rn.K (rn.K.cells rn.x rn.z)) (hB:∀e∈F.B,e.id≠some id) :
  ∃h',Good F ⟨(t,.one (.at new []))::s.tm.filter fun y=>y.1 != t&&(offA id y.2&&offA new y.2),(new,rn.ck)::del s.ck id⟩ a w Γ ((new,rn)::del rcs id) h':=by
 obtain ⟨h1,hR,d,e,o,put,dl⟩:=star_upd g.star hr g.nodup
 obtain ⟨hN,sN,oN⟩:=hown h1 o
 have dN:HF.dj hN hR:=HF.dj_iff.2 fun b hb hx=>HF.dj_iff.1 d b (has_sub sN b hb) hx
 have hsub:∀b v,(hN.un hR) b=some v→h b=some v:=by rw[e]; exact un_mono d sN (fun _ _ e=>e)
 have hne:id≠new:=fun f=>by rw[←f,hr] at hfr; cases hfr
 have hnk:new∉rcs.map (·.1):=fun hm=>by
  obtain ⟨y,hy,hy2⟩:=List.mem_map.1 hm
  have:=look_of_mem g.nodup hy
  rw[hy2,hfr] at this
  cases this
 refine ⟨hN.un hR,?_,?_,⟨hN,hR,dN,rfl,?_,dl⟩,g.mem.mono hsub,g.memR,HF.dj_iff.2 fun b hb hx=>HF.dj_iff.1 g.dj b hb (has_sub hsub b hx),g.defers,g.tsz,?_,g.size,g.keep,fun b hb=>g.own b (has_sub hsub b hb),g.ro,g.ro0,g.os,g.tape,g.output,g.sg,?_,?_⟩
 ·rw[map_cons,←g.ck]
  simp only[del,filter_map]
  rfl
 ·rw[map_cons,nodup_cons]
  refine ⟨fun hm=>hnk ?_,del_nodup g.nodup id⟩
  obtain ⟨y,hy,hy2⟩:=List.mem_map.1 hm
  exact List.mem_map.2 ⟨y,(List.mem_filter.1 hy).1,hy2⟩
 ·unfold RC.Own
  simp only[hbn]
  exact oN
 ·intro t' av hm
  rcases List.mem_cons.1 hm with e | e
  ·injection e with e1 e2
   subst e1; subst e2
   exact ⟨v,ht,rn,⟨rn.K,rn.x,rn.z,((rn.box.getD (0,0)).1,0)⟩,if_pos (beq_self_eq_true new),by simp[pl],hv⟩
  ·obtain ⟨m1,m2⟩:=List.mem_filter.1 e
   simp only[Bool.and_eq_true] at m2
   obtain ⟨u,hu,hi⟩:=g.tm t' av m1
   exact ⟨u,hu,cons_is m2.2.2 (offA_is m2.2.1 hi)⟩
 ·intro e0 he
  obtain ⟨b1,b2⟩:=g.bx e0 he
  refine ⟨b1,fun id2 hid2=>?_⟩
  obtain ⟨r2,t2,hr2,hb2⟩:=b2 id2 hid2
  have n1:id2≠id:=fun f=>hB e0 he (by rw[hid2,f])
  have n2:id2≠new:=fun f=>by rw[f,hfr] at hr2; cases hr2
  exact ⟨r2,t2,by rw[look,if_neg (by simpa using Ne.symm n2),look_del _ n1]; exact hr2,hb2⟩
 ·intro m hm r' hr'
  have n2:m.1≠new:=fun f=>by have:=(F.hM m hm).2; omega
  rw[look,if_neg (by simpa using Ne.symm n2)] at hr'
  exact g.md m hm r' (del_look rcs id _ _ hr')
def swapS (s:St) (t id new:Nat) (c:Ck):St:=⟨(t,.one (.at new []))::s.tm.filter fun y=>y.1 != t&&(offA id y.2&&offA new y.2),(new,c)::del s.ck id⟩
def oid (t:Nat):Nat:=4000000+2*t
def oid2 (t:Nat):Nat:=4000001+2*t
def winS (s:St) (t id off len:Nat):St:=match look s.ck id with
 |some ⟨none,.sl true te e none,xs⟩=>if (look s.ck (oid t)).isNone then swapS s t id (oid t) ⟨none,.sl true te e none,(drop off xs).take len⟩ else s
 |_=>s
def own1 (s:St) (t:Nat):St:=match look s.tm t with
 |some (.one (.at id []))=>match look s.ck id with
  |some ⟨some _,K,x⟩=>if (look s.ck (oid t)).isNone then swapS s t id (oid t) ⟨none,K,x⟩ else s
  |_=>s
 |some (.one (.at id (p0::p)))=>match detach s id (p0::p) (oid t) with
  |some (_,s')=>⟨(t,.one (.at (oid t) []))::del s'.tm t,s'.ck⟩
  |none=>s
 |some (.one (.slc id [] off len))=>winS s t id off len
 |some (.one (.slc id (p0::p) off len))=>match detach s id (p0::p) (oid2 t) with
  |some (_,s')=>winS ⟨(t,.one (.slc (oid2 t) [] off len))::del s'.tm t,s'.ck⟩ t (oid2 t) off len
  |none=>s
 |_=>s
def ownIds1 (s:St) (t:Nat):List Nat:=match look s.tm t with
 |some (.one (.at id []))=>[id]
 |_=>[]
theorem look_rc {F:Fr} {s:St} {a:Act} {w:World} {Γ:HF} {rcs:List (Nat×RC)} {h:HF} (g:Good F s a w Γ rcs h) {id:Nat} {c:Ck} (hl:look s.ck id=some c):∃r,look rcs id=some r∧r.ck=c:=by
 rw[←g.ck,look_mapC] at hl
 cases hr:look rcs id with
 |none=>rw[hr] at hl; cases hl
 |some r=>rw[hr] at hl; simp at hl; exact ⟨r,rfl,hl⟩
theorem look_no {F:Fr} {s:St} {a:Act} {w:World} {Γ:HF} {rcs:List (Nat×RC)} {h:HF} (g:Good F s a w Γ rcs h) {id:Nat} (hl:(look s.ck id).isNone=true):look rcs id=none:=by
 rw[←g.ck,look_mapC] at hl
 simpa using hl
theorem Good.cons {F:Fr} {s:St} {a:Act} {w:World} {Γ:HF} {rcs:List (Nat×RC)} {h:HF} (g:Good F s a w Γ rcs h) {t:Nat} {v:Value} (ht:a.tmps[t]? = some v) {av:AV} (hi:av.is Γ rcs v):Good F ⟨(t,av)::del s.tm t,s.ck⟩ a w Γ rcs h :=
 ⟨g.ck,g.nodup,g.star,g.mem,g.memR,g.dj,g.defers,g.tsz,fun t' av' hm=>by
  rcases List.mem_cons.1 hm with e | e
  ·injection e with e1 e2
   subst e1; subst e2
   exact ⟨v,ht,hi⟩
  ·exact g.tm t' av' (List.mem_filter.1 e).1,g.size,g.keep,g.own,g.ro,g.ro0,g.os,g.tape,g.output,g.sg,g.bx,g.md⟩
theorem winS_ok {F:Fr} {s:St} {a:Act} {w:World} {Γ:HF} {rcs:List (Nat×RC)} {h:HF} (g:Good F s a w Γ rcs h) {t id off len:Nat} {v:Value} (ht:a.tmps[t]? = some v) (hi:(SV.slc id [] off len).is Γ rcs v):∃rcs' h',Good F (winS s t id off len) a w Γ rcs' h':=by
 unfold winS
 split
 ·rename_i te e xs hl
  split
  ·rename_i hn
   obtain ⟨r,hr,hck⟩:=look_rc g hl
   obtain ⟨rb,K,x,z⟩:=r
   simp only[RC.ck,Ck.mk.injEq] at hck
   obtain ⟨c1,rfl,c3⟩:=hck
   obtain rfl:=eq_of_heq c3
   have hb:rb=none:=by cases rb<;>simp_all
   subst hb
   obtain ⟨r0,t0,e0,hole,x',z',a',hr0,hp,hle,hcase⟩:=hi
   rw[hr] at hr0
   injection hr0 with hr0
   subst hr0
   simp only[pl,Option.some.injEq,At.mk.injEq,Kd.sl.injEq,true_and] at hp
   obtain ⟨⟨rfl,rfl,rfl⟩,hx,hz,_⟩:=hp
   obtain rfl:=eq_of_heq hx
   obtain rfl:=eq_of_heq hz
   have hB:∀e∈F.B,e.id≠some id:=fun e he f=>by
    obtain ⟨r2,t2,hr2,hb2⟩:=(g.bx e he).2 id f
    rw[hr] at hr2
    injection hr2 with hr2
    subst hr2
    cases hb2
   have hlen:((drop off x).take len).length=len:=by simp; omega
   have done:∀(z':(Kd.sl true te e none).Z),(∀h1,(Kd.sl true te e none).Own Γ x z h1→∃hN,(∀b v,hN b=some v→h1 b=some v)∧(Kd.sl true te e none).Own Γ ((drop off x).take len) z' hN)→v=hdr z'.1 len→∃rcs' h',Good F (swapS s t id (oid t) ⟨none,.sl true te e none,(drop off x).take len⟩) a w Γ rcs' h':=by
    intro z' ho hv
    obtain ⟨h',g'⟩:=g.swap (t:=t) (rn:=⟨none,.sl true te e none,(drop off x).take len,z'⟩) hr rfl (by unfold oid; omega) (look_no g hn) (fun h1 o=>ho h1 o) ht (by
     simp only[toV,single,if_true,Kd.cells,List.getD_cons_zero,hlen]
     exact hv) hB
    exact ⟨_,h',g'⟩
   obtain ⟨zo,zf⟩:=z
   rcases hcase with ⟨h0,hcase⟩ | ⟨b,o,cap,hz,hv⟩
   ·subst h0
    rcases hcase with hv | ⟨b,o,cap,off2,cap2,hz,hv,q1,q2⟩
    ·refine done (none,zf) (fun h1 _=>⟨HF.emp,mono_emp,?_⟩) hv
     exact ⟨by simp,rfl⟩
    ·simp only at hz
     subst hz
     refine done (some (b,off2,cap2),zf) (fun h1 o=>?_) hv
     simp only[List.take_zero]
     exact own_window0 o q1 q2
   ·simp only at hz
    subst hz
    exact done (some (b,o+off*e.size,cap-off),fun i=>zf (off+i)) (fun h1 ho=>own_window ho hle) hv
  ·exact ⟨rcs,h,g⟩
 ·exact ⟨rcs,h,g⟩
theorem own1_ok {F:Fr} {s:St} {a:Act} {w:World} {Γ:HF} {rcs:List (Nat×RC)} {h:HF} (g:Good F s a w Γ rcs h) {t:Nat} (hB:∀e∈F.B,∀id∈ownIds1 s t,e.id≠some id):∃rcs' h',Good F (own1 s t) a w Γ rcs' h':=by
 unfold own1
 split
 ·rename_i id hl
  split
  ·rename_i b K x hc
   split
   ·rename_i hn
    obtain ⟨r,hr,hck⟩:=look_rc g hc
    obtain ⟨rb,K',x',z⟩:=r
    simp only[RC.ck,Ck.mk.injEq] at hck
    obtain ⟨c1,rfl,c3⟩:=hck
    obtain rfl:=eq_of_heq c3
    obtain ⟨v,hv,hi⟩:=g.tm t _ (look_mem hl)
    obtain ⟨r0,q,hr0,hp,hvv⟩:=hi
    rw[hr] at hr0
    injection hr0 with hr0
    subst hr0
    simp only[pl,Option.some.injEq] at hp
    subst hp
    obtain ⟨h',g'⟩:=g.swap (t:=t) (rn:=⟨none,K',x',z⟩) hr rfl (by unfold oid; omega) (look_no g hn) (fun h1 o=>(rc_own o).imp fun h2 q=>q) hv hvv (fun e he=>hB e he id (by simp[ownIds1,hl]))
    exact ⟨_,h',g'⟩
   ·exact ⟨rcs,h,g⟩
  ·exact ⟨rcs,h,g⟩
 ·rename_i id p0 p hl
  split
  ·rename_i Kc s' hd
   obtain ⟨v,hv,hi⟩:=g.tm t _ (look_mem hl)
   obtain ⟨rcs',g',h1,_,_⟩:=detach_ok g hd (by unfold oid; omega) hi
   exact ⟨rcs',h,g'.cons (av:=.one _) hv h1⟩
  ·exact ⟨rcs,h,g⟩
 ·rename_i id off len hl
  obtain ⟨v,hv,hi⟩:=g.tm t _ (look_mem hl)
  exact winS_ok g hv hi
 ·rename_i id p0 p off len hl
  split
  ·rename_i Kc s' hd
   obtain ⟨v,hv,hi⟩:=g.tm t _ (look_mem hl)
   obtain ⟨rcs',g',h1⟩:=detach_win g hd (by unfold oid2; omega) hi
   exact winS_ok (g'.cons (av:=.one (.slc (oid2 t) [] off len)) hv h1) hv h1
  ·exact ⟨rcs,h,g⟩
 ·exact ⟨rcs,h,g⟩
def ownX (s:St) (t:Nat×Bool):St:=if t.2 then own1 s t.1 else match look s.tm t.1 with
 |some (.one (.slc _ _ _ _))=>own1 s t.1
 |_=>s
theorem ownX_ok {F:Fr} {s:St} {a:Act} {w:World} {Γ:HF} {rcs:List (Nat×RC)} {h:HF} (g:Good F s a w Γ rcs h) {t:Nat×Bool} (hB:∀e∈F.B,∀id∈ownIds1 s t.1,e.id≠some id):∃rcs' h',Good F (ownX s t) a w Γ rcs' h':=by
 unfold ownX
 split
 ·exact own1_ok g hB
 ·split
  ·exact own1_ok g hB
  ·exact ⟨rcs,h,g⟩
def opT:Operand→List Nat
 |.tmp t=>[t]
 |_=>[]
def eats (o:Oper):List (Nat×Bool):=match o.op with
 |.store _ _ y=>(opT y).map (·,true)
 |.box _ x=>(opT x).map (·,true)
 |.build _ parts=>parts.toList.flatMap fun x=>(opT x.2).map (·,true)
 |.buildSlice _ _ parts=>parts.toList.flatMap fun x=>(opT x.2).map (·,true)
 |.call c=>match c.callee,c.args.toList with
  |.builtin .append,x::_=>(opT x).map (·,false)
  |_,_=>[]
 |_=>[]
def ownAll:List (Nat×Bool)→St→St
 | [],s=>s
 |t::l,s=>ownAll l (ownX s t)
def ownIds:List (Nat×Bool)→St→List Nat
 | [],s=>[]
 |t::l,s=>ownIds1 s t.1++ownIds l (ownX s t)
theorem ownAll_ok {F:Fr} {a:Act} {w:World} {Γ:HF}:∀ {l:List (Nat×Bool)} {s:St} {rcs:List (Nat×RC)} {h:HF},Good F s a w Γ rcs h→(∀e∈F.B,∀id∈ownIds l s,e.id≠some id)→∃rcs' h',Good F (ownAll l s) a w Γ rcs' h'
 | [],s,rcs,h,g,_=>⟨rcs,h,g⟩
 |t::l,s,rcs,h,g,hB=>by
  obtain ⟨rcs',h',g'⟩:=ownX_ok g (t:=t) fun e he id hid=>hB e he id (mem_append_left _ hid)
  exact ownAll_ok (l:=l) (s:=ownX s t) g' fun e he id hid=>hB e he id (mem_append_right _ hid)
def effL (l:List (Nat×Bool)) (s:St):List Nat:=l.flatMap fun t=>ownIds1 s t.1
def subB (l m:List Nat):Bool:=l.all fun x=>m.contains x
theorem subB_ok {l m:List Nat} (h:subB l m=true):∀x∈l,x∈m:=fun x hx=>by
 have:=List.all_eq_true.1 h x hx
 simpa using this
theorem Eff.less {b b':Bool} {l l':List Nat} {B:List Ent} (h:(Eff.mk b l).ok B) (hb:b=true→b'=true) (hs:∀x∈l',x∈l):(Eff.mk b' l').ok B:=fun x hx=>by
 have:=h x hx
 cases hi:x.id with
 |none=>rw[hi] at this; exact hb this
 |some id=>rw[hi] at this; exact fun f=>this (hs _ f)
def eatT (l:List (Nat×Bool)) (s:St) (e:Eff) (f:St→Eff) (g:St→Tr α):Tr α:=if subB (ownIds l s) (effL l s)&&(f (ownAll l s)).ids.all (fun x=>e.ids.contains x||isBare (ownAll l s) x)&&((f (ownAll l s)).all||!e.all) then g (ownAll l s) else .bad
theorem eat_ok {P:Program} {F:Fr} {o:Oper} {l:List (Nat×Bool)} {s:St} {e:Eff} {f:St→Eff} {g:St→Tr α} {k:St→Tr α} (h:∀s',WorldOK P F o s' (g s') k (f s')):WorldOK P F o s (eatT l s e f g) k ⟨e.all,e.ids++effL l s⟩:=fun K a w Γ rcs hh Q gd he ht=>by
 unfold eatT at ht
 split at ht
 ·rename_i hc
  rw[Bool.and_eq_true,Bool.and_eq_true] at hc
  have h1:=subB_ok hc.1.1
  have h2:=List.all_eq_true.1 hc.1.2
  have h3:=hc.2
  obtain ⟨rcs',h',g'⟩:=ownAll_ok gd (l:=l) fun e hm id hid f=>by
   have:=he e hm
   rw[f] at this
   exact this (mem_append_right _ (h1 _ hid))
  refine h (ownAll l s) K a w Γ rcs' h' Q g' ?_ ht
  intro x hx
  have he':=he x hx
  cases hi:x.id with
  |none =>
   rw[hi] at he'
   have he'':e.all=true:=he'
   simp only[he''] at h3
   simpa using h3
  |some id =>
   rw[hi] at he'
   intro hm
   have h4:=h2 id hm
   rw[Bool.or_eq_true] at h4
   rcases h4 with h4 | h4
   ·exact he' (mem_append_left _ (by simpa using h4))
   ·obtain ⟨r,t,hr,hb⟩:=(g'.bx x hx).2 id hi
    unfold isBare at h4
    rw[←g'.ck,look_mapC,hr] at h4
    obtain ⟨rb,rK,rx,rz⟩:=r
    simp only at hb
    subst hb
    simp[RC.ck] at h4
 ·exact ht.elim
theorem effL_setB {s:St} {t:Nat} {b:Bool} (hl:∀t',look (s.setB t b).tm t'=look s.tm t') (l:List (Nat×Bool)):effL l (s.setB t b)=effL l s:=by
 unfold effL
 have:ownIds1 (s.setB t b)=ownIds1 s:=funext fun t'=>by unfold ownIds1; rw[hl]
 rw[this]
def zipEats:List Par→List Ar→List (Nat×Bool)
 |.own _::ps,.op x::ar=>(opT x).map (·,true)++zipEats ps ar
 |_::ps,_::ar=>zipEats ps ar
 |_,_=>[]
def callEats (cfg:Nat→Option Spec) (s:St) (c:Call):List (Nat×Bool):=match calleeOf s c with
 |some (f,ids,pre)=>match cfg f with
  |some sp=>zipEats sp.ps (ars c ids pre)
  |none=>[]
 |none=>[]
def argIds2 (s:St):List Par→List Ar→List Nat
 |.val _::ps,_::ar=>argIds2 s ps ar
 |_::ps,.cap id::ar=>id::argIds2 s ps ar
 |.own _::ps,.op x::ar=>(match opo s x with
  |some (.at id [])=>[id]
  |some (.ptr id _)=>[id]
  |some (.clo _ ids)=>ids
  |_=>[])++argIds2 s ps ar
 |_::ps,.op x::ar=>(match opo s x with
  |some (.at id _)=>[id]
  |some (.ptr id _)=>[id]
  |some (.clo _ ids)=>ids
  |_=>[])++argIds2 s ps ar
 |_::ps,.bv _ _::ar=>argIds2 s ps ar
 |_,_=>[]
def effCall2 (cfg:Nat→Option Spec) (s:St) (c:Call) (dst:Option Nat):Eff:=match calleeOf s c with
 |some (f,ids,pre)=>match cfg f with
  |some sp=>⟨(argIds s sp.ps (ars c ids pre)).isEmpty,argIds2 s sp.ps (ars c ids pre)++rids (dst.getD 0) sp.rs.length⟩
  |none=>⟨false,[]⟩
 |none=>⟨false,[]⟩
def frz1 (s:St) (t:Nat):St:=match look s.tm t with
 |some (.one (.at id []))=>match look s.ck id with
  |some ⟨none,.sl true te e none,xs⟩=>if e.free=true then ⟨(t,.one (.val (.sl false te e none) xs))::s.tm.filter fun y=>y.1 != t&&offA id y.2,del s.ck id⟩ else s
  |_=>s
 |_=>s
def frzIds1 (s:St) (t:Nat):List Nat:=match look s.tm t with
 |some (.one (.at id []))=>[id]
 |_=>[]
theorem own_frozen {Γ Γ':HF} {te:TypeId} {e:Kd} {xs:List e.T} {z:(Kd.sl true te e none).Z} {h1:HF} (hf:e.free=true) (o:(Kd.sl true te e none).Own Γ xs z h1) (hg1:∀b v,Γ b=some v→Γ' b=some v) (hg2:∀b v,h1 b=some v→Γ' b=some v) :
  (Kd.sl false te e none).Own Γ' xs z HF.emp:=by
 obtain ⟨z0,zf⟩:=z
 cases z0 with
 |none=>exact ⟨o.1,rfl⟩
 |some y =>
  obtain ⟨b,off,cap⟩:=y
  obtain ⟨c,h2,l1,l2,l3,l4,l5,l6⟩:=o
  simp only[if_true] at l6
  have hb:Γ' b=some (.cel c te):=hg2 b _ (by rw[l6.2]; exact one_self)
  refine ⟨c,HF.emp,l1,l2,l3,l4,each_emp fun i hi=>?_,?_⟩
  ·rw[if_neg (by simp)]
   obtain ⟨_,hi',_,_,oi,_⟩:=Each.take hi l5
   rw[if_neg (by simp)] at oi
   have:=own_free hf oi
   subst this
   exact own_mono hg1 oi
  ·simp only[Bool.false_eq_true,if_false]
   exact ⟨⟨te,hb⟩,trivial⟩
theorem frz1_ok {F:Fr} {s:St} {a:Act} {w:World} {Γ:HF} {rcs:List (Nat×RC)} {h:HF} (g:Good F s a w Γ rcs h) {t:Nat} (hB:∀e∈F.B,∀id∈frzIds1 s t,e.id≠some id):∃Γ' rcs' h',Good F (frz1 s t) a w Γ' rcs' h':=by
 unfold frz1
 split
 ·rename_i id hl
  split
  ·rename_i te e xs hc
   split
   ·rename_i hf
    obtain ⟨r,hr,hck⟩:=look_rc g hc
    obtain ⟨rb,K',x',z⟩:=r
    simp only[RC.ck,Ck.mk.injEq] at hck
    obtain ⟨c1,rfl,c3⟩:=hck
    obtain rfl:=eq_of_heq c3
    cases rb with
    |some bt=>cases c1
    |none =>
    obtain ⟨v,hv,hi⟩:=g.tm t _ (look_mem hl)
    obtain ⟨r0,q,hr0,hp,hvv⟩:=hi
    rw[hr] at hr0
    injection hr0 with hr0
    subst hr0
    simp only[pl,Option.some.injEq] at hp
    subst hp
    obtain ⟨h1,hr',d1,hh,o1,hg1,hg2,mk⟩:=g.freeze hr fun e he id' hid f=>by
     subst f
     exact hB e he id' (by simp[frzIds1,hl]) hid
    have hav:(AV.one (SV.val (.sl false te e none) x')).is (Γ.un h1) (del rcs id) v:=⟨by simpa[free] using hf,z,own_frozen hf o1 hg1 hg2,hvv⟩
    refine ⟨_,_,_,mk _ fun t' av hm=>?_⟩
    rcases List.mem_cons.1 hm with e1 | hm
    ·injection e1 with e1 e2
     subst e1
     subst e2
     exact ⟨v,hv,hav⟩
    ·obtain ⟨m1,m2⟩:=List.mem_filter.1 hm
     rw[Bool.and_eq_true] at m2
     obtain ⟨u,hu,iu⟩:=g.tm t' av m1
     exact ⟨u,hu,AV.is_mono hg1 (offA_is m2.2 iu)⟩
   ·exact ⟨Γ,rcs,h,g⟩
  ·exact ⟨Γ,rcs,h,g⟩
 ·exact ⟨Γ,rcs,h,g⟩
def frzAll:List Nat→St→St
 | [],s=>s
 |t::l,s=>frzAll l (frz1 s t)
def frzIds:List Nat→St→List Nat
 | [],s=>[]
 |t::l,s=>frzIds1 s t++frzIds l (frz1 s t)
theorem frzAll_ok {F:Fr} {a:Act} {w:World}:∀ {l:List Nat} {s:St} {Γ:HF} {rcs:List (Nat×RC)} {h:HF},Good F s a w Γ rcs h→(∀e∈F.B,∀id∈frzIds l s,e.id≠some id)→∃Γ' rcs' h',Good F (frzAll l s) a w Γ' rcs' h'
 | [],s,Γ,rcs,h,g,_=>⟨Γ,rcs,h,g⟩
 |t::l,s,Γ,rcs,h,g,hB=>by
  obtain ⟨Γ',rcs',h',g'⟩:=frz1_ok g (t:=t) fun e he id hid=>hB e he id (mem_append_left _ hid)
  exact frzAll_ok (l:=l) (s:=frz1 s t) g' fun e he id hid=>hB e he id (mem_append_right _ hid)
def anyRead (s:St) (l:List Nat):Bool:=l.any fun t=>match look s.tm t with
 |some (.one (.val (.sl _ _ _ _) _))=>true
 |_=>false
def frzL (l:List Nat) (s:St):List Nat:=if anyRead s l then frzIds l s else []
def frzT (l:List Nat) (s:St) (g:St→Tr α):Tr α:=if anyRead s l then g (frzAll l s) else g s
theorem frz_ok {P:Program} {F:Fr} {o:Oper} {l:List Nat} {s:St} {e:Eff} {g:St→Tr α} {k:St→Tr α} (h:∀s',WorldOK P F o s' (g s') k e):WorldOK P F o s (frzT l s g) k ⟨e.all,e.ids++frzL l s⟩:=fun K a w Γ rcs hh Q gd he ht=>by
 have he1:e.ok F.B:=Eff.less (b:=e.all) (l:=e.ids++frzL l s) he id (fun x hx=>mem_append_left _ hx)
 unfold frzT at ht
 split at ht
 ·rename_i hc
  obtain ⟨Γ',rcs',h',g'⟩:=frzAll_ok gd (l:=l) fun x hx id hid f=>by
   have:=he x hx
   rw[f] at this
   exact this (mem_append_right _ (by unfold frzL; rw[if_pos hc]; exact hid))
  exact h (frzAll l s) K a w Γ' rcs' h' Q g' he1 ht
 ·exact h s K a w Γ rcs hh Q gd he1 ht
def frzG (s:St) (t:Nat):St:=match look s.tm t with
 |some (.one (.at id []))=>match look s.ck id with
  |some ⟨none,K,x⟩=>if noHole K=true then ⟨(t,.one (.val (shr K) (castS rfl x)))::(((s.tm.filter fun y=>y.1 != t&&isAt id y.2).map fun y=>(y.1,AV.one (.val (shr K) (castS rfl x))))++s.tm.filter fun y=>y.1 != t&&offA id y.2),del s.ck id⟩ else s
  |_=>s
 |_=>s
theorem frzG_ok {F:Fr} {s:St} {a:Act} {w:World} {Γ:HF} {rcs:List (Nat×RC)} {h:HF} (g:Good F s a w Γ rcs h) (t:Nat):∃Γ' rcs' h',Good F (frzG s t) a w Γ' rcs' h':=by
 unfold frzG
 split
 ·rename_i id hl
  split
  ·rename_i K xs hc
   split
   ·rename_i hf
    obtain ⟨r,hr,hck⟩:=look_rc g hc
    obtain ⟨rb,K',x',z⟩:=r
    simp only[RC.ck,Ck.mk.injEq] at hck
    obtain ⟨c1,rfl,c3⟩:=hck
    obtain rfl:=eq_of_heq c3
    cases rb with
    |some bt=>cases c1
    |none =>
    obtain ⟨v,hv,hi⟩:=g.tm t _ (look_mem hl)
    obtain ⟨r0,q,hr0,hp,hvv⟩:=hi
    rw[hr] at hr0
    injection hr0 with hr0
    subst hr0
    simp only[pl,Option.some.injEq] at hp
    subst hp
    obtain ⟨h1,hr',d1,hh,o1,hg1,hg2,mk⟩:=g.freeze hr fun e he id' hid f=>by
     subst f
     obtain ⟨r',t',h1',h2'⟩:=(g.bx e he).2 id' hid
     rw[hr] at h1'
     injection h1' with h1'
     subst h1'
     cases h2'
    obtain ⟨f1,f2⟩:=own_shr K' x' z h1 hf o1 (fun b v e=>e.elim (hg1 b v) (hg2 b v)) (castS rfl x') (cast (shr_Z K').symm z) (castS_heq x') (cast_heq _ _)
    have hav:(AV.one (SV.val (shr K') (castS rfl x'))).is (Γ.un h1) (del rcs id) v:=⟨shr_free _ hf,_,f1,by
     rw[hvv,f2]
     unfold toV
     rw[shr_single]⟩
    refine ⟨_,_,_,mk _ fun t' av hm=>?_⟩
    rcases List.mem_cons.1 hm with e1 | hm
    ·injection e1 with e1 e2
     subst e1
     subst e2
     exact ⟨v,hv,hav⟩
    ·rcases List.mem_append.1 hm with hm | hm
     ·obtain ⟨y,hy,e1⟩:=List.mem_map.1 hm
      obtain ⟨m1,m2⟩:=List.mem_filter.1 hy
      obtain ⟨y1,y2⟩:=y
      injection e1 with e1 e2
      subst e1
      subst e2
      simp only[Bool.and_eq_true] at m2
      have hy2:y2=.one (.at id []):=by
       have m3:=m2.2
       unfold isAt at m3
       split at m3
       ·simp only[beq_iff_eq] at m3
        rw[m3]
       ·cases m3
      subst hy2
      obtain ⟨u,hu,r1,q1,hr1,hp1,hv1⟩:=g.tm y1 _ m1
      rw[hr] at hr1
      injection hr1 with hr1
      subst hr1
      simp only[pl,Option.some.injEq] at hp1
      subst hp1
      exact ⟨u,hu,by rw[hv1,←hvv]; exact hav⟩
     obtain ⟨m1,m2⟩:=List.mem_filter.1 hm
     rw[Bool.and_eq_true] at m2
     obtain ⟨u,hu,iu⟩:=g.tm t' av m1
     exact ⟨u,hu,AV.is_mono hg1 (offA_is m2.2 iu)⟩
   ·exact ⟨Γ,rcs,h,g⟩
  ·exact ⟨Γ,rcs,h,g⟩
 ·exact ⟨Γ,rcs,h,g⟩
def frzO (n:Lim) (o:Oper) (s:St):St:=match o.dst with
 |some d=>if n.fz.contains d then frzG s d else s
 |none=>s
theorem frzO_ok {F:Fr} {n:Lim} {o:Oper} {s:St} {a:Act} {w:World} {Γ:HF} {rcs:List (Nat×RC)} {h:HF} (g:Good F s a w Γ rcs h):∃Γ' rcs' h',Good F (frzO n o s) a w Γ' rcs' h':=by
 unfold frzO
 split
 ·split
  ·exact frzG_ok g _
  ·exact ⟨Γ,rcs,h,g⟩
 ·exact ⟨Γ,rcs,h,g⟩
theorem world_map {P:Program} {F:Fr} {n:Lim} {o:Oper} {s:St} {t:Tr α} {k:St→Tr α} {e:Eff} (h:WorldOK P F o s t (fun s'=>k (frzO n o s')) e):WorldOK P F o s t k e:=fun K a w Γ rcs hh Q g he ht =>
 Oper.wp_mono (fun a' w' ⟨s',⟨Γ',rcs',h',g'⟩,hk⟩=>⟨frzO n o s',frzO_ok g',hk⟩) (h K a w Γ rcs hh Q g he ht)
theorem pure_map {P:Program} {F:Fr} {n:Lim} {o:Oper} {s:St} {t:Tr α} {k:St→Tr α} (h:PureOK P F o s t (fun s'=>k (frzO n o s'))):PureOK P F o s t k:=fun K a w Γ rcs hh g ht =>
 let ⟨v,s',he,⟨_,_,_,g'⟩,hk⟩:=h K a w Γ rcs hh g ht
 ⟨v,frzO n o s',he,frzO_ok g',hk⟩
def foldO (o:Oper) (s:St):St:=match o.dst with
 |some d=>match look s.tm d with
  |some (.one (.val _ _))=>foldD s d
  |some (.one (.at id []))=>match look s.ck id with
   |some ⟨none,K,_⟩=>if isF (shr K) then foldD (frzG s d) d else s
   |_=>s
  |_=>s
 |none=>s
theorem foldO_ok {F:Fr} {o:Oper} {s:St} {a:Act} {w:World} {Γ:HF} {rcs:List (Nat×RC)} {h:HF} (g:Good F s a w Γ rcs h):∃Γ' rcs' h',Good F (foldO o s) a w Γ' rcs' h':=by
 unfold foldO
 split
 ·rename_i d hd
  split
  ·exact ⟨Γ,rcs,h,foldD_ok g _⟩
  ·split
   ·split
    ·obtain ⟨Γ',rcs',h',g'⟩:=frzG_ok g d
     exact ⟨Γ',rcs',h',foldD_ok g' _⟩
    ·exact ⟨Γ,rcs,h,g⟩
   ·exact ⟨Γ,rcs,h,g⟩
  ·exact ⟨Γ,rcs,h,g⟩
 ·exact ⟨Γ,rcs,h,g⟩
theorem world_fold {P:Program} {F:Fr} {o:Oper} {s:St} {t:Tr α} {k:St→Tr α} {e:Eff} (h:WorldOK P F o s t (fun s'=>k (foldO o s')) e):WorldOK P F o s t k e:=fun K a w Γ rcs hh Q g he ht =>
 Oper.wp_mono (fun a' w' ⟨s',⟨Γ',rcs',h',g'⟩,hk⟩=>⟨foldO o s',foldO_ok g',hk⟩) (h K a w Γ rcs hh Q g he ht)
theorem read_fold {P:Program} {F:Fr} {o:Oper} {s:St} {t:Tr α} {k:St→Tr α} {rd:Option (Option Nat)} (h:ReadOK P F o s t (fun s'=>k (foldO o s')) rd):ReadOK P F o s t k rd:=fun K a w Γ rcs hh g ht =>
 let ⟨v,s',E,G',h1,h2,⟨_,_,_,g'⟩,hk⟩:=h K a w Γ rcs hh g ht
 ⟨v,foldO o s',E,G',h1,h2,foldO_ok g',hk⟩
def mapOf? (P:Program) (t:TypeId):Option IntKind:=match P.underlying t with
 |some (.map kt et)=>match P.underlying kt,P.underlying et,P.info? et with
  |some .string,some (.int k),some i=>(match i.zero with
   |some v=>if veq v (.int k 0)=true then some k else none
   |none=>none)
  |_,_,_=>none
 |_=>none
theorem mapOf_spec {P:Program} {t:TypeId} {k:IntKind} (h:mapOf? P t=some k):∃kt et i,P.underlying t=some (.map kt et)∧P.underlying kt=some .string∧P.underlying et=some (.int k)∧P.info? et=some i∧i.zero=some (.int k 0):=by
 unfold mapOf? at h
 split at h
 ·rename_i kt et hu
  split at h
  ·rename_i k' i h1 h2 h3
   split at h
   ·rename_i v hv
    split at h
    ·rename_i hz
     injection h with h
     subst h
     exact ⟨kt,et,i,hu,h1,h2,h3,by rw[hv,veq_eq hz]⟩
    ·cases h
   ·cases h
  ·cases h
 ·cases h
def idxM:List (ByteArray×Int)→ByteArray→Option (Nat×Int)
 | [],_=>none
 |p::l,key=>if key=p.1 then some (0,p.2) else (idxM l key).map fun q=>(q.1+1,q.2)
def findM (l:List (ByteArray×Int)) (key:ByteArray):Int×Bool:=match idxM l key with
 |some q=>(q.2,true)
 |none=>(0,false)
def putM:List (ByteArray×Int)→ByteArray→Int→List (ByteArray×Int)
 | [],key,v=>[(key,v)]
 |p::l,key,v=>if key=p.1 then (p.1,v)::l else p::putM l key v
theorem find_ents {k:IntKind} {key:ByteArray}:∀(l:List (ByteArray×Int)) (L:List MapEntry) (i:Nat),(L.map fun e=>(e.key,e.val))=(l.map fun p=>(Value.string p.1,Value.int k p.2)) →
  Instr.findNow .string (.string key) L i=some ((idxM l key).map fun q=>(i+q.1,Value.int k q.2))
 | [],[],i,_=>rfl
 | [],_::_,_,h=>by cases h
 |_::_,[],_,h=>by cases h
 |p::l,e::L,i,h=>by
  simp only[map_cons,List.cons.injEq,Prod.mk.injEq] at h
  obtain ⟨⟨h1,h2⟩,h3⟩:=h
  have ih:=find_ents (k:=k) (key:=key) l L (i+1) h3
  unfold Instr.findNow idxM
  rw[h1]
  have hs:Instr.sameNow .string (.string key) (.string p.1)=some (key==p.1):=rfl
  rw[hs]
  by_cases hk:key=p.1
  ·rw[(MapKept.bytes_beq _ _).2 hk,if_pos hk]
   simp[h2]
  ·have:(key==p.1)=false:=by
    cases hb:(key==p.1) with
    |false=>rfl
    |true=>exact absurd ((MapKept.bytes_beq _ _).1 hb) hk
   rw[this,if_neg hk]
   simp only
   rw[ih]
   cases idxM l key with
   |none=>rfl
   |some q =>
    simp
    omega
theorem Good.mapAt {F:Fr} {s:St} {a:Act} {w:World} {Γ:HF} {rcs:List (Nat×RC)} {h:HF} (g:Good F s a w Γ rcs h) {x:Operand} {id:Nat} {p:List Sel} {t:TypeId} {k:IntKind} {c:Ck} {y:(Kd.mp true t k).T} (hx:opo s x=some (.at id p)) (hc:look s.ck id=some c) (hg:getP c.K c.x p=some ⟨.mp true t k,y⟩) :
  ∃z:Nat,a.eval x=.map (Option.map (fun _=>z) y)∧∀l,y=some l→∃es clk,w.heap[z]? = some (.map es clk)∧EntsP k l es:=by
 obtain ⟨r,q,hr,hp,hv⟩:=g.opoIs hx
 have hcr:=g.same hc hr
 subst hcr
 have hget:=pl_get p _ _ _ _ hp
 simp only[RC.ck] at hg
 rw[hget] at hg
 injection hg with hg
 obtain ⟨hq,hsub,o⟩:=g.ownAt hr hp
 obtain ⟨qK,qx,qz,qa⟩:=q
 simp only[Sigma.mk.injEq] at hg
 obtain ⟨hs1,hs2⟩:=hg
 subst hs1
 obtain rfl:=eq_of_heq hs2
 refine ⟨qz,hv,fun l hl=>?_⟩
 subst hl
 obtain ⟨es,clk,e1,e2⟩:=o
 refine ⟨es,clk,?_,e2⟩
 have:=g.mem qz (.mp es clk) (hsub _ _ (by rw[e1]; simp[HF.onem]))
 exact this
theorem run_lookup_map {P:Program} {t:TypeId} {k:IntKind} (ht:mapOf? P t=some k) {w:World} {z:Nat} {es:Array MapEntry} {clk:Nat} {l:List (ByteArray×Int)} (hz:w.heap[z]? = some (.map es clk)) (he:EntsP k l es) (key:ByteArray) :
  (Instr.lookup t (.map (some z)) (.string key) true).run P w=.ok (.tuple #[.int k (findM l key).1,.bool (findM l key).2]) w:=by
 obtain ⟨kt,et,i,h1,h2,h3,h4,h5⟩:=mapOf_spec ht
 have hf:=MapKept.run_findKey (w:=w) h2 (find_ents l es.toList 0 he.1 (key:=key))
 have hk:=MapKept.run_checkKey (P:=P) (w:=w) h2 (k:=.string key) (by simp[MapKept.IsKey]) es.isEmpty 9999
 unfold Instr.lookup findM
 simp only[Sem.run_bind,run_underlying h1,Result.andThen_ok,MapKept.run_getObj_map hz,Sem.run_pure,hk,hf]
 cases idxM l key with
 |none=>simp[zeroValue,typeInfo,h4,h5]
 |some q=>simp
theorem run_lookup_nil {P:Program} {t:TypeId} {k:IntKind} (ht:mapOf? P t=some k) {w:World} (key:ByteArray) :
  (Instr.lookup t (.map none) (.string key) true).run P w=.ok (.tuple #[.int k 0,.bool false]) w:=by
 obtain ⟨kt,et,i,h1,h2,h3,h4,h5⟩:=mapOf_spec ht
 have hf:=MapKept.run_findKey (w:=w) h2 (find_ents (k:=k) [] [] 0 rfl (key:=key))
 have hk:=fun b=>MapKept.run_checkKey (P:=P) (w:=w) h2 (k:=.string key) (by simp[MapKept.IsKey]) b 9999
 unfold Instr.lookup
 simp only[Sem.run_bind,run_underlying h1,Result.andThen_ok,Sem.run_pure,hk]
 have hf':(Instr.findKey kt (.string key) ([]:List MapEntry)).run P w=.ok none w:=hf
 simp[hf',zeroValue,typeInfo,h4,h5]
theorem world_ask {P:Program} {F:Fr} {o:Oper} {s:St} {av:AV} {k:St→Tr α} {e:Eff} (hv:∀(a:Act) (w:World) (Γ:HF) (rcs:List (Nat×RC)) (h:HF),Good F s a w Γ rcs h→∃v,(execOp a.eval o).run P w=.ok (.value v) w∧av.is Γ rcs v) :
  WorldOK P F o s (set F.n s o av k) k e:=fun K a w Γ rcs h Q g he hs=>by
 obtain ⟨v,hr,hi⟩:=hv a w Γ rcs h g
 obtain ⟨s',r,q⟩:=set_ok hs g hi
 unfold Oper.wp
 rw[hr,Oper.upon_value]
 exact ⟨s',r,q⟩
def stLookup (P:Program) (n:Lim) (o:Oper) (t:TypeId) (x i:Operand) (s:St) (k:St→Tr α):Tr α:=match opo s x,opo s i with
 |some (.at id p),some (.val .str key)=>match look s.ck id with
  |some c=>match getP c.K c.x p with
   |some ⟨.mp true t' kk,y⟩=>if mapOf? P t=some kk then set n s o (.tup [.val (.int kk) (findM (y.getD []) key).1,.val .bool (findM (y.getD []) key).2]) k else .bad
   |_=>.bad
  |none=>.bad
 |_,_=>.bad
theorem findM_range {k:IntKind} {l:List (ByteArray×Int)} (h:∀p∈l,p.1.size≤9223372036854775807∧k.min≤p.2∧p.2≤k.max) (key:ByteArray):k.min≤(findM l key).1∧(findM l key).1≤k.max:=by
 have h0:k.min≤0∧0≤k.max:=min_max k
 have key2:∀l:List (ByteArray×Int),(∀p∈l,p.1.size≤9223372036854775807∧k.min≤p.2∧p.2≤k.max)→∀q,idxM l key=some q→k.min≤q.2∧q.2≤k.max:=by
  intro l
  induction l with
  |nil=>intro _ q hq; cases hq
  |cons p l ih =>
   intro h q hq
   unfold idxM at hq
   split at hq
   ·injection hq with hq
    subst hq
    exact (h p mem_cons_self).2
   ·obtain ⟨q',hq',e⟩:=Option.map_eq_some_iff.1 hq
    subst e
    exact ih (fun p hp=>h p (List.mem_cons_of_mem _ hp)) q' hq'
 unfold findM
 split
 ·rename_i q hq
  exact key2 l h q hq
 ·exact h0
theorem stLookup_ok {P:Program} {F:Fr} {o:Oper} {t:TypeId} {x i:Operand} {s:St} {k:St→Tr α} {e:Eff} (ho:o.op=.lookup t x i true):WorldOK P F o s (stLookup P F.n o t x i s k) k e:=by
 unfold stLookup
 split
 ·rename_i id p key hx hi
  split
  ·rename_i c hc
   split
   ·rename_i t' kk y hg
    split
    ·rename_i ht
     refine world_ask fun a w Γ rcs h g=>?_
     obtain ⟨z,ev,hl⟩:=g.mapAt hx hc hg
     have ei:=(is_str (g.opoIs hi)).1
     have tup:∀(u:Int) (b:Bool),kk.min≤u∧u≤kk.max→(AV.tup [.val (.int kk) u,.val .bool b]).is Γ rcs (.tuple #[.int kk u,.bool b]):=fun u b hu=>by
      refine ⟨[.int kk u,.bool b],rfl,rfl,fun j sv hj=>?_⟩
      match j with
      |0 =>
       simp only[List.getElem?_cons_zero,Option.some.injEq] at hj
       subst hj
       exact ⟨_,rfl,int_is hu⟩
      |1 =>
       simp only[List.getElem?_cons_succ,List.getElem?_cons_zero,Option.some.injEq] at hj
       subst hj
       exact ⟨_,rfl,bool_is⟩
      |j+2=>simp at hj
     cases y with
     |none =>
      refine ⟨_,?_,tup 0 false (min_max kk)⟩
      have ev':a.eval x=.map none:=ev
      simp only[execOp,ho,ev',ei,Sem.run_bind,run_lookup_nil ht,Result.andThen_ok,Sem.run_pure]
     |some l =>
      obtain ⟨es,clk,hz,he⟩:=hl l rfl
      refine ⟨_,?_,tup _ _ (findM_range he.2 key)⟩
      have ev':a.eval x=.map (some z):=ev
      simp only[execOp,ho,ev',ei,Sem.run_bind,run_lookup_map ht hz he,Result.andThen_ok,Sem.run_pure]
      rfl
    ·exact world_bad
   ·exact world_bad
  ·exact world_bad
 ·exact world_bad
def stMkMap (P:Program) (n:Lim) (o:Oper) (t:TypeId) (s:St) (k:St→Tr α):Tr α:=match o.dst,mapOf? P t with
 |some d,some kk=>if n.lo≤d∧d<n.n then k ⟨(d,.one (.at d []))::(fresh s d).tm,(d,⟨none,.mp true t kk,some []⟩)::del s.ck d⟩ else .bad
 |_,_=>.bad
theorem stMkMap_ok {P:Program} {F:Fr} {o:Oper} {t:TypeId} {s:St} {k:St→Tr α} (ho:o.op=.makeMap t none):WorldOK P F o s (stMkMap P F.n o t s k) k ⟨false,dstL o⟩:=by
 unfold stMkMap
 split
 ·rename_i d kk hd ht
  split
  ·rename_i hlt
   intro K' a w Γ rcs h Q g he hs
   have hoff:Off F [d] rcs:=by rw[dstL_some hd] at he; exact off_of g he
   have hne:∀b,h.has b→b<w.heap.size:=fun b hb=>g.mem.lt hb
   have heap1:(w.alloc (.map #[] 0)).heap[w.heap.size]? = some (.map #[] 0):=heap_alloc_new w _
   have hR:=g.renew (w':=w.alloc (.map #[] 0)) (h0:=h) (rcs0:=rcs) (hm:=HF.onem w.heap.size #[] 0) (r:=⟨none,.mp true t kk,some [],w.heap.size⟩) (d:=d) (v:=.map (some w.heap.size)) (av:=.at d []) (tm:=(fresh s d).tm)
    (fun _ _ e=>e) g.star g.nodup hlt.2 hlt.1 hoff (fun _ _ e=>e) (fun b hb _=>heap_alloc w _ b (Nat.ne_of_lt hb))
    (⟨#[],0,rfl,rfl,fun p hp=>by cases hp⟩)
    (HF.dj_iff.2 fun b hb hx=>by
     have:=HF.has_onem.1 hb
     have:=hne b hx
     omega) (Mem.onem.2 heap1) (g.mem.alloc _) (g.memR.alloc _) (by simp) (fun b hb _=>heap_alloc w _ b (Nat.ne_of_lt hb)) (fun b hb=>.inr (Nat.le_of_eq (HF.has_onem.1 hb).symm)) rfl rfl rfl
    ⟨⟨none,.mp true t kk,some [],w.heap.size⟩,⟨_,some [],w.heap.size,(0,0)⟩,by simp[look],by simp only[pl]; rfl,rfl⟩ (Good.fresh (F:=F) (fun x hx=>g.tm x.1 x.2 hx))
   unfold Oper.wp
   have hrun:(execOp a.eval o).run P w=.ok (.value (.map (some w.heap.size))) (w.alloc (.map #[] 0)):=by
    have hm:(Instr.makeMap t none).run P w=.ok (.map (some w.heap.size)) (w.alloc (.map #[] 0)):=rfl
    simp only[execOp,ho,map_none,Sem.run_bind,hm,Result.andThen_ok,Sem.run_pure]
   rw[hrun,Oper.upon_value,hd]
   rw[g.ck] at hR
   exact ⟨_,hR,hs⟩
  ·exact world_bad
 ·exact world_bad
def stLenM (P:Program) (n:Lim) (o:Oper) (c:Call) (s:St) (k:St→Tr α):Tr α:=match c.args.toList,c.argTypes.toList with
 | [x],[t]=>match opo s x with
  |some (.at id p)=>match look s.ck id with
   |some ck=>match getP ck.K ck.x p with
    |some ⟨.mp true _ kk,y⟩=>if mapOf? P t=some kk then .need (((y.getD []).length:Int)≤9223372036854775807) (set n s o (.one (.val (.int .i64) ((y.getD []).length:Int))) k) else .bad
    |_=>.bad
   |none=>.bad
  |_=>.bad
 |_,_=>.bad
inductive MPl:Kd→Type where
 |nil (t:TypeId) (k:IntKind):MPl (.mp true t k)
 |fst {a b:Kd} (c:MPl a):MPl (.pair a b)
 |snd {a b:Kd} (c:MPl b):MPl (.pair a b)
namespace MPl
def get:{K:Kd}→MPl K→K.T→Option (List (ByteArray×Int))
 |_,.nil _ _,x=>x
 |_,.fst c,x=>c.get x.1
 |_,.snd c,x=>c.get x.2
def put:{K:Kd}→MPl K→K.T→List (ByteArray×Int)→K.T
 |_,.nil _ _,_,l=>(some l:Option (List (ByteArray×Int)))
 |_,.fst c,x,l=>(c.put x.1 l,x.2)
 |_,.snd c,x,l=>(x.1,c.put x.2 l)
def blk:{K:Kd}→MPl K→K.Z→Nat
 |_,.nil _ _,z=>z
 |_,.fst c,z=>c.blk z.1
 |_,.snd c,z=>c.blk z.2
def kind:{K:Kd}→MPl K→IntKind
 |_,.nil _ k=>k
 |_,.fst c=>c.kind
 |_,.snd c=>c.kind
def ty:{K:Kd}→MPl K→TypeId
 |_,.nil t _=>t
 |_,.fst c=>c.ty
 |_,.snd c=>c.ty
def path:{K:Kd}→MPl K→List Sel
 |_,.nil _ _=>[]
 |_,.fst c=>.fst::c.path
 |_,.snd c=>.snd::c.path
end MPl
def mkMP:(K:Kd)→List Sel→Option (MPl K)
 |.mp true t k,[]=>some (.nil t k)
 |.pair a b,.fst::p=>(mkMP a p).map .fst
 |.pair a b,.snd::p=>(mkMP b p).map .snd
 |_,_=>none
theorem mkMP_path:∀ {K:Kd} {p:List Sel} {m:MPl K},mkMP K p=some m→m.path=p
 |.mp true t k,[],m,h=>by injection h with h; subst h; rfl
 |.pair a b,.fst::p,m,h=>by
  obtain ⟨c,hc,rfl⟩:=Option.map_eq_some_iff.1 h
  show .fst::c.path=_
  rw[mkMP_path hc]
 |.pair a b,.snd::p,m,h=>by
  obtain ⟨c,hc,rfl⟩:=Option.map_eq_some_iff.1 h
  show .snd::c.path=_
  rw[mkMP_path hc]
theorem mp_pl:∀ {K:Kd} (m:MPl K) (x:K.T) (z:K.Z) (a:Nat×Nat),∃a',pl K x z m.path a=some ⟨.mp true m.ty m.kind,m.get x,m.blk z,a'⟩
 |_,.nil t k,x,z,a=>⟨a,rfl⟩
 |_,.fst c,x,z,a=>by
  obtain ⟨a',e⟩:=mp_pl c x.1 z.1 a
  exact ⟨a',e⟩
 |.pair ka _,.snd c,x,z,a=>by
  obtain ⟨a',e⟩:=mp_pl c x.2 z.2 (a.1,a.2+ka.size)
  exact ⟨a',e⟩
theorem mp_cells:∀ {K:Kd} (m:MPl K) (x:K.T) (z:K.Z) {l:List (ByteArray×Int)} (l':List (ByteArray×Int)),m.get x=some l→K.cells (m.put x l') z=K.cells x z
 |_,.nil t k,x,z,l,l',h=>by
  have h':x=some l:=h
  subst h'
  rfl
 |.pair a b,.fst c,x,z,l,l',h=>by
  show a.cells (c.put x.1 l') z.1++b.cells x.2 z.2=a.cells x.1 z.1++b.cells x.2 z.2
  rw[mp_cells c x.1 z.1 l' h]
 |.pair a b,.snd c,x,z,l,l',h=>by
  show a.cells x.1 z.1++b.cells (c.put x.2 l') z.2=a.cells x.1 z.1++b.cells x.2 z.2
  rw[mp_cells c x.2 z.2 l' h]
theorem mp_own {Γ:HF}:∀ {K:Kd} (m:MPl K) (x:K.T) (z:K.Z) (h:HF) {l:List (ByteArray×Int)},m.get x=some l→K.Own Γ x z h →
  ∃hr es clk,HF.dj hr (HF.onem (m.blk z) es clk)∧h=hr.un (HF.onem (m.blk z) es clk)∧EntsP m.kind l es∧∀l' es' clk',EntsP m.kind l' es'→K.Own Γ (m.put x l') z (hr.un (HF.onem (m.blk z) es' clk'))
 |_,.nil t k,x,z,h,l,hg,o=>by
  have hg':x=some l:=hg
  subst hg'
  obtain ⟨es,clk,e1,e2⟩:=o
  exact ⟨HF.emp,es,clk,HF.emp_dj _,by rw[HF.emp_un]; exact e1,e2,fun l' es' clk' he=>⟨es',clk',by rw[HF.emp_un]; rfl,he⟩⟩
 |.pair a b,.fst c,x,z,h,l,hg,o=>by
  obtain ⟨h1,h2,d,rfl,oa,ob⟩:=o
  obtain ⟨hr,es,clk,d1,rfl,he,f⟩:=mp_own c x.1 z.1 h1 hg oa
  obtain ⟨d2,d3⟩:=HF.un_dj.1 d
  have d3':∀es' clk',HF.dj (HF.onem (c.blk z.1) es' clk') h2:=fun es' clk'=>HF.dj_iff.2 fun b' hb hx=>HF.dj_iff.1 d3 b' (HF.has_onem.2 (HF.has_onem.1 hb)) hx
  have d1':∀es' clk',HF.dj hr (HF.onem (c.blk z.1) es' clk'):=fun es' clk'=>HF.dj_iff.2 fun b' hb hx=>HF.dj_iff.1 d1 b' hb (HF.has_onem.2 (HF.has_onem.1 hx))
  refine ⟨hr.un h2,es,clk,HF.un_dj.2 ⟨d1,(d3).symm⟩,?_,he,fun l' es' clk' he'=>?_⟩
  ·show (hr.un (HF.onem (c.blk z.1) es clk)).un h2=(hr.un h2).un (HF.onem (c.blk z.1) es clk)
   rw[HF.un_assoc,HF.un_comm d3,←HF.un_assoc]
  ·refine ⟨hr.un (HF.onem (c.blk z.1) es' clk'),h2,HF.un_dj.2 ⟨d2,d3' es' clk'⟩,?_,f l' es' clk' he',ob⟩
   show (hr.un h2).un (HF.onem (c.blk z.1) es' clk')=(hr.un (HF.onem (c.blk z.1) es' clk')).un h2
   rw[HF.un_assoc,HF.un_assoc,HF.un_comm (d3' es' clk')]
 |.pair a b,.snd c,x,z,h,l,hg,o=>by
  obtain ⟨h1,h2,d,rfl,oa,ob⟩:=o
  obtain ⟨hr,es,clk,d1,rfl,he,f⟩:=mp_own c x.2 z.2 h2 hg ob
  obtain ⟨d2,d3⟩:=HF.dj_un.1 d
  have d3':∀es' clk',HF.dj h1 (HF.onem (c.blk z.2) es' clk'):=fun es' clk'=>HF.dj_iff.2 fun b' hb hx=>HF.dj_iff.1 d3 b' hb (HF.has_onem.2 (HF.has_onem.1 hx))
  refine ⟨h1.un hr,es,clk,HF.un_dj.2 ⟨d3,d1⟩,?_,he,fun l' es' clk' he'=>?_⟩
  ·exact (HF.un_assoc _ _ _).symm
  ·exact ⟨h1,hr.un (HF.onem (c.blk z.2) es' clk'),HF.dj_un.2 ⟨d2,d3' es' clk'⟩,HF.un_assoc _ _ _,oa,f l' es' clk' he'⟩
theorem mp_put_pl:∀ {K:Kd} (m:MPl K) (x:K.T) (z:K.Z) {l:List (ByteArray×Int)} (l':List (ByteArray×Int)),m.get x=some l→∀(p:List Sel) (a:Nat×Nat) (q:At),pl K x z p a=some q→∃x',pl K (m.put x l') z p a=some ⟨q.K,x',q.z,q.a⟩∧q.K.cells x' q.z=q.K.cells q.x q.z
 |K,m,x,z,l,l',hg,[],a,q,hp=>by
  have hp':some (⟨K,x,z,a⟩:At)=some q:=by cases K<;>exact hp
  injection hp' with hp'
  subst hp'
  exact ⟨m.put x l',by cases K<;>rfl,mp_cells m x z l' hg⟩
 |_,.nil t k,x,z,l,l',hg,s::p,a,q,hp=>by
  have hn:pl (.mp true t k) x z (s::p) a=none:=by cases s<;>rfl
  rw[hn] at hp
  cases hp
 |.pair ka kb,.fst c,x,z,l,l',hg,.fst::p,a,q,hp=>mp_put_pl c x.1 z.1 l' hg p a q hp
 |.pair ka kb,.fst c,x,z,l,l',hg,.snd::p,a,q,hp=>⟨q.x,hp,rfl⟩
 |.pair ka kb,.snd c,x,z,l,l',hg,.fst::p,a,q,hp=>⟨q.x,hp,rfl⟩
 |.pair ka kb,.snd c,x,z,l,l',hg,.snd::p,a,q,hp=>mp_put_pl c x.2 z.2 l' hg p (a.1,a.2+ka.size) q hp
 |.pair ka kb,.fst c,x,z,l,l',hg,.idx i::p,a,q,hp=>by cases hp
 |.pair ka kb,.snd c,x,z,l,l',hg,.idx i::p,a,q,hp=>by cases hp
def keepM (id:Nat):SV→Bool
 |.slc i _ _ _=>i != id
 |_=>true
def keepMA (id:Nat):AV→Bool
 |.one v=>keepM id v
 |.tup l=>l.all (keepM id)
theorem keepM_is {Γ:HF} {rcs:List (Nat×RC)} {id:Nat} {r:RC} {m:MPl r.K} {l l':List (ByteArray×Int)} (hg:m.get r.x=some l) (hr:look rcs id=some r) {v:SV} {u:Value} (hk:keepM id v=true) (hi:v.is Γ rcs u) :
  v.is Γ (updL rcs id ⟨r.box,r.K,m.put r.x l',r.z⟩) u:=by
 have hl:=look_updL (u:=(⟨r.box,r.K,m.put r.x l',r.z⟩:RC)) r hr
 cases v with
 |val K x=>exact hi
 |eptr K x=>exact hi
 |nilS=>exact hi
 |nilP=>exact hi
 |bnd f K x=>exact hi
 |ptr i p =>
  obtain ⟨r0,q,h1,h2,h3,h4⟩:=hi
  by_cases hid:i=id
  ·subst hid
   rw[hr] at h1
   injection h1 with h1
   subst h1
   obtain ⟨x',e1,e2⟩:=mp_put_pl m r.x r.z l' hg p _ q h2
   exact ⟨(⟨r.box,r.K,m.put r.x l',r.z⟩:RC),⟨q.K,x',q.z,q.a⟩,by rw[hl,if_pos rfl],e1,h3,h4⟩
  ·exact ⟨r0,q,by rw[hl,if_neg hid]; exact h1,h2,h3,h4⟩
 | «at» i p =>
  obtain ⟨r0,q,h1,h2,h4⟩:=hi
  by_cases hid:i=id
  ·subst hid
   rw[hr] at h1
   injection h1 with h1
   subst h1
   obtain ⟨x',e1,e2⟩:=mp_put_pl m r.x r.z l' hg p _ q h2
   exact ⟨(⟨r.box,r.K,m.put r.x l',r.z⟩:RC),⟨q.K,x',q.z,q.a⟩,by rw[hl,if_pos rfl],e1,by rw[h4]; show _=toV q.K (q.K.cells x' q.z); rw[e2]⟩
  ·exact ⟨r0,q,by rw[hl,if_neg hid]; exact h1,h2,h4⟩
 |slc i p off len =>
  obtain ⟨r0,t,e,hole,x',z',a',h1,h2⟩:=hi
  have hid:i≠id:=by simpa[keepM] using hk
  exact ⟨r0,t,e,hole,x',z',a',by rw[hl,if_neg hid]; exact h1,h2⟩
 |clo f caps =>
  obtain ⟨vs,h1,h2,h3⟩:=hi
  refine ⟨vs,h1,h2,fun i j hj=>?_⟩
  obtain ⟨r0,b,t,e1,e2,e3⟩:=h3 i j hj
  by_cases hid:j=id
  ·subst hid
   rw[hr] at e1
   injection e1 with e1
   subst e1
   exact ⟨(⟨r.box,r.K,m.put r.x l',r.z⟩:RC),b,t,by rw[hl,if_pos rfl],e2,e3⟩
  ·exact ⟨r0,b,t,by rw[hl,if_neg hid]; exact e1,e2,e3⟩
theorem keepMA_is {Γ:HF} {rcs:List (Nat×RC)} {id:Nat} {r:RC} {m:MPl r.K} {l l':List (ByteArray×Int)} (hg:m.get r.x=some l) (hr:look rcs id=some r) {v:AV} {u:Value} (hk:keepMA id v=true) (hi:v.is Γ rcs u) :
  v.is Γ (updL rcs id ⟨r.box,r.K,m.put r.x l',r.z⟩) u:=by
 cases v with
 |one s=>exact keepM_is hg hr hk hi
 |tup l0 =>
  obtain ⟨vs,h1,h2,h3⟩:=hi
  refine ⟨vs,h1,h2,fun i s hs=>?_⟩
  obtain ⟨u',e1,e2⟩:=h3 i s hs
  exact ⟨u',e1,keepM_is hg hr (List.all_eq_true.1 hk s (mem_of_getElem? hs)) e2⟩
theorem rc_mp {Γ:HF} {r:RC} {h1:HF} {m:MPl r.K} {l:List (ByteArray×Int)} (hg:m.get r.x=some l) (o:r.Own Γ h1) :
  ∃hr es clk,HF.dj hr (HF.onem (m.blk r.z) es clk)∧h1=hr.un (HF.onem (m.blk r.z) es clk)∧EntsP m.kind l es∧(∀l' es' clk',EntsP m.kind l' es'→(⟨r.box,r.K,m.put r.x l',r.z⟩:RC).Own Γ (hr.un (HF.onem (m.blk r.z) es' clk'))):=by
 obtain ⟨rb,K,x,z⟩:=r
 cases rb with
 |none =>
  obtain ⟨hr,es,clk,d,e,he,f⟩:=mp_own m x z h1 hg o
  exact ⟨hr,es,clk,d,e,he,f⟩
 |some bt =>
  obtain ⟨b,t⟩:=bt
  obtain ⟨c,h2,d,rfl,o',hc⟩:=o
  obtain ⟨hr,es,clk,d1,rfl,he,f⟩:=mp_own m x z h2 hg o'
  obtain ⟨d2,d3⟩:=HF.dj_un.1 d
  have d3':∀es' clk',HF.dj (HF.one b c t) (HF.onem (m.blk z) es' clk'):=fun es' clk'=>HF.dj_iff.2 fun b' hb hx=>HF.dj_iff.1 d3 b' hb (HF.has_onem.2 (HF.has_onem.1 hx))
  refine ⟨(HF.one b c t).un hr,es,clk,HF.un_dj.2 ⟨d3,d1⟩,(HF.un_assoc _ _ _).symm,he,fun l' es' clk' he'=>?_⟩
  exact ⟨c,hr.un (HF.onem (m.blk z) es' clk'),HF.dj_un.2 ⟨d2,d3' es' clk'⟩,HF.un_assoc _ _ _,f l' es' clk' he',by
   show c.toList=K.cells (m.put x l') z
   rw[mp_cells m x z l' hg]
   exact hc⟩
def World.setMap (w:World) (b:Nat) (es:Array MapEntry) (clk:Nat):World:={ w with heap:=w.heap.setIfInBounds b (.map es clk) }
theorem Good.mapPut {F:Fr} {s:St} {a:Act} {w:World} {Γ:HF} {rcs:List (Nat×RC)} {h:HF} (g:Good F s a w Γ rcs h) {id:Nat} {r:RC} {m:MPl r.K} {l l':List (ByteArray×Int)} {es':Array MapEntry} {clk':Nat}
  (hr:look rcs id=some r) (hg:m.get r.x=some l) (he:EntsP m.kind l' es') {tm:List (Nat×AV)} (htm:∀t av,(t,av)∈tm→keepMA id av=true∧(t,av)∈s.tm) (hB:Off F [id] rcs) :
  R F ⟨tm,updL s.ck id ⟨r.ck.box,r.K,m.put r.x l'⟩⟩ a (World.setMap w (m.blk r.z) es' clk'):=by
 obtain ⟨h1,hR,d1,hh,o1,put,_⟩:=star_upd g.star hr g.nodup
 obtain ⟨hq,es,clk,d2,rfl,_,f⟩:=rc_mp hg o1
 have d2':HF.dj hq (HF.onem (m.blk r.z) es' clk'):=HF.dj_iff.2 fun b hb hx=>HF.dj_iff.1 d2 b hb (HF.has_onem.2 (HF.has_onem.1 hx))
 obtain ⟨dq,dm⟩:=HF.un_dj.1 d1
 have dm':HF.dj (HF.onem (m.blk r.z) es' clk') hR:=HF.dj_iff.2 fun b hb hx=>HF.dj_iff.1 dm b (HF.has_onem.2 (HF.has_onem.1 hb)) hx
 have d1':HF.dj (hq.un (HF.onem (m.blk r.z) es' clk')) hR:=HF.un_dj.2 ⟨dq,dm'⟩
 have hasb:h.has (m.blk r.z):=by
  rw[hh]
  exact HF.has_un.2 (.inl (HF.has_un.2 (.inr (HF.has_onem.2 rfl))))
 have hb0:h (m.blk r.z)=some (.mp es clk):=by
  have h0:(hq.un (HF.onem (m.blk r.z) es clk)) (m.blk r.z)=some (.mp es clk):=un_right d2 (by simp[HF.onem])
  rw[hh]
  exact un_left h0
 have hw:w.heap[m.blk r.z]? = some (.map es clk):=g.mem _ _ hb0
 have hlt:m.blk r.z<w.heap.size:=g.mem.lt hasb
 have same:∀b,b≠m.blk r.z→(World.setMap w (m.blk r.z) es' clk').heap[b]? = w.heap[b]? := fun b hb=>by
  show (w.heap.setIfInBounds (m.blk r.z) _)[b]? = _
  rw[Array.getElem?_setIfInBounds_ne (Ne.symm hb)]
 have here:(World.setMap w (m.blk r.z) es' clk').heap[m.blk r.z]? = some (.map es' clk'):=by
  show (w.heap.setIfInBounds (m.blk r.z) _)[m.blk r.z]? = _
  simp[hlt]
 have hsize:(World.setMap w (m.blk r.z) es' clk').heap.size=w.heap.size:=by
  show (w.heap.setIfInBounds (m.blk r.z) _).size=_
  simp
 obtain ⟨m12,mR⟩:=(Mem.un d1).1 (hh▸g.mem)
 obtain ⟨mq,_⟩:=(Mem.un d2).1 m12
 have keepm:∀(h0:HF),¬h0.has (m.blk r.z)→Mem h0 w→Mem h0 (World.setMap w (m.blk r.z) es' clk'):=fun h0 hn mm b x e=>by
  refine (mm b x e).same (same b fun q=>hn ?_)
  subst q
  unfold HF.has
  rw[e]
  simp
 have nq:¬hq.has (m.blk r.z):=fun q=>HF.dj_iff.1 d2 _ q (HF.has_onem.2 rfl)
 have nR:¬hR.has (m.blk r.z):=fun q=>HF.dj_iff.1 dm _ (HF.has_onem.2 rfl) q
 have sub':∀b,((hq.un (HF.onem (m.blk r.z) es' clk')).un hR).has b→h.has b:=fun b hb=>by
  rw[hh]
  rcases HF.has_un.1 hb with q | q
  ·rcases HF.has_un.1 q with q | q
   ·exact HF.has_un.2 (.inl (HF.has_un.2 (.inl q)))
   ·exact HF.has_un.2 (.inl (HF.has_un.2 (.inr (HF.has_onem.2 (HF.has_onem.1 q)))))
  ·exact HF.has_un.2 (.inr q)
 refine ⟨Γ,updL rcs id ⟨r.box,r.K,m.put r.x l',r.z⟩,(hq.un (HF.onem (m.blk r.z) es' clk')).un hR,?_,?_,put _ _ d1' (f l' es' clk' he),?_,?_,?_,g.defers,g.tsz,?_,?_,?_,?_,g.ro,g.ro0,g.os,g.tape,g.output,g.sg,?_,?_⟩
 ·rw[←g.ck]
  exact updL_map rcs id (⟨r.box,r.K,m.put r.x l',r.z⟩:RC) RC.ck
 ·rw[updL_keys]; exact g.nodup
 ·exact (Mem.un d1').2 ⟨(Mem.un d2').2 ⟨keepm hq nq mq,Mem.onem.2 here⟩,keepm hR nR mR⟩
 ·intro b x e
  refine (g.memR b x e).same (same b fun q=>?_)
  subst q
  exact HF.dj_iff.1 g.dj _ (by unfold HF.has; rw[e]; simp) hasb
 ·exact HF.dj_iff.2 fun b hb1 hb2=>HF.dj_iff.1 g.dj b hb1 (sub' b hb2)
 ·intro t av hm'
  obtain ⟨hk,hin⟩:=htm t av hm'
  obtain ⟨v,hv,hi⟩:=g.tm t av hin
  exact ⟨v,hv,keepMA_is hg hr hk hi⟩
 ·rw[hsize]; exact g.size
 ·intro b hb1 hb2
  have hne:b≠m.blk r.z:=fun e=>by
   subst e
   rcases g.own _ hasb with q | q
   ·exact hb2 q
   ·omega
  rw[same b hne]
  exact g.keep b hb1 hb2
 ·exact fun b hb'=>g.own b (sub' b hb')
 ·intro e he'
  obtain ⟨id',hid,hn,r',t',hr',hbx⟩:=hB e he'
  have hne:id'≠id:=by simpa using hn
  have hbn:e.b≠m.blk r.z:=fun q=>by
   obtain ⟨h2,_,d,o,o2⟩:=star_two g.star hr' hr hne
   have f1:=box_has o hbx
   rw[q] at f1
   obtain ⟨hq2,es2,clk2,d3,e3,_,_⟩:=rc_mp hg o2
   exact HF.dj_iff.1 d _ f1 (by rw[e3]; exact HF.has_un.2 (.inr (HF.has_onem.2 rfl)))
  refine ⟨⟨?_,by rw[hsize]; exact (g.bx e he').1.2⟩,fun id2 hid2=>?_⟩
  ·rw[same _ hbn]
   exact (g.bx e he').1.1
  ·rw[hid] at hid2
   injection hid2 with hid2
   subst hid2
   exact ⟨r',t',by rw[look_updL r hr,if_neg hne]; exact hr',hbx⟩
 ·intro m' hm' r' hr'
  rw[look_updL r hr] at hr'
  by_cases hid:m'.1=id
  ·rw[if_pos hid] at hr'
   injection hr' with hr'
   subst hr'
   rw[←g.md m' hm' r (hid▸hr)]
   unfold RC.head
   cases hbx:r.box with
   |some bt=>rfl
   |none =>
    show toV r.K (r.K.cells (m.put r.x l') r.z)=toV r.K (r.K.cells r.x r.z)
    rw[mp_cells m r.x r.z l' hg]
  ·rw[if_neg hid] at hr'
   exact g.md m' hm' r' hr'
theorem putM_none {key:ByteArray} {v:Int}:∀ {l:List (ByteArray×Int)},idxM l key=none→putM l key v=l++[(key,v)]
 | [],_=>rfl
 |p::l,h=>by
  unfold idxM at h
  split at h
  ·cases h
  ·rename_i hk
   have h':idxM l key=none:=by simpa using h
   unfold putM
   rw[if_neg hk,putM_none h']
   rfl
theorem putM_some {key:ByteArray} {v:Int}:∀ {l:List (ByteArray×Int)} {i:Nat} {u:Int},idxM l key=some (i,u)→i<l.length∧putM l key v=l.set i (key,v)∧l[i]?.map (·.1)=some key
 | [],i,u,h=>by cases h
 |p::l,i,u,h=>by
  unfold idxM at h
  unfold putM
  split at h
  ·rename_i hk
   injection h with h
   injection h with h1 h2
   subst h1
   rw[if_pos hk]
   exact ⟨by simp,by simp[hk],by simp[hk]⟩
  ·rename_i hk
   obtain ⟨q,hq,e⟩:=Option.map_eq_some_iff.1 h
   obtain ⟨j,u'⟩:=q
   injection e with e1 e2
   subst e1
   obtain ⟨g1,g2,g3⟩:=putM_some (v:=v) hq
   rw[if_neg hk,g2]
   exact ⟨by simpa using g1,by simp,by simpa using g3⟩
theorem run_update_map {P:Program} {t:TypeId} {k:IntKind} (ht:mapOf? P t=some k) {w:World} {z:Nat} {es:Array MapEntry} {clk:Nat} {l:List (ByteArray×Int)} (hz:w.heap[z]? = some (.map es clk)) (he:EntsP k l es) {key:ByteArray} {v:Int} (hk:key.size≤9223372036854775807) (hv:k.min≤v∧v≤k.max) :
  ∃es' clk',(Instr.mapUpdate t (.map (some z)) (.string key) (.int k v)).run P w=.ok () (World.setMap w z es' clk')∧EntsP k (putM l key v) es':=by
 obtain ⟨kt,et,i,h1,h2,h3,h4,h5⟩:=mapOf_spec ht
 have hf:=MapKept.run_findKey (w:=w) h2 (find_ents l es.toList 0 he.1 (key:=key))
 have hck:=MapKept.run_checkKey (P:=P) (w:=w) h2 (k:=.string key) (by simp[MapKept.IsKey]) false 9999
 have hset:=fun o=>MapKept.run_setObj_map (P:=P) (w:=w) o hz
 cases hx:idxM l key with
 |none =>
  rw[hx] at hf
  refine ⟨es.push { key:=.string key,val:=.int k v,born:=clk },clk+1,?_,?_,fun p hp=>?_⟩
  ·unfold Instr.mapUpdate
   simp only[Sem.run_bind,run_underlying h1,Result.andThen_ok,MapKept.run_getObj_map hz,hck,hf,map_none,hset]
   rfl
  ·rw[putM_none hx]
   simp[he.1]
  ·rw[putM_none hx] at hp
   rcases List.mem_append.1 hp with g | g
   ·exact he.2 p g
   ·rw[List.mem_singleton.1 g]
    exact ⟨hk,hv⟩
 |some q =>
  obtain ⟨j,u⟩:=q
  rw[hx] at hf
  obtain ⟨g1,g2,g3⟩:=putM_some (v:=v) hx
  have hlen:es.toList.length=l.length:=by have:=congrArg length he.1; simpa using this
  have hkey:((es[j]?).map (·.key)).getD (.string key)=.string key:=by
   have h0:=congrArg (fun L=>L[j]?) he.1
   simp only[getElem?_map,Array.getElem?_toList] at h0
   cases he2:es[j]? with
   |none=>rfl
   |some e =>
    rw[he2] at h0
    cases hl:l[j]? with
    |none=>rw[hl] at h0; simp at h0
    |some p =>
     rw[hl] at h0 g3
     simp only[map_some,Option.some.injEq,Prod.mk.injEq] at h0 g3
     simp[h0.1,g3]
  refine ⟨es.modify j fun e=>{ e with key:=.string key,val:=.int k v },clk,?_,?_,fun p hp=>?_⟩
  ·have hstay:(Instr.keyThatStays (.string key) (.string key)).run P w=.ok (.string key) w:=by
    unfold Instr.keyThatStays
    have:Instr.sameBits 10000 (.string key) (.string key)=true:=by
     show (key==key)=true
     exact (MapKept.bytes_beq _ _).2 rfl
    simp[this]
   unfold Instr.mapUpdate
   simp only[Sem.run_bind,run_underlying h1,Result.andThen_ok,MapKept.run_getObj_map hz,hck,hf,map_some,Nat.zero_add,hkey,hstay,hset]
   rfl
  ·rw[g2]
   have hm:(es.modify j fun e=>{ e with key:=.string key,val:=.int k v }).toList=es.toList.modify j fun e=>{ e with key:=.string key,val:=.int k v }:=Array.toList_modify ..
   rw[hm]
   refine List.ext_getElem? fun n=>?_
   have h0:=congrArg (fun L=>L[n]?) he.1
   simp only[getElem?_map] at h0
   simp only[getElem?_map,List.getElem?_modify,List.getElem?_set]
   by_cases hn:j=n
   ·subst hn
    have hj2:j<es.toList.length:=by omega
    have hj3:j<es.size:=by simpa using hj2
    simp[g1,hj3]
   ·simp only[if_neg hn]
    cases hL:es.toList[n]? with
    |none=>rw[hL] at h0; simpa using h0
    |some e=>rw[hL] at h0; simpa using h0
  ·rw[g2] at hp
   rcases List.mem_or_eq_of_mem_set hp with g | g
   ·exact he.2 p g
   ·rw[g]; exact ⟨hk,hv⟩
def stUpd (P:Program) (o:Oper) (t:TypeId) (x y u:Operand) (s:St) (k:St→Tr α):Tr α:=match o.dst,opo s x,opo s y,opo s u with
 |none,some (.at id p),some (.val .str key),some (.val (.int j) v)=>match look s.ck id with
  |some c=>match mkMP c.K p with
   |some m=>if j=m.kind∧mapOf? P t=some m.kind then
     .need ((m.get c.x).isSome=true) (k ⟨s.tm.filter fun x=>keepMA id x.2,updL s.ck id ⟨c.box,c.K,m.put c.x (putM ((m.get c.x).getD []) key v)⟩⟩) else .bad
   |none=>.bad
  |none=>.bad
 |_,_,_,_=>.bad
def atId (s:St) (x:Operand):List Nat:=match opo s x with
 |some (.at id _)=>[id]
 |_=>[]
theorem stUpd_ok {P:Program} {F:Fr} {o:Oper} {t:TypeId} {x y u:Operand} {s:St} {k:St→Tr α} (ho:o.op=.mapUpdate t x y u) :
  WorldOK P F o s (stUpd P o t x y u s k) k ⟨false,atId s x⟩:=by
 unfold stUpd
 split
 ·rename_i id p key j v hd hx hy hu
  split
  ·rename_i c hc
   split
   ·rename_i m hm
    split
    ·rename_i hcond
     obtain ⟨rfl,ht⟩:=hcond
     intro K' a w Γ rcs h Q g he hs
     obtain ⟨hsome,hs⟩:=hs
     have hoff:Off F [id] rcs:=by
      have:atId s x=[id]:=by unfold atId; rw[hx]
      rw[this] at he
      exact off_of g he
     obtain ⟨r,q,hr,hp,hv⟩:=g.opoIs hx
     have hcr:=g.same hc hr
     subst hcr
     obtain ⟨l,hl⟩:=Option.isSome_iff_exists.1 hsome
     have hpath:=mkMP_path hm
     obtain ⟨a',epl⟩:=mp_pl m r.x r.z ((r.box.getD (0,0)).1,0)
     rw[hpath] at epl
     have epl':pl r.K r.x r.z p ((r.box.getD (0,0)).1,0)=some ⟨.mp true m.ty m.kind,m.get r.x,m.blk r.z,a'⟩:=epl
     rw[epl'] at hp
     injection hp with hp
     subst hp
     have hl':m.get r.x=some l:=hl
     have ev:a.eval x=.map (some (m.blk r.z)):=by
      rw[hv]
      show Value.map (Option.map (fun _=>m.blk r.z) (m.get r.x))=_
      rw[hl']
      rfl
     obtain ⟨h1,hR,d1,hh,o1⟩:=star_take g.star hr
     obtain ⟨hq,es,clk,d2,e2,hE,_⟩:=rc_mp hl' o1
     have hz:w.heap[m.blk r.z]? = some (.map es clk):=g.mem _ (.mp es clk) (by
      rw[hh]
      refine un_left ?_
      rw[e2]
      exact un_right d2 (if_pos rfl))
     obtain ⟨ey,hky⟩:=is_str (g.opoIs hy)
     obtain ⟨eu,hvu⟩:=is_int (g.opoIs hu)
     obtain ⟨es',clk',hrun,hE'⟩:=run_update_map ht hz hE hky hvu (key:=key) (v:=v)
     have hR2:=g.mapPut (es':=es') (clk':=clk') hr hl' hE' (tm:=s.tm.filter fun x=>keepMA id x.2) (fun t av hm'=>by
      obtain ⟨q1,q2⟩:=List.mem_filter.1 hm'
      exact ⟨q2,q1⟩) hoff
     have hgd:(m.get r.ck.x).getD []=l:=by
      show (m.get r.x).getD []=l
      rw[hl']
      rfl
     rw[hgd] at hs
     unfold Oper.wp
     have hex:(execOp a.eval o).run P w=.ok .skip (World.setMap w (m.blk r.z) es' clk'):=by
      simp only[execOp,ho,ev,ey,eu,Sem.run_bind,hrun,Result.andThen_ok,Sem.run_pure]
     rw[hex,Oper.upon_skip,hd]
     exact ⟨_,hR2,hs⟩
    ·exact world_bad
   ·exact world_bad
  ·exact world_bad
 ·exact world_bad
theorem stLenM_ok {P:Program} {F:Fr} {o:Oper} {c:Call} {s:St} {k:St→Tr α} {e:Eff} (ho:o.op=.call c) (hb:c.callee=.builtin .len):WorldOK P F o s (stLenM P F.n o c s k) k e:=by
 unfold stLenM
 split
 ·rename_i x t hx ht
  have ha:c.args = #[x]:=by rw[←Array.toList_inj]; exact hx
  have ha':c.argTypes = #[t]:=by rw[←Array.toList_inj]; exact ht
  split
  ·rename_i id p hv
   split
   ·rename_i ck hc
    split
    ·rename_i t' kk y hg
     split
     ·rename_i hm
      intro K' a w Γ rcs h Q g he hs
      obtain ⟨hlen,hs⟩:=hs
      refine world_ask (e:=e) (fun a w Γ rcs h g=>?_) K' a w Γ rcs h Q g he hs
      obtain ⟨z,ev,hl⟩:=g.mapAt hv hc hg
      obtain ⟨kt,et,i,h1,h2,h3,h4,h5⟩:=mapOf_spec hm
      refine ⟨_,?_,int_is (rcs:=rcs) ⟨by show -(2^63:Int)≤_; omega,by show _≤(2^63-1:Int); omega⟩⟩
      cases y with
      |none =>
       have ev':a.eval x=.map none:=ev
       simp[execOp,ho,resolve,hb,ha,ha',invoke,builtin,Builtin.len_,run_underlying h1,ev',goInt]
      |some l =>
       obtain ⟨es,clk,hz,hE⟩:=hl l rfl
       have ev':a.eval x=.map (some z):=ev
       have hsz:es.size=l.length:=by have:=congrArg length hE.1; simpa using this
       simp[execOp,ho,resolve,hb,ha,ha',invoke,builtin,Builtin.len_,run_underlying h1,ev',goInt,MapKept.run_getObj_map hz,hsz]
     ·exact world_bad
    ·exact world_bad
   ·exact world_bad
  ·exact world_bad
 ·exact world_bad
def isNilM:Operand→Bool
 |.const (.map none)=>true
 |_=>false
def stMapNil (P:Program) (n:Lim) (o:Oper) (op:BinOp) (t:TypeId) (x:Operand) (s:St) (k:St→Tr α):Tr α:=match opo s x with
 |some (.at id p)=>match look s.ck id with
  |some c=>match getP c.K c.x p with
   |some ⟨.mp true _ kk,y⟩=>if mapOf? P t=some kk then (match op with
    |.eql=>set n s o (.one (.val .bool (!y.isSome))) k
    |.neq=>set n s o (.one (.val .bool y.isSome)) k
    |_=>.bad) else .bad
   |_=>.bad
  |none=>.bad
 |_=>.bad
theorem stMapNil_ok {P:Program} {F:Fr} {o:Oper} {op:BinOp} {t t2:TypeId} {x y:Operand} {s:St} {k:St→Tr α} (ho:o.op=.binOp op t x y t2) (hy:isNilM y=true):PureOK P F o s (stMapNil P F.n o op t x s k) k:=by
 have hy':y=.const (.map none):=by
  unfold isNilM at hy
  split at hy
  ·rfl
  ·cases hy
 subst hy'
 unfold stMapNil
 split
 ·rename_i id p hv
  split
  ·rename_i c hc
   split
   ·rename_i t' kk y hg
    split
    ·rename_i hm
     obtain ⟨kt,et,i,h1,h2,h3,h4,h5⟩:=mapOf_spec hm
     split
     ·refine pure_set fun a w Γ rcs h g=>?_
      obtain ⟨z,ev,_⟩:=g.mapAt hv hc hg
      refine ⟨_,fun w'=>?_,bool_is (rcs:=rcs)⟩
      cases y with
      |none =>
       have ev':a.eval x=.map none:=ev
       have ey:a.eval (.const (.map none))=.map none:=rfl
       simp[execOp,ho,ev',ey,eqGuard,binOp,run_equal_map_nil w' t kt et _ h1]
      |some l =>
       have ev':a.eval x=.map (some z):=ev
       have ey:a.eval (.const (.map none))=.map none:=rfl
       simp[execOp,ho,ev',ey,eqGuard,binOp,run_equal_map_nil w' t kt et _ h1]
     ·refine pure_set fun a w Γ rcs h g=>?_
      obtain ⟨z,ev,_⟩:=g.mapAt hv hc hg
      refine ⟨_,fun w'=>?_,bool_is (rcs:=rcs)⟩
      cases y with
      |none =>
       have ev':a.eval x=.map none:=ev
       have ey:a.eval (.const (.map none))=.map none:=rfl
       simp[execOp,ho,ev',ey,eqGuard,binOp,run_equal_map_nil w' t kt et _ h1]
      |some l =>
       have ev':a.eval x=.map (some z):=ev
       have ey:a.eval (.const (.map none))=.map none:=rfl
       simp[execOp,ho,ev',ey,eqGuard,binOp,run_equal_map_nil w' t kt et _ h1]
     ·exact pure_bad
    ·exact pure_bad
   ·exact pure_bad
  ·exact pure_bad
 ·exact pure_bad
def stIdxA (P:Program) (n:Lim) (o:Oper) (t:TypeId) (x i:Operand) (s:St) (k:St→Tr α):Tr α:=match opo s x,opo s i with
 |some (.val (.arr m e) xs),some (.val (.int _) j)=>match P.underlying t with
  |some (.array m' te)=>match varT P te with
   |some (b,sz)=>if m=m'∧b=true∧sz=1∧single e=true then .need (inb j m) (set n s o (.one (.val e (getD xs j.toNat e.dft))) k) else .bad
   |none=>.bad
  |_=>.bad
 |_,_=>.bad
theorem stIdxA_ok {P:Program} {F:Fr} {o:Oper} {t:TypeId} {x i:Operand} {s:St} {k:St→Tr α} (ho:o.op=.index t x i):PureOK P F o s (stIdxA P F.n o t x i s k) k:=by
 unfold stIdxA
 split
 ·rename_i m e xs kj j hx hi
  split
  ·rename_i m' te hu
   split
   ·rename_i b sz hv
    split
    ·rename_i hc
     obtain ⟨rfl,rfl,rfl,hse⟩:=hc
     refine pure_need fun ⟨h0,h1⟩=>pure_set fun a w Γ rcs h g=>?_
     obtain ⟨hf,z,how,hxv⟩:=g.opoIs hx
     obtain ⟨hj,_⟩:=is_int (g.opoIs hi)
     have hfe:e.free=true:=by simpa[free] using hf
     have h0':@LE.le Int _ 0 j:=h0
     have h1':@LT.lt Int _ j m:=h1
     have hlt:Int.toNat j<m:=by omega
     have hsz:e.size=1:=single_size e hse
     unfold varT at hv
     split at hv
     ·rename_i d it hut hit
      simp only[Option.some.injEq,Prod.mk.injEq,Bool.not_eq_eq_eq_not,Bool.not_true] at hv
      obtain ⟨hrow,hits⟩:=hv
      have hagg:∀w',(isAgg te).run P w'=.ok false w':=by
       intro w'
       unfold isAgg
       rw[Sem.run_bind,run_underlying hut w']
       cases d<;>simp_all
      have hcell:((Kd.arr m e).cells xs z).toArray[Int.toNat j]? = some (toV e (e.cells (getD xs (Int.toNat j) e.dft) (z (Int.toNat j)))):=by
       have h2:Lie ((Kd.arr m e).cells xs z).toArray 0 ((Kd.arr m e).cells xs z):=fun j hj=>by simp
       have:=lie_arr h2 hlt
       rw[hsz,Nat.mul_one,Nat.zero_add] at this
       have h3:=this 0 (by rw[cells_length,hsz]; exact Nat.one_pos)
       rw[Nat.add_zero] at h3
       rw[h3]
       simp only[toV,hse,if_true]
       exact getElem?_zero_getD (by rw[cells_length,hsz]; exact Nat.one_pos) undef
      refine ⟨_,fun w'=>?_,hfe,z (Int.toNat j),own_item hfe how hlt,rfl⟩
      have hxv':a.eval x=.agg ((Kd.arr m e).cells xs z).toArray:=hxv
      have hpart:(Instr.index t (.agg ((Kd.arr m e).cells xs z).toArray) (.int kj j)).run P w'=.ok (toV e (e.cells (getD xs (Int.toNat j) e.dft) (z (Int.toNat j)))) w':=by
       simp only[Instr.index,asIntOf,Sem.run_bind,Sem.run_pure,Result.andThen_ok,run_underlying hu,h0',h1',and_self,if_true,sizeOf,typeInfo,part,hagg]
       have hcell':((Kd.arr m e).cells xs z)[Int.toNat j]? = some (toV e (e.cells (getD xs (Int.toNat j) e.dft) (z (Int.toNat j)))):=by simpa using hcell
       simp[hit,hits,hcell']
      simp only[execOp,ho,hxv',hj]
      simp[hpart]
     ·cases hv
    ·exact pure_bad
   ·exact pure_bad
  ·exact pure_bad
 ·exact pure_bad
def isArrT (P:Program) (t:TypeId):Bool:=match P.underlying t with
 |some (.array _ _)=>true
 |_=>false
def mapLen (P:Program) (c:Call):Bool:=match c.argTypes.toList with
 | [t]=>(mapOf? P t).isSome
 |_=>false
def clsOf (P:Program) (o:Oper):Cls:=match o.op with
 |.load _ _=>.read
 |.move _ | .assign _ | .pick _ _ _ | .binOp _ _ _ _ _ | .unOp _ _ _ | .fieldAddr _ _ _ | .indexAddr _ _ _ | .index _ _ _ | .nilCheck _ | .extract _ _ | .makeFunc _ _ _=>.pure
 |.convert src dst _=>if (intT P src).isSome&&(intT P dst).isSome then .pure else .world
 |.slice t _ _ _ none=>if isArrT P t then .world else .pure
 |.call c=>match c.callee with
  |.builtin .len=>if mapLen P c then .world else .pure
  |.builtin .min | .builtin .max=>.pure
  |_=>.world
 |_=>.world
def rdOf (o:Oper) (s:St):Option (Option Nat):=match o.op with
 |.load _ x=>rdB s x
 |_=>some none
def effOf (cfg:Nat→Option Spec) (o:Oper) (s:St):Eff:=match o.op with
 |.store _ x _=>⟨false,wrId s x++effL (eats o) s⟩
 |.box _ _=>⟨true,dstL o++effL (eats o) s⟩
 |.build _ _=>⟨true,dstL o++effL (eats o) s⟩
 |.buildSlice _ _ _=>⟨true,dstL o++effL (eats o) s⟩
 |.convert _ _ _=>⟨true,[]⟩
 |.slice _ x _ _ _=>⟨true,ptrId s x⟩
 |.makeMap _ _=>⟨false,dstL o⟩
 |.mapUpdate _ x _ _=>⟨false,atId s x⟩
 |.call c=>match c.callee with
  |.builtin .append=>⟨false,dstL o++effL (eats o) s⟩
  |.builtin .copy=>⟨false,cpIds s c⟩
  |_=>⟨(effCall2 cfg s c o.dst).all,(effCall2 cfg s c o.dst).ids++effL (callEats cfg s c) s⟩
 |_=>⟨true,dstL o⟩
def stepOf (P:Program) (cfg:Nat→Option Spec) (n:Lim) {α:Type} (o:Oper) (s:St) (k:St→Tr α):Tr α:=match o.op with
 |.move x=>stMove n o x s fun s'=>k (frzO n o s')
 |.assign x=>stMove n o x s k
 |.pick c x y=>stPick n o c x y s k
 |.alloc t=>stAlloc P n o t s k
 |.box t x=>eatT (eats o) s ⟨true,dstL o⟩ (fun _=>⟨true,dstL o⟩) fun s=>stBox P n o t x s k
 |.build t parts=>eatT (eats o) s ⟨true,dstL o⟩ (fun _=>⟨true,dstL o⟩) fun s=>stBuild P n o t parts s fun s'=>k (frzO n o (foldO o s'))
 |.buildSlice t len parts=>eatT (eats o) s ⟨true,dstL o⟩ (fun s=>⟨true,dstL o++frzL ((eats o).map (·.1)) s⟩) fun s=>frzT ((eats o).map (·.1)) s fun s=>stLitB P n o t len parts s fun s'=>k (frzO n o (foldO o s'))
 |.load t x=>stLoad P n o t x s fun s'=>k (foldO o s')
 |.store t x y=>match selfId s x y with
  |some id=>stSelf P o t id s k
  |none=>eatT (eats o) s ⟨false,wrId s x⟩ (fun s=>⟨false,wrId s x⟩) fun s=>stStore P o t x y s k
 |.nilCheck x=>stNil n o x s k
 |.binOp op t x y _=>if isNilM y then stMapNil P n o op t x s k else stBin P n o op t x y s k
 |.makeMap t none=>stMkMap P n o t s k
 |.lookup t x i true=>stLookup P n o t x i s k
 |.mapUpdate t x y u=>stUpd P o t x y u s k
 |.unOp op _ x=>stUn n o op x s k
 |.convert src dst x=>if (intT P src).isSome&&(intT P dst).isSome then stConv (P:=P) n o src dst x s k else stBStr P n o src dst x s k
 |.makeFunc fn first captured=>stFunc n o fn first captured s k
 |.makeSlice t l c=>stMake P n o t l c s k
 |.slice t x lo hi none=>if isArrT P t then (match opo s x,lo,hi with
   |some (.ptr id []),none,none=>stArrSl P n o t id s k
   |_,_,_=>.bad) else stSlice P n o t x lo hi s k
 |.fieldAddr t x f=>stFieldB (P:=P) n o t x f s k
 |.indexAddr t x i=>stIndex (P:=P) n o t x i s k
 |.index t x i=>if strT P t then stIdx P n o t x i s k else stIdxA P n o t x i s k
 |.extract x i=>stExtract n o x i s k
 |.call c=>match c.callee with
  |.builtin .len=>if mapLen P c then stLenM P n o c s k else stLen (P:=P) n o c s k
  |.builtin .min=>stMin n o c s k
  |.builtin .max=>stMax n o c s k
  |.builtin .append=>eatT (eats o) s ⟨false,dstL o⟩ (fun _=>⟨false,dstL o⟩) fun s=>stAppend P n o c s k
  |.builtin .copy=>stCopy P n o c s k
  |.value _=>eatT (callEats cfg s c) s (effCall2 cfg s c o.dst) (fun s=>effCall cfg s c o.dst) fun s=>stCall cfg n o c s fun s'=>k (frzO n o s')
  |_=>.bad
 |_=>.bad
def riskyOf (cfg:Nat→Option Spec) (o:Oper) (s:St):Bool:=match o.op with
 |.store _ _ _=>true
 |.mapUpdate _ _ _ _=>true
 |.call c=>match c.callee with
  |.builtin .append=>true
  |.builtin .copy=>true
  |.builtin _=>false
  |_=>match calleeOf s c with
   |some (f,_,_)=>(match cfg f with
    |some sp=>sp.ps.any fun p=>match p with
     |.val _=>false
     |_=>true
    |none=>true)
   |none=>true
 |_=>false
def stepper (P:Program) (cfg:Nat→Option Spec) (n:Lim):Stepper:=⟨clsOf P,rdOf,effOf cfg,stepOf P cfg n,n.n,riskyOf cfg,n.hz⟩
theorem look_setB {s:St} {t:Nat} {b:Bool} (h:boolAt s t=some b) (t':Nat):look (s.setB t b).tm t'=look s.tm t':=by
 unfold boolAt at h
 split at h
 ·rename_i x hl
  injection h with h
  subst h
  unfold St.setB
  simp only[look]
  split
  ·rename_i e
   simp at e
   subst e
   exact hl.symm
  ·rename_i e
   exact look_del _ (by simp at e; exact fun q=>e q.symm)
 ·cases h
theorem opo_setB {s:St} {t:Nat} {b:Bool} (h:boolAt s t=some b) (x:Operand):opo (s.setB t b) x=opo s x:=by
 have:opv (s.setB t b) x=opv s x:=by
  unfold opv
  split<;>first | rfl | exact look_setB h _
 unfold opo
 rw[this]
theorem argIds_setB {s:St} {t:Nat} {b:Bool} (h:boolAt s t=some b):∀(ps:List Par) (ar:List Ar),argIds (s.setB t b) ps ar=argIds s ps ar
 | [],_=>by simp only[argIds]
 |p::ps,[]=>by cases p<;>simp only[argIds]
 |p::ps,y::ar=>by
  have ih:=argIds_setB h ps ar
  cases p<;>cases y<;>simp only[argIds,ih,opo_setB h]
theorem argIds2_setB {s:St} {t:Nat} {b:Bool} (h:boolAt s t=some b):∀(ps:List Par) (ar:List Ar),argIds2 (s.setB t b) ps ar=argIds2 s ps ar
 | [],_=>by simp only[argIds2]
 |p::ps,[]=>by cases p<;>simp only[argIds2]
 |p::ps,y::ar=>by
  have ih:=argIds2_setB h ps ar
  cases p<;>cases y<;>simp only[argIds2,ih,opo_setB h]
theorem rdOf_setB (o:Oper) (s:St) (t:Nat) (b:Bool) (h:boolAt s t=some b):rdOf o (s.setB t b)=rdOf o s:=by
 unfold rdOf
 split
 ·unfold rdB boxAt
  rw[opo_setB h]
  rfl
 ·rfl
theorem effOf_setB (cfg:Nat→Option Spec) (o:Oper) (s:St) (t:Nat) (b:Bool) (h:boolAt s t=some b):effOf cfg o (s.setB t b)=effOf cfg o s:=by
 unfold effOf
 split
 ·rw[effL_setB (look_setB h)]; unfold wrId; rw[opo_setB h]; rfl
 ·rw[effL_setB (look_setB h)]
 ·rw[effL_setB (look_setB h)]
 ·rw[effL_setB (look_setB h)]
 ·rfl
 ·unfold ptrId; rw[opo_setB h]
 ·rfl
 ·unfold atId; rw[opo_setB h]
 ·split
  ·rw[effL_setB (look_setB h)]
  ·have:cpIds (s.setB t b)=cpIds s:=funext fun c=>by unfold cpIds; simp only[look_setB h]
   rw[this]
  ·rw[effL_setB (look_setB h)]
   unfold effCall2 callEats calleeOf
   simp only[opo_setB h,argIds_setB h,argIds2_setB h]
 ·rfl
theorem stepper_ok {P:Program} {cfg:Nat→Option Spec} (hcfg:∀f sp,cfg f=some sp→Callable P f∧Valid P f sp) (F:Fr):StepOK P F (stepper P cfg F.n):=by
 refine ⟨rfl,?_⟩
 intro B G α o s k K a w ⟨Γ,rcs,h,g⟩ hs
 have P1:∀ {t:Tr α},PureOK P ((F.withG G).with B) o s t k→t.sat K→∃v s',(∀w',(execOp a.eval o).run P w'=.ok (.value v) w')∧R ((F.withG G).with B) s' (a.put o.dst v) w∧(k s').sat K:=fun hp ht=>hp K a w Γ rcs h g ht
 have W1:∀ {t:Tr α} {e:Eff},WorldOK P ((F.withG G).with B) o s t k e→t.sat K→e.ok B→∀Q,o.wp P a w (fun a' w'=>∃s',R ((F.withG G).with B) s' a' w'∧(k s').sat K) Q:=fun hp ht he Q=>hp K a w Γ rcs h Q g he ht
 cases ho:o.op<;>simp only[stepper,clsOf,stepOf,effOf,rdOf,ho] at hs ⊢<;>try exact hs.elim
 case move x=>exact P1 (pure_map (n:=F.n) (stMove_ok (F:=(F.withG G).with B) (.inl ho))) hs
 case assign x=>exact P1 (stMove_ok (F:=(F.withG G).with B) (.inr ho)) hs
 case pick c x y=>exact P1 (stPick_ok (F:=(F.withG G).with B) ho) hs
 case alloc t=>exact W1 (stAlloc_ok (F:=(F.withG G).with B) ho) hs
 case box t x=>exact W1 (eat_ok fun s'=>stBox_ok (F:=(F.withG G).with B) ho) hs
 case build t parts=>exact W1 (eat_ok fun s'=>world_map (n:=F.n) (world_fold (stBuild_ok (F:=(F.withG G).with B) ho))) hs
 case buildSlice t len parts=>exact W1 (eat_ok fun s'=>world_map (n:=F.n) (frz_ok (e:=⟨true,dstL o⟩) fun s''=>world_fold (stLitB_ok (F:=(F.withG G).with B) ho))) hs
 case load t x=>exact read_fold (stLoad_ok (F:=(F.withG G).with B) ho) K a w Γ rcs h g hs
 case store t x y =>
  split at hs
  ·rename_i id hi
   exact W1 (stSelf_ok (F:=(F.withG G).with B) ho hi) hs
  ·exact W1 (eat_ok fun s'=>stStore_ok (F:=(F.withG G).with B) ho) hs
 case nilCheck x=>exact P1 (stNil_ok (F:=(F.withG G).with B) ho) hs
 case binOp op t x y t2 =>
  split at hs
  ·rename_i hn
   exact P1 (stMapNil_ok (F:=(F.withG G).with B) ho hn) hs
  ·exact P1 (stBin_ok (F:=(F.withG G).with B) ho) hs
 case makeMap t rs =>
  cases rs with
  |some m=>exact hs.elim
  |none=>exact W1 (stMkMap_ok (F:=(F.withG G).with B) ho) hs
 case lookup t x i ok =>
  cases ok with
  |false=>exact hs.elim
  |true=>exact W1 (stLookup_ok (F:=(F.withG G).with B) ho) hs
 case mapUpdate t x y u=>exact W1 (stUpd_ok (F:=(F.withG G).with B) ho) hs
 case unOp op t x=>exact P1 (stUn_ok (F:=(F.withG G).with B) ho) hs
 case convert src dst x =>
  split at hs
  ·rename_i hc
   simp only[hc,if_true]
   exact P1 (stConv_ok (P:=P) (F:=(F.withG G).with B) ho) hs
  ·rename_i hc
   simp only[hc,Bool.false_eq_true,if_false]
   exact W1 (stBStr_ok (F:=(F.withG G).with B) ho) hs
 case makeFunc fn first captured=>exact P1 (stFunc_ok (F:=(F.withG G).with B) ho) hs
 case makeSlice t l c=>exact W1 (stMake_ok (F:=(F.withG G).with B) ho) hs
 case slice t x lo hi mx =>
  cases mx with
  |some m=>exact hs.elim
  |none =>
   simp only at hs ⊢
   split at hs
   ·rename_i hc
    simp only[hc,if_true]
    split at hs
    ·rename_i id hx
     simp only[ptrId,hx]
     exact W1 (stArrSl_ok (F:=(F.withG G).with B) ho hx) hs
    ·exact hs.elim
   ·rename_i hc
    simp only[hc,Bool.false_eq_true,if_false]
    exact P1 (stSlice_ok (F:=(F.withG G).with B) ho) hs
 case fieldAddr t x f=>exact P1 (stFieldB_ok (P:=P) (F:=(F.withG G).with B) ho) hs
 case indexAddr t x i=>exact P1 (stIndex_ok (P:=P) (F:=(F.withG G).with B) ho) hs
 case index t x i =>
  split at hs
  ·exact P1 (stIdx_ok (F:=(F.withG G).with B) ho) hs
  ·exact P1 (stIdxA_ok (F:=(F.withG G).with B) ho) hs
 case extract x i=>exact P1 (stExtract_ok (F:=(F.withG G).with B) ho) hs
 case call c =>
  cases hc:c.callee with
  |value x=>simp only[hc] at hs ⊢; exact W1 (eat_ok fun s'=>world_map (n:=F.n) (stCall_ok (F:=(F.withG G).with B) hcfg ho)) hs
  |invoke r m=>simp only[hc] at hs; exact hs.elim
  |builtin b =>
   cases b<;>simp only[hc] at hs ⊢<;>try exact hs.elim
   case len =>
    split at hs
    ·rename_i hm
     simp only[hm,if_true]
     exact W1 (stLenM_ok (F:=(F.withG G).with B) ho hc) hs
    ·rename_i hm
     simp only[hm,Bool.false_eq_true,if_false]
     exact P1 (stLen_ok (P:=P) (F:=(F.withG G).with B) ho hc) hs
   all_goals first | exact P1 (stMin_ok (F:=(F.withG G).with B) ho hc) hs | exact P1 (stMax_ok (F:=(F.withG G).with B) ho hc) hs | exact W1 (eat_ok fun s'=>stAppend_ok (F:=(F.withG G).with B) ho hc) hs | exact W1 (stCopy_ok (F:=(F.withG G).with B) ho hc) hs
inductive TS where
 |val (K:Kd)
 |ptr (id:Nat) (p:List Sel)
 |at (id:Nat) (p:List Sel)
 |slc (id:Nat) (p:List Sel)
 |eptr (K:Kd)
 |nilS | nilP
 |clo (f:Nat) (ids:List Nat)
 |bnd (f:Nat) (K:Kd)
@[reducible] def VT:List (Nat×TS)→Type
 | []=>Unit
 |(_,.val K)::l=>K.T×VT l
 |(_,.eptr K)::l=>K.T×VT l
 |(_,.bnd _ K)::l=>K.T×VT l
 |(_,.slc _ _)::l=>(Nat×Nat)×VT l
 |(_,.ptr _ _)::l | (_,.at _ _)::l | (_,.nilS)::l | (_,.nilP)::l | (_,.clo _ _)::l=>VT l
@[reducible] def VC:List (Nat×Option TypeId×Kd)→Type
 | []=>Unit
 |(_,_,K)::l=>K.T×VC l
structure Shape where
 /-- Slices that get a name: the temporary, its kind. -/
 ren:List (Nat×Kd)
 tms:List (Nat×TS)
 cks:List (Nat×Option TypeId×Kd)
@[reducible] def Shape.V (sh:Shape):Type:=VT sh.tms×VC sh.cks
def tmSt:(l:List (Nat×TS))→VT l→List (Nat×AV)
 | [],_=>[]
 |(t,.val K)::l,v=>(t,.one (.val K v.1))::tmSt l v.2
 |(t,.eptr K)::l,v=>(t,.one (.eptr K v.1))::tmSt l v.2
 |(t,.bnd f K)::l,v=>(t,.one (.bnd f K v.1))::tmSt l v.2
 |(t,.slc id p)::l,v=>(t,.one (.slc id p v.1.1 v.1.2))::tmSt l v.2
 |(t,.ptr id p)::l,v=>(t,.one (.ptr id p))::tmSt l v
 |(t,.at id p)::l,v=>(t,.one (.at id p))::tmSt l v
 |(t,.nilS)::l,v=>(t,.one .nilS)::tmSt l v
 |(t,.nilP)::l,v=>(t,.one .nilP)::tmSt l v
 |(t,.clo f ids)::l,v=>(t,.one (.clo f ids))::tmSt l v
def ckSt:(l:List (Nat×Option TypeId×Kd))→VC l→List (Nat×Ck)
 | [],_=>[]
 |(id,b,K)::l,v=>(id,⟨b,K,v.1⟩)::ckSt l v.2
def Shape.st (sh:Shape) (v:sh.V):St:=⟨tmSt sh.tms v.1,ckSt sh.cks v.2⟩
def ownId (t:Nat):Nat:=2000000+t
def renOne (t:Nat) (K:Kd) (s:St):Option St:=match look s.tm t with
 |some (.one (.at id' []))=>match ckAt s id' none K with
  |some x=>if id'=ownId t then some s else some ⟨(t,.one (.at (ownId t) []))::s.tm.filter fun y=>y.1 != t&&(offA id' y.2&&offA (ownId t) y.2),(ownId t,⟨none,K,x⟩)::del (del s.ck id') (ownId t)⟩
  |none=>none
 |some (.one .nilS)=>match nilK K with
  |some x=>some ⟨(t,.one (.at (ownId t) []))::s.tm.filter fun y=>y.1 != t&&offA (ownId t) y.2,(ownId t,⟨none,K,x⟩)::del s.ck (ownId t)⟩
  |none=>none
 |_=>none
def renAll:List (Nat×Kd)→St→Option St
 | [],s=>some s
 |(t,K)::l,s=>match renOne t K s with
  |some s'=>renAll l s'
  |none=>none
def idsEq:List Nat→List Nat→Bool
 | [],[]=>true
 |x::l,y::m=>x==y&&idsEq l m
 |_,_=>false
theorem idsEq_eq:∀ {l m:List Nat},idsEq l m=true→l=m
 | [],[],_=>rfl
 |x::l,y::m,h=>by
  simp only[idsEq,Bool.and_eq_true,beq_iff_eq] at h
  rw[h.1,idsEq_eq h.2]
def getTm:(l:List (Nat×TS))→St→Option (VT l)
 | [],_=>some ()
 |(t,.val K)::l,s=>match look s.tm t with
  |some (.one (.val K' x))=>if h:K'=K then (match getTm l s with
   |some v=>some (castK h x,v)
   |none=>none) else none
  |some (.one .nilS)=>match nilK K with
   |some x=>if K.free then (match getTm l s with
    |some v=>some (x,v)
    |none=>none) else none
   |none=>none
  |_=>none
 |(t,.eptr K)::l,s=>match look s.tm t with
  |some (.one (.eptr K' x))=>if h:K'=K then (match getTm l s with
   |some v=>some (castK h x,v)
   |none=>none) else none
  |_=>none
 |(t,.bnd f K)::l,s=>match look s.tm t with
  |some (.one (.bnd f' K' x))=>if h:K'=K then (if f'=f then (match getTm l s with
   |some v=>some (castK h x,v)
   |none=>none) else none) else none
  |_=>none
 |(t,.slc id p)::l,s=>match look s.tm t with
  |some (.one (.slc id' p' off len))=>if id'=id∧selEq p' p=true then (match getTm l s with
   |some v=>some ((off,len),v)
   |none=>none) else none
  |_=>none
 |(t,.ptr id p)::l,s=>match look s.tm t with
  |some (.one (.ptr id' p'))=>if id'=id∧selEq p' p=true then getTm l s else none
  |_=>none
 |(t,.at id p)::l,s=>match look s.tm t with
  |some (.one (.at id' p'))=>if id'=id∧selEq p' p=true then getTm l s else none
  |_=>none
 |(t,.nilS)::l,s=>match look s.tm t with
  |some (.one .nilS)=>getTm l s
  |_=>none
 |(t,.nilP)::l,s=>match look s.tm t with
  |some (.one .nilP)=>getTm l s
  |_=>none
 |(t,.clo f ids)::l,s=>match look s.tm t with
  |some (.one (.clo f' ids'))=>if f'=f∧idsEq ids' ids=true then getTm l s else none
  |_=>none
def getCk:(l:List (Nat×Option TypeId×Kd))→St→Option (VC l)
 | [],_=>some ()
 |(id,b,K)::l,s=>match ckAt s id b K with
  |some x=>(match getCk l s with
   |some v=>some (x,v)
   |none=>none)
  |none=>none
def TS.ids:TS→List Nat
 |.ptr id _ | .at id _ | .slc id _=>[id]
 |.clo _ ids=>ids
 |_=>[]
def Shape.fine (sh:Shape):Bool:=nodupB (sh.cks.map (·.1))&&sh.tms.all fun y=>y.2.ids.all fun id=>(sh.cks.map (·.1)).contains id
def Shape.enter (sh:Shape) (s:St):Option sh.V:=match renAll sh.ren s with
 |some s'=>if sh.fine then (match getTm sh.tms s' with
  |some v=>(match getCk sh.cks s' with
   |some c=>some (v,c)
   |none=>none)
  |none=>none) else none
 |none=>none
theorem renOne_ok {F:Fr} (hB:F.B=[]) {t:Nat} {K:Kd} {s s':St} {a:Act} {w:World} (r:R F s a w) (h:renOne t K s=some s'):R F s' a w:=by
 obtain ⟨Γ,rcs,hh,g⟩:=r
 unfold renOne at h
 have hM6:∀m∈F.M,m.1≠ownId t:=fun m hm e=>by
  have:=(F.hM m hm).2
  unfold ownId at e
  omega
 have build:∀(x:K.T) (z:K.Z) (h1 h2:HF) (rcs1:List (Nat×RC)) (v:Value) (tm:List (Nat×AV)),a.tmps[t]? = some v→v=toV K (K.cells x z)→K.Own Γ x z h1→HF.dj h1 h2→(∀b y,(h1.un h2) b=some y→hh b=some y)→Star Γ rcs1 h2→(rcs1.map (·.1)).Nodup→(∀n r,look rcs1 n=some r→look rcs n=some r) →
   (∀y∈tm,∃u,a.tmps[y.1]? = some u∧y.2.is Γ rcs1 u∧offA (ownId t) y.2=true)→R F ⟨(t,.one (.at (ownId t) []))::tm,(ownId t,⟨none,K,x⟩)::del (rcs1.map fun r=>(r.1,r.2.ck)) (ownId t)⟩ a w:=by
  intro x z h1 h2 rcs1 v tm hv hvv ho hd hsub st nd hL htm
  obtain ⟨h3,st3,sub3⟩:=star_del st nd (ownId t)
  have d3:HF.dj h1 h3:=HF.dj_iff.2 fun b hb hx=>HF.dj_iff.1 hd b hb (has_sub sub3 b hx)
  have hs3:∀b y,(h1.un h3) b=some y→hh b=some y:=fun b y e=>hsub b y (un_mono hd (fun _ _ e=>e) sub3 b y e)
  refine ⟨Γ,(ownId t,⟨none,K,x,z⟩)::del rcs1 (ownId t),h1.un h3,?_,?_,⟨h1,h3,d3,rfl,by simpa only[RC.Own] using ho,st3⟩,g.mem.mono hs3,g.memR,?_,g.defers,g.tsz,?_,g.size,g.keep,fun b hb=>g.own b (has_sub hs3 b hb),g.ro,g.ro0,g.os,g.tape,g.output,g.sg,?_,?_⟩
  ·simp only[map_cons,List.cons.injEq,true_and,del,filter_map]
   exact ⟨rfl,rfl⟩
  ·rw[map_cons,nodup_cons]
   exact ⟨del_not _ _,del_nodup nd _⟩
  ·exact HF.dj_iff.2 fun b hb hx=>HF.dj_iff.1 g.dj b hb (has_sub hs3 b hx)
  ·intro t' av hm
   rcases List.mem_cons.1 hm with e | e
   ·injection e with e1 e2
    subst e1; subst e2
    exact ⟨v,hv,⟨none,K,x,z⟩,⟨K,x,z,(0,0)⟩,by simp[look],by simp[pl],hvv⟩
   ·obtain ⟨u,hu,hi,ho⟩:=htm _ e
    exact ⟨u,hu,cons_is ho (offA_is ho hi)⟩
  ·intro e he; rw[hB] at he; cases he
  ·intro m hm r hr
   rw[look_cons_ne (hM6 m hm)] at hr
   exact g.md m hm r (hL _ _ hr)
 split at h
 ·rename_i id' hl
  split at h
  ·rename_i x hx
   split at h
   ·injection h with h; subst h; exact ⟨Γ,rcs,hh,g⟩
   ·injection h with h
    subst h
    obtain ⟨z,h1,hr,e1,d,rfl,o,u2⟩:=g.sub.drop (ckAt_look hx)
    obtain ⟨v,hv,hi⟩:=g.tm t _ (look_mem hl)
    obtain ⟨r0,q,hr0,hp,hvv⟩:=hi
    rw[e1] at hr0
    injection hr0 with hr0
    subst hr0
    simp only[pl,Option.some.injEq] at hp
    subst hp
    have hck:del s.ck id'=(del rcs id').map fun r=>(r.1,r.2.ck):=u2.ck
    rw[hck]
    refine build x z h1 hr (del rcs id') v _ hv hvv o d (fun _ _ e=>e) u2.st u2.nd (del_look rcs id') ?_
    intro y hy
    obtain ⟨y1,y2⟩:=List.mem_filter.1 hy
    simp only[Bool.and_eq_true] at y2
    obtain ⟨u,hu,hi⟩:=g.tm y.1 y.2 y1
    exact ⟨u,hu,offA_is y2.2.1 hi,y2.2.2⟩
  ·cases h
 ·rename_i hl
  split at h
  ·rename_i x hx
   injection h with h
   subst h
   obtain ⟨v,hv,hi⟩:=g.tm t _ (look_mem hl)
   obtain ⟨n1,n2,n3,_⟩:=nilK_own (Γ:=Γ) hx
   have:=build x K.zd HF.emp hh rcs v (s.tm.filter fun y=>y.1 != t&&offA (ownId t) y.2) hv (by rw[n2]; simp only[toV,n3,if_true,List.getD_cons_zero]; exact hi) n1 (HF.emp_dj _) (by rw[HF.emp_un]; exact fun _ _ e=>e) g.star g.nodup (fun _ _ e=>e) (fun y hy=>by
    obtain ⟨y1,y2⟩:=List.mem_filter.1 hy
    simp only[Bool.and_eq_true] at y2
    obtain ⟨u,hu,hi⟩:=g.tm y.1 y.2 y1
    exact ⟨u,hu,hi,y2.2⟩)
   rw[g.ck] at this
   exact this
  ·cases h
 ·cases h
theorem renAll_ok {F:Fr} (hB:F.B=[]) {a:Act} {w:World}:∀ {l:List (Nat×Kd)} {s s':St},R F s a w→renAll l s=some s'→R F s' a w
 | [],s,s',r,h=>by simp only[renAll,Option.some.injEq] at h; subst h; exact r
 |(t,K)::l,s,s',r,h=>by
  simp only[renAll] at h
  split at h
  ·rename_i s1 h1
   exact renAll_ok hB (renOne_ok hB r h1) h
  ·cases h
theorem getTm_ok {F:Fr} {s:St} {a:Act} {w:World} {Γ:HF} {rcs:List (Nat×RC)} {h:HF} (g:Good F s a w Γ rcs h):∀ {l:List (Nat×TS)} {v:VT l},getTm l s=some v→∀y∈tmSt l v,∃u,a.tmps[y.1]? = some u∧y.2.is Γ rcs u∧∃ts,(y.1,ts)∈l∧∀id,(offA id y.2=true∨id∈ts.ids)
 | [],v,h,y,hy=>by cases hy
 |(t,ts)::l,v,h,y,hy=>by
  have tl:∀ {v':VT l},getTm l s=some v'→y∈tmSt l v'→∃u,a.tmps[y.1]? = some u∧y.2.is Γ rcs u∧∃ts',(y.1,ts')∈(t,ts)::l∧∀id,(offA id y.2=true∨id∈ts'.ids):=fun h1 h2=>by
   obtain ⟨u,q1,q2,ts',q3,q4⟩:=getTm_ok g h1 y h2
   exact ⟨u,q1,q2,ts',List.mem_cons_of_mem _ q3,q4⟩
  have hd:∀ {av:AV},look s.tm t=some av→y=(t,av)→(∀id,(offA id av=true∨id∈ts.ids))→∃u,a.tmps[y.1]? = some u∧y.2.is Γ rcs u∧∃ts',(y.1,ts')∈(t,ts)::l∧∀id,(offA id y.2=true∨id∈ts'.ids):=fun h1 h2 h3=>by
   subst h2
   obtain ⟨u,q1,q2⟩:=g.tm t _ (look_mem h1)
   exact ⟨u,q1,q2,ts,mem_cons_self,h3⟩
  cases ts with
  |val K =>
   simp only[getTm] at h
   split at h
   ·rename_i K' x hl
    split at h
    ·rename_i hK
     subst hK
     split at h
     ·rename_i v' hv'
      injection h with h
      subst h
      rcases List.mem_cons.1 hy with e | e
      ·exact hd hl e (fun id=>.inl rfl)
      ·exact tl hv' e
     ·cases h
    ·cases h
   ·rename_i hl
    split at h
    ·rename_i x hx
     split at h
     ·rename_i hf
      split at h
      ·rename_i v' hv'
       injection h with h
       subst h
       rcases List.mem_cons.1 hy with e | e
       ·subst e
        obtain ⟨u,q1,q2⟩:=g.tm t _ (look_mem hl)
        obtain ⟨n1,n2,n3,_⟩:=nilK_own (Γ:=Γ) hx
        refine ⟨u,q1,⟨hf,K.zd,n1,?_⟩,.val K,mem_cons_self,fun id=>.inl rfl⟩
        show u=toV K (K.cells x K.zd)
        rw[n2]
        simp only[toV,n3,if_true,List.getD_cons_zero]
        exact q2
       ·exact tl hv' e
      ·cases h
     ·cases h
    ·cases h
   ·cases h
  |eptr K =>
   simp only[getTm] at h
   split at h
   ·rename_i K' x hl
    split at h
    ·rename_i hK
     subst hK
     split at h
     ·rename_i v' hv'
      injection h with h
      subst h
      rcases List.mem_cons.1 hy with e | e
      ·exact hd hl e (fun id=>.inl rfl)
      ·exact tl hv' e
     ·cases h
    ·cases h
   ·cases h
  |bnd f K =>
   simp only[getTm] at h
   split at h
   ·rename_i f' K' x hl
    split at h
    ·rename_i hK
     subst hK
     split at h
     ·rename_i hff
      subst hff
      split at h
      ·rename_i v' hv'
       injection h with h
       subst h
       rcases List.mem_cons.1 hy with e | e
       ·exact hd hl e (fun id=>.inl rfl)
       ·exact tl hv' e
      ·cases h
     ·cases h
    ·cases h
   ·cases h
  |slc id p =>
   simp only[getTm] at h
   split at h
   ·rename_i id' p' off len hl
    split at h
    ·rename_i hc
     obtain ⟨rfl,hp⟩:=hc
     split at h
     ·rename_i v' hv'
      injection h with h
      subst h
      rcases List.mem_cons.1 hy with e | e
      ·exact hd hl (by rw[e,selEq_eq hp]) (fun id=>by
        by_cases q:id'=id
        ·right; simp[TS.ids,q]
        ·left; simpa[offA,offS] using q)
      ·exact tl hv' e
     ·cases h
    ·cases h
   ·cases h
  |ptr id p =>
   simp only[getTm] at h
   split at h
   ·rename_i id' p' hl
    split at h
    ·rename_i hc
     obtain ⟨rfl,hp⟩:=hc
     rcases List.mem_cons.1 hy with e | e
     ·exact hd hl (by rw[e,selEq_eq hp]) (fun id=>by
        by_cases q:id'=id
        ·right; simp[TS.ids,q]
        ·left; simpa[offA,offS] using q)
     ·exact tl h e
    ·cases h
   ·cases h
  | «at» id p =>
   simp only[getTm] at h
   split at h
   ·rename_i id' p' hl
    split at h
    ·rename_i hc
     obtain ⟨rfl,hp⟩:=hc
     rcases List.mem_cons.1 hy with e | e
     ·exact hd hl (by rw[e,selEq_eq hp]) (fun id=>by
        by_cases q:id'=id
        ·right; simp[TS.ids,q]
        ·left; simpa[offA,offS] using q)
     ·exact tl h e
    ·cases h
   ·cases h
  |nilS =>
   simp only[getTm] at h
   split at h
   ·rename_i hl
    rcases List.mem_cons.1 hy with e | e
    ·exact hd hl e (fun id=>.inl rfl)
    ·exact tl h e
   ·cases h
  |nilP =>
   simp only[getTm] at h
   split at h
   ·rename_i hl
    rcases List.mem_cons.1 hy with e | e
    ·exact hd hl e (fun id=>.inl rfl)
    ·exact tl h e
   ·cases h
  |clo f ids =>
   simp only[getTm] at h
   split at h
   ·rename_i f' ids' hl
    split at h
    ·rename_i hc
     obtain ⟨rfl,hp⟩:=hc
     rcases List.mem_cons.1 hy with e | e
     ·exact hd hl (by rw[e,idsEq_eq hp]) (fun id=>by
        rw[idsEq_eq hp]
        by_cases q:id∈ids
        ·right; exact q
        ·left; simpa[offA,offS] using q)
     ·exact tl h e
    ·cases h
   ·cases h
theorem getCk_ok {F:Fr} {a:Act} {Γ:HF} {s0:St}:∀ {l:List (Nat×Option TypeId×Kd)} {v:VC l} {s:St} {rcs:List (Nat×RC)} {h:HF},Sub F s a Γ rcs h→(l.map (·.1)).Nodup→(∀y∈l,look s.ck y.1=look s0.ck y.1)→getCk l s0=some v →
  ∃rcs' h',rcs'.map (fun r=>(r.1,r.2.ck))=ckSt l v∧Star Γ rcs' h'∧(∀b x,h' b=some x→h b=some x)∧∀y∈rcs',look rcs y.1=some y.2
 | [],v,s,rcs,h,u,nd,hs,e=>⟨[],HF.emp,rfl,rfl,fun b x q=>by simp[HF.emp] at q,fun y hy=>by cases hy⟩
 |(id,b,K)::l,v,s,rcs,h,u,nd,hs,e=>by
  simp only[getCk] at e
  split at e
  ·rename_i x hx
   split at e
   ·rename_i v' hv'
    injection e with e
    subst e
    rw[map_cons,nodup_cons] at nd
    have hl:look s.ck id=some ⟨b,K,x⟩:=by rw[hs _ mem_cons_self]; exact ckAt_look hx
    obtain ⟨bb,z,h1,hr,e1,e2,d,rfl,o,u2⟩:=u.take hl
    obtain ⟨rcs',h',f1,f2,f3,f4⟩:=getCk_ok u2 nd.2 (fun y hy=>by
     have hne:y.1≠id:=fun q=>nd.1 (List.mem_map.2 ⟨y,hy,q⟩)
     rw[←hs y (List.mem_cons_of_mem _ hy)]
     exact look_del _ hne) hv'
    refine ⟨(id,⟨bb,K,x,z⟩)::rcs',h1.un h',?_,⟨h1,h',HF.dj_iff.2 fun b hb hx=>HF.dj_iff.1 d b hb (has_sub f3 b hx),rfl,o,f2⟩,un_mono d (fun _ _ e=>e) f3,?_⟩
    ·rw[map_cons,f1]
     simp only[RC.ck,e1,ckSt]
    ·intro y hy
     rcases List.mem_cons.1 hy with q | q
     ·subst q; exact e2
     ·exact del_look rcs id _ _ (f4 y q)
   ·cases e
  ·cases e
theorem enter_ok {F:Fr} (hB:F.B=[]) {sh:Shape} {s:St} {v:sh.V} {a:Act} {w:World} (r:R F s a w) (h:sh.enter s=some v):R F (sh.st v) a w:=by
 unfold Shape.enter at h
 split at h
 ·rename_i s1 h1
  obtain ⟨Γ,rcs,hh,g⟩:=renAll_ok hB r h1
  split at h
  ·rename_i hfine
   split at h
   ·rename_i v1 hv1
    split at h
    ·rename_i c hc
     injection h with h
     subst h
     simp only[Shape.fine,Bool.and_eq_true,all_eq_true] at hfine
     have nd:=nodupB_ok hfine.1
     obtain ⟨rcs',h',f1,f2,f3,f4⟩:=getCk_ok (s0:=s1) g.sub nd (fun _ _=>rfl) hc
     have hkeys:rcs'.map (·.1)=sh.cks.map (·.1):=by
      have h2:∀(l:List (Nat×Option TypeId×Kd)) (v:VC l),(ckSt l v).map (·.1)=l.map (·.1):=by
       intro l
       induction l with
       |nil=>intro v; rfl
       |cons x l ih=>intro v; obtain ⟨id,b,K⟩:=x; simp only[ckSt,map_cons,ih]
      rw[←h2 sh.cks c,←f1,map_map]
      rfl
     have nd':(rcs'.map (·.1)).Nodup:=by rw[hkeys]; exact nd
     refine ⟨Γ,rcs',h',f1,nd',f2,g.mem.mono f3,g.memR,HF.dj_iff.2 fun b hb hx=>HF.dj_iff.1 g.dj b hb (has_sub f3 b hx),g.defers,g.tsz,?_,g.size,g.keep,fun b hb=>g.own b (has_sub f3 b hb),g.ro,g.ro0,g.os,g.tape,g.output,g.sg,fun e he=>(by rw[hB] at he; cases he),?_⟩
     ·intro t av hm
      obtain ⟨u,q1,q2,ts,q3,q4⟩:=getTm_ok g hv1 (t,av) hm
      refine ⟨u,q1,?_⟩
      refine ids_is (keys:=[]) (fun c hc=>by cases hc) (rcs:=rcs.filter fun y=>(sh.cks.map (·.1)).contains y.1) ?_ ?_
      ·have key:∀(id:Nat),(sh.cks.map (·.1)).contains id=true∨offA id av=true:=by
        intro id
        rcases q4 id with q | q
        ·exact .inr q
        ·exact .inl (hfine.2 _ q3 id q)
       -- only the named ones are spoken of
       have one:∀ {sv:SV} {u:Value},(∀id,(sh.cks.map (·.1)).contains id=true∨offS id sv=true)→sv.is Γ rcs u→sv.is Γ (rcs.filter fun y=>(sh.cks.map (·.1)).contains y.1) u:=by
        intro sv u hk hi
        have lk:∀id,(sh.cks.map (·.1)).contains id=true→look (rcs.filter fun y=>(sh.cks.map (·.1)).contains y.1) id=look rcs id:=fun id hid=>look_filter _ hid
        cases sv with
        |val K x=>exact hi
        |eptr K x=>exact hi
        |nilS=>exact hi
        |nilP=>exact hi
        |bnd f K x=>exact hi
        |ptr i p=>obtain ⟨r,q,hr,x⟩:=hi; exact ⟨r,q,by rw[lk i ((hk i).resolve_right (by simp[offS]))]; exact hr,x⟩
        | «at» i p => obtain ⟨r, q, hr, x⟩ := hi; exact ⟨r, q, by rw [lk i ((hk i).resolve_right (by simp [offS]))]; exact hr, x⟩
        |slc i p off len=>obtain ⟨r,t,e,hole,x',z',a,hr,x⟩:=hi; exact ⟨r,t,e,hole,x',z',a,by rw[lk i ((hk i).resolve_right (by simp[offS]))]; exact hr,x⟩
        |clo f caps =>
         obtain ⟨vs,e,hl,hall⟩:=hi
         refine ⟨vs,e,hl,fun j id hj=>?_⟩
         obtain ⟨r,b,t,hr,x⟩:=hall j id hj
         refine ⟨r,b,t,?_,x⟩
         rw[lk id ((hk id).resolve_right ?_)]
         ·exact hr
         ·simp[offS,mem_of_getElem? hj]
       cases av with
       |one sv=>exact one key q2
       |tup l =>
        obtain ⟨vs,e,hl,hall⟩:=q2
        refine ⟨vs,e,hl,fun i s hs=>?_⟩
        obtain ⟨u',hu,h'⟩:=hall i s hs
        exact ⟨u',hu,one (fun i=>(key i).imp (fun q=>q) fun q=>List.all_eq_true.1 q s (mem_of_getElem? hs)) h'⟩
      ·intro id r _ hr
       have hm2:=look_mem hr
       obtain ⟨m1,m2⟩:=List.mem_filter.1 hm2
       have hin:id∈rcs'.map (·.1):=by rw[hkeys]; simpa using m2
       obtain ⟨y,hy,hy2⟩:=List.mem_map.1 hin
       have e1:=f4 y hy
       rw[hy2] at e1
       have e2:look rcs id=some r:=look_of_mem g.nodup m1
       rw[e2] at e1
       injection e1 with e1
       exact look_of_mem nd' (by rw[←hy2,e1]; exact hy)
     ·intro m hm r hr
      exact g.md m hm r (f4 _ (look_mem hr))
    ·cases h
   ·cases h
  ·cases h
 ·cases h
inductive Ex where
 |normal
 |exit (id:Nat)
 |ret
 deriving DecidableEq
def Ex.to:Ex→Exit
 |.normal=>.normal
 |.exit id=>.exit id
 |.ret=>.ret
@[reducible] def PT:List (Ex×Shape)→Type
 | []=>Empty
 | [o]=>o.2.V
 |o::o2::l=>o.2.V⊕PT (o2::l)
structure Frag where
 sh:Shape
 outs:List (Ex×Shape)
 impl:sh.V→Option (PT outs)
def outK:(outs:List (Ex×Shape))→PT outs→(Ex→St→Tr α)→Tr α
 | [],_,_=>.bad
 | [o],v,k=>k o.1 (o.2.st v)
 |o::o2::l,v,k=>.alt v (fun x=>k o.1 (o.2.st x)) fun y=>outK (o2::l) y k
def outOf:(outs:List (Ex×Shape))→PT outs→Ex×St
 | [],v=>nomatch v
 | [o],v=>(o.1,o.2.st v)
 |o::_::_,.inl x=>(o.1,o.2.st x)
 |_::o2::l,.inr y=>outOf (o2::l) y
theorem outK_sat:∀ {outs:List (Ex×Shape)} {r:PT outs} {k:Ex→St→Tr α} {K:α→Prop},(outK outs r k).sat K→(k (outOf outs r).1 (outOf outs r).2).sat K
 | [],r,_,_,h=>h.elim
 | [o],r,_,_,h=>h
 |o::o2::l,.inl x,_,_,h=>h.1 x rfl
 |o::o2::l,.inr y,_,_,h=>outK_sat (outs:=o2::l) (h.2 y rfl)
def injO:(outs:List (Ex×Shape))→Ex→St→Tr (PT outs)
 | [],_,_=>.bad
 | [o],e,s=>if e=o.1 then (match o.2.enter s with
  |some v=>.leaf v
  |none=>.bad) else .bad
 |o::o2::l,e,s=>if e=o.1 then (match o.2.enter s with
  |some v=>.leaf (.inl v)
  |none=>.bad) else match injB (o2::l) e s with
  |some v=>.leaf (.inr v)
  |none=>.bad
where
 injB:(outs:List (Ex×Shape))→Ex→St→Option (PT outs)
 | [],_,_=>none
 | [o],e,s=>if e=o.1 then o.2.enter s else none
 |o::o2::l,e,s=>if e=o.1 then (match o.2.enter s with
  |some v=>some (.inl v)
  |none=>none) else match injB (o2::l) e s with
  |some v=>some (.inr v)
  |none=>none
theorem injB_ok {F:Fr} (hB:F.B=[]) {a:Act} {w:World}:∀ {outs:List (Ex×Shape)} {e:Ex} {s:St} {v:PT outs},R F s a w→injO.injB outs e s=some v→(outOf outs v).1=e∧R F (outOf outs v).2 a w
 | [],_,_,v,_,_=>nomatch v
 | [o],e,s,v,r,h=>by
  simp only[injO.injB] at h
  split at h
  ·rename_i he
   exact ⟨he.symm,enter_ok hB r h⟩
  ·cases h
 |o::o2::l,e,s,v,r,h=>by
  simp only[injO.injB] at h
  split at h
  ·rename_i he
   split at h
   ·rename_i x hx
    injection h with h
    subst h
    exact ⟨he.symm,enter_ok hB r hx⟩
   ·cases h
  ·split at h
   ·rename_i y hy
    injection h with h
    subst h
    exact injB_ok hB (outs:=o2::l) r hy
   ·cases h
theorem injO_ok {F:Fr} (hB:F.B=[]) {a:Act} {w:World}:∀ {outs:List (Ex×Shape)} {e:Ex} {s:St} {K:PT outs→Prop},R F s a w→(injO outs e s).sat K→∃v,K v∧(outOf outs v).1=e∧R F (outOf outs v).2 a w
 | [],_,_,_,_,h=>h.elim
 | [o],e,s,K,r,h=>by
  simp only[injO] at h
  split at h
  ·rename_i he
   split at h
   ·rename_i x hx
    exact ⟨x,h,he.symm,enter_ok hB r hx⟩
   ·exact h.elim
  ·exact h.elim
 |o::o2::l,e,s,K,r,h=>by
  simp only[injO] at h
  split at h
  ·rename_i he
   split at h
   ·rename_i x hx
    exact ⟨.inl x,h,he.symm,enter_ok hB r hx⟩
   ·exact h.elim
  ·split at h
   ·rename_i y hy
    obtain ⟨h1,h2⟩:=injB_ok hB r hy
    exact ⟨.inr y,h,h1,h2⟩
   ·exact h.elim
inductive Plan where
 |go
 |frag (f:Frag)
 |seq (a b:Plan)
 |sub (a:Plan)
def Plan.l:Plan→Plan
 |.seq a _=>a
 |_=>.go
def Plan.r:Plan→Plan
 |.seq _ b=>b
 |_=>.go
def Plan.s:Plan→Plan
 |.sub a=>a
 |_=>.go
def condB (s:St) (c:Operand):Option (Option Nat×Bool):=match c with
 |.tmp t=>match boolAt s t with
  |some b=>some (some t,b)
  |none=>none
 |.const (.bool b)=>some (none,b)
 |_=>none
def St.setC (s:St) (t:Option Nat) (b:Bool):St:=match t with
 |some t=>s.setB t b
 |none=>s
def body (P:Program) (S:Stepper):Plan→Code→St→(Ex→St→Tr α)→Tr α
 |.frag f,_,s,k=>match f.sh.enter s with
  |some v=>.bind (f.impl v) fun r=>outK f.outs r k
  |none=>.bad
 |_,.skip,s,k=>k .normal s
 |_,.region _ ops true,s,k=>if P.follows .mixedOrders&&Region.noSelect ops then go S ops ops.size [] (Array.replicate ops.size false) s (fun s'=>k .normal s'.norm) else .bad
 |_,.region _ ops false,s,k=>goSeq S ops (List.range ops.size) s (k .normal)
 |p,.seq a b,s,k=>body P S p.l a s fun e s'=>match e with
  |.normal=>body P S p.r b s' k
  |e=>k e s'
 |p,.cond c x y,s,k=>match condB s c with
  |some (t,b)=>.split b (body P S p.l x (s.setC t true) k) (body P S p.r y (s.setC t false) k)
  |none=>.bad
 |p,.block id c,s,k=>body P S p.s c s fun e s'=>match e with
  |.exit i=>if i=id then k .normal s' else k (.exit i) s'
  |e=>k e s'
 |_,.exit id,s,k=>k (.exit id) s
 |_,.ret,s,k=>k .ret s
 |p,.scope c,s,k=>body P S p.s c s k
 |_,.label _,s,k=>k .normal s
 |_,_,_,_=>.bad
def FragOK (P:Program) (n:Lim) (f:Frag) (c:Code):Prop:=∀(v:f.sh.V) (r:PT f.outs),f.impl v=some r→∀(F:Fr),F.n=n→F.B=[]→∀(a:Act) (w:World),R F (f.sh.st v) a w →
 c.wp P (fun e a' w'=>e=(outOf f.outs r).1.to∧R F (outOf f.outs r).2 a' w') a w
def PlanOK (P:Program) (n:Lim):Plan→Code→Prop
 |.frag f,c=>FragOK P n f c
 |p,.seq a b=>PlanOK P n p.l a∧PlanOK P n p.r b
 |p,.cond _ x y=>PlanOK P n p.l x∧PlanOK P n p.r y
 |p,.block _ c=>PlanOK P n p.s c
 |p,.scope c=>PlanOK P n p.s c
 |_,_=>True
theorem planOK_go {P:Program} {n:Lim}:∀(c:Code),PlanOK P n .go c
 |.skip=>trivial
 |.region _ _ _=>trivial
 |.seq a b=>⟨planOK_go a,planOK_go b⟩
 |.cond _ a b=>⟨planOK_go a,planOK_go b⟩
 |.block _ c=>planOK_go c
 |.loop _=>trivial
 |.rangeFunc _ _ _ _=>trivial
 |.exit _=>trivial
 |.scope c=>planOK_go c
 |.label _=>trivial
 |.goto _=>trivial
 |.ret=>trivial
 |.refuse _=>trivial
theorem with_nil {F:Fr} (h:F.B=[]):F.with []=F:=by
 obtain ⟨w0,lent,G,n,B,M,hM⟩:=F
 simp only at h
 subst h
 rfl
section
variable {P:Program} {cfg:Nat→Option Spec} {n:Lim}
def bodyQ (F:Fr) (k:Ex→St→Tr α) (K:α→Prop):Exit→Act→World→Prop:=fun e a w=>∃(x:Ex) (s:St),e=x.to∧R F s a w∧(k x s).sat K
theorem body_sound (hcfg:∀f sp,cfg f=some sp→Callable P f∧Valid P f sp) {F:Fr} (hn:F.n=n) (hB:F.B=[]) {K:α→Prop}:∀(c:Code) (p:Plan) (s:St) (k:Ex→St→Tr α) (a:Act) (w:World),PlanOK P n p c→R F s a w→(body P (stepper P cfg n) p c s k).sat K→c.wp P (bodyQ F k K) a w:=by
 have hW:=with_nil hB
 have hS:StepOK P F (stepper P cfg n):=by rw[←hn]; exact stepper_ok hcfg F
 intro c
 have hfrag:∀(c:Code) (f:Frag) (s:St) (k:Ex→St→Tr α) (a:Act) (w:World),FragOK P n f c→R F s a w→(match f.sh.enter s with
  |some v=>Tr.bind (f.impl v) fun r=>outK f.outs r k
  |none=>.bad).sat K→c.wp P (bodyQ F k K) a w:=by
  intro c f s k a w hf r h
  split at h
  ·rename_i v hv
   obtain ⟨q,hq,hk⟩:=h
   refine wp_mono (hf v q hq F hn hB a w (enter_ok hB r hv)) ?_
   rintro e a' w' ⟨rfl,r'⟩
   exact ⟨_,_,rfl,r',outK_sat hk⟩
  ·exact h.elim
 have reg:∀(id:Nat) (ops:Array Oper) (dr:Bool) (p:Plan) (s:St) (k:Ex→St→Tr α) (a:Act) (w:World),PlanOK P n p (.region id ops dr)→R F s a w→(body P (stepper P cfg n) p (.region id ops dr) s k).sat K→(Code.region id ops dr).wp P (bodyQ F k K) a w:=by
  intro id ops dr p s k a w hp r h
  have main:(∀f,p≠.frag f)→(Code.region id ops dr).wp P (bodyQ F k K) a w:=by
   intro hne
   cases dr with
   |true =>
    have h':(if P.follows .mixedOrders&&Region.noSelect ops then go (stepper P cfg n) ops ops.size [] (Array.replicate ops.size false) s (fun s'=>k .normal s'.norm) else .bad).sat K:=by
     cases p<;>first | exact h | exact absurd rfl (hne _)
    split at h'
    ·rename_i hc
     simp only[Bool.and_eq_true] at hc
     exact region_any hS (fun o s t b=>rdOf_setB o s t b) (fun o s t b=>effOf_setB cfg o s t b) hc.1 hc.2 (by rw[hW]; exact r) h' fun s' a' w' r' hk=>⟨.normal,s',rfl,by rw[hW] at r'; exact r',hk⟩
    ·exact h'.elim
   |false =>
    have h':(goSeq (stepper P cfg n) ops (List.range ops.size) s (k .normal)).sat K:=by
     cases p<;>first | exact h | exact absurd rfl (hne _)
    exact region_seq hS (by rw[hW]; exact r) h' fun s' a' w' r' hk=>⟨.normal,s',rfl,by rw[hW] at r'; exact r',hk⟩
  cases p with
  |frag f=>exact hfrag _ f s k a w hp r h
  |_=>exact main fun f q=>by cases q
 induction c with
 |region id ops dr=>exact reg id ops dr
 |skip =>
  intro p s k a w hp r h
  cases p with
  |frag f=>exact hfrag _ f s k a w hp r h
  |_=>exact wp_skip ⟨.normal,s,rfl,r,h⟩
 |exit id =>
  intro p s k a w hp r h
  cases p with
  |frag f=>exact hfrag _ f s k a w hp r h
  |_=>exact wp_exit ⟨.exit id,s,rfl,r,h⟩
 |ret =>
  intro p s k a w hp r h
  cases p with
  |frag f=>exact hfrag _ f s k a w hp r h
  |_=>exact wp_ret ⟨.ret,s,rfl,r,h⟩
 |label l =>
  intro p s k a w hp r h
  cases p with
  |frag f=>exact hfrag _ f s k a w hp r h
  |_=>exact wp_label ⟨.normal,s,rfl,r,h⟩
 |goto l =>
  intro p s k a w hp r h
  cases p with
  |frag f=>exact hfrag _ f s k a w hp r h
  |_=>exact h.elim
 |refuse y =>
  intro p s k a w hp r h
  cases p with
  |frag f=>exact hfrag _ f s k a w hp r h
  |_=>exact h.elim
 |rangeFunc f ps x y =>
  intro p s k a w hp r h
  cases p with
  |frag f=>exact hfrag _ f s k a w hp r h
  |_=>exact h.elim
 |loop b ih =>
  intro p s k a w hp r h
  cases p with
  |frag f=>exact hfrag _ f s k a w hp r h
  |_=>exact h.elim
 |seq x y ihx ihy =>
  intro p s k a w hp r h
  have main:(∀f,p≠.frag f)→(Code.seq x y).wp P (bodyQ F k K) a w:=by
   intro hne
   have hp':PlanOK P n p.l x∧PlanOK P n p.r y:=by cases p<;>first | exact hp | exact absurd rfl (hne _)
   have h':(body P (stepper P cfg n) p.l x s fun e s'=>match e with
    |.normal=>body P (stepper P cfg n) p.r y s' k
    |e=>k e s').sat K:=by cases p<;>first | exact h | exact absurd rfl (hne _)
   refine wp_seq (wp_mono (ihx p.l s _ a w hp'.1 r h') ?_)
   rintro e a' w' ⟨ex,s',rfl,r',hk⟩
   cases ex with
   |normal=>exact ihy p.r s' k a' w' hp'.2 r' hk
   |exit id=>exact ⟨.exit id,s',rfl,r',hk⟩
   |ret=>exact ⟨.ret,s',rfl,r',hk⟩
  cases p with
  |frag f=>exact hfrag _ f s k a w hp r h
  |_=>exact main fun f q=>by cases q
 |cond c x y ihx ihy =>
  intro p s k a w hp r h
  have main:(∀f,p≠.frag f)→(Code.cond c x y).wp P (bodyQ F k K) a w:=by
   intro hne
   have hp':PlanOK P n p.l x∧PlanOK P n p.r y:=by cases p<;>first | exact hp | exact absurd rfl (hne _)
   have h':(match condB s c with
    |some (t,b)=>Tr.split b (body P (stepper P cfg n) p.l x (s.setC t true) k) (body P (stepper P cfg n) p.r y (s.setC t false) k)
    |none=>.bad).sat K:=by cases p<;>first | exact h | exact absurd rfl (hne _)
   split at h'
   ·rename_i t b hc
    have hcb:a.eval c=.bool b∧R F (s.setC t b) a w:=by
     unfold condB at hc
     split at hc
     ·rename_i t'
      split at hc
      ·rename_i b' hb
       injection hc with hc
       injection hc with e1 e2
       subst e1; subst e2
       have hv:=boolAt_is r hb
       exact ⟨by simp[Act.eval,hv],r.setB hv⟩
      ·cases hc
     ·injection hc with hc
      injection hc with e1 e2
      subst e1; subst e2
      exact ⟨rfl,r⟩
     ·cases hc
    refine wp_cond_split hcb.1 (fun e=>?_) (fun e=>?_)
    ·subst e
     exact ihx p.l _ k a w hp'.1 hcb.2 (h'.1 rfl)
    ·subst e
     exact ihy p.r _ k a w hp'.2 hcb.2 (h'.2 rfl)
   ·exact h'.elim
  cases p with
  |frag f=>exact hfrag _ f s k a w hp r h
  |_=>exact main fun f q=>by cases q
 |block id c ih =>
  intro p s k a w hp r h
  have main:(∀f,p≠.frag f)→(Code.block id c).wp P (bodyQ F k K) a w:=by
   intro hne
   have hp':PlanOK P n p.s c:=by cases p<;>first | exact hp | exact absurd rfl (hne _)
   have h':(body P (stepper P cfg n) p.s c s fun e s'=>match e with
    |.exit i=>if i=id then k .normal s' else k (.exit i) s'
    |e=>k e s').sat K:=by cases p<;>first | exact h | exact absurd rfl (hne _)
   refine wp_block (wp_mono (ih p.s s _ a w hp' r h') ?_)
   rintro e a' w' ⟨ex,s',rfl,r',hk⟩
   cases ex with
   |normal=>exact ⟨.normal,s',rfl,r',hk⟩
   |ret=>exact ⟨.ret,s',rfl,r',hk⟩
   |exit i =>
    simp only[Ex.to,Exit.inBlock]
    simp only at hk
    split
    ·rename_i hi
     rw[if_pos hi] at hk
     exact ⟨.normal,s',rfl,r',hk⟩
    ·rename_i hi
     rw[if_neg hi] at hk
     exact ⟨.exit i,s',rfl,r',hk⟩
  cases p with
  |frag f=>exact hfrag _ f s k a w hp r h
  |_=>exact main fun f q=>by cases q
 |scope c ih =>
  intro p s k a w hp r h
  have main:(∀f,p≠.frag f)→(Code.scope c).wp P (bodyQ F k K) a w:=by
   intro hne
   have hp':PlanOK P n p.s c:=by cases p<;>first | exact hp | exact absurd rfl (hne _)
   have h':(body P (stepper P cfg n) p.s c s k).sat K:=by cases p<;>first | exact h | exact absurd rfl (hne _)
   refine wp_scope_straight (wp_mono (ih p.s s k a w hp' r h') ?_)
   rintro e a' w' ⟨ex,s',rfl,r',hk⟩
   cases ex with
   |normal=>exact ⟨.normal,s',rfl,r',hk⟩
   |ret=>exact ⟨.ret,s',rfl,r',hk⟩
   |exit i=>exact ⟨.exit i,s',rfl,r',hk⟩
  cases p with
  |frag f=>exact hfrag _ f s k a w hp r h
  |_=>exact main fun f q=>by cases q
def loopK (f:Frag) (rec:f.sh.V→Option (PT f.outs)) (e:Ex) (s:St):Tr (PT f.outs):=match e with
 |.normal=>match f.sh.enter s with
  |some v=>.bind (rec v) .leaf
  |none=>.bad
 |e=>injO f.outs e s
theorem loop_ok (hcfg:∀f sp,cfg f=some sp→Callable P f∧Valid P f sp) {f:Frag} {b:Code} {p:Plan} (hp:PlanOK P n p b) (lp:Nat→f.sh.V→Option (PT f.outs)) (N:Nat) (himpl:∀v,f.impl v=lp N v) (h0:∀v,lp 0 v=none)
  (hs:∀m v,lp (m+1) v=(body P (stepper P cfg n) p b (f.sh.st v) (loopK f (lp m))).eval∧(body P (stepper P cfg n) p b (f.sh.st v) (loopK f (lp m))).left=(body P (stepper P cfg n) p b (f.sh.st v) (loopK f (lp m))).right):FragOK P n f (.loop b):=by
 intro v r hr F hn hB a w hR
 rw[himpl] at hr
 refine wp_loop_rounds N ?_
 have key:∀(m:Nat) (v:f.sh.V) (r:PT f.outs) (a:Act) (w:World),lp m v=some r→R F (f.sh.st v) a w→Code.rounds P b (fun e a' w'=>e=(outOf f.outs r).1.to∧R F (outOf f.outs r).2 a' w') m a w:=by
  intro m
  induction m with
  |zero=>intro v r a w h _; rw[h0] at h; cases h
  |succ m ih =>
   intro v r a w h hR
   obtain ⟨e1,e2⟩:=hs m v
   rw[e1] at h
   have hsat:=Tr.eval_sat _ e2 h (K:=(·=r)) rfl
   rw[rounds_succ]
   refine wp_mono (body_sound hcfg hn hB b p _ _ a w hp hR hsat) ?_
   rintro e a' w' ⟨ex,s',rfl,r',hk⟩
   cases ex with
   |normal =>
    simp only[loopK] at hk
    split at hk
    ·rename_i v' hv'
     obtain ⟨q,hq,he⟩:=hk
     have he':q=r:=he
     subst he'
     exact ih v' q a' w' hq (enter_ok hB r' hv')
    ·exact hk.elim
   |exit id =>
    obtain ⟨q,hq,h1,h2⟩:=injO_ok hB r' hk
    have hq':q=r:=hq
    subst hq'
    exact ⟨by rw[h1],h2⟩
   |ret =>
    obtain ⟨q,hq,h1,h2⟩:=injO_ok hB r' hk
    have hq':q=r:=hq
    subst hq'
    exact ⟨by rw[h1],h2⟩
 exact key N v r a w hr hR
def rsEats:List ResultVar→List Rs→List (Nat×Bool)
 |.tmp t::vs,.own _::rs=>(t,true)::rsEats vs rs
 |.tmp t::vs,.ownN _::rs=>(t,true)::rsEats vs rs
 |_::vs,_::rs=>rsEats vs rs
 |_,_=>[]
def endK (P:Program) (fn:Func) (sp:Spec) (e:Ex) (s:St):Tr (RT sp.rs×OT sp.ps):=match e with
 |.normal | .ret=>retK P fn sp (ownAll (rsEats fn.results.toList sp.rs) s)
 |_=>.bad
def fnT (P:Program) (cfg:Nat→Option Spec) (n:Lim) (fn:Func) (c:Code) (p:Plan) (sp:Spec) (x:AT sp.ps):Tr (RT sp.rs×OT sp.ps):=body P (stepper P cfg n) p c (entrySt sp.ps x) (endK P fn sp)
theorem fn_sat (hcfg : ∀ f sp, cfg f = some sp → Callable P f ∧ Valid P f sp) {f : Nat} {fn : Func} {c : Code} {sp : Spec} {p : Plan} (hf : P.funcs[f]? = some fn) (hb : fn.body = some c) (hnm : (fn.name == "runtime.NumGoroutine") = false)
  (hn:n.n=fn.ntmps) (hlo:n.lo=sp.ps.length) (hps:sp.ps.length≤fn.ntmps) (hbig:sp.ps.length≤1000000) (hp:PlanOK P n p c)
  (hs:∀x r,sp.impl x=some r→(fnT P cfg n fn c p sp x).sat (·=r)):Callable P f∧Valid P f sp:=by
 refine ⟨⟨fn,hf,hnm,by rw[hb]; rfl⟩,fn_valid (n:=n) hf hb hn hlo hps hbig ?_⟩
 intro x r hr F hFn hB a w hR
 have hsat:=hs x r hr
 have eatR:∀ {l:List (Nat×Bool)} {s:St} {a:Act} {w:World},R F s a w→R F (ownAll l s) a w:=fun {l s a w} ⟨Γ,rcs,h,g⟩=>by
  obtain ⟨rcs',h',g'⟩:=ownAll_ok (l:=l) g (by rw[hB]; intro e he; cases he)
  exact ⟨Γ,rcs',h',g'⟩
 refine wp_mono (body_sound hcfg hFn hB c p _ _ a w hp hR hsat) ?_
 rintro e a' w' ⟨ex,s',rfl,r',hk⟩
 cases ex with
 |normal=>exact ⟨.inl rfl,_,eatR r',hk⟩
 |ret=>exact ⟨.inr rfl,_,eatR r',hk⟩
 |exit id=>exact hk.elim
theorem fn_ok (hcfg : ∀ f sp, cfg f = some sp → Callable P f ∧ Valid P f sp) {f : Nat} {fn : Func} {c : Code} {sp : Spec} {p : Plan} (hf : P.funcs[f]? = some fn) (hb : fn.body = some c) (hnm : (fn.name == "runtime.NumGoroutine") = false)
  (hn:n.n=fn.ntmps) (hlo:n.lo=sp.ps.length) (hps:sp.ps.length≤fn.ntmps) (hbig:sp.ps.length≤1000000) (hp:PlanOK P n p c)
  (hs:∀x,sp.impl x=(fnT P cfg n fn c p sp x).eval∧(fnT P cfg n fn c p sp x).left=(fnT P cfg n fn c p sp x).right):Callable P f∧Valid P f sp :=
 fn_sat hcfg hf hb hnm hn hlo hps hbig hp fun x r hr=>Tr.eval_sat _ (hs x).2 ((hs x).1▸hr) rfl
end
end Go.Proofs.YtibammoednhnoaaE
