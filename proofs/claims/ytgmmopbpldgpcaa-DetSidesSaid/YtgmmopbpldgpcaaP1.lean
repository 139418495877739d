/- Plain laws. Conditions: none. -/
import Derived.Test.YtgmmopbpldgpcaaP0
set_option linter.unusedSimpArgs false
set_option linter.unusedVariables false
set_option maxRecDepth 20000
open List (append_assoc append_nil drop_eq_getElem_cons drop_eq_nil_of_le drop_zero ext_getElem foldl_cons getD getD_eq_getElem?_getD getElem_append_left getElem_map getElem_mem getElem_range length length_map length_singleton map_nil mem_cons_of_mem mem_cons_self nil_append range' replicate zipWith)
open Option (bind_some)
open Nat (zero_le)
open Int (tdiv tmod)
namespace Go.Proofs.YtgmmopbpldgpcaaE
def RulC (r:RulT):Prop:=(0≤r.1∧r.1<3)∧Cst r.2.1
abbrev none3:List Int:=[INF1,INF1,INF1]
def rulV (r:RulT) (e:Int) (v:List Int):List Int:=List.set v r.1.toNat (minI (getD v r.1.toNat 0) (adI r.2.1 e))
def emitW:List RulT→List Int→List Bool→List Int→List Int
 |r::rs,e::E,b::set,v=>emitW rs E set (if b then rulV r e v else v)
 |_,_,_,v=>v
theorem rulV_len (r:RulT) (e:Int) (v:List Int):(rulV r e v).length=v.length:=List.length_set
theorem rulV_cst {r:RulT} {e:Int} {v:List Int} (hr:Cst r.2.1) (he:Cst e) (hv:CstL v):CstL (rulV r e v):=cstL_set hv (cst_min (cstL_getD hv _) (cst_ad hr he)) _
theorem none3_cst:CstL none3:=fun x hx=>by
 simp only[none3,List.mem_cons,List.not_mem_nil,or_false,or_self] at hx
 rw[hx]
 exact cst_inf
theorem emitW_drop {rs:List RulT} {E:List Int} {set:List Bool} {v:List Int} {i:Nat} (h1:i<rs.length) (h2:i<E.length) (h3:i<set.length):emitW (rs.drop i) (E.drop i) (set.drop i) v=emitW (rs.drop (i+1)) (E.drop (i+1)) (set.drop (i+1)) (if set[i] then rulV rs[i] E[i] v else v):=by
 rw[drop_eq_getElem_cons h1,drop_eq_getElem_cons h2,drop_eq_getElem_cons h3,emitW]
theorem F53_0_ok (k:Nat) (hk:10≤k) (rs:List RulT) (E:List Int) (set:List Bool) (c6:List Int) (hr:∀r∈rs,RulC r) (hE:CstL E) (h1:E.length=rs.length) (h2:set.length=rs.length) (hn:rs.length≤1000000):∀(d m i:Nat) (v:List Int),i+d=rs.length→d<m→v.length=3→CstL v →
  F53_0 k m E set rs (rs.length:Int) (i:Int) c6 v=some ((),(c6,emitW (rs.drop i) (E.drop i) (set.drop i) v,()))
 |0,m,i,v,hi,hm,hv,hc=>by
  obtain ⟨m,rfl⟩:=pos1 (m:=m) (by omega)
  simp only[F53_0]
  rw[decide_eq_false (by omega),cond_false,drop_eq_nil_of_le (by omega:rs.length≤i)]
  simp[emitW]
 |d+1,m,i,v,hi,hm,hv,hc=>by
  obtain ⟨m,rfl⟩:=pos1 (m:=m) (by omega)
  have hlt:i<rs.length:=by omega
  have hlt1:i<E.length:=by omega
  have hlt2:i<set.length:=by omega
  have ih:=fun v hv hc=>F53_0_ok k hk rs E set c6 hr hE h1 h2 hn d m (i+1) v (by omega) (by omega) hv hc
  obtain ⟨⟨c0,c1⟩,cc⟩:=hr _ (getElem_mem hlt)
  rw[emitW_drop hlt hlt1 hlt2]
  simp only[F53_0]
  rw[dlt hlt,cond_true,if_pos (inR hlt),dlt hlt2,cond_true,if_pos (inR hlt2),tnI i,getD_lt _ _ _ hlt2,getD_lt _ _ _ hlt,wsucc i _ hlt (by omega)]
  cases hb:set[i] with
  |false =>
   rw[cond_false,if_neg (by simp),ih v hv hc]
   rfl
  |true =>
   have hE1:=hE _ (getElem_mem hlt1)
   rw[cond_true,dlt hlt1,cond_true,decide_eq_true (show rs[i].1≥0 from c0),cond_true,decide_eq_true c1,cond_true,if_pos ⟨c0,c1⟩,if_pos (inR hlt1),getD_lt _ _ _ hlt1,F79_ad k _ _ cc hE1,bind_some]
   simp only
   rw[set2,F78_two k hk _ _ (cstL_getD hc _),bind_some]
   simp only
   rw[if_pos ⟨c0,c1⟩,if_pos trivial,show List.set v rs[i].1.toNat (minI (getD v rs[i].1.toNat 0) (adI rs[i].2.1 E[i]))=rulV rs[i] E[i] v from rfl,ih _ (by rw[rulV_len]; exact hv) (rulV_cst cc hE1 hc)]
   rfl
theorem F53_ok (k:Nat) (hk:10000000≤k) (rs:List RulT) (E:List Int) (set:List Bool) (hr:∀r∈rs,RulC r) (hE:CstL E) (h1:E.length=rs.length) (h2:set.length=rs.length) (hn:rs.length≤1000000):F53 k rs E set=some ((emitW rs E set none3,()),()):=by
 have e:=F53_0_ok k (by omega) rs E set (replicate 3 0) hr hE h1 h2 hn rs.length k 0 none3 (Nat.zero_add _) (by omega) rfl none3_cst
 rw[show ((0:Nat):Int)=0 from rfl,drop_zero,drop_zero,drop_zero] at e
 unfold F53 F63
 rw[bind_some]
 simp only
 rw[show List.set (List.set (List.set (replicate 3 (0:Int)) 0 (1152921504606846976:Int)) 1 (1152921504606846976:Int)) 2 (1152921504606846976:Int)=none3 from rfl,e,bind_some]
section
variable (k:Nat) (rs:List RulT) (ss:List SideT) (R:Rows) (set:List Bool)
end
def emW (rs:List RulT) (ss:List SideT) (sets:List (List Bool)) (R:Rows):List (List Int):=sets.map fun set=>emitW rs (endsW ss R) set none3
theorem endsW_cst:∀ {ss:List SideT} {R:Rows},(∀s∈ss,SOC s)→(∀r∈R,CstL r)→CstL (endsW ss R)
 | [],_,_,_=>fun x hx=>by simp[endsW] at hx
 |_::_,[],_,_=>fun x hx=>by simp[endsW] at hx
 |s::ss,r::R,hs,hR=>fun x hx=>by
  have:x=endC s r∨x∈endsW ss R:=List.mem_cons.1 hx
  rcases this with q | q
  ·rw[q]; exact endC_cst (hs s mem_cons_self) (hR r mem_cons_self)
  ·exact endsW_cst (fun y hy=>hs y (mem_cons_of_mem _ hy)) (fun y hy=>hR y (mem_cons_of_mem _ hy)) x q
end Go.Proofs.YtgmmopbpldgpcaaE
set_option linter.unusedSimpArgs false
set_option linter.unusedVariables false
set_option maxRecDepth 20000
namespace Go.Proofs.YtgmmopbpldgpcaaE
abbrev FwdT:=((List (List Int))×((List (List (List Int)))×Unit))
abbrev noneD:((Int×Unit)×(FwdT×Unit)):=(((4:Int),()),((([]:(List (List Int))),(([]:(List (List (List Int)))),())),()))
theorem put1_shw {ss:List SideT} {l:List Rows} {x:Rows} (h:∀y∈l,ShW ss y) (hx:ShW ss x):∀y∈put1 l x,ShW ss y:=by
 unfold put1
 split
 ·exact h
 ·exact all_append h hx
theorem rowA_shw {ss:List SideT} {I:InT} {s:Rows} (hss:∀s∈ss,SOC s) (hs:ShW ss s):∀(al:List Nat) (l:List Rows),(∀y∈l,ShW ss y)→∀y∈(rowA (stepW I ss) s al l).1,ShW ss y
 | [],l,h=>h
 |a::al,l,h=>by
  rw[rowA_1]
  exact rowA_shw hss hs al _ (put1_shw h (stepW_shw hss hs))
def infW (ss:List SideT):Rows:=ss.map fun s=>replicate s.1.length INF1
theorem infW_shw (ss:List SideT):ShW ss (infW ss):=by
 refine ⟨by simp[infW],fun r hr=>?_⟩
 obtain ⟨s,_,e⟩:=List.mem_map.1 hr
 intro x hx
 rw[←e] at hx
 rw[List.eq_of_mem_replicate hx]
 exact cst_inf
theorem infW_flat:∀(ss:List SideT),flatW (infW ss)=replicate (tot ss) INF1
 | []=>rfl
 |s::ss=>by
  rw[tot_cons,←List.replicate_append_replicate,←infW_flat ss]
  rfl
theorem F55_ok (k:Nat) (l:List (List Int)) (h:l.length≤100000000):F55 k l=some ((l,()),()):=by
 unfold F55
 cases l with
 |nil=>rfl
 |cons x l =>
  rw[nz (by simp),cond_false,if_pos (by simp at h ⊢; omega)]
  rfl
theorem F57_ok (k:Nat) (l:List (List (List Int))) (h:l.length≤100000000):F57 k l=some ((l,()),()):=by
 unfold F57
 cases l with
 |nil=>rfl
 |cons x l =>
  rw[nz (by simp),cond_false,if_pos (by simp at h ⊢; omega)]
  rfl
abbrev noH:Rows→List Bool:=fun _=>[]
section
variable (k:Nat) (rs:List RulT) (ss:List SideT) (I:InT) (N:Nat) (B:Int) (sets:List (List Bool))
theorem F19_0_ok (hk:10000000≤k) (hs:∀s∈ss,SOC s) (hn:ss.length≤1000000) (ht:tot ss≤1000000) (hN:N≤5000000) (hB:B≤100000) (t3:Int) (j:Nat) (s:Rows) (c12 c15:FwdT):∀(d m i:Nat) (l:List Rows) (r:List Int),i+d=N→d<m→(∀y∈l,ShW ss y)→j<l.length→getD l j []=s→(l.length:Int)≤B→r.length=i →
  F19_0 k m rs t3 sets B (j:Int) (N:Int) (i:Int) c12 c15 (mkw (mapK 0 (l.map keyW)) ss I l) r =
   if ((rowA (stepW I ss) s (range' i d) l).1.length:Int)≤B then some (.inl ((rs,t3,sets,B,(j:Int),()),(c12,c15,mkw (mapK 0 ((rowA (stepW I ss) s (range' i d) l).1.map keyW)) ss I (rowA (stepW I ss) s (range' i d) l).1,r++(rowA (stepW I ss) s (range' i d) l).2,()))) else some (.inr noneD)
 |0,m,i,l,r,hi,hm,hl,hj,hsj,hlB,hr=>by
  obtain ⟨m,rfl⟩:=pos1 (m:=m) (by omega)
  simp only[List.range'_zero,rowA]
  rw[if_pos hlB,append_nil]
  simp only[F19_0]
  rw[decide_eq_false (by omega),cond_false]
 |d+1,m,i,l,r,hi,hm,hl,hj,hsj,hlB,hr=>by
  obtain ⟨m,rfl⟩:=pos1 (m:=m) (by omega)
  have hlt:i<N:=by omega
  have hsS:ShW ss s:=by
   rw[←hsj,getD_lt _ _ _ hj]
   exact hl _ (getElem_mem hj)
  have hxS:ShW ss (stepW I ss s i):=stepW_shw hs hsS
  have e48:=F48_ok k hk ss I l (stepW I ss s i) (by omega) hl hxS ht
  have hle:=put1_le l (stepW I ss s i)
  have hj2:j<(l.map flatW).length:=by simpa using hj
  have hgf:getD (l.map flatW) j []=flatW s:=by
   rw[getD_lt _ _ _ hj2,getElem_map,←hsj,getD_lt _ _ _ hj]
  have e51:=F51_ok k (some (mapK 0 (l.map keyW)),(l.map flatW,())) I ss i s hk hs hsS hn ht
  rw[List.range'_succ,rowA_1,rowA_2]
  have hap:(length r+length [((ix l (stepW I ss s i):Nat):Int)])*(8*2)≤281474976710656∧length r+length [((ix l (stepW I ss s i):Nat):Int)]≤9223372036854775807:=by rw[length_singleton]; omega
  have hstep:F19_0 k (m+1) rs t3 sets B (j:Int) (N:Int) (i:Int) c12 c15 (mkw (mapK 0 (l.map keyW)) ss I l) r=if ((put1 l (stepW I ss s i)).length:Int)≤B then F19_0 k m rs t3 sets B (j:Int) (N:Int) ((i+1:Nat):Int) c12 c15 (mkw (mapK 0 ((put1 l (stepW I ss s i)).map keyW)) ss I (put1 l (stepW I ss s i))) (r++[((ix l (stepW I ss s i):Nat):Int)]) else some (.inr noneD):=by
   simp only[F19_0]
   rw[dlt hlt,cond_true,if_pos (inR hj2),tnI j,hgf,e51,bind_some]
   simp only
   rw[e48,bind_some]
   simp only
   rw[show List.set (replicate 1 (0:Int)) 0 ((ix l (stepW I ss s i):Nat):Int)=[((ix l (stepW I ss s i):Nat):Int)] from rfl,if_pos hap,length_map,wsucc i _ hlt (by omega)]
   by_cases hc:((put1 l (stepW I ss s i)).length:Int)≤B
   ·rw[if_pos hc,decide_eq_false (by omega),cond_false]
    cases F19_0 k m rs t3 sets B (j:Int) (N:Int) ((i+1:Nat):Int) c12 c15 (mkw (mapK 0 ((put1 l (stepW I ss s i)).map keyW)) ss I (put1 l (stepW I ss s i))) (r++[((ix l (stepW I ss s i):Nat):Int)])<;>rfl
   ·rw[if_neg hc,decide_eq_true (by omega),cond_true]
  rw[hstep]
  by_cases hc:((put1 l (stepW I ss s i)).length:Int)≤B
  ·obtain ⟨tl,htl⟩:=put1_pre l (stepW I ss s i)
   have e2:=F19_0_ok hk hs hn ht hN hB t3 j s c12 c15 d m (i+1) (put1 l (stepW I ss s i)) (r++[((ix l (stepW I ss s i):Nat):Int)]) (by omega) (by omega) (put1_shw hl hxS) (by omega) (by rw[getD_pre htl hj]; exact hsj) hc (by simp[hr])
   rw[if_pos hc,e2,append_assoc]
   rfl
  ·have h3:=rowA_le (stepW I ss) s (range' (i+1) d) (put1 l (stepW I ss s i))
   rw[if_neg hc,if_neg (by omega)]
theorem F19_1_ok (hk:10000000≤k) (hr:∀r∈rs,RulC r) (hrn:rs.length≤1000000) (hset:∀s∈sets,s.length=rs.length) (hsn:sets.length≤1000000) (t3 t16:Int) (c12 c15:FwdT) (c30:MkW) (E:List Int) (hE:CstL E) (hEl:E.length=rs.length) (nx:List Int):∀(d m i:Nat) (D:List (List Int)),i+d=sets.length→d<m→D.length=i →
  F19_1 k m rs t3 sets B t16 sets (sets.length:Int) (i:Int) c12 c15 c30 E nx D=some ((rs,t3,sets,B,t16,()),(c12,c15,c30,nx,D++(sets.drop i).map (fun set=>emitW rs E set none3),()))
 |0,m,i,D,hi,hm,hD=>by
  obtain ⟨m,rfl⟩:=pos1 (m:=m) (by omega)
  simp only[F19_1]
  rw[decide_eq_false (by omega),cond_false,drop_eq_nil_of_le (by omega),map_nil,append_nil]
 |d+1,m,i,D,hi,hm,hD=>by
  obtain ⟨m,rfl⟩:=pos1 (m:=m) (by omega)
  have hlt:i<sets.length:=by omega
  have hset1:=hset _ (getElem_mem hlt)
  simp only[F19_1]
  rw[dlt hlt,cond_true,if_pos (inR hlt),tnI i,getD_lt _ _ _ hlt,F53_ok k hk rs E _ hr hE hEl hset1 hrn,bind_some]
  simp only
  rw[one_list,if_pos (by rw[length_singleton]; omega),wsucc i _ hlt (by omega),F19_1_ok hk hr hrn hset hsn t3 t16 c12 c15 c30 E hE hEl nx d m (i+1) _ (by omega) (by omega) (by simp[hD]),drop_eq_getElem_cons hlt,List.map_cons,append_assoc]
  rfl
theorem take_pre {σ:Type} {l l' t:List σ} {i:Nat} {d0:σ} (e:l'=l++t) (h:i<l.length):l'.take (i+1)=l.take i++[l.getD i d0]:=by
 rw[e,List.take_append_of_le_length (by omega),List.take_succ_eq_append_getElem h,getD_lt _ _ _ h]
theorem F19_2_ok (hk:10000000≤k) (hs:∀s∈ss,SOC s) (hn:ss.length≤1000000) (ht:tot ss≤1000000) (hN:N≤5000000) (hB:B≤100000) (hr:∀r∈rs,RulC r) (hrl:rs.length=ss.length) (hset:∀s∈sets,s.length=rs.length) (hsn:sets.length≤1000000) (t3:Int) (ht3:maxI t3 0=(N:Int)) (c12:FwdT):∀(f m i:Nat) (l:List Rows) (nx:List (List Int)) (ou:List Int) (se:List (List Bool)),B.toNat+2≤i+f→B.toNat+2≤i+m→i≤B.toNat→i≤l.length→(∀y∈l,ShW ss y)→nx.length=i →
  F19_2 k m rs t3 sets B (i:Int) c12 (nx,((l.take i).map (emW rs ss sets),())) (mkw (mapK 0 (l.map keyW)) ss I l)=match mkA (stepW I ss) noH [] B N f i l nx ou se with
   |none=>some (.inr noneD)
   |some q=>some (.inl ((),(c12,(q.2.1,(q.1.map (emW rs ss sets),())),())))
 |0,m,i,l,nx,ou,se,hf,hm,hi,hil,hl,hnx=>by omega
 |f+1,m,i,l,nx,ou,se,hf,hm,hi,hil,hl,hnx=>by
  obtain ⟨m,rfl⟩:=pos1 (m:=m) (by omega)
  simp only[F19_2,mkA]
  rw[length_map]
  by_cases hlt:i<l.length
  ·rw[if_pos hlt,decide_eq_true (by omega),cond_true]
   by_cases hlB:(l.length:Int)>B
   ·rw[if_pos hlB,decide_eq_true hlB,cond_true]
   ·rw[if_neg hlB,decide_eq_false hlB,cond_false,ht3]
    have hBi:(l.length:Int)≤B:=by omega
    have e1:=F19_0_ok k rs ss I N B sets hk hs hn ht hN hB t3 i (l.getD i []) c12 (nx,((l.take i).map (emW rs ss sets),())) N k 0 l [] (Nat.zero_add _) (by omega) hl hlt rfl hBi rfl
    rw[←List.range_eq_range',nil_append,show ((0:Nat):Int)=0 from rfl] at e1
    have hsi:ShW ss (l.getD i []):=by rw[getD_lt _ _ _ hlt]; exact hl _ (getElem_mem hlt)
    have hstp:=fun y hy=>rowA_shw (I:=I) hs hsi (List.range N) l hl y hy
    obtain ⟨tl,htl⟩:=rowA_pre (stepW I ss) (l.getD i []) (List.range N) l
    have hle:=rowA_le (stepW I ss) (l.getD i []) (List.range N) l
    have hrw:=rowA_row (stepW I ss) (l.getD i []) (List.range N) l
    rw[List.length_range] at hrw
    generalize hq:rowA (stepW I ss) (l.getD i []) (List.range N) l=q at *
    obtain ⟨l',r'⟩:=q
    simp only at *
    rw[e1]
    by_cases hc:((l'.length:Nat):Int)≤B
    ·rw[if_pos hc,bind_some]
     simp only
     have hlt':i<(l'.map flatW).length:=by rw[length_map]; omega
     have hg:getD (l'.map flatW) i []=flatW (l.getD i []):=by
      have:i<l'.length:=by omega
      rw[getD_lt _ _ _ hlt',getElem_map,←getD_lt l' i [] this,getD_pre htl hlt]
     have ih:=F19_2_ok hk hs hn ht hN hB hr hrl hset hsn t3 ht3 c12 f m (i+1) l' (nx++[r']) (ou++[((ix se (noH (l.getD i [])):Nat):Int)]) (put1 se (noH (l.getD i []))) (by omega) (by omega) (by omega) (by omega) hstp (by simp[hnx])
     have hE:=endsW_cst hs hsi.2
     have hEl:=endsW_len hsi
     have e3:=F19_1_ok k rs B sets hk hr (by omega) hset hsn t3 (i:Int) c12 (nx,((l.take i).map (emW rs ss sets),())) (mkw (mapK 0 (l'.map keyW)) ss I l') (endsW ss (l.getD i [])) hE (by omega) r' sets.length k 0 [] (Nat.zero_add _) (by omega) rfl
     rw[show ((0:Nat):Int)=0 from rfl,drop_zero,nil_append] at e3
     have ha1:(length nx+length [r'])*(24*2)≤281474976710656∧length nx+length [r']≤9223372036854775807:=by rw[length_singleton]; omega
     have hml:((l.take i).map (emW rs ss sets)).length=i:=by rw[length_map,List.length_take]; omega
     have ha2:∀y:List (List Int),(length ((l.take i).map (emW rs ss sets))+length [y])*(24*2)≤281474976710656∧length ((l.take i).map (emW rs ss sets))+length [y]≤9223372036854775807:=fun y=>by rw[length_singleton]; omega
     have hiw:IntKind.wrap .i64 ((i:Int)+1)=((i+1:Nat):Int):=wsucc i l.length hlt (by omega)
     have htake:(l'.take (i+1)).map (emW rs ss sets)=(l.take i).map (emW rs ss sets)++[emW rs ss sets (l.getD i [])]:=by
      rw[take_pre (d0:=[]) htl hlt,List.map_append]
      rfl
     rw[htake] at ih
     rw[if_pos (inR hlt'),tnI i,hg,F52_ok k _ I ss _ hk hs hsi hn (by omega),bind_some]
     simp only
     rw[e3,bind_some]
     simp only
     rw[F54_ok k _ (by omega),bind_some]
     simp only
     rw[if_pos ha1,F55_ok k _ (by rw[length_map]; omega),bind_some]
     simp only
     rw[if_pos (ha2 _),hiw,show sets.map (fun set=>emitW rs (endsW ss (l.getD i [])) set none3)=emW rs ss sets (l.getD i []) from rfl,ih]
     cases mkA (stepW I ss) noH [] B N f (i+1) l' (nx++[r']) (ou++[((ix se (noH (l.getD i [])):Nat):Int)]) (put1 se (noH (l.getD i [])))<;>rfl
    ·rw[if_neg hc,bind_some]
     simp only
     obtain ⟨f,rfl⟩:∃f',f=f'+1:=⟨f-1,by omega⟩
     simp only[mkA]
     rw[if_pos (by omega),if_pos (by omega)]
  ·rw[if_neg hlt,decide_eq_false (by omega),cond_false,List.take_of_length_le (by omega)]
abbrev QW:=List Rows×List (List Int)×List Int×List (List Bool)
def mkN (b:Int):Option QW:=mkA (stepW I ss) noH [] (minI b 100000) N ((minI b 100000).toNat+2) 0 [infW ss] [] [] []
def outD:Option QW→(FwdT×Int×Unit)
 |none=>((([]:(List (List Int))),(([]:(List (List (List Int)))),())),(4:Int),())
 |some q=>((q.2.1,(q.1.map (emW rs ss sets),())),(0:Int),())
theorem mkA_llen {σ:Type} [DecidableEq σ] {step:σ→Nat→σ} {hold:σ→List Bool} {d0:σ} {B:Int} {N:Nat}:∀(f i:Nat) (l:List σ) (nx:List (List Int)) (ou:List Int) (se:List (List Bool)) {q:List σ×List (List Int)×List Int×List (List Bool)},mkA step hold d0 B N f i l nx ou se=some q→i≤l.length→q.1.length≤i+f
 |0,i,l,nx,ou,se,q,h,hi=>by cases h
 |f+1,i,l,nx,ou,se,q,h,hi=>by
  simp only[mkA] at h
  split at h
  ·split at h
   ·cases h
   ·have hle:=rowA_le step (l.getD i d0) (List.range N) l
    have:=mkA_llen f _ _ _ _ _ h (by omega)
    omega
  ·injection h with h
   subst h
   simp only
   omega
theorem F19_ok (hk:10000000≤k) (hs:∀s∈ss,SOC s) (hn:ss.length≤1000000) (ht:tot ss≤1000000) (hN:N≤5000000) (hr:∀r∈rs,RulC r) (hrl:rs.length=ss.length) (hset:∀s∈sets,s.length=rs.length) (hsn:sets.length≤1000000) (t3:Int) (ht3:maxI t3 0=(N:Int)) (b:Int) :
  F19 k rs ss I t3 sets b=some (outD rs ss sets (mkN ss I N b),()):=by
 have hB:minI b 100000≤100000:=by unfold minI; split<;>omega
 unfold F19 mkN
 generalize minI b 100000=B at hB ⊢
 have e48:=F48_ok k hk ss I [] (infW ss) (zero_le _) (fun y hy=>by cases hy) (infW_shw ss) ht
 have hp0:put1 [] (infW ss)=[infW ss]:=rfl
 rw[hp0,infW_flat] at e48
 have e2:=F19_2_ok k rs ss I N B sets hk hs hn ht hN hB hr hrl hset hsn t3 ht3 (([]:(List (List Int))),(([]:(List (List (List Int)))),())) (B.toNat+2) k 0 [infW ss] [] [] [] (by omega) (by omega) (by omega) (zero_le _) (fun y hy=>by rw[List.mem_singleton.1 hy]; exact infW_shw ss) rfl
 rw[show ((0:Nat):Int)=0 from rfl,List.take_zero,map_nil] at e2
 rw[F50_ok k hk ss hn (by omega),bind_some]
 simp only
 rw[F49_ok k _ (by omega) ht,bind_some]
 simp only
 rw[show F48 k ((some [],([],())),(ss,(I,()))) (replicate (tot ss) INF1)=_ from e48,bind_some]
 simp only
 rw[e2]
 cases hq:mkA (stepW I ss) noH [] B N (B.toNat+2) 0 [infW ss] [] [] [] with
 |none=>rfl
 |some q =>
  obtain ⟨l1,l2,l3⟩:=mkA_len _ _ _ _ _ _ hq
  have l4:=mkA_llen _ _ _ _ _ _ hq (zero_le _)
  simp only[List.length_nil] at l1
  simp only
  rw[bind_some]
  simp only
  rw[F56_ok k _ (by omega),bind_some]
  simp only
  rw[F57_ok k _ (by rw[length_map]; omega),bind_some]
  rfl
end
end Go.Proofs.YtgmmopbpldgpcaaE
set_option linter.unusedSimpArgs false
set_option linter.unusedVariables false
set_option maxRecDepth 20000
namespace Go.Proofs.YtgmmopbpldgpcaaE
def stF {σ:Type} (step:σ→Nat→σ) (z:σ) (x:List Nat):σ:=x.foldl step z
abbrev natL (x:List Nat):List Int:=x.map fun n:Nat=>(n:Int)
def runV {σ:Type} (step:σ→Nat→σ) (em:σ→List (List Int)) (z:σ) (x p:List Nat) (i:Nat):List Int:=getD (em (stF step z (x.take i))) (getD p i 0) []
def runL {σ:Type} (step:σ→Nat→σ) (em:σ→List (List Int)) (z:σ) (x p:List Nat):List (List Int):=(List.range (x.length+1)).map (runV step em z x p)
theorem runL_len {σ:Type} (step:σ→Nat→σ) (em:σ→List (List Int)) (z:σ) (x p:List Nat):(runL step em z x p).length=x.length+1:=by simp[runL]
theorem stF_take {σ:Type} (step:σ→Nat→σ) (z:σ) (x:List Nat) (i:Nat) (h:i<x.length):stF step z (x.take (i+1))=step (stF step z (x.take i)) x[i]:=by
 unfold stF
 rw[List.take_succ_eq_append_getElem h,List.foldl_append]
 rfl
theorem range_drop_map {β:Type} (f:Nat→β) {n i:Nat} (h:i<n):((List.range n).drop i).map f=f i::((List.range n).drop (i+1)).map f:=by
 rw[drop_eq_getElem_cons (by simpa using h),List.map_cons,getElem_range]
section
variable {σ:Type} {step:σ→Nat→σ} {hold:σ→List Bool} {N:Nat} {l:List σ} {nx:List (List Int)} {ou:List Int} {se:List (List Bool)} {z:σ}
theorem F26_0_ok (k:Nat) (mc:Mach step hold N l.length l nx ou se) (hl:l.length≤1000000) (em:σ→List (List Int)) (L:Nat) (hem:∀y,(em y).length=L) (x p:List Nat) (hx:∀a∈x,a<N) (hxl:x.length≤1000000) (hp:p.length=x.length+1) (hpL:∀a∈p,a<L):∀(d m i t:Nat) (acc:List (List Int)),i+d=x.length+1→d<m→(i≤x.length→l[t]? = some (stF step z (x.take i)))→acc.length=i →
  F26_0 k m (natL x) (natL p) (t:Int) ((x.length+1:Nat):Int) (i:Int) (nx,(l.map em,())) acc=some ((),(acc++((List.range (x.length+1)).drop i).map (runV step em z x p),()))
 |0,m,i,t,acc,hi,hm,hst,ha=>by
  obtain ⟨m,rfl⟩:=pos1 (m:=m) (by omega)
  simp only[F26_0]
  rw[decide_eq_false (by omega),cond_false,drop_eq_nil_of_le (by simp; omega),map_nil,append_nil]
 |d+1,m,i,t,acc,hi,hm,hst,ha=>by
  obtain ⟨m,rfl⟩:=pos1 (m:=m) (by omega)
  have hil:i≤x.length:=by omega
  have hst:=hst hil
  obtain ⟨hlt,htv⟩:=List.getElem?_eq_some_iff.1 hst
  have hlm:t<(l.map em).length:=by rw[length_map]; exact hlt
  have hge:getD (l.map em) t []=em (stF step z (x.take i)):=by rw[getD_lt _ _ _ hlm,getElem_map,htv]
  have hip:i<p.length:=by omega
  have hip2:i<(natL p).length:=by rw[length_map]; exact hip
  have hpi:getD (natL p) i 0=((p[i]:Nat):Int):=getDN hip
  have hpiL:p[i]<L:=hpL _ (getElem_mem hip)
  have hrv:getD (em (stF step z (x.take i))) p[i] []=runV step em z x p i:=by unfold runV; rw[getD_lt p i 0 hip]
  have hap:∀y:List Int,(acc.length+[y].length)*(24*2)≤281474976710656∧acc.length+[y].length≤9223372036854775807:=fun y=>by rw[length_singleton]; omega
  rw[range_drop_map _ (by omega:i<x.length+1)]
  simp only[F26_0]
  unfold F63
  rw[decide_eq_true (by omega),cond_true,bind_some,decide_eq_true (by omega),cond_true,dlt hlm,cond_true,dlt hip2,cond_true,if_pos (inR hip2),tnI i,hpi,decide_eq_true (by omega),cond_true,if_pos (inR hip2),if_pos (inR hlm),tnI t,hge,hem,dlt hpiL,cond_true,if_pos (inR hlm),if_pos (inR hip2),if_pos (inR hpiL),tnI p[i],hrv]
  rw[one_list,if_pos (hap _)]
  by_cases hxi:i<x.length
  ·obtain ⟨r,h1,h2,h3⟩:=mc.rows t _ hlt hst
   obtain ⟨u,h4,h5⟩:=h3 x[i] (hx _ (getElem_mem hxi))
   obtain ⟨hn1,hn2⟩:=List.getElem?_eq_some_iff.1 h1
   obtain ⟨hr1,hr2⟩:=List.getElem?_eq_some_iff.1 h4
   have hxi2:i<(natL x).length:=by rw[length_map]; exact hxi
   have hxv:getD (natL x) i 0=((x[i]:Nat):Int):=getDN hxi
   have ih:=F26_0_ok k mc hl em L hem x p hx hxl hp hpL d m (i+1) u (acc++[runV step em z x p i]) (by omega) (by omega) (fun _=>by rw[stF_take _ _ _ _ hxi]; exact h5) (by simp[ha])
   rw[dlt hxi2,cond_true,dlt hn1,cond_true,if_pos (inR hxi2),hxv,decide_eq_true (by omega),cond_true,if_pos (inR hxi2),if_pos (inR hn1),getD_lt _ _ _ hn1,hn2,dlt hr1,cond_true,if_pos (inR hn1),if_pos (inR hxi2),if_pos (inR hr1),tnI x[i],getD_lt _ _ _ hr1,hr2,wsucc i _ hxi (by omega),ih,append_assoc]
   rfl
  ·have ih:=F26_0_ok k mc hl em L hem x p hx hxl hp hpL d m (i+1) t (acc++[runV step em z x p i]) (by omega) (by omega) (fun q=>by omega) (by simp[ha])
   rw[decide_eq_false (by simp; omega),cond_false,wsucc i (i+1) (by omega) (by omega),ih,append_assoc]
   rfl
theorem F26_ok (k:Nat) (hk:10000000≤k) (mc:Mach step hold N l.length l nx ou se) (hl:l.length≤1000000) (hz:l[0]? = some z) (em:σ→List (List Int)) (L:Nat) (hem:∀y,(em y).length=L) (x p:List Nat) (hx:∀a∈x,a<N) (hxl:x.length≤1000000) (hp:p.length=x.length+1) (hpL:∀a∈p,a<L) :
  F26 k (nx,(l.map em,())) (natL x) (natL p)=some ((runL step em z x p,()),()):=by
 have e:=F26_0_ok k mc hl em L hem x p hx hxl hp hpL (x.length+1) k 0 0 [] (Nat.zero_add _) (by omega) (fun _=>hz) rfl
 rw[show ((0:Nat):Int)=0 from rfl,drop_zero,nil_append] at e
 unfold F26
 simp only
 rw[length_map,wsucc x.length (x.length+1) (by omega) (by omega),e,bind_some]
 simp only
 rw[F55_ok k _ (by simp; omega),bind_some]
 rfl
end
end Go.Proofs.YtgmmopbpldgpcaaE
set_option linter.unusedSimpArgs false
set_option linter.unusedVariables false
set_option maxRecDepth 20000
namespace Go.Proofs.YtgmmopbpldgpcaaE
theorem F13_known (k:Nat) (hk:200≤k):F13 k=some ((true,()),()):=by
 obtain ⟨k,rfl⟩:∃k',k=k'+200:=⟨k-200,by omega⟩
 kernel_rfl
theorem F18_eq10 (k:Nat) (a n:Int) (h0:0<n) (h1:n≤4611686018427387904):F18 k a n=some ((a%n,()),()):=F67_eq k a n h0 h1
theorem sideW_soc {I:InT} {N M:Nat} {s:SideT} (h:SideW I N M s):SOC s:=by
 obtain ⟨n,hn,g⟩:=h.g
 have hc:=cB_range 5 (by omega)
 refine ⟨h.ok,fun x hx=>(g.cf x hx).cst (by omega),fun x hx=>(g.ce x hx).cst (by omega),g.cn.cst (by omega),fun x hx=>?_⟩
 have:=g.arcs x hx
 unfold Cst
 omega
theorem sideW_len {I:InT} {N M:Nat} {s:SideT} (h:SideW I N M s):s.1.length≤120:=by
 obtain ⟨n,hn,g⟩:=h.g
 have:=g.ls
 omega
theorem tot_le {n:Nat}:∀ {ss:List SideT},(∀s∈ss,s.1.length≤n)→tot ss≤n*ss.length
 | [],_=>by simp[tot]
 |s::ss,h=>by
  have h1:=h s mem_cons_self
  have h2:=tot_le (ss:=ss) fun x hx=>h x (mem_cons_of_mem _ hx)
  rw[tot_cons,List.length_cons,Nat.mul_succ]
  omega
theorem rulP_c {r:RulT} (h:RulP r):RulC r:=by
 obtain ⟨_,h1,h2⟩:=h
 refine ⟨h1,?_⟩
 unfold Cst
 omega
structure DW (I:InT) (N:Nat) (rs:List RulT) (ss:List SideT) (sets:List (List Bool)):Prop where
 hs:∀s∈ss,SOC s
 hI:∀s∈ss,InOK I N s
 hn:ss.length≤1000000
 ht:tot ss≤1000000
 hN:N≤5000000
 hr:∀r∈rs,RulC r
 hrl:rs.length=ss.length
 hset:∀s∈sets,s.length=rs.length
 hsn:sets.length≤1000000
theorem wg_dw {w:WorT} {N M:Nat} (hw:WG w N M) {sets:List (List Bool)} (hset:∀s∈sets,s.length=w.1.2.1.length) (hsn:sets.length≤1000000):DW w.2.2.2.1 N w.1.2.1 w.2.2.2.2.1 sets:=by
 have h1:=hw.nl
 have h2:=hw.nrules
 have h3:=hw.le
 have h4:=tot_le (n:=120) fun s hs=>sideW_len (hw.left s hs)
 exact ⟨fun s hs=>sideW_soc (hw.left s hs),fun s hs=>(hw.left s hs).io,by omega,by omega,by omega,fun r hr=>rulP_c (hw.rules r hr),by omega,hset,hsn⟩
theorem F19_dw (k:Nat) (hk:10000000≤k) {I:InT} {N:Nat} {rs:List RulT} {ss:List SideT} {sets:List (List Bool)} (h:DW I N rs ss sets) (b:Int):F19 k rs ss I (N:Int) sets b=some (outD rs ss sets (mkN ss I N b),()) :=
 F19_ok k rs ss I N sets hk h.hs h.hn h.ht h.hN h.hr h.hrl h.hset h.hsn (N:Int) (maxI_nat N) b
structure ND (I:InT) (ss:List SideT) (N:Nat) (b:Int) (q:QW):Prop where
 m:Mach (stepW I ss) noH N q.1.length q.1 q.2.1 q.2.2.1 q.2.2.2
 z:q.1[0]? = some (infW ss)
 shp:∀x∈q.1,ShW ss x
 le:(q.1.length:Int)≤minI b 100000
theorem mkN_ok {I:InT} {ss:List SideT} {N:Nat} {b:Int} {q:QW} (hs:∀s∈ss,SOC s) (h:mkN ss I N b=some q):ND I ss N b q:=by
 obtain ⟨h1,⟨t,h2⟩,h3,h4⟩:=mkA_mach (P:=ShW ss) (fun x a hx _=>stepW_shw hs hx) _ 0 [infW ss] [] [] [] (mach0 _) (fun x hx=>by rw[List.mem_singleton.1 hx]; exact infW_shw ss) h
 exact ⟨h1,by rw[h2]; rfl,h3,h4 (Nat.zero_lt_succ _)⟩
theorem ND.len {I:InT} {ss:List SideT} {N:Nat} {b:Int} {q:QW} (h:ND I ss N b q):q.1.length≤100000:=by
 have:=h.le
 unfold minI at this
 split at this<;>omega
theorem ND.rows {I:InT} {ss:List SideT} {N:Nat} {b:Int} {q:QW} (h:ND I ss N b q):∀r∈q.2.1,r.length=N:=fun r hr=>by
 have h2:=h.m.nl
 obtain ⟨i,hi,e⟩:=List.mem_iff_getElem.1 hr
 obtain ⟨r',q1,q2,_⟩:=h.m.rows i _ (by omega) (List.getElem?_eq_getElem (by omega:i<q.1.length))
 rw[List.getElem?_eq_getElem hi,e] at q1
 injection q1 with q1
 rw[q1,q2]
theorem emW_len (rs:List RulT) (ss:List SideT) (sets:List (List Bool)) (R:Rows):(emW rs ss sets R).length=sets.length:=by simp[emW]
theorem F26_nd (k:Nat) (hk:10000000≤k) {I:InT} {N:Nat} {rs:List RulT} {ss:List SideT} {sets:List (List Bool)} {b:Int} {q:QW} (h:ND I ss N b q) (x p:List Nat) (hx:∀a∈x,a<N) (hxl:x.length≤1000000) (hp:p.length=x.length+1) (hpL:∀a∈p,a<sets.length) :
  F26 k (q.2.1,(q.1.map (emW rs ss sets),())) (natL x) (natL p)=some ((runL (stepW I ss) (emW rs ss sets) (infW ss) x p,()),()):=by
 have:=h.len
 exact F26_ok k hk h.m (by omega) h.z (emW rs ss sets) sets.length (fun y=>emW_len rs ss sets y) x p hx hxl hp hpL
theorem F16_0_ok (k:Nat) (hk:10000000≤k) (w:WorT) (N M:Nat) (hw:WG w N M):∀(d m i:Nat),i+d=w.2.2.2.2.1.length→d<m→F16_0 k m (i:Int) w=some (.inl ((),()))∨F16_0 k m (i:Int) w=some (.inr ((false,()),()))
 |0,m,i,hi,hm=>by
  obtain ⟨m,rfl⟩:=pos1 (m:=m) (by omega)
  left
  simp only[F16_0]
  rw[decide_eq_false (by omega),cond_false]
 |d+1,m,i,hi,hm=>by
  obtain ⟨m,rfl⟩:=pos1 (m:=m) (by omega)
  have hlt:i<w.2.2.2.2.1.length:=by omega
  have h1:=hw.nl
  have h2:=hw.nrules
  obtain ⟨n,hn,g⟩:=(hw.left _ (getElem_mem hlt)).g
  have hla:=srt_len g.srt g.arcs
  have hnn:n*n≤120*120:=Nat.mul_le_mul hn hn
  obtain ⟨b,e,_⟩:=F43_ok k n w.2.2.2.2.1[i] g.ls (by omega) (fun x hx=>by have:=g.arcs x hx; omega) (by omega) hk
  have ih:=F16_0_ok k hk w N M hw d m (i+1) (by omega) (by omega)
  simp only[F16_0]
  rw[dlt hlt,cond_true,if_pos (inR hlt),tnI i,getD_lt _ _ _ hlt,e,bind_some]
  simp only
  cases b with
  |true=>right; rfl
  |false =>
   rw[cond_false,wsucc i _ hlt (by omega)]
   rcases ih with ih | ih
   ·left; rw[ih]; rfl
   ·right; rw[ih]; rfl
theorem F16_ok (k:Nat) (hk:10000000≤k) (w:WorT) (N M:Nat) (hw:WG w N M):F16 k w=some ((true,()),())∨F16 k w=some ((false,()),()):=by
 have h1:=hw.nl
 have h2:=hw.nrules
 have e:=F16_0_ok k hk w N M hw w.2.2.2.2.1.length k 0 (Nat.zero_add _) (by omega)
 rw[show ((0:Nat):Int)=0 from rfl] at e
 unfold F16
 rcases e with e | e
 ·left; rw[e]; rfl
 ·right; rw[e]; rfl
end Go.Proofs.YtgmmopbpldgpcaaE
set_option linter.unusedSimpArgs false
set_option linter.unusedVariables false
set_option maxRecDepth 20000
namespace Go.Proofs.YtgmmopbpldgpcaaE
def BndIn (s:RgT) (p:List Int):Prop:=∀r∈s,r.1∈p∧(r.2.1+1≤1114111→r.2.1+1∈p)
theorem F70_2_s (k:Nat) (t0:List RgT) (q:Nat) (hk:10000000≤k) (hq:q<t0.length) (hs:RgS (getD t0 q [])):∀(d m i:Nat) (l:List Int),i+d=(getD t0 q []).length→d<m→RisL l→∃l',F70_2 k m t0 (q:Int) (i:Int) l=some ((t0,((q:Int),())),(l',()))∧RisL l'∧(∀x∈l,x∈l')∧BndIn ((getD t0 q []).drop i) l'
 |0,m,i,l,hi,hm,hl=>by
  obtain ⟨m,rfl⟩:=pos1 (m:=m) (by omega)
  refine ⟨l,?_,hl,fun x hx=>hx,fun r hr=>?_⟩
  ·simp only[F70_2]
   rw[if_pos (inR hq),tnI q,decide_eq_false (by omega),cond_false]
  ·rw[drop_eq_nil_of_le (by omega)] at hr
   cases hr
 |d+1,m,i,l,hi,hm,hl=>by
  obtain ⟨m,rfl⟩:=pos1 (m:=m) (by omega)
  have hlt:i<(getD t0 q []).length:=by omega
  have hlen:=rgS_len hs
  have hP:=rgs_at hs hlt
  obtain ⟨p0,p1,p2⟩:=hP
  have hw:IntKind.wrap .i64 ((getD t0 q [])[i].2.1+1)=(getD t0 q [])[i].2.1+1:=w64 _ (by omega) (by omega)
  obtain ⟨l1,e1,h1,h2,hb⟩:=F70_1_ok k t0 (q:Int) (i:Int) [(getD t0 q [])[i].1,(getD t0 q [])[i].2.1+1] hk rfl (fun x hx=>by
   rcases List.mem_cons.1 hx with g | g
   ·rw[g]; exact p0
   ·rcases List.mem_cons.1 g with g | g
    ·rw[g]; omega
    ·cases g) 2 k 0 l rfl (by omega) hl
  obtain ⟨l2,e2,h3,h4,h5⟩:=F70_2_s k t0 q hk hq hs d m (i+1) l1 (by omega) (by omega) h1
  refine ⟨l2,?_,h3,fun x hx=>h4 x (h2 x hx),fun r hr=>?_⟩
  ·have e1':F70_1 k k t0 (q:Int) (i:Int) 0 (List.set (List.set (replicate 2 (0:Int)) 0 (getD t0 q [])[i].1) 1 ((getD t0 q [])[i].2.1+1)) l=_:=e1
   have hwi:IntKind.wrap .i64 ((i:Int)+1)=((i+1:Nat):Int):=by rw[w64 _ (by omega) (by omega)]; omega
   simp only[F70_2]
   rw[if_pos (inR hq),tnI q,dlt hlt,cond_true,if_pos (inR hq),if_pos (inR hlt),if_pos (inR hq),if_pos (inR hlt),tnI i,getD_lt (getD t0 q []) i _ hlt,hw,e1',bind_some]
   simp only
   rw[hwi,e2]
   rfl
  ·rw[drop_eq_getElem_cons hlt] at hr
   rcases List.mem_cons.1 hr with g | g
   ·rw[g]
    exact ⟨h4 _ (hb _ (by simp) (by omega)),fun hle=>h4 _ (hb _ (by simp) hle)⟩
   ·exact h5 r g
theorem F70_3_s (k:Nat) (t0:List RgT) (hk:10000000≤k) (hn:t0.length≤1000) (hs:RgL t0):∀(d m i:Nat) (l:List Int),i+d=t0.length→d<m→RisL l→∃l',F70_3 k m t0 (i:Int) l=some ((),(l',()))∧RisL l'∧(∀x∈l,x∈l')∧∀s∈t0.drop i,BndIn s l'
 |0,m,i,l,hi,hm,hl=>by
  obtain ⟨m,rfl⟩:=pos1 (m:=m) (by omega)
  refine ⟨l,?_,hl,fun x hx=>hx,fun s hs=>?_⟩
  ·simp only[F70_3]
   rw[decide_eq_false (by omega),cond_false]
  ·rw[drop_eq_nil_of_le (by omega)] at hs
   cases hs
 |d+1,m,i,l,hi,hm,hl=>by
  obtain ⟨m,rfl⟩:=pos1 (m:=m) (by omega)
  have hlt:i<t0.length:=by omega
  have hr:=rgL_at hs i
  have hlen:=rgS_len hr
  obtain ⟨l1,e1,h1,h2,hb⟩:=F70_2_s k t0 i hk hlt hr (getD t0 i []).length k 0 l (Nat.zero_add _) (by omega) hl
  obtain ⟨l2,e2,h3,h4,h5⟩:=F70_3_s k t0 hk hn hs d m (i+1) l1 (by omega) (by omega) h1
  refine ⟨l2,?_,h3,fun x hx=>h4 x (h2 x hx),fun s hs=>?_⟩
  ·rw[show ((0:Nat):Int)=0 from rfl] at e1
   simp only[F70_3]
   rw[dlt hlt,cond_true,e1,bind_some]
   simp only
   rw[wsucc i _ hlt (by omega),e2]
   rfl
  ·rw[drop_eq_getElem_cons hlt] at hs
   rcases List.mem_cons.1 hs with g | g
   ·intro r hr
    rw[drop_zero,getD_lt _ _ _ hlt,←g] at hb
    exact ⟨h4 _ (hb r hr).1,fun hle=>h4 _ ((hb r hr).2 hle)⟩
   ·exact h5 s g
theorem F70_s (k:Nat) (t0:List RgT) (hk:10000000≤k) (hn:t0.length≤1000) (hs:RgL t0):∃l,F70 k t0=some ((l,()),())∧RisL l∧0∈l∧∀s∈t0,BndIn s l:=by
 obtain ⟨l,e,h1,h2,h3⟩:=F70_3_s k t0 hk hn hs t0.length k 0 [0] (Nat.zero_add _) (by omega) ⟨List.pairwise_singleton _ _,fun x hx=>by
  rw[List.mem_singleton.1 hx]; omega⟩
 refine ⟨l,?_,h1,h2 0 (List.mem_singleton.2 rfl),h3⟩
 have e':F70_3 k k t0 0 (List.set (replicate 1 (0:Int)) 0 0)=_:=e
 unfold F70
 simp only
 rw[e',bind_some]
theorem has_same {s:RgT} {p:List Int} (hb:BndIn s p) {x y:Int} (hyx:y≤x) (hx:x≤1114111) (h:∀z∈p,z≤x→z≤y):has s x=has s y:=by
 unfold has
 rw[Bool.eq_iff_iff,List.any_eq_true,List.any_eq_true]
 constructor
 ·rintro ⟨r,hr,e⟩
  simp only[Bool.and_eq_true,decide_eq_true_eq] at e
  refine ⟨r,hr,?_⟩
  simp only[Bool.and_eq_true,decide_eq_true_eq]
  exact ⟨h _ (hb r hr).1 e.1,by omega⟩
 ·rintro ⟨r,hr,e⟩
  simp only[Bool.and_eq_true,decide_eq_true_eq] at e
  refine ⟨r,hr,?_⟩
  simp only[Bool.and_eq_true,decide_eq_true_eq]
  refine ⟨by omega,?_⟩
  by_cases hc:x≤r.2.1
  ·exact hc
  ·have:=h _ ((hb r hr).2 (by omega)) (by omega)
   omega
theorem keyF_same {x y:Int}:∀(l:List RgT) (t:Int),(∀s∈l,has s x=has s y)→keyF x l t=keyF y l t
 | [],t,_=>rfl
 |s::l,t,h=>by
  rw[keyF,keyF,h s mem_cons_self]
  exact keyF_same l _ fun r hr=>h r (mem_cons_of_mem _ hr)
theorem keyF_inj {x y:Int}:∀(l:List RgT) (t u:Int),keyF x l t=keyF y l u→t=u∧∀s∈l,has s x=has s y
 | [],t,u,h=>⟨h,fun s hs=>by cases hs⟩
 |s::l,t,u,h=>by
  rw[keyF,keyF] at h
  obtain ⟨h1,h2⟩:=keyF_inj l _ _ h
  cases hx:has s x<;>cases hy:has s y<;>rw[hx,hy] at h1<;>simp only[if_true,Bool.false_eq_true,if_false] at h1
  ·exact ⟨by omega,fun r hr=>(List.mem_cons.1 hr).elim (fun e=>by rw[e,hx,hy]) (h2 r)⟩
  ·omega
  ·omega
  ·exact ⟨by omega,fun r hr=>(List.mem_cons.1 hr).elim (fun e=>by rw[e,hx,hy]) (h2 r)⟩
def CutAt (b:List Int) (x:Int) (j:Nat):Prop:=∃h:j<b.length,b[j]≤x∧∀j',j<j'→(h':j'<b.length)→x<b[j']
theorem F38_0_s (k:Nat) (t0:List RgT) (t8 t9 v:Int) (a b c s:List Int) (hn:s.length≤5000000):∀(d m i:Nat),i+d=s.length→d<m→v∉s.take i→F38_0 k m t0 t8 t9 v (i:Int) a b c s=some ((t0,(t8,(t9,(v,(((ix s v:Nat):Int),()))))),(a,(b,(c,(s,())))))
 |0,m,i,hi,hm,hnot=>by
  obtain ⟨m,rfl⟩:=pos1 (m:=m) (by omega)
  rw[List.take_of_length_le (by omega)] at hnot
  simp only[F38_0]
  rw[decide_eq_false (by omega),cond_false,ix_no hnot,show i=s.length by omega]
 |d+1,m,i,hi,hm,hnot=>by
  obtain ⟨m,rfl⟩:=pos1 (m:=m) (by omega)
  have hlt:i<s.length:=by omega
  simp only[F38_0]
  rw[dlt hlt,cond_true,if_pos (inR hlt),tnI i,getD_lt _ _ _ hlt]
  by_cases h:s[i]=v
  ·rw[show (s[i] != v)=false by simpa using h,cond_false,ix_first hlt h hnot]
  ·rw[show (s[i] != v)=true by simpa using h,cond_true,wsucc i _ hlt (by omega),F38_0_s k t0 t8 t9 v a b c s hn d m (i+1) (by omega) (by omega) (take_notin hlt h hnot)]
   rfl
structure CutI (t0:List RgT) (p:List Int) (i:Nat) (t8:Int) (b c s:List Int):Prop where
 bc:b.length=c.length
 ci:c.length≤i
 si:s.length≤i
 nd:s.Nodup
 at_:∀j (h:j<b.length),∃n:Nat,c[j]? = some (n:Int)∧s[n]? = some (keyF b[j] t0 0)
 up:b.Pairwise (· < ·)
 lt:∀y∈b,∀z∈p.drop i,y<z
 last:b=[]∧t8 = -1∨∃h:b.length-1<b.length,t8=keyF b[b.length-1] t0 0
 cut:∀x,0≤x→x≤1114111→(∀z∈p.drop i,x<z)→∃j,CutAt b x j∧∃h:j<b.length,keyF b[j] t0 0=keyF x t0 0
theorem CutI.next {t0:List RgT} {p:List Int} {i:Nat} {t8:Int} {b c s:List Int} (hp:RisL p) (hb:∀s∈t0,BndIn s p) (h:CutI t0 p i t8 b c s) (hi:i<p.length) :
  (keyF p[i] t0 0=t8→CutI t0 p (i+1) t8 b c s)∧(keyF p[i] t0 0≠t8→CutI t0 p (i+1) (keyF p[i] t0 0) (b++[p[i]]) (c++[((ix s (keyF p[i] t0 0):Nat):Int)]) (put1 s (keyF p[i] t0 0))):=by
 have hd:p.drop i=p[i]::p.drop (i+1):=drop_eq_getElem_cons hi
 have hup:∀z∈p.drop (i+1),p[i]<z:=by
  have:=List.Pairwise.sublist (List.drop_sublist i p) hp.1
  rw[hd] at this
  exact (List.pairwise_cons.1 this).1
 have hbi:∀y∈b,y<p[i]:=fun y hy=>h.lt y hy _ (by rw[hd]; exact mem_cons_self)
 -- what is behind the place and ahead of the next one is as the place
 have key:∀x,p[i]≤x→x≤1114111→(∀z∈p.drop (i+1),x<z)→keyF x t0 0=keyF p[i] t0 0:=fun x h1 h2 h3=>by
  refine keyF_same t0 0 fun r hr=>has_same (hb r hr) h1 h2 fun z hz hzx=>?_
  rw[←List.take_append_drop i p,hd] at hz
  rcases List.mem_append.1 hz with q | q
  ·have:=hp.1
   rw[←List.take_append_drop i p] at this
   exact Int.le_of_lt ((List.pairwise_append.1 this).2.2 z q _ (by rw[hd]; exact mem_cons_self))
  ·rcases List.mem_cons.1 q with q | q
   ·rw[q]; exact Int.le_refl _
   ·have:=h3 z q
    omega
 constructor
 ·intro he
  refine ⟨h.bc,by have:=h.ci; omega,by have:=h.si; omega,h.nd,h.at_,h.up,fun y hy z hz=>h.lt y hy z (by rw[hd]; exact mem_cons_of_mem _ hz),h.last,fun x x0 x1 hx=>?_⟩
  by_cases hxi:x<p[i]
  ·exact h.cut x x0 x1 fun z hz=>by
    rw[hd] at hz
    rcases List.mem_cons.1 hz with q | q
    ·rw[q]; exact hxi
    ·exact hx z q
  ·rcases h.last with ⟨q,e⟩ | ⟨q,e⟩
   ·have:=keyF_range p[i] t0 0 (Int.le_refl _)
    omega
   ·refine ⟨b.length-1,⟨q,?_,fun j' h1 h2=>by omega⟩,q,?_⟩
    ·have:=hbi _ (getElem_mem q)
     omega
    ·rw[←e,←he,key x (by omega) x1 hx]
 ·intro hne
  have hbl:(b++[p[i]]).length=b.length+1:=by simp
  have hcl:(c++[((ix s (keyF p[i] t0 0):Nat):Int)]).length=c.length+1:=by simp
  obtain ⟨tl,htl⟩:=put1_pre s (keyF p[i] t0 0)
  have hlast:(b++[p[i]])[b.length]'(by omega)=p[i]:=by simp
  have hput:=put1_le s (keyF p[i] t0 0)
  have hbc:=h.bc
  refine ⟨by omega,by have:=h.ci; omega,by have:=h.si; omega,put1_nodup h.nd _,fun j hj=>?_,?_,fun y hy z hz=>?_,.inr ⟨by omega,?_⟩,fun x x0 x1 hx=>?_⟩
  ·by_cases hjb:j<b.length
   ·obtain ⟨n,h1,h2⟩:=h.at_ j hjb
    refine ⟨n,get_preA rfl h1,?_⟩
    rw[getElem_append_left hjb]
    exact get_preA htl h2
   ·obtain rfl:j=b.length:=by omega
    refine ⟨ix s (keyF p[i] t0 0),?_,?_⟩
    ·rw[hbc,List.getElem?_append_right (Nat.le_refl _),Nat.sub_self]
     rfl
    ·rw[hlast]
     exact put1_get s _
  ·rw[List.pairwise_append]
   exact ⟨h.up,List.pairwise_singleton _ _,fun y hy z hz=>by rw[List.mem_singleton.1 hz]; exact hbi y hy⟩
  ·rcases List.mem_append.1 hy with q | q
   ·exact h.lt y q z (by rw[hd]; exact mem_cons_of_mem _ hz)
   ·rw[List.mem_singleton.1 q]; exact hup z hz
  ·simp
  ·by_cases hxi:x<p[i]
   ·obtain ⟨j,⟨h1,h2,h3⟩,h4,h5⟩:=h.cut x x0 x1 fun z hz=>by
     rw[hd] at hz
     rcases List.mem_cons.1 hz with q | q
     ·rw[q]; exact hxi
     ·exact hx z q
    refine ⟨j,⟨by omega,?_,fun j' q1 q2=>?_⟩,by omega,?_⟩
    ·rw[getElem_append_left h1]; exact h2
    ·by_cases hjb:j'<b.length
     ·rw[getElem_append_left hjb]; exact h3 j' q1 hjb
     ·obtain rfl:j'=b.length:=by omega
      rw[hlast]; exact hxi
    ·rw[getElem_append_left h1]; exact h5
   ·refine ⟨b.length,⟨by omega,?_,fun j' q1 q2=>by omega⟩,by omega,?_⟩
    ·rw[hlast]; omega
    ·rw[hlast,key x (by omega) x1 hx]
theorem F38_1_s (k:Nat) (t0:List RgT) (p:List Int) (hk:10000000≤k) (hn:t0.length≤40) (hs:RgL t0) (hp:RisL p) (hbd:∀s∈t0,BndIn s p) (hpl:p.length≤2000000):∀(d m i:Nat) (t8:Int) (b c s:List Int),i+d=p.length→d<m→CutI t0 p i t8 b c s →
  ∃b' c' t8' s',F38_1 k m t0 t8 (i:Int) p b c s=some ((),(b',(c',())))∧CutI t0 p p.length t8' b' c' s'
 |0,m,i,t8,b,c,s,hi,hm,h=>by
  obtain ⟨m,rfl⟩:=pos1 (m:=m) (by omega)
  obtain rfl:i=p.length:=by omega
  refine ⟨b,c,t8,s,?_,h⟩
  simp only[F38_1]
  rw[decide_eq_false (by omega),cond_false]
 |d+1,m,i,t8,b,c,s,hi,hm,h=>by
  obtain ⟨m,rfl⟩:=pos1 (m:=m) (by omega)
  have hlt:i<p.length:=by omega
  obtain ⟨n1,n2⟩:=h.next hp hbd hlt
  have hbc:=h.bc
  have hci:=h.ci
  have hsi:=h.si
  simp only[F38_1]
  rw[dlt hlt,cond_true,if_pos (inR hlt),tnI i,getD_lt _ _ _ hlt,F71_ok k t0 _ hk hn hs,bind_some]
  simp only
  rw[wsucc i _ hlt (by omega)]
  by_cases hv:keyF p[i] t0 0=t8
  ·obtain ⟨b',c',t8',s',e,h'⟩:=F38_1_s k t0 p hk hn hs hp hbd hpl d m (i+1) t8 b c s (by omega) (by omega) (n1 hv)
   refine ⟨b',c',t8',s',?_,h'⟩
   rw[beq_iff_eq.2 hv,cond_true,e]
   rfl
  ·have e:=F38_0_s k t0 (keyF p[i] t0 0) (i:Int) (keyF p[i] t0 0) p b c s (by omega) s.length k 0 (Nat.zero_add _) (by omega) (by simp)
   rw[show ((0:Nat):Int)=0 from rfl] at e
   obtain ⟨b',c',t8',s',e2,h'⟩:=F38_1_s k t0 p hk hn hs hp hbd hpl d m (i+1) _ _ _ _ (by omega) (by omega) (n2 hv)
   refine ⟨b',c',t8',s',?_,h'⟩
   have k1:(s.length+[keyF p[i] t0 0].length)*(8*2)≤281474976710656∧s.length+[keyF p[i] t0 0].length≤9223372036854775807:=by rw[length_singleton]; omega
   have k2:(b.length+[p[i]].length)*(8*2)≤281474976710656∧b.length+[p[i]].length≤9223372036854775807:=by rw[length_singleton]; omega
   have k3:(c.length+[((ix s (keyF p[i] t0 0):Nat):Int)].length)*(8*2)≤281474976710656∧c.length+[((ix s (keyF p[i] t0 0):Nat):Int)].length≤9223372036854775807:=by rw[length_singleton]; omega
   rw[beq_false_of_ne hv,cond_false,e,bind_some]
   simp only[one_list]
   rw[wsucc i _ hlt (by omega),tnI i,getD_lt _ _ _ hlt]
   by_cases hm2:keyF p[i] t0 0∈s
   ·have h1:=ix_lt hm2
    rw[put1_in hm2] at e2
    rw[beq_false_of_ne (show ¬((ix s (keyF p[i] t0 0):Nat):Int)=((s.length:Nat):Int) by omega),cond_false,if_pos (inR hlt),if_pos k2,if_pos k3,e2]
    rfl
   ·have h1:=ix_no hm2
    rw[put1_no hm2] at e2
    rw[show (((ix s (keyF p[i] t0 0):Nat):Int)==((s.length:Nat):Int))=true by rw[h1]; simp,cond_true,if_pos k1,if_pos (inR hlt),if_pos k2,if_pos k3,e2]
    rfl
structure Cuts (t0:List RgT) (b c:List Int):Prop where
 up:b.Pairwise (· < ·)
 bc:b.length=c.length
 cl:c.length≤2000000
 lp:LetP 2000000 c
 ne:c≠[]
 cut:∀x,0≤x→x≤1114111→∃j,CutAt b x j∧∃h:j<b.length,keyF b[j] t0 0=keyF x t0 0
 same:∀i j (hi:i<b.length) (hj:j<b.length),getD c i 0=getD c j 0→keyF b[i] t0 0=keyF b[j] t0 0
theorem F38_s (k:Nat) (t0:List RgT) (hk:10000000≤k) (hn:t0.length≤40) (hs:RgL t0):∃b c,F38 k t0=some ((b,(c,())),())∧Cuts t0 b c:=by
 obtain ⟨p,e,hp,h0,hb⟩:=F70_s k t0 hk (by omega) hs
 have hl:=risL_len hp
 have hi:CutI t0 p 0 (-1) [] [] []:=⟨rfl,Nat.le_refl _,Nat.le_refl _,List.nodup_nil,(fun j h=>by simp at h),List.Pairwise.nil,(fun y hy=>by cases hy),.inl ⟨rfl,rfl⟩,(fun x x0 x1 hx=>by
  have:=hx 0 (by rw[drop_zero]; exact h0)
  omega)⟩
 obtain ⟨b,c,t8,s,e2,h⟩:=F38_1_s k t0 p hk hn hs hp hb (by omega) p.length k 0 (-1) [] [] [] (Nat.zero_add _) (by omega) hi
 have hbc:=h.bc
 have hci:=h.ci
 have hsi:=h.si
 have hcut:=fun x x0 x1=>h.cut x x0 x1 fun z hz=>by rw[List.drop_length] at hz; cases hz
 refine ⟨b,c,?_,h.up,hbc,by omega,fun x hx=>?_,fun hc=>?_,hcut,fun i j hi hj he=>?_⟩
 ·rw[show ((0:Nat):Int)=0 from rfl] at e2
  unfold F38
  rw[e,bind_some]
  simp only
  rw[e2,bind_some]
 ·obtain ⟨j,hj,ej⟩:=List.mem_iff_getElem.1 hx
  obtain ⟨n,h1,h2⟩:=h.at_ j (by omega)
  rw[List.getElem?_eq_getElem hj,ej] at h1
  injection h1 with h1
  have:=(List.getElem?_eq_some_iff.1 h2).1
  omega
 ·obtain ⟨j,_,hj,_⟩:=hcut 0 (Int.le_refl _) (by decide)
  rw[hbc,hc] at hj
  simp at hj
 ·obtain ⟨n,h1,h2⟩:=h.at_ i hi
  obtain ⟨m,h3,h4⟩:=h.at_ j hj
  rw[getD_eq_getElem?_getD,getD_eq_getElem?_getD,h1,h3] at he
  have he':n=m:=Int.ofNat.inj (show ((n:Nat):Int)=((m:Nat):Int) from he)
  subst he'
  rw[h2] at h4
  injection h4
theorem F61_0_s (k:Nat) (b c:List Int) (x:Int) (hb:b.length≤5000000) (hup:b.Pairwise (· < ·)) (j:Nat) (hj:CutAt b x j):∀(d m i:Nat),i+d=j→d<m→F61_0 k m b c x (i:Int)=some ((c,((j:Int),())),())
 |0,m,i,hi,hm=>by
  obtain ⟨m,rfl⟩:=pos1 (m:=m) (by omega)
  obtain rfl:i=j:=by omega
  obtain ⟨h1,h2,h3⟩:=hj
  simp only[F61_0]
  rw[wsucc i b.length (by omega) (by omega)]
  by_cases hc:i+1<b.length
  ·have:=h3 (i+1) (by omega) hc
   rw[dlt hc,cond_true,if_pos (inR hc),tnI (i+1),getD_lt _ _ _ hc,decide_eq_false (by omega),cond_false]
  ·rw[decide_eq_false (by omega),cond_false]
 |d+1,m,i,hi,hm=>by
  obtain ⟨m,rfl⟩:=pos1 (m:=m) (by omega)
  have h0:=hj
  obtain ⟨h1,h2,h3⟩:=hj
  have hc:i+1<b.length:=by omega
  have hle:b[i+1]≤x:=by
   by_cases he:i+1=j
   ·subst he; exact h2
   ·have:=List.pairwise_iff_getElem.1 hup (i+1) j hc h1 (by omega)
    omega
  simp only[F61_0]
  rw[wsucc i b.length (by omega) (by omega),dlt hc,cond_true,if_pos (inR hc),tnI (i+1),getD_lt _ _ _ hc,decide_eq_true hle,cond_true,F61_0_s k b c x hb hup j h0 d m (i+1) (by omega) (by omega)]
  rfl
end Go.Proofs.YtgmmopbpldgpcaaE
set_option linter.unusedSimpArgs false
set_option linter.unusedVariables false
set_option maxRecDepth 20000
namespace Go.Proofs.YtgmmopbpldgpcaaE
theorem getD_set_eq (l:List Bool) (i j:Nat) (v:Bool) (h:j<l.length):getD (List.set l i v) j false=if i=j then v else getD l j false:=by
 rw[getD_eq_getElem?_getD,getD_eq_getElem?_getD,List.getElem?_set]
 by_cases e:i=j
 ·subst e; rw[if_pos rfl,if_pos h,if_pos rfl]; rfl
 ·rw[if_neg e,if_neg e]
theorem F39_0_s (k:Nat) (t0:List RgT) (p q:List Int) (u:Nat) (m2:List (List Bool)) (N:Nat) (hk:10000000≤k) (hu:u<t0.length) (hs:RgL t0) (hpq:p.length=q.length) (hp:p.length≤2000000) (hq:∀x∈q,0≤x∧x<(N:Int)) (hsame:∀i j (hi:i<p.length) (hj:j<p.length),getD q i 0=getD q j 0→has (getD t0 u []) p[i]=has (getD t0 u []) p[j]):∀(d m i:Nat) (row:List Bool),i+d=p.length→d<m→row.length=N→(∀j (h:j<p.length),j<i→getD row (getD q j 0).toNat false=has (getD t0 u []) p[j])→∃row',F39_0 k m t0 p q (u:Int) (i:Int) row m2=some ((t0,(p,(q,((u:Int),())))),(row',(m2,())))∧row'.length=N∧∀j (h:j<p.length),getD row' (getD q j 0).toNat false=has (getD t0 u []) p[j]
 |0,m,i,row,hi,hm,hr,hrow=>by
  obtain ⟨m,rfl⟩:=pos1 (m:=m) (by omega)
  refine ⟨row,?_,hr,fun j h=>hrow j h (by omega)⟩
  simp only[F39_0]
  rw[decide_eq_false (by omega),cond_false]
 |d+1,m,i,row,hi,hm,hr,hrow=>by
  obtain ⟨m,rfl⟩:=pos1 (m:=m) (by omega)
  have hlt:i<p.length:=by omega
  have hlt2:i<q.length:=by omega
  have hlen:=rgS_len (rgL_at hs u)
  have hx:=hq _ (getElem_mem hlt2)
  have hqi:getD q i 0=q[i]:=getD_lt q i 0 hlt2
  obtain ⟨row',e,h,h2⟩:=F39_0_s k t0 p q u m2 N hk hu hs hpq hp hq hsame d m (i+1) (List.set row (Int.toNat q[i]) (has (getD t0 u []) (getD p i 0))) (by omega) (by omega) (by rw[List.length_set]; exact hr) (fun j hj hji=>by
   have hqj:=hq _ (getElem_mem (show j<q.length by omega))
   have hgj:getD q j 0=q[j]'(by omega):=getD_lt q j 0 (by omega)
   rw[getD_set_eq _ _ _ _ (by omega),getD_lt p i 0 hlt]
   split
   ·rename_i he
    exact hsame i j hlt hj (by omega)
   ·rename_i he
    by_cases hij:j=i
    ·subst hij
     exact absurd (by rw[hqi]) he
    ·exact hrow j hj (by omega))
  refine ⟨row',?_,h,h2⟩
  have hin:0≤q[i]∧q[i]<((length row:Nat):Int):=by omega
  simp only[F39_0]
  rw[dlt hlt,cond_true,if_pos (inR hlt2),if_pos (inR hu),if_pos (inR hlt),tnI u,tnI i,F72_ok k _ _ (by omega) hk,bind_some]
  simp only
  rw[getD_lt q i _ hlt2,if_pos hin,wsucc i _ hlt (by omega),e]
  rfl
def InS (t0:List RgT) (p q:List Int) (I:InT):Prop:=∀u,u<t0.length→∀j (h:j<p.length),getD (getD I u []) (getD q j 0).toNat false=has (getD t0 u []) p[j]
theorem F39_1_s (k:Nat) (t0:List RgT) (p q:List Int) (c:Int) (hk:10000000≤k) (hn:t0.length≤1000) (hs:RgL t0) (hC:Cuts t0 p q) (e50:F40 k q=some ((c,()),())) (hc0:0≤c) (hc1:c≤2000000) (hq:∀x∈q,0≤x∧x<c):∀(d m i:Nat) (M:List (List Bool)),i+d=t0.length→d<m→M.length=i→(∀r∈M,r.length=c.toNat)→(∀u,u<i→∀j (h:j<p.length),getD (getD M u []) (getD q j 0).toNat false=has (getD t0 u []) p[j])→∃M',F39_1 k m t0 p q (i:Int) M=some ((),(M',()))∧M'.length=t0.length∧(∀r∈M',r.length=c.toNat)∧InS t0 p q M'
 |0,m,i,M,hi,hm,hM,hr,hS=>by
  obtain ⟨m,rfl⟩:=pos1 (m:=m) (by omega)
  refine ⟨M,?_,by omega,hr,fun u hu=>hS u (by omega)⟩
  simp only[F39_1]
  rw[decide_eq_false (by omega),cond_false]
 |d+1,m,i,M,hi,hm,hM,hr,hS=>by
  obtain ⟨m,rfl⟩:=pos1 (m:=m) (by omega)
  have hlt:i<t0.length:=by omega
  have hpq:=hC.bc
  have hcl:=hC.cl
  obtain ⟨row,e,h,hrow⟩:=F39_0_s k t0 p q i M c.toNat hk hlt hs hpq (by omega) (fun x hx=>by have:=hq x hx; omega) (fun a b ha hb he=>(keyF_inj t0 0 0 (hC.same a b ha hb he)).2 _ (by rw[getD_lt _ _ _ hlt]; exact getElem_mem hlt)) p.length k 0 (replicate c.toNat false) (Nat.zero_add _) (by omega) (by simp) (fun j _ hj=>by omega)
  rw[show ((0:Nat):Int)=0 from rfl] at e
  obtain ⟨M',e2,h2,h3,h4⟩:=F39_1_s k t0 p q c hk hn hs hC e50 hc0 hc1 hq d m (i+1) (M++[row]) (by omega) (by omega) (by simp[hM]) (fun r hx=>by
   rcases List.mem_append.1 hx with g | g
   ·exact hr r g
   ·rw[List.mem_singleton.1 g]; exact h) (fun u hu j hj=>by
   by_cases hui:u<i
   ·rw[getD_eq_getElem?_getD (l:=M++[row]),List.getElem?_append_left (by omega),←getD_eq_getElem?_getD]
    exact hS u hui j hj
   ·obtain rfl:u=i:=by omega
    rw[getD_eq_getElem?_getD (l:=M++[row]),List.getElem?_append_right (by omega),hM,Nat.sub_self]
    exact hrow j hj)
  refine ⟨M',?_,h2,h3,h4⟩
  have k1:(0≤c∧c<c+1)∧c≤9223372036854775807∧((1:Nat):Int)*c≤281474976710656:=by omega
  have k2:(M.length+[row].length)*(24*2)≤281474976710656∧M.length+[row].length≤9223372036854775807:=by rw[length_singleton]; omega
  simp only[F39_1]
  rw[dlt hlt,cond_true,e50,bind_some]
  simp only
  rw[if_pos k1,e,bind_some]
  simp only[one_list]
  rw[wsucc i _ hlt (by omega)]
  rw[if_pos k2,e2]
  rfl
theorem F39_s (k:Nat) (t0:List RgT) (p q:List Int) (hk:10000000≤k) (hn:t0.length≤1000) (hs:RgL t0) (hC:Cuts t0 p q):∃(M:List (List Bool)) (N:Nat),F39 k t0 p q=some ((M,()),())∧F40 k q=some (((N:Int),()),())∧N≤2000000∧M.length=t0.length∧(∀r∈M,r.length=N)∧(∀x∈q,0≤x∧x<(N:Int))∧InS t0 p q M:=by
 have hcl:=hC.cl
 obtain ⟨c,e,h0,h1,h2⟩:=F40_ok k q hk (by omega) hC.lp
 have hq:∀x∈q,0≤x∧x<c:=fun x hx=>⟨(hC.lp x hx).1,h2 x hx⟩
 obtain ⟨M,e2,h3,h4,h5⟩:=F39_1_s k t0 p q c hk hn hs hC e h0 h1 hq t0.length k 0 [] (Nat.zero_add _) (by omega) rfl (fun r hr=>by cases hr) (fun u hu=>by omega)
 refine ⟨M,c.toNat,?_,by rw[show ((c.toNat:Nat):Int)=c by omega]; exact e,by omega,h3,h4,fun x hx=>by have:=hq x hx; omega,h5⟩
 rw[show ((0:Nat):Int)=0 from rfl] at e2
 unfold F39
 rw[e2,bind_some]
def LetR (sets:List RgT) (I:InT) (N:Nat) (x:Int) (a:Nat):Prop:=a<N∧∀u,u<sets.length→getD (getD I u []) a false=has (getD sets u []) x
theorem F61_s (k:Nat) (hk:10000000≤k) (t0:List RgT) (b c:List Int) (I:InT) (N:Nat) (hC:Cuts t0 b c) (hS:InS t0 b c I) (hN:∀x∈c,0≤x∧x<(N:Int)) (x:Int) (h0:0≤x) (h1:x≤1114111):∃a:Nat,F61 k b c x=some (((a:Int),()),())∧LetR t0 I N x a:=by
 have hbc:=hC.bc
 have hcl:=hC.cl
 obtain ⟨j,hj,hjb,hkey⟩:=hC.cut x h0 h1
 have hjc:j<c.length:=by omega
 have hcj:=hN _ (getElem_mem hjc)
 have e:=F61_0_s k b c x (by omega) hC.up j hj j k 0 (Nat.zero_add _) (by omega)
 rw[show ((0:Nat):Int)=0 from rfl] at e
 refine ⟨c[j].toNat,?_,by omega,fun u hu=>?_⟩
 ·unfold F61
  rw[e,bind_some]
  simp only
  rw[if_pos (inR hjc),tnI j,getD_lt _ _ _ hjc,show ((c[j].toNat:Nat):Int)=c[j] by omega]
 ·have:=hS u hu j hjb
  rw[getD_lt c j 0 hjc] at this
  rw[this]
  exact (keyF_inj t0 0 0 hkey).2 _ (by rw[getD_lt _ _ _ hu]; exact getElem_mem hu)
theorem F22_0_s (k:Nat) (t:List Int) (w:WorT) (P:Int→Nat→Prop) (ht:t.length≤1000000) (hP:∀x∈t,∃a:Nat,F61 k w.2.1 w.2.2.1 x=some (((a:Int),()),())∧P x a):∀(d m i:Nat) (acc:List Nat),i+d=t.length→d<m→acc.length=i→(∀j (h:j<acc.length) (h2:j<t.length),P t[j] acc[j])→∃x:List Nat,F22_0 k m t (i:Int) w (natL acc)=some ((),(natL x,()))∧x.length=t.length∧∀j (h:j<x.length) (h2:j<t.length),P t[j] x[j]
 |0,m,i,acc,hi,hm,ha,hx=>by
  obtain ⟨m,rfl⟩:=pos1 (m:=m) (by omega)
  refine ⟨acc,?_,by omega,hx⟩
  simp only[F22_0]
  rw[decide_eq_false (by omega),cond_false]
 |d+1,m,i,acc,hi,hm,ha,hx=>by
  obtain ⟨m,rfl⟩:=pos1 (m:=m) (by omega)
  have hlt:i<t.length:=by omega
  obtain ⟨a,e61,hPa⟩:=hP _ (getElem_mem hlt)
  obtain ⟨x,e,h1,h2⟩:=F22_0_s k t w P ht hP d m (i+1) (acc++[a]) (by omega) (by omega) (by simp[ha]) (fun j h h2=>by
   by_cases hj:j<acc.length
   ·rw[getElem_append_left hj]; exact hx j hj h2
   ·have:j=i:=by simp at h; omega
    subst this
    rw[List.getElem_append_right (by omega)]
    simp only[ha,Nat.sub_self,List.getElem_cons_zero]
    exact hPa)
  refine ⟨x,?_,h1,h2⟩
  simp only[F22_0]
  rw[dlt hlt,cond_true,if_pos (inR hlt),tnI i,getD_lt _ _ _ hlt,e61,bind_some]
  simp only
  rw[one_list,if_pos (by rw[length_singleton,length_map]; omega),wsucc i _ hlt (by omega),show natL acc++[(a:Int)]=natL (acc++[a]) from by simp[natL],e]
  rfl
theorem F22_s (k:Nat) (t:List Int) (w:WorT) (P:Int→Nat→Prop) (ht:t.length≤1000000) (hk:10000000≤k) (hP:∀x∈t,∃a:Nat,F61 k w.2.1 w.2.2.1 x=some (((a:Int),()),())∧P x a):∃x:List Nat,F22 k w t=some ((natL x,()),())∧x.length=t.length∧∀j (h:j<x.length) (h2:j<t.length),P t[j] x[j]:=by
 obtain ⟨x,e,h⟩:=F22_0_s k t w P ht hP t.length k 0 [] (Nat.zero_add _) (by omega) rfl (fun j h=>by cases h)
 rw[show ((0:Nat):Int)=0 from rfl] at e
 refine ⟨x,?_,h⟩
 unfold F22
 rw[show F22_0 k k t 0 w []=_ from e,bind_some]
def Sca (x:Int):Prop:=0≤x∧x≤1114111
theorem F23_0_s (k:Nat) (ts:List Int) (n:Nat) (hn:n≤1000) (hl:ts.length≤100000000000000):∀(d m i:Nat) (acc:List Int),i+d=n→d<m→i≤ts.length→acc.length=i→(∀x∈acc,Sca x)→∃l,F23_0 k m ts (n:Int) (i:Int) acc=some ((),(l,()))∧l.length≤n∧∀x∈l,Sca x
 |0,m,i,acc,hi,hm,hil,ha,hs=>by
  obtain ⟨m,rfl⟩:=pos1 (m:=m) (by omega)
  refine ⟨acc,?_,by omega,hs⟩
  simp only[F23_0]
  rw[decide_eq_false (show ¬(i:Int)<(n:Int) by omega),cond_false]
  cases (decide ((i:Int)<((length ts:Nat):Int)))<;>rfl
 |d+1,m,i,acc,hi,hm,hil,ha,hs=>by
  obtain ⟨m,rfl⟩:=pos1 (m:=m) (by omega)
  simp only[F23_0]
  by_cases hlt:i<ts.length
  ·have hm0:0≤(getD ts i 0)%12:=Int.emod_nonneg _ (by decide)
   have hm1:(getD ts i 0)%12<12:=Int.emod_lt_of_pos _ (by decide)
   generalize hx2:(List.set (List.set (List.set (List.set (List.set (List.set (List.set (List.set (List.set (List.set (List.set (List.set (replicate 12 (0:Int)) 0 (97:Int)) 1 (97:Int)) 2 (98:Int)) 3 (99:Int)) 4 (49:Int)) 5 (55:Int)) 6 (32:Int)) 7 (120:Int)) 8 (19969:Int)) 9 (128512:Int)) 10 (45:Int)) 11 (50:Int))=x2
   have hx:x2.length=12:=by rw[←hx2]; rfl
   have hxs:∀y∈x2,Sca y:=by rw[←hx2]; unfold Sca; decide
   have hv:=hxs _ (getD_mem (d:=0) (show Int.toNat (getD ts i 0%12)<x2.length by omega))
   obtain ⟨l,e,h⟩:=F23_0_s k ts n hn hl d m (i+1) (acc++[getD x2 (Int.toNat (getD ts i 0%12)) 0]) (by omega) (by omega) (by omega) (by simp[ha]) (all_append hs hv)
   refine ⟨l,?_,h⟩
   rw[dlt hlt,cond_true,decide_eq_true (show (i:Int)<(n:Int) by omega),cond_true,if_pos (inR hlt),tnI i,F62_eq k _ 12 (by decide) (by decide),bind_some]
   simp only
   rw[if_pos ⟨hm0,by rw[hx]; exact hm1⟩]
   have ha1:∀v:Int,(length acc+length (List.set (replicate 1 (0:Int)) 0 v))*(8*2)≤281474976710656∧length acc+length (List.set (replicate 1 (0:Int)) 0 v)≤9223372036854775807:=fun v=>by simp; omega
   rw[if_pos (ha1 _),wsucc i _ hlt (by omega)]
   rw[show ∀v:Int,List.set (replicate 1 (0:Int)) 0 v=[v] from fun v=>rfl,e]
   rfl
  ·exact ⟨acc,by rw[decide_eq_false (by omega),cond_false],by omega,hs⟩
theorem F23_s (k:Nat) (ts:List Int) (n:Nat) (hn:n≤1000) (hk:10000000≤k) (hl:ts.length≤100000000000000):∃l,F23 k ts (n:Int)=some ((l,()),())∧l.length≤n∧∀x∈l,Sca x:=by
 obtain ⟨l,e,h⟩:=F23_0_s k ts n hn hl n k 0 [] (Nat.zero_add _) (by omega) (zero_le _) rfl (fun x hx=>by cases hx)
 rw[show ((0:Nat):Int)=0 from rfl] at e
 refine ⟨l,?_,h⟩
 unfold F23
 rw[e,bind_some]
def NumP (ns:List Int) (i:Nat) (r:RulT):Prop:=i<ns.length→r.1=tmod (getD ns i 0%1073741824) 3∧r.2.1=tmod (IntKind.wrap .i64 (tdiv (getD ns i 0%1073741824) 3)) 20
theorem F36_0_s (k:Nat) (l:List RawT) (ns:List Int) (c6:FileT) (ds:List DefT) (hk:20000000≤k) (hl:∀r∈l,RawH 5 r) (hn:ns.length≤100000000000000):∀(d m j:Nat) (rs:List RulT),j+d=4→d<m→rs.length=j→2*j≤l.length→(∀r∈rs,RulP r)→(∀i (h:i<rs.length),NumP ns i rs[i])→∃rs',F36_0 k m l ns ((2*j:Nat):Int) c6 (ds,(rs,()))=some ((),(c6,(ds,(rs',())),()))∧(rs'.length≤4∧2*rs'.length≤l.length∧(l.length<2*rs'.length+2∨rs'.length=4))∧(∀r∈rs',RulP r)∧∀i (h:i<rs'.length),NumP ns i rs'[i]
 |0,m,j,rs,hj,hm,hr,hjl,hp,hnum=>by
  obtain ⟨m,rfl⟩:=pos1 (m:=m) (by omega)
  refine ⟨rs,?_,by omega,hp,hnum⟩
  simp only[F36_0]
  rw[decide_eq_false (show ¬((2*j:Nat):Int)<8 by omega),cond_false]
  cases (decide (IntKind.wrap .i64 (((2*j:Nat):Int)+1)<((length l:Nat):Int)))<;>rfl
 |d+1,m,j,rs,hj,hm,hr,hjl,hp,hnum=>by
  obtain ⟨m,rfl⟩:=pos1 (m:=m) (by omega)
  have hw1:IntKind.wrap .i64 (((2*j:Nat):Int)+1)=((2*j+1:Nat):Int):=by rw[w64 _ (by omega) (by omega)]; omega
  have hw2:IntKind.wrap .i64 (((2*j:Nat):Int)+2)=((2*(j+1):Nat):Int):=by rw[w64 _ (by omega) (by omega)]; omega
  have hw3:IntKind.wrap .i64 (tdiv ((2*j:Nat):Int) 2)=(j:Int):=by
   have:tdiv ((2*j:Nat):Int) 2=(j:Int):=by
    rw[Int.tdiv_eq_ediv_of_nonneg (by omega)]
    omega
   rw[this]
   exact w64n j (by omega)
  simp only[F36_0]
  rw[hw1,hw3]
  by_cases h1:2*j+1<l.length
  ·have h0:2*j<l.length:=by omega
   obtain ⟨x1,e1,p1⟩:=F68_ok k l[2*j] false 5 (hl _ (getElem_mem h0)) (by omega)
   obtain ⟨x2,e2,p2⟩:=F68_ok k l[2*j+1] true 5 (hl _ (getElem_mem h1)) (by omega)
   have next:∀(u v:Int),(0≤u∧u<3)→(0≤v∧v<20)→NumP ns j (u,(v,(x1,(x2,()))))→∃rs',F36_0 k m l ns ((2*(j+1):Nat):Int) c6 (ds,(rs++[(u,(v,(x1,(x2,()))))],()))=some ((),(c6,(ds,(rs',())),()))∧(rs'.length≤4∧2*rs'.length≤l.length∧(l.length<2*rs'.length+2∨rs'.length=4))∧(∀r∈rs',RulP r)∧∀i (h:i<rs'.length),NumP ns i rs'[i]:=fun u v hu hv hq =>
    F36_0_s k l ns c6 ds hk hl hn d m (j+1) (rs++[(u,(v,(x1,(x2,()))))]) (by omega) (by omega) (by simp[hr]) (by omega) (all_append hp ⟨⟨p1,p2⟩,hu,hv⟩) (fun i h=>by
     by_cases hi:i<rs.length
     ·rw[getElem_append_left hi]; exact hnum i hi
     ·have:i=j:=by simp at h; omega
      subst this
      rw[List.getElem_append_right (by omega)]
      simp only[hr,Nat.sub_self,List.getElem_cons_zero]
      exact hq)
   have ha:∀y:RulT,(length rs+length [y])*(160*2)≤281474976710656∧length rs+length [y]≤9223372036854775807:=fun y=>by rw[length_singleton]; omega
   have hset:∀y z:RulT,List.set (replicate 1 z) 0 y=[y]:=fun y z=>rfl
   rw[dlt h1,cond_true,decide_eq_true (show ((2*j:Nat):Int)<8 by omega),cond_true]
   by_cases h2:j<ns.length
   ·obtain ⟨rs',e,h⟩:=next (tmod (getD ns j 0%1073741824) 3) (tmod (IntKind.wrap .i64 (tdiv (getD ns j 0%1073741824) 3)) 20) (tmR (Int.emod_nonneg _ (by decide)) (by decide)) (tdR (Int.emod_nonneg _ (by decide)) (Int.emod_lt_of_pos _ (by decide))) (fun _=>⟨rfl,rfl⟩)
    refine ⟨rs',?_,h⟩
    rw[dlt h2,cond_true,if_pos (inR h2),tnI j,F67_eq k _ 1073741824 (by decide) (by decide),bind_some]
    simp only
    rw[if_pos (inR h0),if_pos (inR h1),tnI (2*j),tnI (2*j+1),getD_lt _ _ _ h0,getD_lt _ _ _ h1,e1,bind_some]
    simp only
    rw[e2,bind_some]
    simp only
    rw[hset,if_pos (ha _),hw2,e]
    rfl
   ·obtain ⟨rs',e,h⟩:=next (tmod ((2*j:Nat):Int) 3) (tmod (IntKind.wrap .i64 (tdiv ((2*j:Nat):Int) 3)) 20) (tmR (by omega) (by decide)) (tdR (by omega) (by omega)) (fun q=>absurd q h2)
    refine ⟨rs',?_,h⟩
    rw[decide_eq_false (show ¬(j:Int)<((length ns:Nat):Int) by omega),cond_false,if_pos (inR h0),if_pos (inR h1),tnI (2*j),tnI (2*j+1),getD_lt _ _ _ h0,getD_lt _ _ _ h1,e1,bind_some]
    simp only
    rw[e2,bind_some]
    simp only
    rw[hset,if_pos (ha _),hw2,e]
    rfl
  ·refine ⟨rs,?_,by omega,hp,hnum⟩
   rw[decide_eq_false (show ¬((2*j+1:Nat):Int)<((length l:Nat):Int) by omega),cond_false]
structure FileS (l:List RawT) (ns:List Int) (dd:List DefT) (rs:List RulT):Prop where
 d4:4≤dd.length
 d6:dd.length≤6
 dp:DefsP dd
 dt:∃t,dd=defs4++t
 r4:rs.length≤4
 rl:2*rs.length≤l.length∧(l.length<2*rs.length+2∨rs.length=4)
 rp:∀r∈rs,RulP r
 num:∀i (h:i<rs.length),NumP ns i rs[i]
theorem F36_s (k:Nat) (l:List RawT) (ns ds:List Int) (hk:20000000≤k) (hl:∀r∈l,RawH 5 r) (hn:ns.length≤100000000000000):∃(dd:List DefT) (rs:List RulT),F36 k l ns ds=some (((dd,(rs,())),()),())∧FileS l ns dd rs:=by
 obtain ⟨dd,e1,h1,h2,h3,h3t⟩:=F66_ok k ds (by omega)
 obtain ⟨rs,e2,⟨h4,h5⟩,h6,h7⟩:=F36_0_s k l ns (([]:List DefT),(([]:List RulT),())) dd hk hl hn 4 k 0 [] rfl (by omega) rfl (zero_le _) (fun r hr=>by cases hr) (fun i h=>by cases h)
 refine ⟨dd,rs,?_,h1,h2,h3,h3t,h4,h5,h6,h7⟩
 unfold F36
 rw[e1,bind_some]
 simp only
 rw[show F36_0 k k l ns 0 (([]:List DefT),(([]:List RulT),())) (dd,(([]:List RulT),()))=_ from e2,bind_some]
end Go.Proofs.YtgmmopbpldgpcaaE
set_option linter.unusedSimpArgs false
set_option linter.unusedVariables false
set_option maxRecDepth 20000
namespace Go.Proofs.YtgmmopbpldgpcaaE
abbrev side00:SideT:=(([]:(List Int)),(([]:(List Int)),(([]:(List Int)),(([]:(List (Int×(Int×(Int×Unit))))),((0:Int),())))))
def TrmS (fl:FileT) (I:InT) (x:RexT) (s:SideT):Prop:=sizeR 5 x≤120∧∃z a b c,TrimR I (sideS (fnd fl.1) 5 x) s z a b c
structure WS (k:Nat) (l:List RawT) (ns:List Int) (w:WorT) (N:Nat) (sets:List RgT):Prop where
 g:WG w N w.1.1.length
 f:FileS l ns w.1.1 w.1.2.1
 se:F37 k w.1=some ((sets,()),())
 sl:sets.length=w.1.1.length
 rg:RgL sets
 cuts:Cuts sets w.2.1 w.2.2.1
 inS:InS sets w.2.1 w.2.2.1 w.2.2.2.1
 il:w.2.2.2.1.length=sets.length
 left:∀i (h:i<w.1.2.1.length),TrmS w.1 w.2.2.2.1 w.1.2.1[i].2.2.1 (getD w.2.2.2.2.1 i side00)
 right:∀i (h:i<w.1.2.1.length),TrmS w.1 w.2.2.2.1 w.1.2.1[i].2.2.2.1 (getD w.2.2.2.2.2.1 i side00)
theorem getD_app {α:Type} (A:List α) (s d:α) (i:Nat) (h:i<A.length+1):getD (A++[s]) i d=if i<A.length then getD A i d else s:=by
 rw[getD_eq_getElem?_getD,getD_eq_getElem?_getD]
 by_cases hi:i<A.length
 ·rw[if_pos hi,List.getElem?_append_left hi]
 ·rw[if_neg hi,List.getElem?_append_right (by omega),show i-A.length=0 by omega]
  rfl
theorem F15_0_s (k:Nat) (fl:FileT) (cu nm:List Int) (I:InT) (Nv:Int×Unit) (c6:WorT) (N M:Nat) (hk:20000000≤k) (hfl:fl.1.length≤1000) (hM:fl.1.length=M) (hI:I.length=M) (hrow:∀r∈I,r.length=N) (hN:N≤2000000) (hrs:∀r∈fl.2.1,RulP r) (hrl:fl.2.1.length≤4):∀(d m i:Nat) (A B:List SideT),i+d=fl.2.1.length→d<m→A.length=i→B.length=i→(∀s∈A,SideW I N M s)→(∀s∈B,SideW I N M s) →
  (∀j (h:j<fl.2.1.length),j<i→TrmS fl I fl.2.1[j].2.2.1 (getD A j side00)∧TrmS fl I fl.2.1[j].2.2.2.1 (getD B j side00)) →
  (∃w,F15_0 k m (i:Int) c6 (fl,(cu,(nm,(I,(A,(B,Nv))))))=some (.inr ((false,()),(w,())))) ∨
  ∃A' B',F15_0 k m (i:Int) c6 (fl,(cu,(nm,(I,(A,(B,Nv))))))=some (.inl ((),(c6,(fl,(cu,(nm,(I,(A',(B',Nv)))))),())))∧A'.length=fl.2.1.length∧B'.length=fl.2.1.length∧(∀s∈A',SideW I N M s)∧(∀s∈B',SideW I N M s)∧∀j (h:j<fl.2.1.length),TrmS fl I fl.2.1[j].2.2.1 (getD A' j side00)∧TrmS fl I fl.2.1[j].2.2.2.1 (getD B' j side00)
 |0,m,i,A,B,hi,hm,hA,hB,pA,pB,hT=>by
  obtain ⟨m,rfl⟩:=pos1 (m:=m) (by omega)
  right
  refine ⟨A,B,?_,by omega,by omega,pA,pB,fun j h=>hT j h (by omega)⟩
  simp only[F15_0]
  rw[decide_eq_false (by omega),cond_false]
 |d+1,m,i,A,B,hi,hm,hA,hB,pA,pB,hT=>by
  obtain ⟨m,rfl⟩:=pos1 (m:=m) (by omega)
  have hlt:i<fl.2.1.length:=by omega
  obtain ⟨⟨p1,p2⟩,_⟩:=hrs _ (getElem_mem hlt)
  have e1:=F41_ok k fl.2.1[i].2.2.1 fl hfl p1 hk
  have e2:=F41_ok k fl.2.1[i].2.2.2.1 fl hfl p2 hk
  have hir:∀r∈I,r.length≤2000000:=fun r hr=>by rw[hrow r hr]; exact hN
  simp only[F15_0]
  rw[dlt hlt,cond_true,if_pos (inR hlt),tnI i,getD_lt _ _ _ hlt,e1,bind_some,if_pos (inR hlt),e2,bind_some]
  by_cases h1:sizeR 5 fl.2.1[i].2.2.1>120
  ·left
   rw[if_pos h1]
   exact ⟨_,rfl⟩
  ·rw[if_neg h1]
   by_cases h2:sizeR 5 fl.2.1[i].2.2.2.1>120
   ·left
    rw[if_pos h2]
    exact ⟨_,rfl⟩
   ·rw[if_neg h2]
    simp only[Bool.not_true,cond_false]
    have g1:=side_G (fnd fl.1) M (fun nm=>by have:=fnd_range fl.1 nm; rw[hM] at this; exact this) 5 _ (by omega) p1
    have g2:=side_G (fnd fl.1) M (fun nm=>by have:=fnd_range fl.1 nm; rw[hM] at this; exact this) 5 _ (by omega) p2
    obtain ⟨j1,s1,e3,hj1,hs1,ht1⟩:=F42_ok k _ I (by omega) (by omega) g1 (by omega) hir
    obtain ⟨j2,s2,e4,hj2,hs2,ht2⟩:=F42_ok k _ I (by omega) (by omega) g2 (by omega) hir
    have w1:SideW I N M s1:=sideW hI hrow (by omega) hs1
    have w2:SideW I N M s2:=sideW hI hrow (by omega) hs2
    have hset:∀y z:SideT,List.set (replicate 1 z) 0 y=[y]:=fun y z=>rfl
    have ha:∀y:SideT,(length A+length [y])*(104*2)≤281474976710656∧length A+length [y]≤9223372036854775807:=fun y=>by rw[length_singleton]; omega
    have hb:∀y:SideT,(length B+length [y])*(104*2)≤281474976710656∧length B+length [y]≤9223372036854775807:=fun y=>by rw[length_singleton]; omega
    rw[e3,bind_some]
    simp only
    rw[hset,if_pos (ha _),e4,bind_some]
    simp only
    rw[hset,if_pos (hb _),wsucc i _ hlt (by omega)]
    rcases F15_0_s k fl cu nm I Nv c6 N M hk hfl hM hI hrow hN hrs hrl d m (i+1) (A++[s1]) (B++[s2]) (by omega) (by omega) (by simp[hA]) (by simp[hB]) (all_append pA w1) (all_append pB w2) (fun j h hj=>by
     rw[getD_app _ _ _ _ (by omega),getD_app _ _ _ _ (by omega),hA,hB]
     by_cases hji:j<i
     ·rw[if_pos hji,if_pos hji]; exact hT j h hji
     ·obtain rfl:j=i:=by omega
      rw[if_neg hji,if_neg hji]
      exact ⟨⟨by omega,ht1⟩,by omega,ht2⟩) with ⟨w,e⟩ | ⟨A',B',e,h⟩
    ·left
     exact ⟨w,by rw[e]; rfl⟩
    ·right
     exact ⟨A',B',by rw[e]; rfl,h⟩
theorem F15_s (k:Nat) (l:List RawT) (ns ds:List Int) (hk:20000000≤k) (hl:∀r∈l,RawH 5 r) (hn:ns.length≤100000000000000):(∃w,F15 k l ns ds=some ((w,false,()),()))∨∃w N sets,F15 k l ns ds=some ((w,true,()),())∧WS k l ns w N sets:=by
 obtain ⟨dd,rs,e1,hf⟩:=F36_s k l ns ds hk hl hn
 have h1:=hf.d4
 have h2:=hf.d6
 have h4:=hf.r4
 obtain ⟨sets,e4,h6,h7⟩:=F37_ok k (dd,(rs,())) (show dd.length≤1000 by omega) hf.dp hk
 have h6':sets.length=dd.length:=h6
 obtain ⟨bs,cs,e5,hC⟩:=F38_s k sets (by omega) (by omega) h7
 obtain ⟨I,N,e6,e7,g5,g6,g7,g8,g9⟩:=F39_s k sets bs cs (by omega) (by omega) h7 hC
 have e8:=F15_0_s k (dd,(rs,())) bs cs I ((N:Int),()) ((([]:List DefT),(([]:List RulT),())),(([]:(List Int)),(([]:(List Int)),(([]:(List (List Bool))),(([]:List SideT),(([]:List SideT),((0:Int),()))))))) N dd.length hk (show dd.length≤1000 by omega) rfl (by omega) g7 (by omega) hf.rp h4 rs.length k 0 [] [] (Nat.zero_add _) (by omega) rfl rfl (fun s hs=>by cases hs) (fun s hs=>by cases hs) (fun j h hj=>by omega)
 rw[show ((0:Nat):Int)=0 from rfl] at e8
 unfold F15
 simp only
 rw[e1,bind_some]
 simp only
 rw[e4,bind_some]
 simp only
 rw[e5,bind_some]
 simp only
 rw[e6,bind_some]
 simp only
 rw[e7,bind_some]
 simp only
 rcases e8 with ⟨w,e8⟩ | ⟨A,B,e8,a1,a2,a3,a4,a5⟩
 ·left
  refine ⟨w,?_⟩
  rw[e8,bind_some]
 ·right
  refine ⟨((dd,(rs,())),(bs,(cs,(I,(A,(B,((N:Int),()))))))),N,sets,?_,⟨⟨a3,a4,a1,a2,h4,hf.rp,rfl,g5,hC.bc,hC.cl,hC.ne,g8,(show I.length≤1000000 by omega),fun r hr=>by rw[g7 r hr]; omega⟩,hf,e4,h6',h7,hC,g9,g6,fun i h=>(a5 i h).1,fun i h=>(a5 i h).2⟩⟩
  rw[e8,bind_some]
theorem letters_s (k:Nat) (hk:20000000≤k) {l:List RawT} {ns:List Int} {w:WorT} {N:Nat} {sets:List RgT} (hw:WS k l ns w N sets) (ts:List Int) (n:Nat) (hn:n≤1000) (ha:ts.length≤100000000000000):∃(t:List Int) (x:List Nat),F23 k ts (n:Int)=some ((t,()),())∧F22 k w t=some ((natL x,()),())∧t.length≤n∧x.length=t.length∧∀j (h:j<x.length) (h2:j<t.length),LetR sets w.2.2.2.1 N t[j] x[j]:=by
 obtain ⟨t,e1,h1,h2⟩:=F23_s k ts n hn (by omega) ha
 obtain ⟨x,e2,h3,h4⟩:=F22_s k t w (LetR sets w.2.2.2.1 N) (by omega) (by omega) (fun x hx=>by
  have:=h2 x hx
  exact F61_s k (by omega) sets w.2.1 w.2.2.1 w.2.2.2.1 N hw.cuts hw.inS hw.g.lets x this.1 this.2)
 exact ⟨t,x,e1,e2,h1,h3,h4⟩
def accP (sets:List RgT) (s:SideT) (t:List Int) (p j:Nat):Bool:=decide (getD s.1 p 0<0)||has (getD sets (getD s.1 p 0).toNat []) (getD t j 0)
theorem acc_of {sets:List RgT} {I:InT} {N:Nat} {s:SideT} {t:List Int} {x:List Nat} (hs:∀y∈s.1,y<((sets.length:Nat):Int)) (hx:x.length=t.length) (h:∀j (h:j<x.length) (h2:j<t.length),LetR sets I N t[j] x[j]) (p j:Nat) (hp:p<s.1.length) (hj:j<x.length):ofP I s p x[j]=accP sets s t p j:=by
 have hj2:j<t.length:=by omega
 unfold ofP accP
 have:=hs _ (getD_mem (d:=0) hp)
 by_cases hc:getD s.1 p 0<0
 ·rw[decide_eq_true hc,Bool.true_or,Bool.true_or]
 ·rw[decide_eq_false hc,Bool.false_or,Bool.false_or,(h j hj hj2).2 _ (by omega),getD_lt t j 0 hj2]
end Go.Proofs.YtgmmopbpldgpcaaE
set_option linter.unusedSimpArgs false
set_option linter.unusedVariables false
set_option maxRecDepth 20000
namespace Go.Proofs.YtgmmopbpldgpcaaE
structure IsMin (V:Int) (S:Int→Prop):Prop where
 le:V≤1152921504606846976
 lb:∀c,S c→V≤c
 at_:V<1152921504606846976→S V
theorem IsMin.uniq {V W:Int} {S:Int→Prop} (h:IsMin V S) (g:IsMin W S):V=W:=by
 rcases Int.lt_trichotomy V W with q | q | q
 ·have:=g.lb V (h.at_ (by have:=g.le; omega))
  omega
 ·exact q
 ·have:=h.lb W (g.at_ (by have:=h.le; omega))
  omega
theorem IsMin.congr {V:Int} {S T:Int→Prop} (h:IsMin V S) (e:∀c,S c↔T c):IsMin V T:=⟨h.le,fun c hc=>h.lb c ((e c).2 hc),fun q=>(e V).1 (h.at_ q)⟩
theorem IsMin.inf {S:Int→Prop} (h:∀c,¬S c):IsMin 1152921504606846976 S:=⟨Int.le_refl _,fun c hc=>absurd hc (h c),fun q=>by omega⟩
theorem IsMin.val {V:Int} (h:V≤1152921504606846976):IsMin V (fun c=>c=V∧c<1152921504606846976):=⟨h,fun c hc=>by omega,fun q=>⟨rfl,q⟩⟩
theorem IsMin.min {V W:Int} {S T:Int→Prop} (h:IsMin V S) (g:IsMin W T):IsMin (minI V W) (fun c=>S c∨T c):=by
 have h1:=h.le
 have h2:=g.le
 refine ⟨?_,fun c hc=>?_,fun q=>?_⟩
 ·unfold minI; split<;>omega
 ·rcases hc with hc | hc
  ·have:=h.lb c hc
   unfold minI; split<;>omega
  ·have:=g.lb c hc
   unfold minI; split<;>omega
 ·unfold minI at q ⊢
  split
  ·rename_i hlt
   rw[if_pos hlt] at q
   exact .inr (g.at_ q)
  ·rename_i hlt
   rw[if_neg hlt] at q
   exact .inl (h.at_ q)
theorem IsMin.add {V w:Int} {S:Int→Prop} (h:IsMin V S) (hw:0≤w):IsMin (adI V w) (fun c=>∃d,S d∧c=d+w∧c<1152921504606846976):=by
 refine ⟨?_,fun c hc=>?_,fun q=>?_⟩
 ·unfold adI minI; split<;>omega
 ·obtain ⟨d,hd,rfl,hlt⟩:=hc
  have:=h.lb d hd
  unfold adI minI
  split<;>omega
 ·have hV:V+w<1152921504606846976:=by
   unfold adI minI at q
   split at q<;>omega
  have e:adI V w=V+w:=by unfold adI minI; split<;>omega
  rw[e]
  exact ⟨V,h.at_ (by omega),rfl,hV⟩
theorem adI_comm (a b:Int):adI a b=adI b a:=by unfold adI; rw[Int.add_comm]
inductive Run (s:SideT) (O:Nat→Nat→Bool) (i:Nat):Nat→Nat→Int→Prop
 |first (p:Nat) (hp:p<s.1.length) (h:getD s.2.1 p 0<1152921504606846976) (o:O p i=true):Run s O i (i+1) p (getD s.2.1 p 0)
 |next {k:Nat} {c:Int} (x:ArcT) (hx:x∈s.2.2.2.1) (r:Run s O i k x.1.toNat c) (h:c+x.2.2.1<1152921504606846976) (o:O x.2.1.toNat k=true):Run s O i (k+1) x.2.1.toNat (c+x.2.2.1)
theorem Run.lt {s:SideT} {O:Nat→Nat→Bool} {i k p:Nat} {c:Int} (r:Run s O i k p c):i<k:=by
 induction r with
 |first p hp h o=>omega
 |next x hx r h o ih=>omega
def Acc (s:SideT) (O:Nat→Nat→Bool) (i k:Nat) (c:Int):Prop:=(i=k∧c=s.2.2.2.2.1∧c<1152921504606846976)∨∃p d,p<s.1.length∧Run s O i k p d∧c=d+getD s.2.2.1 p 0∧c<1152921504606846976
theorem arcs_min {r:List Int} {Q:Nat→Int→Prop} {p:Nat}:∀(xs:List ArcT) (l:List Int) (S:Int→Prop),p<l.length→(∀x∈xs,IsMin (getD r x.1.toNat 0) (Q x.1.toNat)∧0≤x.2.2.1)→IsMin (getD l p 0) S→IsMin (getD (xs.foldl (arcC r) l) p 0) (fun c=>S c∨∃x∈xs,x.2.1.toNat=p∧∃d,Q x.1.toNat d∧c=d+x.2.2.1∧c<1152921504606846976)
 | [],l,S,hp,hr,h=>h.congr fun c=>⟨.inl,fun q=>q.elim id fun ⟨x,hx,_⟩=>by cases hx⟩
 |x::xs,l,S,hp,hr,h=>by
  obtain ⟨h1,h2⟩:=hr x mem_cons_self
  have hr':=fun y hy=>hr y (mem_cons_of_mem _ hy)
  rw[foldl_cons]
  by_cases e:x.2.1.toNat=p
  ·have hv:getD (arcC r l x) p 0=minI (getD l p 0) (adI (getD r x.1.toNat 0) x.2.2.1):=by
    unfold arcC
    rw[e,getD_eq_getElem?_getD (l:=List.set _ _ _),List.getElem?_set_self hp]
    rfl
   refine (arcs_min xs (arcC r l x) _ (by rw[arcC_len]; exact hp) hr' (by rw[hv]; exact h.min (h1.add h2))).congr fun c=>?_
   constructor
   ·rintro ((q | q) | ⟨y,hy,q⟩)
    ·exact .inl q
    ·exact .inr ⟨x,mem_cons_self,e,q⟩
    ·exact .inr ⟨y,mem_cons_of_mem _ hy,q⟩
   ·rintro (q | ⟨y,hy,q1,q2⟩)
    ·exact .inl (.inl q)
    ·rcases List.mem_cons.1 hy with g | g
     ·subst g; exact .inl (.inr q2)
     ·exact .inr ⟨y,g,q1,q2⟩
  ·have hv:getD (arcC r l x) p 0=getD l p 0:=by
    unfold arcC
    rw[getD_eq_getElem?_getD (l:=List.set _ _ _),List.getElem?_set_ne e]
    exact (getD_eq_getElem?_getD ..).symm
   refine (arcs_min xs (arcC r l x) S (by rw[arcC_len]; exact hp) hr' (by rw[hv]; exact h)).congr fun c=>?_
   constructor
   ·rintro (q | ⟨y,hy,q⟩)
    ·exact .inl q
    ·exact .inr ⟨y,mem_cons_of_mem _ hy,q⟩
   ·rintro (q | ⟨y,hy,q1,q2⟩)
    ·exact .inl q
    ·rcases List.mem_cons.1 hy with g | g
     ·subst g; exact absurd q1 e
     ·exact .inr ⟨y,g,q1,q2⟩
theorem maskC_getD {I:InT} {s:SideT} {a n:Nat} {l:List Int} {p:Nat} (hp:p<l.length) (hn:p<n):getD (maskC I s a n l) p 0=if ofP I s p a then getD l p 0 else INF1:=by
 rw[getD_lt _ _ _ (by rw[maskC_len]; exact hp)]
 simp only[maskC,getElem_map,getElem_range]
 by_cases h:ofP I s p a=true
 ·rw[if_pos h,if_neg (by rw[h]; simp)]
 ·rw[if_neg h,if_pos ⟨hn,by simpa using h⟩]
theorem stepC_min {I:InT} {s:SideT} (hs:SOC s) {O:Nat→Nat→Bool} {k a:Nat} (ho:∀p,p<s.1.length→ofP I s p a=O p k) {r:List Int} (h:∀p,p<s.1.length→IsMin (getD r p 0) (fun c=>∃i,i<k∧Run s O i k p c)) {p:Nat} (hp:p<s.1.length):IsMin (getD (stepC I s a r) p 0) (fun c=>∃i,i<k+1∧Run s O i (k+1) p c):=by
 unfold stepC
 have hlf:=hs.ok.lf
 rw[maskC_getD (by rw[farC_len hs.ok]; exact hp) hp,ho p hp]
 cases hO:O p k with
 |false =>
  rw[if_neg (by simp)]
  refine IsMin.inf fun c=>?_
  rintro ⟨i,hi,r⟩
  cases r with
  |first p hp h o=>rw[hO] at o; cases o
  |next x hx r h o=>rw[hO] at o; cases o
 |true =>
  rw[if_pos rfl]
  have hF:Cst (getD s.2.1 p 0):=cstL_getD hs.cf _
  unfold farC
  refine (arcs_min (Q:=fun q c=>∃i,i<k∧Run s O i k q c) s.2.2.2.1 s.2.1 _ (by omega) (fun x hx=>⟨h _ (by have:=hs.ok.arcs x hx; omega),(hs.ca x hx).1⟩) (IsMin.val hF.2)).congr fun c=>?_
  constructor
  ·rintro (⟨rfl,q⟩ | ⟨x,hx,rfl,d,⟨i,hi,r⟩,rfl,hlt⟩)
   ·exact ⟨k,by omega,.first p hp q hO⟩
   ·exact ⟨i,by omega,.next x hx r hlt hO⟩
  ·rintro ⟨i,hi,r⟩
   cases r with
   |first p hp h o=>exact .inl ⟨rfl,h⟩
   |next x hx r h o=>exact .inr ⟨x,hx,rfl,_,⟨i,r.lt,r⟩,rfl,h⟩
theorem fold_min {Q:Nat→Int→Prop}:∀(r e:List Int) (j:Nat) (V:Int) (S:Int→Prop),r.length=e.length→(∀p (h:p<r.length),IsMin r[p] (Q (j+p)))→(∀y∈e,0≤y)→IsMin V S→IsMin ((zipWith adI r e).foldl minI V) (fun c=>S c∨∃p,∃h:p<e.length,∃d,Q (j+p) d∧c=d+e[p]∧c<1152921504606846976)
 | [],[],j,V,S,_,_,_,h=>h.congr fun c=>⟨.inl,fun q=>q.elim id fun ⟨p,hp,_⟩=>by simp at hp⟩
 | [],_::_,j,V,S,hl,_,_,_=>by simp at hl
 |_::_,[],j,V,S,hl,_,_,_=>by simp at hl
 |x::r,y::e,j,V,S,hl,hr,he,h=>by
  rw[List.zipWith_cons_cons,foldl_cons]
  have h0:=hr 0 (by simp)
  rw[Nat.add_zero] at h0
  refine (fold_min (Q:=Q) r e (j+1) _ _ (by simpa using hl) (fun p hp=>by
   have:=hr (p+1) (by simp; omega)
   rw[show j+1+p=j+(p+1) by omega]
   exact this) (fun z hz=>he z (mem_cons_of_mem _ hz)) (h.min (h0.add (he y mem_cons_self)))).congr fun c=>?_
  constructor
  ·rintro ((q | q) | ⟨p,hp,q⟩)
   ·exact .inl q
   ·exact .inr ⟨0,by simp,q⟩
   ·exact .inr ⟨p+1,by simp; omega,by rw[show j+(p+1)=j+1+p by omega]; exact q⟩
  ·rintro (q | ⟨p,hp,q⟩)
   ·exact .inl (.inl q)
   ·cases p with
    |zero=>exact .inl (.inr q)
    |succ p=>exact .inr ⟨p,by simpa using hp,by rw[show j+1+p=j+(p+1) by omega]; exact q⟩
theorem endC_min {s:SideT} (hs:SOC s) {r:List Int} (hr:r.length=s.1.length) {Q:Nat→Int→Prop} (h:∀p,p<s.1.length→IsMin (getD r p 0) (Q p)):IsMin (endC s r) (fun c=>(c=s.2.2.2.2.1∧c<1152921504606846976)∨∃p d,p<s.1.length∧Q p d∧c=d+getD s.2.2.1 p 0∧c<1152921504606846976):=by
 have hle:=hs.ok.le
 unfold endC
 refine (fold_min (Q:=Q) r s.2.2.1 0 _ _ (by omega) (fun p hp=>by
  have:=h p (by omega)
  rw[getD_lt _ _ _ hp] at this
  rw[Nat.zero_add]
  exact this) (fun y hy=>(hs.ce y hy).1) (IsMin.val hs.cn.2)).congr fun c=>?_
 constructor
 ·rintro (q | ⟨p,hp,d,q1,q2⟩)
  ·exact .inl q
  ·refine .inr ⟨p,d,by omega,by rw[Nat.zero_add] at q1; exact q1,?_⟩
   rw[getD_lt _ _ _ hp]
   exact q2
 ·rintro (q | ⟨p,d,hp,q1,q2⟩)
  ·exact .inl q
  ·refine .inr ⟨p,by omega,d,by rw[Nat.zero_add]; exact q1,?_⟩
   rw[getD_lt _ _ _ (by omega)] at q2
   exact q2
theorem row_min {I:InT} {s:SideT} (hs:SOC s) {O:Nat→Nat→Bool} {x:List Nat} (ho:∀p j (h:j<x.length),p<s.1.length→ofP I s p x[j]=O p j):∀(k:Nat),k≤x.length→∀p,p<s.1.length→IsMin (getD ((x.take k).foldl (fun r a=>stepC I s a r) (replicate s.1.length INF1)) p 0) (fun c=>∃i,i<k∧Run s O i k p c)
 |0,hk,p,hp=>by
  rw[List.take_zero,List.foldl_nil,getD_lt _ _ _ (by simpa using hp),List.getElem_replicate]
  exact IsMin.inf fun c ⟨i,hi,_⟩=>by omega
 |k+1,hk,p,hp=>by
  have hlt:k<x.length:=by omega
  rw[List.take_succ_eq_append_getElem hlt,List.foldl_append]
  exact stepC_min hs (fun q hq=>ho q k hlt hq) (fun q hq=>row_min hs ho k (by omega) q hq) hp
theorem row_len {I:InT} {s:SideT} (hs:SOK s):∀(t:List Nat) (r:List Int),r.length=s.1.length→(t.foldl (fun r a=>stepC I s a r) r).length=s.1.length
 | [],r,h=>h
 |a::t,r,h=>row_len hs t _ (stepC_len hs a r)
theorem out_min {I:InT} {s:SideT} (hs:SOC s) {O:Nat→Nat→Bool} {x:List Nat} (ho:∀p j (h:j<x.length),p<s.1.length→ofP I s p x[j]=O p j) (k:Nat) (hk:k≤x.length):IsMin (endC s ((x.take k).foldl (fun r a=>stepC I s a r) (replicate s.1.length INF1))) (fun c=>∃i,i≤k∧Acc s O i k c):=by
 refine (endC_min hs (row_len hs.ok _ _ (by simp)) (row_min hs ho k hk)).congr fun c=>?_
 constructor
 ·rintro (⟨h1,h2⟩ | ⟨p,d,hp,⟨i,hi,r⟩,q⟩)
  ·exact ⟨k,Nat.le_refl _,.inl ⟨rfl,h1,h2⟩⟩
  ·exact ⟨i,by omega,.inr ⟨p,d,hp,r,q⟩⟩
 ·rintro ⟨i,hi,⟨_,h1,h2⟩ | ⟨p,d,hp,r,q⟩⟩
  ·exact .inl ⟨h1,h2⟩
  ·exact .inr ⟨p,d,hp,⟨i,r.lt,r⟩,q⟩
end Go.Proofs.YtgmmopbpldgpcaaE
set_option linter.unusedSimpArgs false
set_option linter.unusedVariables false
set_option maxRecDepth 20000
namespace Go.Proofs.YtgmmopbpldgpcaaE
def maskO (f:Nat→Bool) (i:Nat) (l:List Int):List Int:=(List.range l.length).map fun p=>if p<i∧f p=false then INF1 else getD l p 0
theorem maskO_len (f:Nat→Bool) (i:Nat) (l:List Int):(maskO f i l).length=l.length:=by simp[maskO]
theorem maskO_0 (f:Nat→Bool) (l:List Int):maskO f 0 l=l:=by
 refine ext_getElem (by simp[maskO]) fun i h1 h2=>?_
 simp only[maskO,getElem_map,getElem_range]
 rw[if_neg (by omega),getD_lt _ _ _ h2]
theorem maskO_no {f:Nat→Bool} {i:Nat} {l:List Int} (h:f i=true):maskO f (i+1) l=maskO f i l:=by
 refine ext_getElem (by simp[maskO]) fun j h1 h2=>?_
 simp only[maskO,getElem_map,getElem_range]
 by_cases e:j=i
 ·subst e; rw[h]; simp
 ·have:j<i+1∧f j=false↔j<i∧f j=false:=by constructor<;>exact fun ⟨q,w⟩=>⟨by omega,w⟩
  simp only[this]
theorem maskO_yes {f:Nat→Bool} {i:Nat} {l:List Int} (hi:i<l.length) (h:f i=false):List.set (maskO f i l) i INF1=maskO f (i+1) l:=by
 refine ext_getElem (by simp[maskO]) fun j h1 h2=>?_
 rw[List.getElem_set]
 simp only[maskO,getElem_map,getElem_range]
 by_cases e:i=j
 ·subst e; rw[if_pos rfl,if_pos ⟨by omega,h⟩]
 ·have:j<i+1∧f j=false↔j<i∧f j=false:=by constructor<;>exact fun ⟨q,w⟩=>⟨by omega,w⟩
  rw[if_neg e]
  simp only[this]
theorem maskO_getD {f:Nat→Bool} {n:Nat} {l:List Int} {p:Nat} (hp:p<l.length) (hn:p<n):getD (maskO f n l) p 0=if f p then getD l p 0 else INF1:=by
 rw[getD_lt _ _ _ (by rw[maskO_len]; exact hp)]
 simp only[maskO,getElem_map,getElem_range]
 by_cases h:f p=true
 ·rw[if_pos h,if_neg (by rw[h]; simp)]
 ·rw[if_neg h,if_pos ⟨hn,by simpa using h⟩]
theorem maskO_cst {f:Nat→Bool} {i:Nat} {l:List Int} (hl:CstL l):CstL (maskO f i l):=fun x hx=>by
 obtain ⟨p,_,e⟩:=List.mem_map.1 hx
 rw[←e]
 split
 ·exact cst_inf
 ·exact cstL_getD hl _
section
variable (k:Nat) (s:SideT) (sets:List RgT) (t:List Int)
theorem F65_ok (hk:10000000≤k) (hg:RgL sets) (hs:∀y∈s.1,y<((sets.length:Nat):Int)) (p j:Nat) (hp:p<s.1.length):F65 k s sets (p:Int) (getD t j 0)=some ((accP sets s t p j,()),()):=by
 have hv:=hs _ (getD_mem (d:=0) hp)
 unfold F65 accP
 rw[if_pos (inR hp),tnI p]
 simp only
 generalize getD s.1 p 0=v at hv ⊢
 by_cases h:v<0
 ·rw[decide_eq_true h,cond_true,Bool.true_or]
 ·have hl:=rgS_len (rgL_at hg v.toNat)
  rw[decide_eq_false h,cond_false,Bool.false_or,if_pos (inR hp),if_pos ⟨by omega,hv⟩,F72_ok k _ _ (by omega) hk,bind_some]
theorem F33_0_ok (hk:10000000≤k) (hg:RgL sets) (hs:∀y∈s.1,y<((sets.length:Nat):Int)) (hln:s.1.length≤100000) (t4:Int) (j:Nat) (hj:j<t.length) (r:List Int) (hr:r.length=s.1.length):∀(d m i:Nat),i+d=s.1.length→d<m →
  F33_0 k m t t4 (j:Int) (i:Int) s (replicate i INF1++replicate d 0) sets (maskO (fun p=>accP sets s t p j) i r)=some ((t,t4,(j:Int),()),(s,replicate s.1.length INF1,sets,maskO (fun p=>accP sets s t p j) s.1.length r,()))
 |0,m,i,hi,hm=>by
  obtain ⟨m,rfl⟩:=pos1 (m:=m) (by omega)
  obtain rfl:i=s.1.length:=by omega
  simp only[F33_0]
  rw[maskO_len,decide_eq_false (by omega),cond_false,List.replicate_zero,append_nil]
 |d+1,m,i,hi,hm=>by
  obtain ⟨m,rfl⟩:=pos1 (m:=m) (by omega)
  have hlt:i<s.1.length:=by omega
  have hset:List.set (replicate i INF1++replicate (d+1) 0) i (1152921504606846976:Int)=replicate (i+1) INF1++replicate d 0:=by
   rw[List.set_append_right _ _ (by simp),List.length_replicate,Nat.sub_self,List.replicate_succ,List.set_cons_zero,List.replicate_succ',append_assoc]
   rfl
  have hin:0≤(i:Int)∧(i:Int)<(((replicate i INF1++replicate (d+1) 0).length:Nat):Int):=by simp; omega
  have ih:=F33_0_ok hk hg hs hln t4 j hj r hr d m (i+1) (by omega) (by omega)
  simp only[F33_0]
  rw[maskO_len,decide_eq_true (by omega),cond_true,if_pos hin,if_pos (inR hj),tnI j,F65_ok k s sets t hk hg hs i j hlt,bind_some,tnI i,hset,wsucc i _ hlt (by omega)]
  simp only
  cases ho:accP sets s t i j with
  |false =>
   rw[Bool.not_false,cond_true,if_pos (by omega),show List.set (maskO (fun p=>accP sets s t p j) i r) i (1152921504606846976:Int)=maskO (fun p=>accP sets s t p j) (i+1) r from maskO_yes (by omega) ho,ih]
   rfl
  |true =>
   rw[Bool.not_true,cond_false,←maskO_no (f:=fun p=>accP sets s t p j) ho,ih]
   rfl
theorem F33_1_ok (hs:SOC s) (t4 t13:Int) (r:List Int) (hr:r.length=s.1.length) (hrc:CstL r):∀(d m i:Nat) (row:List Int),i+d=s.2.2.2.1.length→d<m→row.length=s.1.length→CstL row →
  F33_1 k m t t4 t13 (i:Int) s row sets r=some ((t,t4,t13,()),(s,(s.2.2.2.1.drop i).foldl (arcC r) row,sets,()))
 |0,m,i,row,hi,hm,hrow,hc=>by
  obtain ⟨m,rfl⟩:=pos1 (m:=m) (by omega)
  simp only[F33_1]
  rw[decide_eq_false (by omega),cond_false,drop_eq_nil_of_le (by omega)]
  rfl
 |d+1,m,i,row,hi,hm,hrow,hc=>by
  obtain ⟨m,rfl⟩:=pos1 (m:=m) (by omega)
  have hlt:i<s.2.2.2.1.length:=by omega
  have hla:=hs.ok.la
  have hln:=hs.ok.ln
  obtain ⟨⟨f0,f1⟩,g0,g1⟩:=hs.ok.arcs _ (getElem_mem hlt)
  have hx:=hs.ca _ (getElem_mem hlt)
  have ih:=fun row' hrow' hc'=>F33_1_ok hs t4 t13 r hr hrc d m (i+1) row' (by omega) (by omega) hrow' hc'
  rw[drop_eq_getElem_cons hlt,foldl_cons]
  simp only[F33_1]
  rw[dlt hlt,cond_true,if_pos (inR hlt),tnI i,wsucc i _ hlt (by omega),getD_lt _ _ _ hlt]
  generalize s.2.2.2.1[i]=x at f0 f1 g0 g1 hx ⊢
  obtain ⟨x1,hx1⟩:∃n:Nat,x.1=(n:Int):=⟨x.1.toNat,by omega⟩
  obtain ⟨x2,hx2⟩:∃n:Nat,x.2.1=(n:Int):=⟨x.2.1.toNat,by omega⟩
  have n1:x1<r.length:=by omega
  have n2:x2<row.length:=by omega
  have harc:arcC r row x=List.set row x2 (minI (getD row x2 0) (adI (getD r x1 0) x.2.2.1)):=by
   unfold arcC
   rw[hx1,hx2]
   rfl
  rw[hx1,hx2,if_pos (inR n2),if_pos (inR n1),tnI x1,tnI x2,F34_ad k _ _ (cstL_getD hrc _) hx,bind_some]
  simp only
  rw[if_pos (inR n2),←harc,ih _ (by rw[arcC_len]; exact hrow) (arcC_cst hrc hc hx)]
  rfl
theorem F33_3_ok (hs:SOC s) (r:List Int) (hr:r.length=s.1.length) (hrc:CstL r):∀(d m i:Nat) (c:Int),i+d=s.1.length→d<m →
  F33_3 k m c (i:Int) s r=some ((((zipWith adI r s.2.2.1).drop i).foldl minI c,()),())
 |0,m,i,c,hi,hm=>by
  obtain ⟨m,rfl⟩:=pos1 (m:=m) (by omega)
  have hle:=hs.ok.le
  simp only[F33_3]
  rw[decide_eq_false (by omega),cond_false,drop_eq_nil_of_le (by rw[List.length_zipWith]; omega)]
  rfl
 |d+1,m,i,c,hi,hm=>by
  obtain ⟨m,rfl⟩:=pos1 (m:=m) (by omega)
  have hle:=hs.ok.le
  have hln:=hs.ok.ln
  have hlt:i<s.1.length:=by omega
  have hlt1:i<r.length:=by omega
  have hlt2:i<s.2.2.1.length:=by omega
  simp only[F33_3]
  rw[dlt hlt1,cond_true,if_pos (inR hlt1),if_pos (inR hlt2),tnI i,F34_ad k _ _ (cstL_getD hrc _) (cstL_getD hs.ce _),bind_some]
  simp only
  rw[wsucc i _ hlt (by omega),F33_3_ok hs r hr hrc d m (i+1) _ (by omega) (by omega),zip_drop hlt1 hlt2,getD_lt _ _ _ hlt1,getD_lt _ _ _ hlt2,foldl_cons]
  rfl
end
def Pre (s:SideT) (O:Nat→Nat→Bool) (i j p:Nat) (c:Int):Prop:=(j=i∧c=getD s.2.1 p 0∧c<1152921504606846976)∨∃x∈s.2.2.2.1,x.2.1.toNat=p∧∃d,Run s O i j x.1.toNat d∧c=d+x.2.2.1∧c<1152921504606846976
theorem run_pre {s:SideT} {O:Nat→Nat→Bool} {i j p:Nat} (hp:p<s.1.length) (c:Int):Run s O i (j+1) p c↔O p j=true∧Pre s O i j p c:=by
 constructor
 ·intro r
  cases r with
  |first p hp h o=>exact ⟨o,.inl ⟨rfl,rfl,h⟩⟩
  |next x hx r h o=>exact ⟨o,.inr ⟨x,hx,rfl,_,r,rfl,h⟩⟩
 ·rintro ⟨o,⟨rfl,rfl,h⟩ | ⟨x,hx,rfl,d,r,rfl,h⟩⟩
  ·exact .first p hp h o
  ·exact .next x hx r h o
theorem mask_min {s:SideT} {O:Nat→Nat→Bool} {i j p:Nat} {r:List Int} (hr:r.length=s.1.length) (hp:p<s.1.length) (h:IsMin (getD r p 0) (Pre s O i j p)):IsMin (getD (maskO (fun p=>O p j) s.1.length r) p 0) (Run s O i (j+1) p):=by
 rw[maskO_getD (by omega) hp]
 cases hO:O p j with
 |false =>
  simp only[Bool.false_eq_true,if_false]
  refine IsMin.inf fun c r=>?_
  have:=(run_pre hp c).1 r
  rw[hO] at this
  cases this.1
 |true =>
  simp only[if_true]
  exact h.congr fun c=>⟨fun q=>(run_pre hp c).2 ⟨hO,q⟩,fun q=>((run_pre hp c).1 q).2⟩
theorem F33_2_ok (k:Nat) (hk:10000000≤k) (s:SideT) (sets:List RgT) (t:List Int) (hs:SOC s) (hg:RgL sets) (hse:∀y∈s.1,y<((sets.length:Nat):Int)) (ht:t.length≤1000000) (i e:Nat) (he:e≤t.length):∀(d m j:Nat) (r:List Int),j+d+1=e→i≤j→d<m→r.length=s.1.length→CstL r→(∀p,p<s.1.length→IsMin (getD r p 0) (Pre s (accP sets s t) i j p)) →
  ∃r',F33_2 k m t (e:Int) (j:Int) s sets r=some ((),(s,r',()))∧r'.length=s.1.length∧CstL r'∧∀p,p<s.1.length→IsMin (getD r' p 0) (Run s (accP sets s t) i e p)
 |d,0,j,r,hj,hij,hm,hr,hc,hP=>by omega
 |d,m+1,j,r,hj,hij,hm,hr,hc,hP=>by
  have hln:=hs.ok.ln
  have hla:=hs.ok.la
  have hjt:j<t.length:=by omega
  have e0:=F33_0_ok k s sets t hk hg hse hln (e:Int) j hjt r hr s.1.length k 0 (Nat.zero_add _) (by omega)
  rw[show ((0:Nat):Int)=0 from rfl,List.replicate_zero,nil_append,maskO_0] at e0
  have hM:∀p,p<s.1.length→IsMin (getD (maskO (fun p=>accP sets s t p j) s.1.length r) p 0) (Run s (accP sets s t) i (j+1) p):=fun p hp=>mask_min hr hp (hP p hp)
  have hMl:=maskO_len (fun p=>accP sets s t p j) s.1.length r
  have hMc:=maskO_cst (f:=fun p=>accP sets s t p j) (i:=s.1.length) hc
  simp only[F33_2]
  rw[decide_eq_true (show (j:Int)<(e:Int) by omega),cond_true,if_pos (by omega),tnI,hr,e0,bind_some]
  simp only
  rw[w64 ((e:Int)-1) (by omega) (by omega)]
  cases d with
  |zero =>
   refine ⟨maskO (fun p=>accP sets s t p j) s.1.length r,?_,by omega,hMc,?_⟩
   ·rw[show ((j:Int)==(e:Int)-1)=true from beq_iff_eq.2 (by omega),cond_true]
   ·rw[show e=j+1 by omega]
    exact hM
  |succ d =>
   have e1:=F33_1_ok k s sets t hs (e:Int) (j:Int) (maskO (fun p=>accP sets s t p j) s.1.length r) (by omega) hMc s.2.2.2.1.length k 0 (replicate s.1.length INF1) (Nat.zero_add _) (by omega) (by simp) (fun x hx=>by rw[List.eq_of_mem_replicate hx]; exact cst_inf)
   rw[show ((0:Nat):Int)=0 from rfl,drop_zero] at e1
   obtain ⟨r',e2,h1,h2,h3⟩:=F33_2_ok k hk s sets t hs hg hse ht i e he d m (j+1) (s.2.2.2.1.foldl (arcC (maskO (fun p=>accP sets s t p j) s.1.length r)) (replicate s.1.length INF1)) (by omega) (by omega) (by omega) (by rw[arcsC_len]; simp) (arcsC_cst hMc _ _ (fun x hx=>by rw[List.eq_of_mem_replicate hx]; exact cst_inf) hs.ca) (fun p hp=>by
    refine (arcs_min (Q:=Run s (accP sets s t) i (j+1)) s.2.2.2.1 (replicate s.1.length INF1) (fun _=>False) (by simpa using hp) (fun x hx=>⟨hM _ (by have:=hs.ok.arcs x hx; omega),(hs.ca x hx).1⟩) (by
     rw[getD_lt _ _ _ (by simpa using hp),List.getElem_replicate]
     exact IsMin.inf fun _=>id)).congr fun c=>?_
    constructor
    ·rintro (q | q)
     ·exact q.elim
     ·exact .inr q
    ·rintro (⟨q,_⟩ | q)
     ·omega
     ·exact .inr q)
   refine ⟨r',?_,h1,h2,h3⟩
   rw[show ((j:Int)==(e:Int)-1)=false from beq_false_of_ne (by omega),cond_false,e1,bind_some]
   simp only
   rw[wsucc j e (by omega) (by omega),e2]
   rfl
theorem F33_ok (k:Nat) (hk:10000000≤k) (s:SideT) (fl:FileT) (sets:List RgT) (t:List Int) (hs:SOC s) (hg:RgL sets) (hse:∀y∈s.1,y<((sets.length:Nat):Int)) (ht:t.length≤1000000) (hF:F37 k fl=some ((sets,()),())) (i e:Nat) (hie:i≤e) (he:e≤t.length):∃V,F33 k s fl t (i:Int) (e:Int)=some ((V,()),())∧IsMin V (Acc s (accP sets s t) i e):=by
 have hln:=hs.ok.ln
 have hlf:=hs.ok.lf
 unfold F33
 by_cases h:i=e
 ·subst h
  refine ⟨s.2.2.2.2.1,by rw[beq_self_eq_true,cond_true],?_⟩
  refine (IsMin.val hs.cn.2).congr fun c=>⟨fun ⟨q1,q2⟩=>.inl ⟨rfl,q1,q2⟩,?_⟩
  rintro (⟨_,q1,q2⟩ | ⟨p,d,_,r,_⟩)
  ·exact ⟨q1,q2⟩
  ·have:=r.lt
   omega
 ·obtain ⟨r',e2,h1,h2,h3⟩:=F33_2_ok k hk s sets t hs hg hse ht i e he (e-i-1) k i s.2.1 (by omega) (Nat.le_refl _) (by omega) hlf hs.cf (fun p hp=>by
   refine (IsMin.val (cstL_getD hs.cf p).2).congr fun c=>⟨fun ⟨q1,q2⟩=>.inl ⟨rfl,q1,q2⟩,?_⟩
   rintro (⟨_,q1,q2⟩ | ⟨x,_,_,d,r,_⟩)
   ·exact ⟨q1,q2⟩
   ·have:=r.lt
    omega)
  have e3:=F33_3_ok k s hs r' h1 h2 s.1.length k 0 1152921504606846976 (Nat.zero_add _) (by omega)
  rw[show ((0:Nat):Int)=0 from rfl,drop_zero] at e3
  refine ⟨(zipWith adI r' s.2.2.1).foldl minI 1152921504606846976,?_,?_⟩
  ·rw[beq_false_of_ne (show ¬(i:Int)=(e:Int) by omega),cond_false,hF,bind_some,List.replicate_zero,if_pos (by rw[List.length_nil]; omega),nil_append]
   simp only
   rw[e2,bind_some]
   simp only
   rw[e3,bind_some]
  ·have hle:=hs.ok.le
   refine (fold_min (Q:=Run s (accP sets s t) i e) r' s.2.2.1 0 _ (fun _=>False) (by omega) (fun p hp=>by
    have:=h3 p (by omega)
    rw[getD_lt _ _ _ hp] at this
    rw[Nat.zero_add]
    exact this) (fun y hy=>(hs.ce y hy).1) (IsMin.inf fun _=>id)).congr fun c=>?_
   constructor
   ·rintro (q | ⟨p,hp,d,q1,q2⟩)
    ·exact q.elim
    ·refine .inr ⟨p,d,by omega,by rw[Nat.zero_add] at q1; exact q1,?_⟩
     rw[getD_lt _ _ _ hp]
     exact q2
   ·rintro (⟨q,_⟩ | ⟨p,d,hp,q1,q2⟩)
    ·exact absurd q h
    ·refine .inr ⟨p,by omega,d,by rw[Nat.zero_add]; exact q1,?_⟩
     rw[getD_lt _ _ _ (by omega)] at q2
     exact q2
end Go.Proofs.YtgmmopbpldgpcaaE

