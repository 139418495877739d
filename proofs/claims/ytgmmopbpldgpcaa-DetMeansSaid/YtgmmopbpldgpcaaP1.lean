/- Plain laws. Conditions: none. -/
import Derived.Test.YtgmmopbpldgpcaaP0
set_option linter.unusedSimpArgs false
set_option linter.unusedVariables false
set_option maxRecDepth 20000
open List (any_eq_true append_assoc append_nil drop_eq_getElem_cons drop_eq_nil_of_le drop_length drop_zero ext_getElem flatMap_cons flatten_cons foldl_cons getD getD_eq_getElem?_getD getElem?_append_left getElem?_eq_getElem getElem?_map getElem_append_left getElem_map getElem_mem getElem_range length length_append length_cons length_map length_range length_replicate length_set length_singleton map_append map_cons map_nil map_take mem_cons_of_mem mem_cons_self nil_append range' replicate take_append_drop take_of_length_le take_succ_eq_append_getElem take_zero zipWith)
open Option (bind_some getD_some isSome_some)
open Nat (zero_le)
open Int (tdiv tmod)
namespace Go.Proofs.YtgmmopbpldgpcaaE
theorem HV (k:Nat) (I:InT) (N:Nat) (ss:List ag) (a:Nat) (L:cm) (hk:10000000≤k) (hs:∀s∈ss,SOK s) (hI:∀s∈ss,lK I N s) (ha:a<N) (hL:Shp ss L) (hn:ss.length≤1000000):∀(d m i:Nat) (D:cm),i+d=ss.length→d<m→D.length=i →
  tw k m ss I L (a:Int) (i:Int) D=some ((),(D++bd I (ss.drop i) (L.drop i) a,()))
 |0,m,i,D,hi,hm,hD=>by
  obtain ⟨m,rfl⟩:=aq (m:=m) (by omega)
  simp only[tw]
  rw[decide_eq_false (by omega),cond_false,drop_eq_nil_of_le (by omega:ss.length≤i)]
  simp[bd]
 |d+1,m,i,D,hi,hm,hD=>by
  obtain ⟨m,rfl⟩:=aq (m:=m) (by omega)
  have hlt:i<ss.length:=by omega
  have hlL:L.length=ss.length:=by have:=congrArg length hL; simpa using this
  have hlt2:i<L.length:=by omega
  have hso:=hs _ (getElem_mem hlt)
  have hio:=hI _ (getElem_mem hlt)
  have hrl:L[i].length=ss[i].1.length:=by
   have:=congrArg (fun l=>l[i]?) hL
   simpa[getElem?_map,hlt,hlt2] using this
  have hln:=hso.ln
  have hla:=hso.la
  have e0:=HT k I N ss[i] a ss L (i:Int) D hso hio ha ss[i].1.length k 0 (Nat.zero_add _) (by omega)
  have e1:=HU k I N ss[i] a ss L D hso hio ha i hlt2 hrl ss[i].2.2.2.1.length k 0 ((List.range ss[i].1.length).map (gK I ss[i] a)) (Nat.zero_add _) (by omega) (by simp)
  rw[a7m,show ((0:Nat):Int)=0 from rfl] at e0
  rw[show ((0:Nat):Int)=0 from rfl,drop_zero] at e1
  have ih:=HV k I N ss a L hk hs hI ha hL hn d m (i+1) (D++[gz I ss[i] a L[i]]) (by omega) (by omega) (by simp[hD])
  have hst:bd I (ss.drop i) (L.drop i) a=gz I ss[i] a L[i]::bd I (ss.drop (i+1)) (L.drop (i+1)) a:=by
   rw[show ss.drop i=ss[i]::ss.drop (i+1) from drop_eq_getElem_cons hlt,show L.drop i=L[i]::L.drop (i+1) from drop_eq_getElem_cons hlt2]
   rfl
  simp only[tw]
  rw[dlt hlt,cond_true,if_pos (inR hlt),tnI i,ak _ _ _ hlt,if_pos (by omega),show Int.toNat ((length ss[i].1:Nat):Int)=ss[i].1.length from rfl,e0,bind_some]
  simp only
  rw[e1,bind_some]
  simp only
  rw[show (ss[i].2.2.2.1).foldl (kA I ss[i] a L[i]) ((List.range ss[i].1.length).map (gK I ss[i] a))=gz I ss[i] a L[i] from rfl,if_pos (by rw[length_singleton]; omega),aM i _ hlt (by omega),ih,hst,append_assoc]
  rfl
theorem a9m (k:Nat) (I:InT) (N:Nat) (ss:List ag) (a:Nat) (L:cm) (hk:10000000≤k) (hs:∀s∈ss,SOK s) (hI:∀s∈ss,lK I N s) (ha:a<N) (hL:Shp ss L) (hn:ss.length≤1000000):F44 k ss I L (a:Int)=some ((bd I ss L a,()),()):=by
 have e:=HV k I N ss a L hk hs hI ha hL hn ss.length k 0 [] (Nat.zero_add _) (by omega) rfl
 rw[show ((0:Nat):Int)=0 from rfl,drop_zero,drop_zero,nil_append] at e
 unfold F44
 rw[e,bind_some]
def nK (s:ag) (r:List Bool) (p:Nat):Bool:=getD r p false&&decide (getD s.2.1 p 0<bw)
def nL (s:ag) (r:List Bool):Bool:=decide (s.2.2.2.2.1<bw)||(List.range s.1.length).any (nK s r)
def bo (ss:List ag) (L:cm):List Bool:=zipWith nL ss L
theorem lj {ss:List ag} {L:cm} (h:Shp ss L):(bo ss L).length=ss.length:=by
 have hlL:L.length=ss.length:=by have:=congrArg length h; simpa using this
 simp[bo,hlL]
theorem BX (f:Nat→Bool) {n i:Nat} (h:i<n):((List.range n).drop i).any f=(f i||((List.range n).drop (i+1)).any f):=by
 rw[drop_eq_getElem_cons (by simpa using h),List.any_cons,getElem_range]
theorem HW (k:Nat) (ss:List ag) (L:cm) (j:Nat) (hj:j<ss.length) (hj2:j<L.length) (hs:SOK ss[j]) (hr:L[j].length=ss[j].1.length) (acc:List Bool):∀(d m i:Nat) (is:Bool),i+d=ss[j].1.length→d<m →
  lc k m ss L (j:Int) is (i:Int) acc=some ((ss,L,(j:Int),is||((List.range ss[j].1.length).drop i).any (nK ss[j] L[j]),()),(acc,()))
 |0,m,i,is,hi,hm=>by
  obtain ⟨m,rfl⟩:=aq (m:=m) (by omega)
  simp only[lc]
  rw[if_pos (inR hj2),tnI j,ak _ _ _ hj2,decide_eq_false (by omega),cond_false,drop_eq_nil_of_le (by simp; omega)]
  simp
 |d+1,m,i,is,hi,hm=>by
  obtain ⟨m,rfl⟩:=aq (m:=m) (by omega)
  have hf:=hs.lf
  have hln:=hs.ln
  have hlt:i<ss[j].1.length:=by omega
  have hlt0:i<L[j].length:=by omega
  have hlt2:i<ss[j].2.1.length:=by omega
  have ih:=fun is=>HW k ss L j hj hj2 hs hr acc d m (i+1) is (by omega) (by omega)
  rw[BX _ hlt]
  simp only[lc]
  rw[if_pos (inR hj2),tnI j,ak _ _ _ hj2,dlt hlt0,cond_true,aM i _ hlt (by omega)]
  cases is with
  |true =>
   rw[cond_true,ih true]
   simp
  |false =>
   rw[cond_false,if_pos (inR hj2),if_pos (inR hlt0),tnI i]
   cases h2:getD L[j] i false with
   |false =>
    have:nK ss[j] L[j] i=false:=by unfold nK; rw[h2,Bool.false_and]
    rw[cond_false,ih false,this,Bool.false_or,Bool.false_or]
    rfl
   |true =>
    have:nK ss[j] L[j] i=decide (getD ss[j].2.1 i 0<bw):=by unfold nK; rw[h2,Bool.true_and]
    rw[cond_true,if_pos (inR hj),ak _ _ _ hj,if_pos (inR hlt2),ih,this,Bool.false_or]
    rfl
theorem HX (k:Nat) (ss:List ag) (L:cm) (hk:10000000≤k) (hs:∀s∈ss,SOK s) (hL:Shp ss L) (hn:ss.length≤1000000):∀(d m i:Nat) (D:List Bool),i+d=ss.length→d<m→D.length=i →
  tA k m ss L (i:Int) D=some ((),(D++bo (ss.drop i) (L.drop i),()))
 |0,m,i,D,hi,hm,hD=>by
  obtain ⟨m,rfl⟩:=aq (m:=m) (by omega)
  simp only[tA]
  rw[decide_eq_false (by omega),cond_false,drop_eq_nil_of_le (by omega:ss.length≤i)]
  simp[bo]
 |d+1,m,i,D,hi,hm,hD=>by
  obtain ⟨m,rfl⟩:=aq (m:=m) (by omega)
  have hlt:i<ss.length:=by omega
  have hlL:L.length=ss.length:=by have:=congrArg length hL; simpa using this
  have hlt2:i<L.length:=by omega
  have hso:=hs _ (getElem_mem hlt)
  have hrl:L[i].length=ss[i].1.length:=by
   have:=congrArg (fun l=>l[i]?) hL
   simpa[getElem?_map,hlt,hlt2] using this
  have hln:=hso.ln
  have e0:=HW k ss L i hlt hlt2 hso hrl D ss[i].1.length k 0 (decide (ss[i].2.2.2.2.1<bw)) (Nat.zero_add _) (by omega)
  rw[show ((0:Nat):Int)=0 from rfl,drop_zero] at e0
  have ih:=HX k ss L hk hs hL hn d m (i+1) (D++[nL ss[i] L[i]]) (by omega) (by omega) (by simp[hD])
  have hst:bo (ss.drop i) (L.drop i)=nL ss[i] L[i]::bo (ss.drop (i+1)) (L.drop (i+1)):=by
   rw[show ss.drop i=ss[i]::ss.drop (i+1) from drop_eq_getElem_cons hlt,show L.drop i=L[i]::L.drop (i+1) from drop_eq_getElem_cons hlt2]
   rfl
  simp only[tA]
  rw[dlt hlt,cond_true,if_pos (inR hlt),tnI i,ak _ _ _ hlt,e0,bind_some]
  simp only
  rw[show List.set (replicate 1 false) 0 (decide (ss[i].2.2.2.2.1<bw)||(List.range ss[i].1.length).any (nK ss[i] L[i]))=[nL ss[i] L[i]] from rfl,if_pos (by rw[length_singleton]; omega),aM i _ hlt (by omega),ih,hst,append_assoc]
  rfl
theorem a0n (k:Nat) (ss:List ag) (L:cm) (hk:10000000≤k) (hs:∀s∈ss,SOK s) (hL:Shp ss L) (hn:ss.length≤1000000):F46 k ss L=some ((bo ss L,()),()):=by
 have e:=HX k ss L hk hs hL hn ss.length k 0 [] (Nat.zero_add _) (by omega) rfl
 rw[show ((0:Nat):Int)=0 from rfl,drop_zero,drop_zero,nil_append] at e
 unfold F46
 rw[e,bind_some]
def ix {α:Type} [DecidableEq α] (l:List α) (x:α):Nat:=l.idxOf x
def rB {α:Type} [DecidableEq α] (l:List α) (x:α):Bool:=decide (x∈l)
theorem a1n {α:Type} [DecidableEq α] {l:List α} {x:α} (h:x∈l):rB l x=true:=decide_eq_true h
theorem a2n {α:Type} [DecidableEq α] {l:List α} {x:α} (h:x∉l):rB l x=false:=decide_eq_false h
theorem BY {α:Type} [DecidableEq α] (y x:α) (l:List α):ix (y::l) x=if y=x then 0 else ix l x+1:=by
 unfold ix
 rw[List.idxOf_cons]
 by_cases e:y=x
 ·rw[if_pos e,show (y==x)=true by simpa using e,cond_true]
 ·rw[if_neg e,show (y==x)=false by simpa using e,cond_false]
theorem ll {α:Type} [DecidableEq α] {l:List α} {x:α} (h:x∉l):ix l x=l.length:=List.idxOf_eq_length h
theorem lm {α:Type} [DecidableEq α] {l:List α} {x:α} (h:x∈l):ix l x<l.length:=List.idxOf_lt_length_iff.2 h
theorem HY {α:Type} [DecidableEq α] {l:List α} {x:α} (h:x∈l):l[ix l x]'(lm h)=x:=List.getElem_idxOf _
def bH {α:Type} [DecidableEq α] (l:List α) (x:α):List α:=if x∈l then l else l++[x]
theorem mo {α:Type} [DecidableEq α] {l:List α} {x:α} (h:x∈l):bH l x=l:=if_pos h
theorem mr {α:Type} [DecidableEq α] {l:List α} {x:α} (h:x∉l):bH l x=l++[x]:=if_neg h
theorem jX {α:Type} [DecidableEq α] (l:List α) (x:α):l.length≤(bH l x).length∧(bH l x).length≤l.length+1:=by
 unfold bH
 split
 ·omega
 ·simp
theorem QU {α β:Type} [DecidableEq α] [DecidableEq β] (f:α→β):∀(l:List α) (x:α),(∀y∈l,f y=f x→y=x)→ix (l.map f) (f x)=ix l x
 | [],_,_=>rfl
 |y::l,x,h=>by
  rw[map_cons,BY,BY]
  by_cases e:y=x
  ·rw[if_pos e,if_pos (by rw[e])]
  ·have:f y≠f x:=fun q=>e (h y mem_cons_self q)
   rw[if_neg e,if_neg this,QU f l x fun z hz=>h z (mem_cons_of_mem _ hz)]
def eQ:Nat→List ByteArray→List (ByteArray×Int)
 |_,[]=>[]
 |i,k::ks=>(k,(i:Int))::eQ (i+1) ks
theorem vB (key:ByteArray):∀(ks:List ByteArray) (i:Nat),fV (eQ i ks) key=if rB ks key=true then some (ix ks key,((i+ix ks key:Nat):Int)) else none
 | [],i=>rfl
 |k::ks,i=>by
  rw[eQ,fV,vB key ks (i+1),BY]
  by_cases e:k=key
  ·subst e
   rw[if_pos rfl,if_pos rfl,if_pos (by simp[rB])]
   rfl
  ·rw[if_neg (fun q=>e q.symm),if_neg e]
   have h1:rB (k::ks) key=rB ks key:=by
    unfold rB
    refine decide_eq_decide.2 ⟨fun q=>?_,mem_cons_of_mem _⟩
    rcases List.mem_cons.1 q with q | q
    ·exact absurd q.symm e
    ·exact q
   rw[h1]
   cases h:rB ks key with
   |false=>rfl
   |true =>
    simp only[if_true,Option.map_some]
    rw[show i+1+ix ks key=i+(ix ks key+1) by omega]
theorem HZ (key:ByteArray):∀(ks:List ByteArray) (i:Nat),key∉ks→kl (eQ i ks) key ((i+ks.length:Nat):Int)=eQ i (ks++[key])
 | [],i,_=>by simp[eQ,kl]
 |k::ks,i,h=>by
  have e:key≠k:=fun q=>h (by rw[q]; exact mem_cons_self)
  rw[eQ,kl,if_neg e,List.cons_append,eQ,length_cons,show i+(ks.length+1)=i+1+ks.length by omega,HZ key ks (i+1) fun q=>h (mem_cons_of_mem _ q)]
theorem T7 {ks:List ByteArray} {key:ByteArray} (h:key∈ks):fu (eQ 0 ks) key=(((ix ks key:Nat):Int),true):=by
 unfold fu
 rw[vB,if_pos (a1n h),Nat.zero_add]
theorem Wx {ks:List ByteArray} {key:ByteArray} (h:key∉ks):fu (eQ 0 ks) key=(0,false):=by
 unfold fu
 rw[vB,if_neg (by rw[a2n h]; simp)]
section
variable {σ:Type} [DecidableEq σ]
def bU (step:σ→Nat→σ) (s:σ):List Nat→List σ→List σ×List Int
 | [],l=>(l,[])
 |a::al,l=>((bU step s al (bH l (step s a))).1,((ix l (step s a):Nat):Int)::(bU step s al (bH l (step s a))).2)
theorem mt (step:σ→Nat→σ) (s:σ) (a:Nat) (al:List Nat) (l:List σ):(bU step s (a::al) l).1=(bU step s al (bH l (step s a))).1:=(rfl).trans rfl
theorem Af (step:σ→Nat→σ) (s:σ) (a:Nat) (al:List Nat) (l:List σ):(bU step s (a::al) l).2=((ix l (step s a):Nat):Int)::(bU step s al (bH l (step s a))).2:=(rfl).trans rfl
theorem iU (step:σ→Nat→σ) (s:σ):∀(al:List Nat) (l:List σ),l.length≤(bU step s al l).1.length∧(bU step s al l).1.length≤l.length+al.length
 | [],l=>by simp[bU]
 |a::al,l=>by
  have h1:=jX l (step s a)
  have h2:=iU step s al (bH l (step s a))
  simp only[bU,length_cons]
  omega
theorem kB (l:List σ) (x:σ):∃t,bH l x=l++t:=by
 unfold bH
 split
 ·exact ⟨[],(append_nil _).symm⟩
 ·exact ⟨[x],rfl⟩
theorem iV (step:σ→Nat→σ) (s:σ):∀(al:List Nat) (l:List σ),∃t,(bU step s al l).1=l++t
 | [],l=>⟨[],(append_nil _).symm⟩
 |a::al,l=>by
  obtain ⟨t1,e1⟩:=kB l (step s a)
  obtain ⟨t2,e2⟩:=iV step s al (bH l (step s a))
  refine ⟨t1++t2,?_⟩
  simp only[bU]
  rw[e2,e1,append_assoc]
theorem nM (step:σ→Nat→σ) (s:σ):∀(al:List Nat) (l:List σ),(bU step s al l).2.length=al.length
 | [],l=>rfl
 |a::al,l=>by simp only[bU,length_cons]; rw[nM step s al]
variable (step:σ→Nat→σ) (hold:σ→List Bool) (d0:σ)
def mkA (B:Int) (N:Nat):Nat→Nat→List σ→List (List Int)→List Int→List (List Bool)→Option (List σ×List (List Int)×List Int×List (List Bool))
 |0,_,_,_,_,_=>none
 |f+1,i,l,nx,ou,se=>if i<l.length then (if (l.length:Int)>B then none else
   mkA B N f (i+1) (bU step (l.getD i d0) (List.range N) l).1 (nx++[(bU step (l.getD i d0) (List.range N) l).2]) (ou++[((ix se (hold (l.getD i d0)):Nat):Int)]) (bH se (hold (l.getD i d0)))) else some (l,nx,ou,se)
end
abbrev nN:=((List (List Int))×((List Int)×Unit))
theorem a3n (k:Nat) (l:List Int) (h:l.length≤100000000):F54 k l=some ((l,()),()):=by
 unfold F54
 cases l with
 |nil=>rfl
 |cons x l =>
  rw[nz (by simp),cond_false,if_pos (by simp at h ⊢; omega)]
  rfl
theorem a4n (k:Nat) (l:List (List Int)) (h:l.length≤100000000):F56 k l=some ((l,()),()):=by
 unfold F56
 cases l with
 |nil=>rfl
 |cons x l =>
  rw[nz (by simp),cond_false,if_pos (by simp at h ⊢; omega)]
  rfl
abbrev VA:((Int×Unit)×(nN×Unit)):=(((4:Int),()),((([]:(List (List Int))),(([]:(List Int)),())),()))
theorem H0 {ss:List ag} {l:List cm} {x:cm} (h:∀y∈l,Shp ss y) (hx:Shp ss x):∀y∈bH l x,Shp ss y:=by
 unfold bH
 split
 ·exact h
 ·exact fc h hx
theorem nO {α:Type} {l l' t:List α} {i:Nat} {d:α} (e:l'=l++t) (h:i<l.length):getD l' i d=getD l i d:=by
 rw[e,getD_eq_getElem?_getD,getD_eq_getElem?_getD,getElem?_append_left h]
theorem H1 {ss:List ag} {I:InT} {s:cm} (hs:Shp ss s):∀(al:List Nat) (l:List cm),(∀y∈l,Shp ss y)→∀y∈(bU (bd I ss) s al l).1,Shp ss y
 | [],l,h=>h
 |a::al,l,h=>by
  simp only[bU]
  exact H1 hs al _ (H0 h (jq hs))
theorem JV {σ:Type} [DecidableEq σ] {step:σ→Nat→σ} {hold:σ→List Bool} {d0:σ} {B:Int} {N:Nat}:∀(f i:Nat) (l:List σ) (nx:List (List Int)) (ou:List Int) (se:List (List Bool)) {q:List σ×List (List Int)×List Int×List (List Bool)},mkA step hold d0 B N f i l nx ou se=some q→q.2.1.length≤nx.length+f∧q.2.2.1.length≤ou.length+f∧q.2.2.2.length≤se.length+f
 |0,i,l,nx,ou,se,q,h=>by cases h
 |f+1,i,l,nx,ou,se,q,h=>by
  simp only[mkA] at h
  split at h
  ·split at h
   ·cases h
   ·have:=JV f _ _ _ _ _ h
    have h2:=jX se (hold (l.getD i d0))
    simp only[length_append,length_singleton] at this
    omega
  ·injection h with h
   subst h
   simp only
   omega
def bP (ss:List ag):cm:=ss.map fun s=>replicate s.1.length false
theorem rC (ss:List ag):Shp ss (bP ss):=by simp[Shp,bP]
section
variable (k:Nat) (ss:List ag) (I:InT) (N:Nat) (B:Int)
def Me:Option (List cm×List (List Int)×List Int×List (List Bool))→(nN×(List (List Bool))×Int×Unit)
 |none=>((([]:(List (List Int))),(([]:(List Int)),())),[],(4:Int),())
 |some q=>((q.2.1,(q.2.2.1,())),q.2.2.2,(0:Int),())
end
theorem iy {α:Type} {l m:List α} {i:Nat} (hi:i<l.length) (hm:i<m.length) (h:l[i]=m[i]):l.drop i=m.drop i↔l.drop (i+1)=m.drop (i+1):=by
 rw[drop_eq_getElem_cons hi,drop_eq_getElem_cons hm,h]
 constructor
 ·intro e; injection e
 ·intro e; rw[e]
theorem H2 (k:Nat) (a b:List Bool) (hl:a.length=b.length) (hn:a.length≤1000000000):∀(d m i:Nat),i+d=a.length→d<m→tx k m a b (i:Int)=if a.drop i=b.drop i then some (.inl ((),())) else some (.inr ((false,()),()))
 |0,m,i,hi,hm=>by
  obtain ⟨m,rfl⟩:=aq (m:=m) (by omega)
  rw[if_pos (by rw[drop_eq_nil_of_le (by omega),drop_eq_nil_of_le (by omega)])]
  simp only[tx]
  rw[decide_eq_false (by omega),cond_false]
 |d+1,m,i,hi,hm=>by
  obtain ⟨m,rfl⟩:=aq (m:=m) (by omega)
  have hlt:i<a.length:=by omega
  have hlt2:i<b.length:=by omega
  have ih:=H2 k a b hl hn d m (i+1) (by omega) (by omega)
  simp only[tx]
  rw[dlt hlt,cond_true,if_pos (inR hlt),if_pos (inR hlt2),tnI i,ak _ _ _ hlt,ak _ _ _ hlt2,aM i _ hlt (by omega)]
  by_cases h:a[i]=b[i]
  ·rw[show (!(a[i]==b[i]))=false by simpa using h,cond_false,ih]
   by_cases h2:a.drop (i+1)=b.drop (i+1)
   ·rw[if_pos h2,if_pos ((iy hlt hlt2 h).2 h2)]
    rfl
   ·rw[if_neg h2,if_neg fun e=>h2 ((iy hlt hlt2 h).1 e)]
    rfl
  ·rw[show (!(a[i]==b[i]))=true by simpa using h,cond_true,if_neg fun e=>h ?_]
   rw[drop_eq_getElem_cons hlt,drop_eq_getElem_cons hlt2] at e
   injection e
theorem QV (k:Nat) (a b:List Bool) (hk:10000000≤k) (hn:a.length≤5000000):F47 k a b=some ((decide (a=b),()),()):=by
 unfold F47
 by_cases hl:a.length=b.length
 ·have e:=H2 k a b hl (by omega) a.length k 0 (Nat.zero_add _) (by omega)
  rw[show ((0:Nat):Int)=0 from rfl,drop_zero,drop_zero] at e
  rw[show ((((length a:Nat):Int) != ((length b:Nat):Int)))=false by rw[hl]; simp,cond_false,e]
  by_cases h:a=b
  ·rw[if_pos h,decide_eq_true h]; rfl
  ·rw[if_neg h,decide_eq_false h]; rfl
 ·rw[show ((((length a:Nat):Int) != ((length b:Nat):Int)))=true from bne_iff_ne.2 (by omega),cond_true,decide_eq_false fun e=>hl (by rw[e])]
theorem H3 (k:Nat) (a b:cm) (hk:10000000≤k) (hl:a.length=b.length) (hn:a.length≤1000000) (hr:∀r∈a,r.length≤5000000):∀(d m i:Nat),i+d=a.length→d<m→tz k m a b (i:Int)=if a.drop i=b.drop i then some (.inl ((),())) else some (.inr ((false,()),()))
 |0,m,i,hi,hm=>by
  obtain ⟨m,rfl⟩:=aq (m:=m) (by omega)
  rw[if_pos (by rw[drop_eq_nil_of_le (by omega),drop_eq_nil_of_le (by omega)])]
  simp only[tz]
  rw[decide_eq_false (by omega),cond_false]
 |d+1,m,i,hi,hm=>by
  obtain ⟨m,rfl⟩:=aq (m:=m) (by omega)
  have hlt:i<a.length:=by omega
  have hlt2:i<b.length:=by omega
  have ih:=H3 k a b hk hl hn hr d m (i+1) (by omega) (by omega)
  simp only[tz]
  rw[dlt hlt,cond_true,if_pos (inR hlt),if_pos (inR hlt2),tnI i,ak _ _ _ hlt,ak _ _ _ hlt2,QV k _ _ hk (hr _ (getElem_mem hlt)),bind_some,aM i _ hlt (by omega)]
  simp only
  by_cases h:a[i]=b[i]
  ·rw[decide_eq_true h,Bool.not_true,cond_false,ih]
   by_cases h2:a.drop (i+1)=b.drop (i+1)
   ·rw[if_pos h2,if_pos ((iy hlt hlt2 h).2 h2)]
    rfl
   ·rw[if_neg h2,if_neg fun e=>h2 ((iy hlt hlt2 h).1 e)]
    rfl
  ·rw[decide_eq_false h,Bool.not_false,cond_true,if_neg fun e=>h ?_]
   rw[drop_eq_getElem_cons hlt,drop_eq_getElem_cons hlt2] at e
   injection e
theorem Wy {ss:List ag} {L:cm} (h:Shp ss L) (hs:∀s∈ss,s.1.length≤100000):∀r∈L,r.length≤5000000:=fun r hr=>by
 have:r.length∈L.map length:=List.mem_map.2 ⟨r,hr,rfl⟩
 rw[h] at this
 obtain ⟨s,hs',e⟩:=List.mem_map.1 this
 have:=hs s hs'
 omega
theorem mu {ss:List ag} {L:cm} (h:Shp ss L):L.length=ss.length:=by have:=congrArg length h; simpa using this
theorem a5n (k:Nat) (ss:List ag) (a b:cm) (hk:10000000≤k) (hs:∀s∈ss,SOK s) (hn:ss.length≤1000000) (ha:Shp ss a) (hb:Shp ss b):F45 k a b=some ((decide (a=b),()),()):=by
 have la:=mu ha
 have lb:=mu hb
 have e:=H3 k a b hk (by omega) (by omega) (Wy ha fun s h=>(hs s h).ln) a.length k 0 (Nat.zero_add _) (by omega)
 rw[show ((0:Nat):Int)=0 from rfl,drop_zero,drop_zero] at e
 unfold F45
 rw[e]
 by_cases h:a=b
 ·rw[if_pos h,decide_eq_true h]; rfl
 ·rw[if_neg h,decide_eq_false h]; rfl
theorem vC {α:Type} [DecidableEq α] {l:List α} {x:α} {i:Nat} (hi:i<l.length) (h:l[i]=x) (hn:x∉l.take i):ix l x=i:=by
 have e:l=l.take i++(x::l.drop (i+1)):=by rw[←h,←drop_eq_getElem_cons hi,take_append_drop]
 unfold ix
 rw[e,List.idxOf_append,if_neg hn,List.idxOf_cons]
 simp
 omega
theorem nP {α:Type} {l:List α} {x:α} {i:Nat} (hi:i<l.length) (h:l[i]≠x) (hn:x∉l.take i):x∉l.take (i+1):=by
 rw[take_succ_eq_append_getElem hi]
 intro hm
 rcases List.mem_append.1 hm with q | q
 ·exact hn q
 ·exact h (List.mem_singleton.1 q).symm
section
variable (k:Nat) (ss:List ag) (I:InT) (N:Nat) (t2 t3:Int)
theorem H4 (hk:10000000≤k) (hs:∀s∈ss,SOK s) (hn:ss.length≤1000000) (t16 t18 t53:Int) (t54:Bool) (c8 c14:nN) (x:cm) (hx:Shp ss x) (l:List cm) (hl:∀y∈l,Shp ss y) (hll:l.length≤6000000) (se:List (List Bool)) (r:List Int):∀(d m i:Nat),i+d=l.length→d<m→x∉l.take i →
  tD k m ss I t2 t3 t16 t18 (i:Int) t53 t54 c8 c14 x l se r=some ((ss,I,t2,t3,t16,t18,((ix l x:Nat):Int),t53,t54,()),(c8,c14,x,l,se,r,()))
 |0,m,i,hi,hm,hnot=>by
  obtain ⟨m,rfl⟩:=aq (m:=m) (by omega)
  rw[take_of_length_le (by omega)] at hnot
  have:=ll hnot
  have hil:i=l.length:=by omega
  simp only[tD]
  rw[decide_eq_false (by omega),cond_false,this,hil]
 |d+1,m,i,hi,hm,hnot=>by
  obtain ⟨m,rfl⟩:=aq (m:=m) (by omega)
  have hlt:i<l.length:=by omega
  simp only[tD]
  rw[dlt hlt,cond_true,if_pos (inR hlt),tnI i,ak _ _ _ hlt,a5n k ss _ _ hk hs hn (hl _ (getElem_mem hlt)) hx,bind_some]
  simp only
  by_cases h:l[i]=x
  ·rw[decide_eq_true h,Bool.not_true,cond_false,vC hlt h hnot]
  ·rw[decide_eq_false h,Bool.not_false,cond_true,aM i _ hlt (by omega),H4 hk hs hn t16 t18 t53 t54 c8 c14 x hx l hl hll se r d m (i+1) (by omega) (by omega) (nP hlt h hnot)]
   rfl
theorem H5 (hk:10000000≤k) (t16 t53:Int) (t54:Bool) (c8 c14:nN) (x:List Bool) (l:List cm) (se:List (List Bool)) (hse:∀y∈se,y.length≤5000000) (hll:se.length≤6000000) (r:List Int):∀(d m i:Nat),i+d=se.length→d<m→x∉se.take i →
  tE k m ss I t2 t3 t16 (i:Int) t53 t54 c8 c14 x l se r=some ((ss,I,t2,t3,t16,((ix se x:Nat):Int),t53,t54,()),(c8,c14,x,l,se,r,()))
 |0,m,i,hi,hm,hnot=>by
  obtain ⟨m,rfl⟩:=aq (m:=m) (by omega)
  rw[take_of_length_le (by omega)] at hnot
  have:=ll hnot
  have hil:i=se.length:=by omega
  simp only[tE]
  rw[decide_eq_false (by omega),cond_false,this,hil]
 |d+1,m,i,hi,hm,hnot=>by
  obtain ⟨m,rfl⟩:=aq (m:=m) (by omega)
  have hlt:i<se.length:=by omega
  simp only[tE]
  rw[dlt hlt,cond_true,if_pos (inR hlt),tnI i,ak _ _ _ hlt,QV k _ _ hk (hse _ (getElem_mem hlt)),bind_some]
  simp only
  by_cases h:se[i]=x
  ·rw[decide_eq_true h,Bool.not_true,cond_false,vC hlt h hnot]
  ·rw[decide_eq_false h,Bool.not_false,cond_true,aM i _ hlt (by omega),H5 hk t16 t53 t54 c8 c14 x l se hse hll r d m (i+1) (by omega) (by omega) (nP hlt h hnot)]
   rfl
theorem H6 (hk:10000000≤k) (hs:∀s∈ss,SOK s) (hI:∀s∈ss,lK I N s) (hn:ss.length≤1000000) (hN:N≤5000000) (ht2:t2≤(N:Int)) (ht2':(N:Int)≤t2∨N=0) (j:Nat) (s:cm) (t53:Int) (t54:Bool) (c8 c14:nN) (se:List (List Bool)):∀(d m i:Nat) (l:List cm) (r:List Int),i+d=N→d<m→(∀y∈l,Shp ss y)→j<l.length→getD l j []=s→l.length≤100000+i→r.length=i →
  nv k m ss I t2 t3 (j:Int) (i:Int) t53 t54 c8 c14 l se r=some ((ss,I,t2,t3,(j:Int),t53,t54,()),(c8,c14,(bU (bd I ss) s (range' i d) l).1,se,r++(bU (bd I ss) s (range' i d) l).2,()))
 |0,m,i,l,r,hi,hm,hl,hj,hsj,hll,hr=>by
  obtain ⟨m,rfl⟩:=aq (m:=m) (by omega)
  simp only[List.range'_zero,bU,nv]
  rw[decide_eq_false (by omega),cond_false,append_nil]
 |d+1,m,i,l,r,hi,hm,hl,hj,hsj,hll,hr=>by
  obtain ⟨m,rfl⟩:=aq (m:=m) (by omega)
  have hlt:i<N:=by omega
  have hsS:Shp ss s:=by
   rw[←hsj,ak _ _ _ hj]
   exact hl _ (getElem_mem hj)
  have hxS:Shp ss (bd I ss s i):=jq hsS
  have hle:=jX l (bd I ss s i)
  obtain ⟨tl,htl⟩:=kB l (bd I ss s i)
  have e1:=H4 k ss I t2 t3 hk hs hn (j:Int) (i:Int) t53 t54 c8 c14 (bd I ss s i) hxS l hl (by omega) se r l.length k 0 (Nat.zero_add _) (by omega) (by simp)
  rw[show ((0:Nat):Int)=0 from rfl] at e1
  have ih:=H6 hk hs hI hn hN ht2 ht2' j s t53 t54 c8 c14 se d m (i+1) (bH l (bd I ss s i)) (r++[((ix l (bd I ss s i):Nat):Int)]) (by omega) (by omega) (H0 hl hxS) (by omega) (by rw[nO htl hj]; exact hsj) (by omega) (by simp[hr])
  have hap2:(length l+length [bd I ss s i])*(24*2)≤281474976710656∧length l+length [bd I ss s i]≤9223372036854775807:=by rw[length_singleton]; omega
  have hap:(length r+length [((ix l (bd I ss s i):Nat):Int)])*(8*2)≤281474976710656∧length r+length [((ix l (bd I ss s i):Nat):Int)]≤9223372036854775807:=by rw[length_singleton]; omega
  rw[List.range'_succ,mt,Af]
  simp only[nv]
  rw[decide_eq_true (show (i:Int)<t2 by omega),cond_true,if_pos (inR hj),tnI j,hsj,a9m k I N ss i s hk hs hI hlt hsS hn,bind_some]
  simp only
  rw[e1,bind_some]
  simp only
  rw[show List.set (replicate 1 (0:Int)) 0 ((ix l (bd I ss s i):Nat):Int)=[((ix l (bd I ss s i):Nat):Int)] from rfl,aM i _ hlt (by omega)]
  by_cases hx:bd I ss s i∈l
  ·have h1:=lm hx
   rw[mo hx] at ih ⊢
   rw[show ((((ix l (bd I ss s i):Nat):Int)==((length l:Nat):Int)))=false from beq_false_of_ne (by omega),cond_false,if_pos hap,ih,append_assoc]
   rfl
  ·have h1:=ll hx
   rw[mr hx] at ih ⊢
   rw[show ((((ix l (bd I ss s i):Nat):Int)==((length l:Nat):Int)))=true from by rw[h1]; simp,cond_true,if_pos hap2,if_pos hap,ih,append_assoc]
   rfl
theorem H7 (hk:10000000≤k) (hs:∀s∈ss,SOK s) (hI:∀s∈ss,lK I N s) (hn:ss.length≤1000000) (hN:N≤5000000) (ht2:t2≤(N:Int)) (ht2':(N:Int)≤t2∨N=0) (c8:nN) (B:Int) (hB:B=aK t3 100000):∀(f m i:Nat) (l:List cm) (nx:List (List Int)) (ou:List Int) (se:List (List Bool)),B.toNat+2≤i+f→B.toNat+2≤i+m→i≤B.toNat→i≤l.length→(∀y∈l,Shp ss y)→nx.length=i→ou.length=i→se.length≤i→(∀y∈se,y.length≤5000000) →
  nw k m ss I t2 t3 (i:Int) c8 (nx,(ou,())) l se=match mkA (bd I ss) (bo ss) [] B N f i l nx ou se with
   |none=>some (.inr VA)
   |some q=>some (.inl ((),(c8,(q.2.1,(q.2.2.1,())),q.2.2.2,())))
 |0,m,i,l,nx,ou,se,hf,hm,hi,hil,hl,hnx,hou,hse,hsel=>by omega
 |f+1,m,i,l,nx,ou,se,hf,hm,hi,hil,hl,hnx,hou,hse,hsel=>by
  obtain ⟨m,rfl⟩:=aq (m:=m) (by omega)
  have hB2:B≤100000∧B≤t3∧(B=t3∨B=100000):=by rw[hB]; unfold aK; split<;>omega
  simp only[nw,mkA]
  by_cases hlt:i<l.length
  ·rw[if_pos hlt,dlt hlt,cond_true]
   by_cases h1:((l.length:Nat):Int)>t3
   ·rw[decide_eq_true h1,cond_true,if_pos (by omega)]
   ·rw[decide_eq_false h1,cond_false]
    by_cases h2:((l.length:Nat):Int)>100000
    ·rw[decide_eq_true h2,cond_true,if_pos (by omega)]
    ·rw[decide_eq_false h2,cond_false,if_neg (by omega)]
     have hsi:Shp ss (l.getD i []):=by rw[ak _ _ _ hlt]; exact hl _ (getElem_mem hlt)
     have e1:=H6 k ss I N t2 t3 hk hs hI hn hN ht2 ht2' i (l.getD i []) ((l.length:Nat):Int) false c8 (nx,(ou,())) se N k 0 l [] (Nat.zero_add _) (by omega) hl hlt rfl (by omega) rfl
     rw[←List.range_eq_range',nil_append,show ((0:Nat):Int)=0 from rfl] at e1
     have hstp:=fun y hy=>H1 (ss:=ss) (I:=I) (s:=l.getD i []) hsi (List.range N) l hl y hy
     obtain ⟨tl,htl⟩:=iV (bd I ss) (l.getD i []) (List.range N) l
     have hle:=iU (bd I ss) (l.getD i []) (List.range N) l
     have hrw:=nM (bd I ss) (l.getD i []) (List.range N) l
     rw[length_range] at hrw hle
     generalize hq:bU (bd I ss) (l.getD i []) (List.range N) l=q at *
     obtain ⟨l',r'⟩:=q
     simp only at *
     rw[e1,bind_some]
     simp only
     have hlt':i<l'.length:=by omega
     have hg:getD l' i []=l.getD i []:=nO htl hlt
     have hh:=lj hsi
     have e3:=H5 k ss I t2 t3 hk (i:Int) ((l.length:Nat):Int) false c8 (nx,(ou,())) (bo ss (l.getD i [])) l' se hsel (by omega) r' se.length k 0 (Nat.zero_add _) (by omega) (by simp)
     rw[show ((0:Nat):Int)=0 from rfl] at e3
     rw[if_pos (inR hlt'),tnI i,hg,a0n k ss _ hk hs hsi hn,bind_some]
     simp only
     rw[e3,bind_some]
     simp only
     have hput:=jX se (bo ss (l.getD i []))
     have hiw:IntKind.wrap .i64 ((i:Int)+1)=((i+1:Nat):Int):=aM i l.length hlt (by omega)
     have ha1:(length nx+length [r'])*(24*2)≤281474976710656∧length nx+length [r']≤9223372036854775807:=by rw[length_singleton]; omega
     have ha2:(length ou+length [((ix se (bo ss (l.getD i [])):Nat):Int)])*(8*2)≤281474976710656∧length ou+length [((ix se (bo ss (l.getD i [])):Nat):Int)]≤9223372036854775807:=by rw[length_singleton]; omega
     have ha3:(length se+length [bo ss (l.getD i [])])*(24*2)≤281474976710656∧length se+length [bo ss (l.getD i [])]≤9223372036854775807:=by rw[length_singleton]; omega
     rw[show List.set (replicate 1 (0:Int)) 0 ((ix se (bo ss (l.getD i [])):Nat):Int)=[((ix se (bo ss (l.getD i [])):Nat):Int)] from rfl,hiw]
     have hsel':∀y∈bH se (bo ss (l.getD i [])),y.length≤5000000:=by
      unfold bH
      split
      ·exact hsel
      ·exact fc hsel (by omega)
     -- both ways to go on
     have next:∀(se':List (List Bool)),bH se (bo ss (l.getD i []))=se'→(nw k m ss I t2 t3 ((i+1:Nat):Int) c8 (nx++[r'],(ou++[((ix se (bo ss (l.getD i [])):Nat):Int)],())) l' se').bind some=match mkA (bd I ss) (bo ss) [] B N f (i+1) l' (nx++[r']) (ou++[((ix se (bo ss (l.getD i [])):Nat):Int)]) se' with
       |none=>some (.inr VA)
       |some q=>some (.inl ((),(c8,(q.2.1,(q.2.2.1,())),q.2.2.2,()))):=by
      intro se' hse'
      subst hse'
      rw[H7 hk hs hI hn hN ht2 ht2' c8 B hB f m (i+1) l' (nx++[r']) (ou++[((ix se (bo ss (l.getD i [])):Nat):Int)]) (bH se (bo ss (l.getD i []))) (by omega) (by omega) (by omega) (by omega) hstp (by simp[hnx]) (by simp[hou]) (by omega) hsel']
      cases mkA (bd I ss) (bo ss) [] B N f (i+1) l' (nx++[r']) (ou++[((ix se (bo ss (l.getD i [])):Nat):Int)]) (bH se (bo ss (l.getD i [])))<;>rfl
     by_cases hx:bo ss (l.getD i [])∈se
     ·have h1:=lm hx
      rw[show ((((ix se (bo ss (l.getD i [])):Nat):Int)==((length se:Nat):Int)))=false from beq_false_of_ne (by omega),cond_false,if_pos ha1,if_pos ha2]
      have:=next se (mo hx)
      rw[mo hx]
      exact this
     ·have h1:=ll hx
      rw[show ((((ix se (bo ss (l.getD i [])):Nat):Int)==((length se:Nat):Int)))=true from by rw[h1]; simp,cond_true,if_pos ha3,if_pos ha1,if_pos ha2]
      have:=next (se++[bo ss (l.getD i [])]) (mr hx)
      rw[mr hx]
      exact this
  ·rw[if_neg hlt,decide_eq_false (by omega),cond_false]
end
theorem H8 (k:Nat) (ss:List ag) (I:InT) (t2 t3:Int) (c:nN) (hs:∀s∈ss,SOK s) (hn:ss.length≤1000000):∀(d m i:Nat),i+d=ss.length→d<m →
  tC k m ss I t2 t3 (i:Int) c (bP (ss.take i))=some ((ss,I,t2,t3,()),(c,bP ss,()))
 |0,m,i,hi,hm=>by
  obtain ⟨m,rfl⟩:=aq (m:=m) (by omega)
  simp only[tC]
  rw[decide_eq_false (by omega),cond_false,take_of_length_le (by omega)]
 |d+1,m,i,hi,hm=>by
  obtain ⟨m,rfl⟩:=aq (m:=m) (by omega)
  have hlt:i<ss.length:=by omega
  have hln:=(hs _ (getElem_mem hlt)).ln
  have hz:bP (ss.take (i+1))=bP (ss.take i)++[replicate ss[i].1.length false]:=by
   rw[take_succ_eq_append_getElem hlt]
   unfold bP
   rw[map_append]
   rfl
  have hzl:(bP (ss.take i)).length=i:=by simp[bP]; omega
  have k1:(0≤((length ss[i].1:Nat):Int)∧((length ss[i].1:Nat):Int)<((length ss[i].1:Nat):Int)+1)∧((length ss[i].1:Nat):Int)≤9223372036854775807∧((1:Nat):Int)*((length ss[i].1:Nat):Int)≤281474976710656:=by omega
  have k2:(length (bP (ss.take i))+length [replicate ss[i].1.length false])*(24*2)≤281474976710656∧length (bP (ss.take i))+length [replicate ss[i].1.length false]≤9223372036854775807:=by rw[length_singleton,hzl]; omega
  simp only[tC]
  rw[dlt hlt,cond_true,if_pos (inR hlt),tnI i,ak _ _ _ hlt,if_pos k1,show Int.toNat ((length ss[i].1:Nat):Int)=ss[i].1.length from rfl,if_pos k2,←hz,aM i _ hlt (by omega),H8 k ss I t2 t3 c hs hn d m (i+1) (by omega) (by omega)]
  rfl
theorem a6n (k:Nat) (ss:List ag) (I:InT) (N:Nat) (hk:10000000≤k) (hs:∀s∈ss,SOK s) (hI:∀s∈ss,lK I N s) (hn:ss.length≤1000000) (hN:N≤5000000) (t2:Int) (ht2:bZ t2 0=(N:Int)) (b:Int) :
  F17 k ss I t2 b=some (Me (mkA (bd I ss) (bo ss) [] (aK b 100000) N ((aK b 100000).toNat+2) 0 [bP ss] [] [] []),()):=by
 have hB:aK b 100000≤100000:=by unfold aK; split<;>omega
 have h2:t2≤(N:Int)∧((N:Int)≤t2∨N=0):=by unfold bZ at ht2; split at ht2<;>omega
 have e0:=H8 k ss I t2 b (([]:(List (List Int))),(([]:(List Int)),())) hs hn ss.length k 0 (Nat.zero_add _) (by omega)
 rw[show ((0:Nat):Int)=0 from rfl,take_zero,show bP []=[] from rfl] at e0
 have e2:=H7 k ss I N t2 b hk hs hI hn hN h2.1 h2.2 (([]:(List (List Int))),(([]:(List Int)),())) (aK b 100000) rfl ((aK b 100000).toNat+2) k 0 [bP ss] [] [] [] (by omega) (by omega) (by omega) (zero_le _) (fun y hy=>by rw[List.mem_singleton.1 hy]; exact rC ss) rfl rfl (Nat.le_refl _) (fun y hy=>by cases hy)
 rw[show ((0:Nat):Int)=0 from rfl] at e2
 unfold F17
 rw[e0,bind_some]
 simp only
 rw[e2]
 cases mkA (bd I ss) (bo ss) [] (aK b 100000) N ((aK b 100000).toNat+2) 0 [bP ss] [] [] [] with
 |none=>rfl
 |some q=>rfl
theorem a7n (k:Nat) (a n:Int) (h0:0<n) (h1:n≤4611686018427387904):F62 k a n=some ((a%n,()),()):=dh k a n h0 h1
abbrev jD:=(b7×((List Int)×((List Int)×((List (List Bool))×((List ag)×((List ag)×(Int×Unit)))))))
abbrev ct:=(Int×(Int×(bn×(bn×Unit))))
def nQ (r:ct):Prop:=(cr true 5 r.2.2.1∧cr false 5 r.2.2.2.1)∧(0≤r.1∧r.1<3)∧0≤r.2.1∧r.2.1<20
theorem a3B (a:Nat) (h:a≤9223372036854775807):IntKind.wrap .i64 (a:Int)=(a:Int):=w64 _ (by omega) (by omega)
theorem tmR {a n:Int} (h:0≤a) (hn:0<n):0≤tmod a n∧tmod a n<n:=⟨Int.tmod_nonneg _ h,Int.tmod_lt_of_pos _ hn⟩
theorem tdR {a:Int} (h:0≤a) (h2:a<1073741824):0≤tmod (IntKind.wrap .i64 (tdiv a 3)) 20∧tmod (IntKind.wrap .i64 (tdiv a 3)) 20<20:=by
 have e:tdiv a 3=a/3:=Int.tdiv_eq_ediv_of_nonneg h
 rw[e,w64 _ (by omega) (by omega)]
 exact tmR (by omega) (by decide)
structure fT (I:InT) (N M:Nat) (s:ag):Prop where
 g:∃n,n≤120∧bq n (cB 5) M s
 ok:SOK s
 io:lK I N s
theorem VB {I:InT} {N M:Nat} {s:ag} (hI:I.length=M) (hr:∀r∈I,r.length=N) {n:Nat} (hn:n≤120) (h:bq n (cB 5) M s):fT I N M s:=by
 have h1:=h.ls
 have h2:=h.lf
 have h3:=h.le
 have h4:=eN h.srt h.arcs
 have hnn:n*n≤120*120:=Nat.mul_le_mul hn hn
 refine ⟨⟨n,hn,h⟩,⟨by omega,by omega,fun x hx=>?_,by omega,by omega⟩,⟨fun x hx=>?_,hr⟩⟩
 ·have:=h.arcs x hx
  rw[h1]
  exact ⟨this.1,this.2.1⟩
 ·have:=h.sets x hx
  rw[hI]
  omega
structure WG (w:jD) (N M:Nat):Prop where
 left:∀s∈w.2.2.2.2.1,fT w.2.2.2.1 N M s
 right:∀s∈w.2.2.2.2.2.1,fT w.2.2.2.1 N M s
 nl:w.2.2.2.2.1.length=w.1.2.1.length
 nr:w.2.2.2.2.2.1.length=w.1.2.1.length
 nrules:w.1.2.1.length≤4
 rules:∀r∈w.1.2.1,nQ r
 num:w.2.2.2.2.2.2.1=(N:Int)
 le:N≤2000000
 bc:w.2.1.length=w.2.2.1.length
 cl:w.2.2.1.length≤2000000
 ne:w.2.2.1≠[]
 lets:∀x∈w.2.2.1,0≤x∧x<(N:Int)
 il:w.2.2.2.1.length≤1000000
 ir:∀r∈w.2.2.2.1,r.length≤5000000
theorem gL {σ:Type} {l l' t:List σ} {i:Nat} {x:σ} (e:l'=l++t) (h:l[i]? = some x):l'[i]? = some x:=by
 rw[e,getElem?_append_left (List.getElem?_eq_some_iff.1 h).1]
 exact h
theorem QX {σ:Type} {l:List σ} (h:l.Nodup) {i j:Nat} {x:σ} (h1:l[i]? = some x) (h2:l[j]? = some x):i=j:=by
 obtain ⟨h3,h4⟩:=List.getElem?_eq_some_iff.1 h1
 obtain ⟨h5,h6⟩:=List.getElem?_eq_some_iff.1 h2
 exact (List.getElem_inj h).1 (h4.trans h6.symm)
section
variable {σ:Type} [DecidableEq σ]
theorem nS {l:List σ} (h:l.Nodup) (x:σ):(bH l x).Nodup:=by
 unfold bH
 split
 ·exact h
 ·rename_i hx
  rw[List.nodup_append]
  refine ⟨h,by simp,fun a ha b hb=>?_⟩
  rw[List.mem_singleton.1 hb]
  exact fun e=>hx (e▸ha)
theorem vD (l:List σ) (x:σ):(bH l x)[ix l x]? = some x:=by
 unfold bH
 split
 ·rename_i hx
  rw[getElem?_eq_getElem (lm hx),HY hx]
 ·rename_i hx
  rw[ll hx]
  simp
theorem Cy {l:List σ} (h:l.Nodup) {i:Nat} {x:σ} (h1:l[i]? = some x):ix l x=i:=by
 have hm:x∈l:=List.mem_of_getElem? h1
 refine QX h ?_ h1
 rw[getElem?_eq_getElem (lm hm),HY hm]
theorem Cz (step:σ→Nat→σ) (s:σ):∀(al:List Nat) (l:List σ),l.Nodup→(bU step s al l).1.Nodup∧∀(p a:Nat),al[p]? = some a→∃t:Nat,(bU step s al l).2[p]? = some (t:Int)∧(bU step s al l).1[t]? = some (step s a)
 | [],l,h=>⟨h,fun p a e=>by simp at e⟩
 |b::al,l,h=>by
  obtain ⟨h1,h2⟩:=Cz step s al (bH l (step s b)) (nS h _)
  obtain ⟨t1,e1⟩:=iV step s al (bH l (step s b))
  refine ⟨h1,fun p a e=>?_⟩
  cases p with
  |zero =>
   simp only[List.getElem?_cons_zero,Option.some.injEq] at e
   subst e
   exact ⟨ix l (step s b),by rw[Af]; rfl,by rw[mt]; exact gL e1 (vD l (step s b))⟩
  |succ p =>
   simp only[List.getElem?_cons_succ] at e
   obtain ⟨t,e2,e3⟩:=h2 p a e
   exact ⟨t,by rw[Af]; exact e2,by rw[mt]; exact e3⟩
theorem H9 (step:σ→Nat→σ) (s:σ) {P:σ→Prop}:∀(al:List Nat) (l:List σ),(∀x∈l,P x)→(∀a∈al,P (step s a))→∀x∈(bU step s al l).1,P x
 | [],l,h,_=>h
 |b::al,l,h,h2=>by
  rw[mt]
  refine H9 step s al _ (fun x hx=>?_) fun a ha=>h2 a (mem_cons_of_mem _ ha)
  unfold bH at hx
  split at hx
  ·exact h x hx
  ·rcases List.mem_append.1 hx with q | q
   ·exact h x q
   ·rw[List.mem_singleton.1 q]; exact h2 b mem_cons_self
variable (step:σ→Nat→σ) (hold:σ→List Bool) (d0:σ) (N:Nat)
structure iz (i:Nat) (l:List σ) (nx:List (List Int)) (ou:List Int) (se:List (List Bool)):Prop where
 nd:l.Nodup
 sd:se.Nodup
 il:i≤l.length
 nl:nx.length=i
 ol:ou.length=i
 rows:∀j x,j<i→l[j]? = some x→∃r,nx[j]? = some r∧r.length=N∧∀a,a<N→∃t:Nat,r[a]? = some (t:Int)∧l[t]? = some (step x a)
 outs:∀j x,j<i→l[j]? = some x→∃t:Nat,ou[j]? = some (t:Int)∧se[t]? = some (hold x)
 hs:∀h∈se,∃x∈l,h=hold x
variable {step hold d0 N}
theorem iz.next {i:Nat} {l:List σ} {nx:List (List Int)} {ou:List Int} {se:List (List Bool)} (m:iz step hold N i l nx ou se) (hi:i<l.length) :
  iz step hold N (i+1) (bU step (l.getD i d0) (List.range N) l).1 (nx++[(bU step (l.getD i d0) (List.range N) l).2]) (ou++[((ix se (hold (l.getD i d0)):Nat):Int)]) (bH se (hold (l.getD i d0))):=by
 obtain ⟨r1,r2⟩:=Cz step (l.getD i d0) (List.range N) l m.nd
 obtain ⟨t,e⟩:=iV step (l.getD i d0) (List.range N) l
 have hle:=iU step (l.getD i d0) (List.range N) l
 have hrl:=nM step (l.getD i d0) (List.range N) l
 rw[length_range] at hrl
 have hgi:l[i]? = some (l.getD i d0):=by rw[ak _ _ _ hi,getElem?_eq_getElem hi]
 obtain ⟨ts,es⟩:=kB se (hold (l.getD i d0))
 have hlt:∀j x,j<i+1→(bU step (l.getD i d0) (List.range N) l).1[j]? = some x→l[j]? = some x:=fun j x hj hx=>by
  rw[e,getElem?_append_left (by omega)] at hx
  exact hx
 refine ⟨r1,nS m.sd _,by omega,by rw[length_append,m.nl]; rfl,by rw[length_append,m.ol]; rfl,fun j x hj hx=>?_,fun j x hj hx=>?_,fun h hm=>?_⟩
 ·have hx':=hlt j x hj hx
  by_cases he:j=i
  ·subst he
   rw[hgi] at hx'
   injection hx' with hx'
   refine ⟨(bU step (l.getD j d0) (List.range N) l).2,by rw[←m.nl]; simp,hrl,fun a ha=>?_⟩
   rw[←hx']
   exact r2 a a (by rw[List.getElem?_range ha])
  ·obtain ⟨r,q1,q2,q3⟩:=m.rows j x (by omega) hx'
   refine ⟨r,gL rfl q1,q2,fun a ha=>?_⟩
   obtain ⟨u,q4,q5⟩:=q3 a ha
   exact ⟨u,q4,gL e q5⟩
 ·have hx':=hlt j x hj hx
  by_cases he:j=i
  ·subst he
   rw[hgi] at hx'
   injection hx' with hx'
   rw[←hx']
   exact ⟨ix se (hold (l.getD j d0)),by rw[←m.ol]; simp,vD se _⟩
  ·obtain ⟨u,q1,q2⟩:=m.outs j x (by omega) hx'
   exact ⟨u,gL rfl q1,gL es q2⟩
 ·unfold bH at hm
  have up:∀ {x:σ},x∈l→x∈(bU step (l.getD i d0) (List.range N) l).1:=fun hx=>by rw[e]; exact List.mem_append_left _ hx
  split at hm
  ·obtain ⟨x,hx,q⟩:=m.hs h hm
   exact ⟨x,up hx,q⟩
  ·rcases List.mem_append.1 hm with q | q
   ·obtain ⟨x,hx,q⟩:=m.hs h q
    exact ⟨x,up hx,q⟩
   ·exact ⟨l.getD i d0,up (List.mem_of_getElem? hgi),List.mem_singleton.1 q⟩
theorem vE {B:Int} {P:σ→Prop} (hP:∀x a,P x→a<N→P (step x a)):∀(f i:Nat) (l:List σ) (nx:List (List Int)) (ou:List Int) (se:List (List Bool)) {q:List σ×List (List Int)×List Int×List (List Bool)},iz step hold N i l nx ou se→(∀x∈l,P x)→mkA step hold d0 B N f i l nx ou se=some q→iz step hold N q.1.length q.1 q.2.1 q.2.2.1 q.2.2.2∧(∃t,q.1=l++t)∧(∀x∈q.1,P x)∧(i<l.length→(q.1.length:Int)≤B)
 |0,i,l,nx,ou,se,q,m,hp,h=>by cases h
 |f+1,i,l,nx,ou,se,q,m,hp,h=>by
  simp only[mkA] at h
  split at h
  ·rename_i hi
   split at h
   ·cases h
   ·rename_i hB
    have hps:P (l.getD i d0):=hp _ (by rw[ak _ _ _ hi]; exact getElem_mem hi)
    obtain ⟨t,e⟩:=iV step (l.getD i d0) (List.range N) l
    obtain ⟨h1,⟨t2,e2⟩,h3,h4⟩:=vE hP f _ _ _ _ _ (m.next (d0:=d0) hi) (H9 step (l.getD i d0) (List.range N) l hp fun a ha=>hP _ a hps (List.mem_range.1 ha)) h
    have hle:=iU step (l.getD i d0) (List.range N) l
    refine ⟨h1,⟨t++t2,by rw[e2,e,append_assoc]⟩,h3,fun _=>?_⟩
    by_cases hc:i+1<(bU step (l.getD i d0) (List.range N) l).1.length
    ·exact h4 hc
    · -- nothing more is there
     cases f with
     |zero=>cases h
     |succ f =>
      rw[mkA,if_neg hc] at h
      injection h with h
      rw[←h]
      simp only
      omega
  ·rename_i hi
   injection h with h
   subst h
   simp only
   have:i=l.length:=Nat.le_antisymm m.il (by omega)
   refine ⟨by rw[this] at m; exact m,⟨[],(append_nil _).symm⟩,hp,fun q=>by omega⟩
theorem Ia:∀ {l S:List σ},l.Nodup→(∀x∈l,x∈S)→l.length≤S.length
 | [],S,_,_=>zero_le _
 |x::l,S,h,hs=>by
  obtain ⟨h1,h2⟩:=List.nodup_cons.1 h
  have hx:=hs x mem_cons_self
  have:=Ia (l:=l) (S:=S.erase x) h2 fun y hy=>(List.mem_erase_of_ne (fun e=>h1 (by rw[←e]; exact hy))).2 (hs y (mem_cons_of_mem _ hy))
  rw[List.length_erase_of_mem hx] at this
  have:=List.length_pos_of_mem hx
  simp only[length_cons]
  omega
def stR (step:σ→Nat→σ) (z:σ):List Nat→σ
 | []=>z
 |a::t=>step (stR step z t) a
end
section
variable {σ:Type} {step:σ→Nat→σ} {hold:σ→List Bool} {N:Nat} {l:List σ} {nx:List (List Int)} {ou:List Int} {se:List (List Bool)} {z:σ}
def nT (step:σ→Nat→σ) (hold:σ→List Bool) (se:List (List Bool)) (z:σ) (x:List Nat) (i:Nat):Int:=((ix se (hold (stR step z (x.drop i))):Nat):Int)
def Mf (step:σ→Nat→σ) (hold:σ→List Bool) (se:List (List Bool)) (z:σ) (x:List Nat):List Int:=(List.range (x.length+1)).map (nT step hold se z x)
def fw (f:Nat→Int) (n i:Nat):List Int:=(List.range n).map fun j=>if i≤j then f j else 0
theorem QY (f:Nat→Int) (n i:Nat):(fw f n i).length=n:=by simp[fw]
theorem Wz (f:Nat→Int) (n:Nat):fw f n n=replicate n 0:=by
 refine ext_getElem (by simp[fw]) fun j h1 h2=>?_
 have:j<n:=by simpa[fw] using h1
 simp[fw,Nat.not_le.2 this]
theorem WA (f:Nat→Int) (n:Nat):fw f n 0=(List.range n).map f:=by simp[fw]
theorem CA (f:Nat→Int) (n i:Nat):List.set (fw f n (i+1)) i (f i)=fw f n i:=by
 refine ext_getElem (by simp[fw]) fun j h1 h2=>?_
 rw[List.getElem_set]
 simp only[fw,getElem_map,getElem_range]
 split
 ·rename_i e; subst e; simp
 ·rename_i e
  by_cases q:i≤j
  ·rw[if_pos (by omega),if_pos q]
  ·rw[if_neg (by omega),if_neg q]
theorem Mg {x:List Nat} {i:Nat} (h:i<x.length):getD (x.map fun n:Nat=>(n:Int)) i 0=((x[i]:Nat):Int):=by
 rw[ak _ _ _ (by simpa using h),getElem_map]
theorem Ib (k:Nat) (m:iz step hold N l.length l nx ou se) (hl:l.length≤1000000) (x:List Nat) (hx:∀a∈x,a<N) (hxl:x.length≤1000000):∀(i mm t:Nat),i<mm→i≤x.length→l[t]? = some (stR step z (x.drop i)) →
  tH k mm (x.map fun n:Nat=>(n:Int)) (t:Int) ((i:Int)-1) (nx,(ou,())) (fw (nT step hold se z x) (x.length+1) i)=some ((),(Mf step hold se z x,()))
 |0,mm,t,hm,hi,ht=>by
  obtain ⟨mm,rfl⟩:∃m',mm=m'+1:=⟨mm-1,by omega⟩
  simp only[tH]
  rw[decide_eq_false (by omega),cond_false,WA]
  rfl
 |i+1,mm,t,hm,hi,ht=>by
  obtain ⟨mm,rfl⟩:∃m',mm=m'+1:=⟨mm-1,by omega⟩
  have htl:t<l.length:=(List.getElem?_eq_some_iff.1 ht).1
  obtain ⟨r,e3,e4,e5⟩:=m.rows t _ htl ht
  have hol:=m.ol
  have hnl:=m.nl
  have htn:t<nx.length:=by omega
  have hlt:i<x.length:=by omega
  have hlt':i<(x.map fun n:Nat=>(n:Int)).length:=by simpa using hlt
  have ha:x[i]<N:=hx _ (getElem_mem hlt)
  obtain ⟨u,e6,e7⟩:=e5 x[i] ha
  have har:x[i]<r.length:=by omega
  have hnr:getD nx t []=r:=by rw[getD_eq_getElem?_getD,e3]; rfl
  have hru:getD r x[i] 0=(u:Int):=by rw[getD_eq_getElem?_getD,e6]; rfl
  have hst:l[u]? = some (stR step z (x.drop i)):=by
   rw[e7,drop_eq_getElem_cons hlt]
   rfl
  have hul:u<l.length:=(List.getElem?_eq_some_iff.1 hst).1
  obtain ⟨o,q1,q2⟩:=m.outs u _ hul hst
  have huo:u<ou.length:=by omega
  have ho:getD ou u 0=(o:Int):=by rw[getD_eq_getElem?_getD,q1]; rfl
  have hov:((o:Nat):Int)=nT step hold se z x i:=by
   unfold nT
   rw[Cy m.sd q2]
  have hc:i<(fw (nT step hold se z x) (x.length+1) (i+1)).length:=by rw[QY]; omega
  have hw:IntKind.wrap .i64 ((i:Int)-1)=(i:Int)-1:=w64 _ (by omega) (by omega)
  have ih:=Ib k m hl x hx hxl i mm u (by omega) (by omega) hst
  simp only[tH]
  rw[show ((i+1:Nat):Int)-1=(i:Int) by omega,decide_eq_true (show (i:Int)≥0 by omega),cond_true,if_pos (inR htn),tnI t,hnr,if_pos (inR hlt'),tnI i,Mg hlt,if_pos (inR har),tnI (x[i]),hru,if_pos (inR huo),if_pos (inR hc),tnI u,ho,hov,CA,hw,ih]
  rfl
theorem a8n (k:Nat) (hk:10000000≤k) (m:iz step hold N l.length l nx ou se) (hl:l.length≤1000000) (hz:l[0]? = some z) (x:List Nat) (hx:∀a∈x,a<N) (hxl:x.length≤1000000):F24 k (nx,(ou,())) (x.map fun n:Nat=>(n:Int))=some ((Mf step hold se z x,()),()):=by
 have e:=Ib k m hl x hx hxl x.length k 0 (by omega) (Nat.le_refl _) (by rw[drop_length]; exact hz)
 have h0:0<l.length:=(List.getElem?_eq_some_iff.1 hz).1
 obtain ⟨o,q1,q2⟩:=m.outs 0 _ h0 hz
 have hol:=m.ol
 have huo:0<ou.length:=by omega
 have ho:getD ou 0 0=(o:Int):=by rw[getD_eq_getElem?_getD,q1]; rfl
 have hov:((o:Nat):Int)=nT step hold se z x x.length:=by
  unfold nT
  rw[drop_length,Cy m.sd]
  exact q2
 have hset:=CA (nT step hold se z x) (x.length+1) x.length
 rw[Wz] at hset
 rw[show ((0:Nat):Int)=0 from rfl] at e
 unfold F24
 have hw:IntKind.wrap .i64 (((length (x.map fun n:Nat=>(n:Int)):Nat):Int)+1)=((x.length+1:Nat):Int):=by rw[w64 _ (by simp; omega) (by simp; omega)]; simp
 have hw2:IntKind.wrap .i64 (((x.length:Nat):Int)-1)=((x.length:Nat):Int)-1:=w64 _ (by omega) (by omega)
 have hc:0≤((x.length:Nat):Int)∧((x.length:Nat):Int)<((length (replicate (x.length+1) (0:Int)):Nat):Int):=by rw[length_replicate]; omega
 have h0p:(0:Int)≤0∧(0:Int)<((length ou:Nat):Int):=⟨Int.le_refl _,by omega⟩
 rw[hw,if_pos (by omega)]
 simp only
 rw[if_pos h0p,length_map,tnI (x.length+1),if_pos hc,tnI (x.length),hw2]
 rw[show getD ou (Int.toNat 0) 0=nT step hold se z x x.length from ho.trans hov,hset,e,bind_some]
end
abbrev QT:=List cm×List (List Int)×List Int×List (List Bool)
def mkM (I:InT) (ss:List ag) (N:Nat) (b:Int):Option QT:=mkA (bd I ss) (bo ss) ([]:cm) (aK b 100000) N ((aK b 100000).toNat+2) 0 [bP ss] [] [] []
theorem Ic (N:Nat):bZ (N:Int) 0=(N:Int):=by unfold bZ; split<;>omega
theorem a9n (k:Nat) (I:InT) (N M:Nat) (ss:List ag) (hk:20000000≤k) (hs:∀s∈ss,fT I N M s) (hn:ss.length≤100) (hN:N≤2000000) (b:Int):F17 k ss I (N:Int) b=some (Me (mkM I ss N b),()) :=
 a6n k ss I N (by omega) (fun s h=>(hs s h).ok) (fun s h=>(hs s h).io) (by omega) (by omega) (N:Int) (Ic N) b
structure MW (I:InT) (ss:List ag) (N:Nat) (b:Int) (q:QT):Prop where
 m:iz (bd I ss) (bo ss) N q.1.length q.1 q.2.1 q.2.2.1 q.2.2.2
 z:q.1[0]? = some (bP ss)
 shp:∀x∈q.1,Shp ss x
 le:(q.1.length:Int)≤aK b 100000
theorem VD {σ:Type} [DecidableEq σ] {step:σ→Nat→σ} {hold:σ→List Bool} {N:Nat} (z:σ):iz step hold N 0 [z] [] [] [] :=
 ⟨by simp,List.nodup_nil,by simp,rfl,rfl,fun j x h=>by omega,fun j x h=>by omega,fun h hm=>by cases hm⟩
theorem a0o {I:InT} {ss:List ag} {N:Nat} {b:Int} {q:QT} (h:mkM I ss N b=some q):MW I ss N b q:=by
 obtain ⟨h1,⟨t,h2⟩,h3,h4⟩:=vE (P:=Shp ss) (fun x a hx _=>jq hx) _ 0 [bP ss] [] [] [] (VD _) (fun x hx=>by rw[List.mem_singleton.1 hx]; exact rC ss) h
 exact ⟨h1,by rw[h2]; rfl,h3,h4 (Nat.zero_lt_succ _)⟩
theorem MW.len {I:InT} {ss:List ag} {N:Nat} {b:Int} {q:QT} (h:MW I ss N b q):q.1.length≤100000:=by
 have:=h.le
 unfold aK at this
 split at this<;>omega
theorem MW.small {I:InT} {ss:List ag} {N:Nat} {b:Int} {q:QT} (h:MW I ss N b q) (hN:N≤5000000) (hn:ss.length≤5000000):(∀r∈q.2.1,r.length≤5000000)∧q.2.1.length≤1000000∧q.2.2.1.length≤1000000∧q.2.2.2.length≤1000000∧∀r∈q.2.2.2,r.length=ss.length:=by
 have h1:=h.len
 have h2:=h.m.nl
 have h3:=h.m.ol
 have h5:∀r∈q.2.2.2,r.length=ss.length:=fun r hr=>by
  obtain ⟨x,hx,e⟩:=h.m.hs r hr
  rw[e]
  exact lj (h.shp x hx)
 refine ⟨fun r hr=>?_,by omega,by omega,?_,h5⟩
 ·obtain ⟨i,hi,e⟩:=List.mem_iff_getElem.1 hr
  obtain ⟨r',q1,q2,_⟩:=h.m.rows i _ (by omega) (getElem?_eq_getElem (by omega:i<q.1.length))
  rw[getElem?_eq_getElem hi,e] at q1
  injection q1 with q1
  rw[q1,q2]
  exact hN
 ·have:=Ia h.m.sd (S:=q.1.map (bo ss)) fun x hx=>by
   obtain ⟨y,hy,e⟩:=h.m.hs x hx
   exact List.mem_map.2 ⟨y,hy,e.symm⟩
  rw[length_map] at this
  omega
section
variable {σ:Type} {step:σ→Nat→σ} {hold:σ→List Bool} {N:Nat} {l:List σ} {nx:List (List Int)} {ou:List Int} {se:List (List Bool)} {z:σ}
theorem Ie (m:iz step hold N l.length l nx ou se) (hz:l[0]? = some z):∀(x:List Nat),(∀a∈x,a<N)→∃t:Nat,l[t]? = some (stR step z x)
 | [],_=>⟨0,hz⟩
 |a::x,h=>by
  obtain ⟨t,e⟩:=Ie m hz x fun b hb=>h b (mem_cons_of_mem _ hb)
  obtain ⟨r,_,_,h3⟩:=m.rows t _ (List.getElem?_eq_some_iff.1 e).1 e
  obtain ⟨u,_,e2⟩:=h3 a (h a mem_cons_self)
  exact ⟨u,e2⟩
theorem QZ (m:iz step hold N l.length l nx ou se) (hz:l[0]? = some z) (x:List Nat) (hx:∀a∈x,a<N):ix se (hold (stR step z x))<se.length∧getD se (ix se (hold (stR step z x))) []=hold (stR step z x):=by
 obtain ⟨t,e⟩:=Ie m hz x hx
 obtain ⟨u,_,e2⟩:=m.outs t _ (List.getElem?_eq_some_iff.1 e).1 e
 have hm:hold (stR step z x)∈se:=List.mem_of_getElem? e2
 exact ⟨lm hm,by rw[ak _ _ _ (lm hm),HY hm]⟩
end
theorem jY {I:InT} {ss:List ag}:∀(x:List Nat),Shp ss (stR (bd I ss) (bP ss) x)
 | []=>rC ss
 |a::x=>jq (jY x)
end Go.Proofs.YtgmmopbpldgpcaaE
set_option linter.unusedSimpArgs false
set_option linter.unusedVariables false
set_option maxRecDepth 20000
namespace Go.Proofs.YtgmmopbpldgpcaaE
theorem Q0 {a:Int} (h:Cst a):aK a 1152921504606846976=a:=by
 unfold Cst at h
 unfold aK
 split<;>omega
theorem JW {a:Int} (h:Cst a):aK 1152921504606846976 a=a:=by
 unfold Cst at h
 unfold aK
 split<;>omega
theorem BZ:Cst bw:=⟨by decide,by decide⟩
theorem B0 {a b:Int} (ha:Cst a) (hb:Cst b):Cst (aK a b):=by
 unfold aK
 split
 ·exact hb
 ·exact ha
theorem kC {a b:Int} (ha:Cst a) (hb:Cst b):Cst (adI a b):=by
 unfold Cst at *
 unfold adI aK
 split<;>omega
theorem If (k:Nat) (a b:Int) (ha:Cst a) (hb:Cst b):F79 k a b=some ((adI a b,()),()):=by
 unfold F79
 simp only
 rw[Q0 ha,Q0 hb]
 unfold Cst at *
 rw[w64 _ (by omega) (by omega)]
 rfl
theorem Ig (k:Nat) (l:List Int) (hl:l.length≤1000000000):∀(d m i:Nat) (acc:Int),i+d=l.length→d<m→sq k m acc l (l.length:Int) (i:Int)=some (((l.drop i).foldl aK acc,()),())
 |0,m,i,acc,hi,hm=>by
  obtain ⟨m,rfl⟩:=aq (m:=m) (by omega)
  simp only[sq]
  rw[decide_eq_false (by omega),cond_false,drop_eq_nil_of_le (by omega)]
  rfl
 |d+1,m,i,acc,hi,hm=>by
  obtain ⟨m,rfl⟩:=aq (m:=m) (by omega)
  have hlt:i<l.length:=by omega
  simp only[sq]
  rw[dlt hlt,cond_true,if_pos (inR hlt),tnI i,aM i _ hlt (by omega),Ig k l hl d m (i+1) _ (by omega) (by omega),ak _ _ _ hlt,drop_eq_getElem_cons hlt,foldl_cons]
  rfl
theorem Q1 (k:Nat) (l:List Int) (hl:l.length<k) (h2:l.length≤1000000000):F78 k l=some ((l.foldl aK 1152921504606846976,()),()):=by
 unfold F78
 have e:=Ig k l h2 l.length k 0 1152921504606846976 (Nat.zero_add _) hl
 rw[show ((0:Nat):Int)=0 from rfl,drop_zero] at e
 rw[e,bind_some]
theorem JX (k:Nat) (hk:10≤k) (a b:Int) (ha:Cst a):F78 k [a,b]=some ((aK a b,()),()):=by
 rw[Q1 k _ (by simp; omega) (by simp),foldl_cons,foldl_cons,List.foldl_nil,JW ha]
theorem a1o (a b:Int):List.set (List.set (replicate 2 (0:Int)) 0 a) 1 b=[a,b]:=rfl
theorem eo (k n:Nat) (t5:Int) (t7:List Int) (t8 t9:Int) (acc:List Int) (ha:acc.length≤1000000000000) (j:Nat) (hj:j≤56):jJ k (n+1) t5 (j:Int) t7 t8 t9 acc=jJ k n t5 ((j:Int)-8) t7 t8 t9 (acc++[t5/(2:Int)^j%256]):=by
 have h1:min (Int.toNat (j:Int)) (IntKind.bits .i64)=j:=by
  rw[tnI j,show IntKind.bits .i64=64 from rfl]
  omega
 simp only[jJ]
 rw[decide_eq_true (by omega),cond_true,if_pos (by omega),bD,if_pos (by rw[length_singleton]; omega),w64 _ (by omega) (by omega),wu8,h1,Int.fdiv_eq_ediv_of_nonneg _ (Int.le_of_lt (Int.pow_pos (by decide)))]
 cases jJ k n t5 ((j:Int)-8) t7 t8 t9 (acc++[t5/(2:Int)^j%256])<;>rfl
theorem T8 (k n:Nat) (t5:Int) (t7:List Int) (t8 t9:Int) (acc:List Int) (ha:acc.length≤100000000000):jJ k (n+9) t5 56 t7 t8 t9 acc=some ((t7,t8,t9,()),(acc++be8 t5,())):=by
 rw[show (56:Int)=((56:Nat):Int) from rfl,eo k (n+8) t5 t7 t8 t9 acc (by omega) 56 (by decide)]
 rw[show ((56:Nat):Int)-8=((48:Nat):Int) from rfl,eo k (n+7) t5 t7 t8 t9 _ (by simp; omega) 48 (by decide)]
 rw[show ((48:Nat):Int)-8=((40:Nat):Int) from rfl,eo k (n+6) t5 t7 t8 t9 _ (by simp; omega) 40 (by decide)]
 rw[show ((40:Nat):Int)-8=((32:Nat):Int) from rfl,eo k (n+5) t5 t7 t8 t9 _ (by simp; omega) 32 (by decide)]
 rw[show ((32:Nat):Int)-8=((24:Nat):Int) from rfl,eo k (n+4) t5 t7 t8 t9 _ (by simp; omega) 24 (by decide)]
 rw[show ((24:Nat):Int)-8=((16:Nat):Int) from rfl,eo k (n+3) t5 t7 t8 t9 _ (by simp; omega) 16 (by decide)]
 rw[show ((16:Nat):Int)-8=((8:Nat):Int) from rfl,eo k (n+2) t5 t7 t8 t9 _ (by simp; omega) 8 (by decide)]
 rw[show ((8:Nat):Int)-8=((0:Nat):Int) from rfl,eo k (n+1) t5 t7 t8 t9 _ (by simp; omega) 0 (by decide)]
 simp only[jJ]
 rw[decide_eq_false (by omega),cond_false]
 simp only[append_assoc,List.singleton_append]
 rw[show (2:Int)^0=1 from rfl,Int.ediv_one]
 rfl
theorem Ih (k:Nat) (hk:10000000≤k) (l:List Int) (hl:l.length≤1000000000):∀(d m i:Nat) (acc:List Int),i+d=l.length→d<m→acc.length=8*i→sn k m l (l.length:Int) (i:Int) acc=some ((),(acc++(l.drop i).flatMap be8,()))
 |0,m,i,acc,hi,hm,ha=>by
  obtain ⟨m,rfl⟩:=aq (m:=m) (by omega)
  simp only[sn]
  rw[decide_eq_false (by omega),cond_false,drop_eq_nil_of_le (by omega)]
  simp
 |d+1,m,i,acc,hi,hm,ha=>by
  obtain ⟨m,rfl⟩:=aq (m:=m) (by omega)
  have hlt:i<l.length:=by omega
  obtain ⟨k',hk'⟩:∃k',k=k'+9:=⟨k-9,by omega⟩
  have e:=T8 k k' l[i] l (l.length:Int) (i:Int) acc (by omega)
  rw[←hk'] at e
  simp only[sn]
  rw[dlt hlt,cond_true,if_pos (inR hlt),tnI i,ak _ _ _ hlt,e,bind_some]
  simp only
  rw[aM i _ hlt (by omega),Ih k hk l hl d m (i+1) _ (by omega) (by omega) (by rw[length_append,tY]; omega),drop_eq_getElem_cons hlt,flatMap_cons,append_assoc]
  rfl
theorem iW:∀l:List Int,(l.flatMap be8).length=8*l.length
 | []=>rfl
 |x::l=>by rw[flatMap_cons,length_append,tY,iW l,length_cons]; omega
theorem a2o (k:Nat) (hk:10000000≤k) (l:List Int) (hl:l.length≤1000000):F77 k l=some ((lw (l.flatMap be8),()),()):=by
 have e:=Ih k hk l (by omega) l.length k 0 [] (Nat.zero_add _) (by omega) rfl
 rw[show ((0:Nat):Int)=0 from rfl,drop_zero,nil_append] at e
 unfold F77
 rw[e,bind_some]
 simp only
 rw[if_pos (by rw[iW]; omega)]
theorem a3o {x y:Int} (hx:0≤x∧x≤255) (hy:0≤y∧y≤255) (h:UInt8.ofNat x.toNat=UInt8.ofNat y.toNat):x=y:=by
 have:=congrArg UInt8.toNat h
 simp only[UInt8.toNat_ofNat'] at this
 omega
theorem Q2:∀ {a b:List Int},IsB a→IsB b→lw a=lw b→a=b:=by
 intro a b ha hb h
 unfold lw at h
 have h1:=congrArg (fun x=>x.data.toList) h
 simp only at h1
 have key:∀(a b:List Int),IsB a→IsB b→a.map (fun n=>UInt8.ofNat n.toNat)=b.map (fun n=>UInt8.ofNat n.toNat)→a=b:=by
  intro a
  induction a with
  |nil=>intro b _ _ h; cases b with
   |nil=>rfl
   |cons y b=>simp at h
  |cons x a ih=>intro b ha hb h; cases b with
   |nil=>simp at h
   |cons y b =>
    simp only[map_cons,List.cons.injEq] at h
    rw[a3o (ha x mem_cons_self) (hb y mem_cons_self) h.1,ih b (fun z hz=>ha z (mem_cons_of_mem _ hz)) (fun z hz=>hb z (mem_cons_of_mem _ hz)) h.2]
 exact key a b ha hb (by simpa using h1)
theorem Ii (l:List Int):IsB (l.flatMap be8):=fun x hx=>by
 obtain ⟨y,_,h⟩:=List.mem_flatMap.1 hx
 exact Wh y x h
theorem Ij:∀ {a b:List Int},(∀x∈a,I64 x)→(∀x∈b,I64 x)→a.flatMap be8=b.flatMap be8→a=b
 | [],[],_,_,_=>rfl
 | [],y::b,_,_,h=>by have:=congrArg length h; rw[iW,iW] at this; simp at this
 |x::a,[],_,_,h=>by have:=congrArg length h; rw[iW,iW] at this; simp at this
 |x::a,y::b,ha,hb,h=>by
  rw[flatMap_cons,flatMap_cons] at h
  obtain ⟨e1,e2⟩:=List.append_inj h (by rw[tY,tY])
  have e3:x=y:=by rw[←G6 x (ha x mem_cons_self),e1,G6 y (hb y mem_cons_self)]
  rw[e3,Ij (fun z hz=>ha z (mem_cons_of_mem _ hz)) (fun z hz=>hb z (mem_cons_of_mem _ hz)) e2]
abbrev bI:=List (List Int)
def ShW (ss:List ag) (R:bI):Prop:=R.map length=ss.map (·.1.length)∧∀r∈R,bN r
abbrev be (R:bI):List Int:=R.flatten
theorem jr {ss:List ag} {R:bI} (h:ShW ss R):(be R).length=tot ss:=by
 unfold be tot
 rw[List.length_flatten,h.1]
theorem CC:∀ {ss:List ag} {A B:bI},A.map length=ss.map (·.1.length)→B.map length=ss.map (·.1.length)→A.flatten=B.flatten→A=B
 | [],[],[],_,_,_=>rfl
 | [],_::_,_,h,_,_=>by simp at h
 | [],[],_::_,_,h,_=>by simp at h
 |_::_,[],_,h,_,_=>by simp at h
 |_::_,_::_,[],_,h,_=>by simp at h
 |s::ss,a::A,b::B,h1,h2,h=>by
  simp only[map_cons,List.cons.injEq] at h1 h2
  simp only[flatten_cons] at h
  obtain ⟨e1,e2⟩:=List.append_inj h (by omega)
  rw[e1,CC (ss:=ss) h1.2 h2.2 e2]
def eR (R:bI):ByteArray:=lw ((be R).flatMap be8)
theorem CD {ss:List ag} {R:bI} (h:ShW ss R):∀x∈be R,I64 x:=fun x hx=>by
 obtain ⟨r,hr,hx⟩:=List.mem_flatten.1 hx
 have:=h.2 r hr x hx
 unfold Cst at this
 unfold I64
 omega
theorem T9 {ss:List ag} {A B:bI} (h1:ShW ss A) (h2:ShW ss B) (h:eR A=eR B):A=B :=
 CC h1.1 h2.1 (Ij (CD h1) (CD h2) (Q2 (Ii _) (Ii _) h))
abbrev MkW:=(((Option (List (ByteArray×Int)))×((List (List Int))×Unit))×((List ag)×((List (List Bool))×Unit)))
abbrev mkw (mp:List (ByteArray×Int)) (ss:List ag) (I:InT) (l:List bI):MkW:=((some mp,(l.map be,())),(ss,(I,())))
theorem Q3 (k:Nat) (hk:10000000≤k) (ss:List ag) (I:InT) (l:List bI) (x:bI) (hl:l.length≤1000000000) (hs:∀y∈l,ShW ss y) (hx:ShW ss x) (ht:tot ss≤1000000) :
  F48 k (mkw (eQ 0 (l.map eR)) ss I l) (be x)=some ((((ix l x:Nat):Int),()),(mkw (eQ 0 ((bH l x).map eR)) ss I (bH l x),())):=by
 have hinj:∀y∈l,eR y=eR x→y=x:=fun y hy e=>T9 (hs y hy) hx e
 have hmem:eR x∈l.map eR↔x∈l:=by
  constructor
  ·intro hm
   obtain ⟨y,hy,e⟩:=List.mem_map.1 hm
   rw[←hinj y hy e]
   exact hy
  ·exact fun hm=>List.mem_map.2 ⟨x,hm,rfl⟩
 unfold F48
 rw[a2o k hk _ (by rw[jr hx]; exact ht),bind_some]
 simp only[getD_some,isSome_some,if_true]
 rw[show lw ((be x).flatMap be8)=eR x from rfl]
 by_cases hx':x∈l
 ·rw[T7 (hmem.2 hx'),Bool.not_true,cond_false,QU eR l x hinj,mo hx']
 ·have hp:=HZ (eR x) (l.map eR) 0 fun q=>hx' (hmem.1 q)
  rw[Nat.zero_add,length_map] at hp
  rw[Wx fun q=>hx' (hmem.1 q),Bool.not_false,cond_true,length_map,hp,if_pos (by rw[length_singleton]; omega),mr hx',ll hx']
  simp only[mkw,map_append]
  rfl
theorem Ik (k:Nat) (n:Nat) (hn:n≤100000000):∀(d m i:Nat),i+d=n→d<m→sm k m (n:Int) (i:Int) (replicate i bw++replicate d 0)=some ((),(replicate n bw,()))
 |0,m,i,hi,hm=>by
  obtain ⟨m,rfl⟩:=aq (m:=m) (by omega)
  simp only[sm]
  rw[decide_eq_false (by omega),cond_false,show i=n by omega]
  simp
 |d+1,m,i,hi,hm=>by
  obtain ⟨m,rfl⟩:=aq (m:=m) (by omega)
  have hlt:i<n:=by omega
  have hs:List.set (replicate i bw++replicate (d+1) 0) i (1152921504606846976:Int)=replicate (i+1) bw++replicate d 0:=by
   rw[List.set_append_right _ _ (by simp),length_replicate,Nat.sub_self,List.replicate_succ,List.set_cons_zero,List.replicate_succ',append_assoc]
   rfl
  simp only[sm]
  rw[dlt hlt,cond_true,if_pos (by simp; omega),tnI i,hs,aM i _ hlt (by omega),Ik k n hn d m (i+1) (by omega) (by omega)]
  rfl
theorem Q4 (k:Nat) (n:Nat) (hn:n<k) (h2:n≤1000000):F49 k (n:Int)=some ((replicate n bw,()),()):=by
 have e:=Ik k n (by omega) n k 0 (Nat.zero_add _) hn
 rw[show ((0:Nat):Int)=0 from rfl,List.replicate_zero,nil_append] at e
 unfold F49
 rw[if_pos (by omega),tnI n]
 simp only
 rw[length_replicate,e,bind_some]
theorem Il (k:Nat) (ss:List ag) (hn:ss.length≤1000000) (ht:tot ss≤100000000):∀(d m i:Nat),i+d=ss.length→d<m →
  sk k m ((tot (ss.take i):Nat):Int) ss (ss.length:Int) (i:Int)=some ((((tot ss:Nat):Int),()),())
 |0,m,i,hi,hm=>by
  obtain ⟨m,rfl⟩:=aq (m:=m) (by omega)
  simp only[sk]
  rw[decide_eq_false (by omega),cond_false,take_of_length_le (by omega)]
 |d+1,m,i,hi,hm=>by
  obtain ⟨m,rfl⟩:=aq (m:=m) (by omega)
  have hlt:i<ss.length:=by omega
  have htk:tot (ss.take (i+1))=tot (ss.take i)+ss[i].1.length:=by
   rw[take_succ_eq_append_getElem hlt,jW]
   simp[tot]
  have htot:tot ss=tot (ss.take (i+1))+tot (ss.drop (i+1)):=by rw[←jW,take_append_drop]
  simp only[sk]
  rw[dlt hlt,cond_true,if_pos (inR hlt),tnI i,ak _ _ _ hlt,nI _ _ (by omega),←htk,aM i _ hlt (by omega),Il k ss hn ht d m (i+1) (by omega) (by omega)]
  rfl
theorem a4o (k:Nat) (hk:10000000≤k) (ss:List ag) (hn:ss.length≤1000000) (ht:tot ss≤100000000):F50 k ss=some ((((tot ss:Nat):Int),()),()):=by
 have e:=Il k ss hn ht ss.length k 0 (Nat.zero_add _) (by omega)
 rw[show ((0:Nat):Int)=0 from rfl,take_zero,show ((tot ([]:List ag):Nat):Int)=0 from rfl] at e
 unfold F50
 rw[e,bind_some]
end Go.Proofs.YtgmmopbpldgpcaaE
set_option linter.unusedSimpArgs false
set_option linter.unusedVariables false
set_option maxRecDepth 20000
namespace Go.Proofs.YtgmmopbpldgpcaaE
structure SOC (s:ag):Prop where
 ok:SOK s
 cf:bN s.2.1
 ce:bN s.2.2.1
 cn:Cst s.2.2.2.2.1
 ca:∀x∈s.2.2.2.1,Cst x.2.2.1
def gc (r:List Int) (l:List Int) (x:aF):List Int:=List.set l x.2.1.toNat (aK (getD l x.2.1.toNat 0) (adI (getD r x.1.toNat 0) x.2.2.1))
def rD (s:ag) (r:List Int):List Int:=s.2.2.2.1.foldl (gc r) s.2.1
def cP (I:InT) (s:ag) (a i:Nat) (l:List Int):List Int:=(List.range l.length).map fun p=>if p<i∧ofP I s p a=false then bw else getD l p 0
def dI (I:InT) (s:ag) (a:Nat) (r:List Int):List Int:=cP I s a s.1.length (rD s r)
theorem nU (r l:List Int) (x:aF):(gc r l x).length=l.length:=length_set
theorem CE (r:List Int):∀(xs:List aF) (l:List Int),(xs.foldl (gc r) l).length=l.length
 | [],l=>rfl
 |x::xs,l=>by rw[foldl_cons,CE r xs,nU]
theorem lq (I:InT) (s:ag) (a i:Nat) (l:List Int):(cP I s a i l).length=l.length:=by simp[cP]
theorem WB (I:InT) (s:ag) (a:Nat) (l:List Int):cP I s a 0 l=l:=by
 refine ext_getElem (by simp[cP]) fun i h1 h2=>?_
 simp only[cP,getElem_map,getElem_range]
 rw[if_neg (by omega),ak _ _ _ h2]
theorem Ua {I:InT} {s:ag} {a i:Nat} {l:List Int} (h:ofP I s i a=true):cP I s a (i+1) l=cP I s a i l:=by
 refine ext_getElem (by simp[cP]) fun j h1 h2=>?_
 simp only[cP,getElem_map,getElem_range]
 by_cases e:j=i
 ·subst e; rw[h]; simp
 ·have:j<i+1∧ofP I s j a=false↔j<i∧ofP I s j a=false:=by constructor<;>exact fun ⟨q,w⟩=>⟨by omega,w⟩
  simp only[this]
theorem Q5 {I:InT} {s:ag} {a i:Nat} {l:List Int} (hi:i<l.length) (h:ofP I s i a=false):List.set (cP I s a i l) i bw=cP I s a (i+1) l:=by
 refine ext_getElem (by simp[cP]) fun j h1 h2=>?_
 rw[List.getElem_set]
 simp only[cP,getElem_map,getElem_range]
 by_cases e:i=j
 ·subst e; rw[if_pos rfl,if_pos ⟨by omega,h⟩]
 ·have:j<i+1∧ofP I s j a=false↔j<i∧ofP I s j a=false:=by constructor<;>exact fun ⟨q,w⟩=>⟨by omega,w⟩
  rw[if_neg e]
  simp only[this]
theorem Im {l:List Int} (h:bN l) {x:Int} (hx:Cst x) (i:Nat):bN (List.set l i x):=fun y hy=>by
 rcases List.mem_or_eq_of_mem_set hy with q | q
 ·exact h y q
 ·rw[q]; exact hx
theorem bk {l:List Int} (h:bN l) (i:Nat):Cst (getD l i 0):=by
 by_cases hi:i<l.length
 ·exact h.at_ hi
 ·rw[getD_eq_getElem?_getD,List.getElem?_eq_none (by omega)]
  exact ⟨Int.le_refl _,by decide⟩
theorem In {r l:List Int} {x:aF} (hr:bN r) (hl:bN l) (hx:Cst x.2.2.1):bN (gc r l x):=Im hl (B0 (bk hl _) (kC (bk hr _) hx)) _
theorem CF {r:List Int} (hr:bN r):∀(xs:List aF) (l:List Int),bN l→(∀x∈xs,Cst x.2.2.1)→bN (xs.foldl (gc r) l)
 | [],l,hl,_=>hl
 |x::xs,l,hl,h=>by
  rw[foldl_cons]
  exact CF hr xs _ (In hr hl (h x mem_cons_self)) fun y hy=>h y (mem_cons_of_mem _ hy)
theorem Q6 {I:InT} {s:ag} {a i:Nat} {l:List Int} (hl:bN l):bN (cP I s a i l):=fun x hx=>by
 obtain ⟨p,_,e⟩:=List.mem_map.1 hx
 rw[←e]
 split
 ·exact BZ
 ·exact bk hl _
theorem vF {s:ag} (hs:SOK s) (r:List Int):(rD s r).length=s.1.length:=by
 unfold rD
 rw[CE,hs.lf]
theorem Ub {s:ag} (hs:SOC s) {r:List Int} (hr:bN r):bN (rD s r):=CF hr _ _ hs.cf hs.ca
theorem rE {I:InT} {s:ag} (hs:SOK s) (a:Nat) (r:List Int):(dI I s a r).length=s.1.length:=by
 unfold dI
 rw[lq,vF hs]
theorem CG {I:InT} {s:ag} (hs:SOC s) {a:Nat} {r:List Int} (hr:bN r):bN (dI I s a r):=Q6 (Ub hs hr)
def a7 (I:InT) (ss:List ag) (R:bI) (a:Nat):bI:=zipWith (fun s r=>dI I s a r) ss R
theorem fN {I:InT} {a:Nat}:∀ {ss:List ag} {R:bI},(∀s∈ss,SOC s)→ShW ss R→ShW ss (a7 I ss R a)
 | [],[],_,h=>h
 | [],_::_,_,h=>by have:=h.1; simp at this
 |_::_,[],_,h=>by have:=h.1; simp at this
 |s::ss,r::R,hs,h=>by
  obtain ⟨h1,h2⟩:=h
  simp only[map_cons,List.cons.injEq] at h1
  obtain ⟨g1,g2⟩:=fN (I:=I) (a:=a) (ss:=ss) (R:=R) (fun x hx=>hs x (mem_cons_of_mem _ hx)) ⟨h1.2,fun x hx=>h2 x (mem_cons_of_mem _ hx)⟩
  have hs0:=hs s mem_cons_self
  refine ⟨?_,fun x hx=>?_⟩
  ·show List.map length (dI I s a r::a7 I ss R a)=_
   rw[map_cons,map_cons,g1,rE hs0.ok]
  ·rcases List.mem_cons.1 hx with q | q
   ·rw[q]; exact CG hs0 (h2 r mem_cons_self)
   ·exact g2 x q
section
variable (k:Nat) (s:ag) (I:InT) (a:Nat)
theorem a5o (st:(Option (List (ByteArray×Int)))×((List (List Int))×Unit)) (ms:List ag) (p:Nat) (hp:p<s.1.length):F80 k (some (st,(ms,(I,())))) s (p:Int) (a:Int)=some ((ofP I s p a,()),()):=by
 unfold F80 ofP
 rw[if_pos (inR hp),tnI p]
 simp only[getD_some,isSome_some,if_true]
 by_cases h:getD s.1 p 0<0
 ·rw[decide_eq_true h,cond_true,Bool.true_or]
 ·rw[decide_eq_false h,cond_false,Bool.false_or]
  generalize hv:getD s.1 p 0=v at h ⊢
  by_cases h2:v<((length I:Nat):Int)
  ·rw[decide_eq_true h2,cond_true,if_pos ⟨by omega,h2⟩]
   by_cases h3:(a:Int)<((length (getD I v.toNat []):Nat):Int)
   ·rw[decide_eq_true h3,cond_true,if_pos ⟨by omega,h2⟩,if_pos ⟨by omega,h3⟩]
    rfl
   ·rw[decide_eq_false h3,cond_false]
    have:getD (getD I v.toNat []) a false=false:=by
     rw[getD_eq_getElem?_getD,List.getElem?_eq_none (by omega)]; rfl
    rw[this]
  ·rw[decide_eq_false h2,cond_false]
   have:getD I v.toNat []=[]:=by
    rw[getD_eq_getElem?_getD,List.getElem?_eq_none (by omega)]; rfl
   rw[this]
   rfl
theorem CH (b post:List Int):∀(vs pre c:List Int),vs.length=c.length→mF (pre++(c++post)) pre.length vs=pre++(vs++post)
 | [],pre,c,h=>by
  cases c with
  |nil=>rfl
  |cons x c=>simp at h
 |v::vs,pre,[],h=>by simp at h
 |v::vs,pre,x::c,h=>by
  have ih:=CH b post vs (pre++[v]) c (by simpa using h)
  rw[length_append,length_singleton,append_assoc,append_assoc] at ih
  rw[mF,List.set_append_right _ _ (Nat.le_refl _),Nat.sub_self,List.cons_append,List.set_cons_zero]
  exact ih
theorem Q7 (vs pre c post:List Int) (h:vs.length=c.length) (n:Nat) (hn:vs.length≤n):mG (pre++(c++post)) pre.length n vs=pre++(vs++post):=by
 unfold mG
 rw[take_of_length_le hn]
 exact CH [] post vs pre c h
theorem Io (hk:10000000≤k) (hs:SOC s) (M:Option MkW) (r:List Int) (hr:r.length=s.1.length) (hrc:bN r) (t2:Int) (t20:List ag) (t21 t22:Int) (preB postB pre post:List Int) (hp:preB.length=pre.length) (hb:pre.length+s.1.length≤1000000000000):∀(d m i:Nat) (row:List Int),i+d=s.2.2.2.1.length→d<m→row.length=s.1.length→bN row →
  sr k m M (preB++(r++postB)) t2 (pre.length:Int) t20 t21 t22 s.2.2.2.1 (s.2.2.2.1.length:Int) (i:Int) s (pre++(row++post)) =
   some ((M,preB++(r++postB),t2,(pre.length:Int),t20,t21,t22,()),(s,pre++((s.2.2.2.1.drop i).foldl (gc r) row++post),()))
 |0,m,i,row,hi,hm,hrow,hc=>by
  obtain ⟨m,rfl⟩:=aq (m:=m) (by omega)
  simp only[sr]
  rw[decide_eq_false (by omega),cond_false,drop_eq_nil_of_le (by omega)]
  rfl
 |d+1,m,i,row,hi,hm,hrow,hc=>by
  obtain ⟨m,rfl⟩:=aq (m:=m) (by omega)
  have hlt:i<s.2.2.2.1.length:=by omega
  have hla:=hs.ok.la
  have hln:=hs.ok.ln
  obtain ⟨⟨f0,f1⟩,g0,g1⟩:=hs.ok.arcs _ (getElem_mem hlt)
  have hx:=hs.ca _ (getElem_mem hlt)
  have ih:=fun row' hrow' hc'=>Io hk hs M r hr hrc t2 t20 t21 t22 preB postB pre post hp hb d m (i+1) row' (by omega) (by omega) hrow' hc'
  have hdrop:s.2.2.2.1.drop i=s.2.2.2.1[i]::s.2.2.2.1.drop (i+1):=drop_eq_getElem_cons hlt
  rw[hdrop,foldl_cons]
  simp only[sr]
  rw[dlt hlt,cond_true,if_pos (inR hlt),tnI i,aM i _ hlt (by omega),ak _ _ _ hlt]
  generalize s.2.2.2.1[i]=x at f0 f1 g0 g1 hx ⊢
  obtain ⟨x1,hx1⟩:∃n:Nat,x.1=(n:Int):=⟨x.1.toNat,by omega⟩
  obtain ⟨x2,hx2⟩:∃n:Nat,x.2.1=(n:Int):=⟨x.2.1.toNat,by omega⟩
  have n1:x1<s.1.length:=by omega
  have n2:x2<s.1.length:=by omega
  have hin1:0≤((pre.length+x1:Nat):Int)∧((pre.length+x1:Nat):Int)<((length (preB++(r++postB)):Nat):Int):=by
   simp only[length_append]
   omega
  have hin2:0≤((pre.length+x2:Nat):Int)∧((pre.length+x2:Nat):Int)<((length (pre++(row++post)):Nat):Int):=by
   simp only[length_append]
   omega
  have harc:gc r row x=List.set row x2 (aK (getD row x2 0) (adI (getD r x1 0) x.2.2.1)):=by
   unfold gc
   rw[hx1,hx2]
   rfl
  have h1:getD (preB++(r++postB)) (pre.length+x1) 0=getD r x1 0:=by rw[←hp,vA _ _ _ _ _ (by omega)]
  rw[hx1,hx2,nI _ _ (by omega),nI _ _ (by omega),if_pos hin2,if_pos hin1,tnI (pre.length+x1),tnI (pre.length+x2),h1,If k _ _ (bk hrc _) hx,bind_some]
  simp only
  rw[vA _ _ _ _ _ (by omega),a1o,JX k (by omega) _ _ (bk hc _),bind_some]
  simp only
  rw[if_pos hin2,JU _ _ _ _ _ (by omega),←harc,ih _ (by rw[nU]; exact hrow) (In hrc hc hx)]
  rfl
theorem Ip (hs:SOK s) (st:(Option (List (ByteArray×Int)))×((List (List Int))×Unit)) (ms:List ag) (t1:List Int) (t20:List ag) (t21 t22:Int) (pre post:List Int) (hb:pre.length+s.1.length≤1000000000000) (row:List Int) (hrow:row.length=s.1.length):∀(d m i:Nat),i+d=s.1.length→d<m →
  mP k m (some (st,(ms,(I,())))) t1 (a:Int) (pre.length:Int) t20 t21 t22 (s.1.length:Int) (i:Int) s (pre++(cP I s a i row++post)) =
   some ((some (st,(ms,(I,()))),t1,(a:Int),(pre.length:Int),t20,t21,t22,()),(s,pre++(cP I s a s.1.length row++post),()))
 |0,m,i,hi,hm=>by
  obtain ⟨m,rfl⟩:=aq (m:=m) (by omega)
  have:i=s.1.length:=by omega
  subst this
  simp only[mP]
  rw[decide_eq_false (by omega),cond_false]
 |d+1,m,i,hi,hm=>by
  obtain ⟨m,rfl⟩:=aq (m:=m) (by omega)
  have hlt:i<s.1.length:=by omega
  have hln:=hs.ln
  have ih:=Ip hs st ms t1 t20 t21 t22 pre post hb row hrow d m (i+1) (by omega) (by omega)
  simp only[mP]
  rw[dlt hlt,cond_true,a5o k s I a st ms i hlt,bind_some,aM i _ hlt (by omega)]
  simp only
  cases ho:ofP I s i a with
  |false =>
   have hin:0≤((pre.length+i:Nat):Int)∧((pre.length+i:Nat):Int)<((length (pre++(cP I s a i row++post)):Nat):Int):=by
    simp only[length_append,lq]
    omega
   rw[Bool.not_false,cond_true,nI _ _ (by omega),if_pos hin,tnI (pre.length+i),JU _ _ _ _ _ (by rw[lq]; omega),show List.set (cP I s a i row) i (1152921504606846976:Int)=_ from Q5 (by omega) ho,ih]
   rfl
  |true =>
   rw[Bool.not_true,cond_false,←Ua ho,ih]
   rfl
end
theorem Iq (k:Nat) (st:(Option (List (ByteArray×Int)))×((List (List Int))×Unit)) (I:InT) (ss:List ag) (a:Nat) (R:bI) (hk:10000000≤k) (hs:∀s∈ss,SOC s) (hR:ShW ss R) (hn:ss.length≤1000000) (ht:tot ss≤100000000):∀(d m i:Nat) (D:bI),i+d=ss.length→d<m→ShW (ss.take i) D →
  su k m (some (st,(ss,(I,())))) (be R) (a:Int) ((tot (ss.take i):Nat):Int) ss (ss.length:Int) (i:Int) (be D++replicate (tot (ss.drop i)) bw)=some ((),(be (D++a7 I (ss.drop i) (R.drop i) a),()))
 |0,m,i,D,hi,hm,hD=>by
  obtain ⟨m,rfl⟩:=aq (m:=m) (by omega)
  simp only[su]
  rw[decide_eq_false (by omega),cond_false,drop_eq_nil_of_le (by omega:ss.length≤i)]
  simp[tot,a7]
 |d+1,m,i,D,hi,hm,hD=>by
  obtain ⟨m,rfl⟩:=aq (m:=m) (by omega)
  have hlt:i<ss.length:=by omega
  have hlL:R.length=ss.length:=by have:=congrArg length hR.1; simpa using this
  have hlt2:i<R.length:=by omega
  have hss:ss.drop i=ss[i]::ss.drop (i+1):=drop_eq_getElem_cons hlt
  have hLL:R.drop i=R[i]::R.drop (i+1):=drop_eq_getElem_cons hlt2
  have hso:=hs _ (getElem_mem hlt)
  have hrl:R[i].length=ss[i].1.length:=by
   have:=congrArg (fun l=>l[i]?) hR.1
   simpa[getElem?_map,hlt,hlt2] using this
  have hrc:=hR.2 _ (getElem_mem hlt2)
  have htk:tot (ss.take (i+1))=tot (ss.take i)+ss[i].1.length:=by
   rw[take_succ_eq_append_getElem hlt,jW]
   simp[tot]
  have htd:tot (ss.drop i)=ss[i].1.length+tot (ss.drop (i+1)):=by rw[hss,nJ]
  have htot:tot ss=tot (ss.take i)+tot (ss.drop i):=by rw[←jW,take_append_drop]
  have hLsplit:be R=be (R.take i)++(R[i]++be (R.drop (i+1))):=by
   have h0:R=R.take i++(R[i]::R.drop (i+1)):=by rw[←hLL,take_append_drop]
   calc be R=be (R.take i++(R[i]::R.drop (i+1))):=congrArg be h0
    _=_:=by
     show (R.take i++(R[i]::R.drop (i+1))).flatten=_
     rw[List.flatten_append,flatten_cons]
  have hLt:ShW (ss.take i) (R.take i):=⟨by rw[map_take,map_take,hR.1],fun r hr=>hR.2 r (List.mem_of_mem_take hr)⟩
  have hpl:(be (R.take i)).length=tot (ss.take i):=jr hLt
  have hDl:(be D).length=tot (ss.take i):=jr hD
  have hrep:replicate (tot (ss.drop i)) bw=replicate ss[i].1.length bw++replicate (tot (ss.drop (i+1))) bw:=by
   rw[htd,←List.replicate_append_replicate]
  have hln:=hso.ok.ln
  have hla:=hso.ok.la
  have hlf:=hso.ok.lf
  have hcp:=Q7 ss[i].2.1 (be D) (replicate ss[i].1.length bw) (replicate (tot (ss.drop (i+1))) bw) (by rw[length_replicate]; omega) (Int.toNat ((length (be D++(replicate ss[i].1.length bw++replicate (tot (ss.drop (i+1))) bw)):Nat):Int)-(be D).length) (by rw[tnI,length_append,length_append,length_replicate]; omega)
  have e0:=Io k ss[i] hk hso (some (st,(ss,(I,())))) R[i] hrl hrc (a:Int) ss (ss.length:Int) (i:Int) (be (R.take i)) (be (R.drop (i+1))) (be D) (replicate (tot (ss.drop (i+1))) bw) (by omega) (by omega) ss[i].2.2.2.1.length k 0 ss[i].2.1 (Nat.zero_add _) (by omega) (by omega) hso.cf
  have e1:=Ip k ss[i] I a hso.ok st ss (be R) ss (ss.length:Int) (i:Int) (be D) (replicate (tot (ss.drop (i+1))) bw) (by omega) (rD ss[i] R[i]) (vF hso.ok _) ss[i].1.length k 0 (Nat.zero_add _) (by omega)
  rw[show ((0:Nat):Int)=0 from rfl,WB] at e1
  rw[show ((0:Nat):Int)=0 from rfl,drop_zero,←hLsplit] at e0
  have ih:=Iq k st I ss a R hk hs hR hn ht d m (i+1) (D++[dI I ss[i] a R[i]]) (by omega) (by omega) (by
   refine ⟨?_,fun r hr=>?_⟩
   ·rw[take_succ_eq_append_getElem hlt,map_append,map_append,hD.1]
    simp[rE hso.ok]
   ·rcases List.mem_append.1 hr with q | q
    ·exact hD.2 r q
    ·rw[List.mem_singleton.1 q]; exact CG hso hrc)
  have hfl:be D++(cP I ss[i] a ss[i].1.length (rD ss[i] R[i])++replicate (tot (ss.drop (i+1))) bw)=be (D++[dI I ss[i] a R[i]])++replicate (tot (ss.drop (i+1))) bw:=by
   simp[be,dI]
  have hst:a7 I (ss.drop i) (R.drop i) a=dI I ss[i] a R[i]::a7 I (ss.drop (i+1)) (R.drop (i+1)) a:=by
   rw[hss,hLL]
   rfl
  simp only[su]
  rw[dlt hlt,cond_true,if_pos (inR hlt),tnI i,ak _ _ _ hlt,hrep,←hDl,if_pos (by simp only[length_append]; omega),tnI (be D).length,hcp,e0,bind_some]
  simp only
  rw[show (ss[i].2.2.2.1).foldl (gc R[i]) ss[i].2.1=rD ss[i] R[i] from rfl,e1,bind_some]
  simp only
  rw[hDl,nI _ _ (by omega),←htk,aM i _ hlt (by omega),hfl,ih,hst,append_assoc]
  rfl
theorem a6o (k:Nat) (st:(Option (List (ByteArray×Int)))×((List (List Int))×Unit)) (I:InT) (ss:List ag) (a:Nat) (R:bI) (hk:10000000≤k) (hs:∀s∈ss,SOC s) (hR:ShW ss R) (hn:ss.length≤1000000) (ht:tot ss≤1000000) :
  F51 k (some (st,(ss,(I,())))) (be R) (a:Int)=some ((be (a7 I ss R a),()),()):=by
 have hfl:=jr hR
 have e:=Iq k st I ss a R hk hs hR hn (by omega) ss.length k 0 [] (Nat.zero_add _) (by omega) ⟨rfl,fun r hr=>by cases hr⟩
 rw[show ((0:Nat):Int)=0 from rfl,take_zero,drop_zero,drop_zero,nil_append,show ((tot ([]:List ag):Nat):Int)=0 from rfl,show be []=[] from rfl,nil_append] at e
 unfold F51
 rw[hfl,Q4 k _ (by omega) ht,bind_some]
 simp only[isSome_some,if_true,getD_some]
 rw[e,bind_some]
end Go.Proofs.YtgmmopbpldgpcaaE
set_option linter.unusedSimpArgs false
set_option linter.unusedVariables false
set_option maxRecDepth 20000
namespace Go.Proofs.YtgmmopbpldgpcaaE
section
variable (k:Nat) (I:InT) (N:Nat) (ss:List ag) (a:Nat) (R:bI)
end
def lL (s:ag) (r:List Int):Int:=(zipWith adI r s.2.2.1).foldl aK s.2.2.2.2.1
def er (ss:List ag) (R:bI):List Int:=zipWith lL ss R
theorem og:∀(l:List Int) (c:Int),Cst c→bN l→Cst (l.foldl aK c)
 | [],c,h,_=>h
 |x::l,c,h,hl=>og l _ (B0 h (hl x mem_cons_self)) fun y hy=>hl y (mem_cons_of_mem _ hy)
theorem CI:∀ {a b:List Int},bN a→bN b→bN (zipWith adI a b)
 | [],_,_,_=>fun x hx=>by simp at hx
 |_::_,[],_,_=>fun x hx=>by simp at hx
 |x::a,y::b,ha,hb=>fun z hz=>by
  rw[List.zipWith_cons_cons] at hz
  rcases List.mem_cons.1 hz with q | q
  ·rw[q]; exact kC (ha x mem_cons_self) (hb y mem_cons_self)
  ·exact CI (fun z hz=>ha z (mem_cons_of_mem _ hz)) (fun z hz=>hb z (mem_cons_of_mem _ hz)) z q
theorem Uc {s:ag} (hs:SOC s) {r:List Int} (hr:bN r):Cst (lL s r):=og _ _ hs.cn (CI hr hs.ce)
theorem rF {ss:List ag} {R:bI} (h:ShW ss R):(er ss R).length=ss.length:=by
 have hlL:R.length=ss.length:=by have:=congrArg length h.1; simpa using this
 simp[er,hlL]
theorem Ud {f:Int→Int→Int} {a b:List Int} {i:Nat} (h1:i<a.length) (h2:i<b.length):(zipWith f a b).drop i=f a[i] b[i]::(zipWith f a b).drop (i+1):=by
 rw[drop_eq_getElem_cons (by rw[List.length_zipWith]; omega),List.getElem_zipWith]
theorem Ir (k:Nat) (s:ag) (hs:SOC s) (r:List Int) (hr:r.length=s.1.length) (hrc:bN r) (t15:List ag) (t16 t17:Int) (pre post:List Int) (D:List Int) (hb:pre.length+s.1.length≤1000000000000):∀(d m i:Nat) (acc:List Int),i+d=s.1.length→d<m→acc.length=i+1 →
  sw k m (pre++(r++post)) (pre.length:Int) t15 t16 t17 s.2.2.1 (s.2.2.1.length:Int) (i:Int) s D acc=some ((pre++(r++post),(pre.length:Int),t15,t16,t17,()),(s,D,acc++(zipWith adI r s.2.2.1).drop i,()))
 |0,m,i,acc,hi,hm,ha=>by
  obtain ⟨m,rfl⟩:=aq (m:=m) (by omega)
  have hle:=hs.ok.le
  simp only[sw]
  rw[decide_eq_false (by omega),cond_false,drop_eq_nil_of_le (by rw[List.length_zipWith]; omega),append_nil]
 |d+1,m,i,acc,hi,hm,ha=>by
  obtain ⟨m,rfl⟩:=aq (m:=m) (by omega)
  have hle:=hs.ok.le
  have hln:=hs.ok.ln
  have hlt:i<s.1.length:=by omega
  have hlt1:i<r.length:=by omega
  have hlt2:i<s.2.2.1.length:=by omega
  have hin:0≤((pre.length+i:Nat):Int)∧((pre.length+i:Nat):Int)<((length (pre++(r++post)):Nat):Int):=by
   simp only[length_append]
   omega
  simp only[sw]
  rw[dlt hlt2,cond_true,if_pos (inR hlt2),nI _ _ (by omega),if_pos hin,tnI (pre.length+i),tnI i,vA _ _ _ _ _ hlt1,If k _ _ (bk hrc _) (bk hs.ce _),bind_some]
  simp only
  rw[bD,if_pos (by rw[length_singleton]; omega),aM i _ hlt (by omega),Ir k s hs r hr hrc t15 t16 t17 pre post D hb d m (i+1) _ (by omega) (by omega) (by simp[ha]),Ud hlt1 hlt2,ak _ _ _ hlt1,ak _ _ _ hlt2,append_assoc]
  rfl
theorem Is (k:Nat) (ss:List ag) (R:bI) (hk:10000000≤k) (hs:∀s∈ss,SOC s) (hR:ShW ss R) (hn:ss.length≤1000000) (ht:tot ss≤100000000):∀(d m i:Nat) (D:List Int),i+d=ss.length→d<m→D.length=i →
  sx k m (be R) ((tot (ss.take i):Nat):Int) ss (ss.length:Int) (i:Int) D=some ((),(D++er (ss.drop i) (R.drop i),()))
 |0,m,i,D,hi,hm,hD=>by
  obtain ⟨m,rfl⟩:=aq (m:=m) (by omega)
  simp only[sx]
  rw[decide_eq_false (by omega),cond_false,drop_eq_nil_of_le (by omega:ss.length≤i)]
  simp[er]
 |d+1,m,i,D,hi,hm,hD=>by
  obtain ⟨m,rfl⟩:=aq (m:=m) (by omega)
  have hlt:i<ss.length:=by omega
  have hlL:R.length=ss.length:=by have:=congrArg length hR.1; simpa using this
  have hlt2:i<R.length:=by omega
  have hso:=hs _ (getElem_mem hlt)
  have hrl:R[i].length=ss[i].1.length:=by
   have:=congrArg (fun l=>l[i]?) hR.1
   simpa[getElem?_map,hlt,hlt2] using this
  have hrc:=hR.2 _ (getElem_mem hlt2)
  have htk:tot (ss.take (i+1))=tot (ss.take i)+ss[i].1.length:=by
   rw[take_succ_eq_append_getElem hlt,jW]
   simp[tot]
  have htot:tot ss=tot (ss.take i)+tot (ss.drop i):=by rw[←jW,take_append_drop]
  have htd:tot (ss.drop i)=ss[i].1.length+tot (ss.drop (i+1)):=by rw[drop_eq_getElem_cons hlt,nJ]
  have hLsplit:be R=be (R.take i)++(R[i]++be (R.drop (i+1))):=by
   have h0:R=R.take i++(R[i]::R.drop (i+1)):=by rw[←drop_eq_getElem_cons hlt2,take_append_drop]
   calc be R=be (R.take i++(R[i]::R.drop (i+1))):=congrArg be h0
    _=_:=by
     show (R.take i++(R[i]::R.drop (i+1))).flatten=_
     rw[List.flatten_append,flatten_cons]
  have hLt:ShW (ss.take i) (R.take i):=⟨by rw[map_take,map_take,hR.1],fun r hr=>hR.2 r (List.mem_of_mem_take hr)⟩
  have hpl:(be (R.take i)).length=tot (ss.take i):=jr hLt
  have hln:=hso.ok.ln
  have hle:=hso.ok.le
  have e0:=Ir k ss[i] hso R[i] hrl hrc ss (ss.length:Int) (i:Int) (be (R.take i)) (be (R.drop (i+1))) D (by omega) ss[i].1.length k 0 [ss[i].2.2.2.2.1] (Nat.zero_add _) (by omega) rfl
  rw[show ((0:Nat):Int)=0 from rfl,drop_zero,←hLsplit,hpl] at e0
  have ih:=Is k ss R hk hs hR hn ht d m (i+1) (D++[lL ss[i] R[i]]) (by omega) (by omega) (by simp[hD])
  have hst:er (ss.drop i) (R.drop i)=lL ss[i] R[i]::er (ss.drop (i+1)) (R.drop (i+1)):=by
   rw[show ss.drop i=ss[i]::ss.drop (i+1) from drop_eq_getElem_cons hlt,show R.drop i=R[i]::R.drop (i+1) from drop_eq_getElem_cons hlt2]
   rfl
  have hll:([ss[i].2.2.2.2.1]++zipWith adI R[i] ss[i].2.2.1).length≤100001:=by
   rw[length_append,List.length_zipWith,length_singleton]
   omega
  simp only[sx]
  rw[dlt hlt,cond_true,if_pos (inR hlt),tnI i,ak _ _ _ hlt,bD,e0,bind_some]
  simp only
  rw[Q1 k _ (by omega) (by omega),bind_some]
  simp only
  rw[List.singleton_append,foldl_cons,JW hso.cn,show (zipWith adI R[i] ss[i].2.2.1).foldl aK ss[i].2.2.2.2.1=lL ss[i] R[i] from rfl,bD,if_pos (by rw[length_singleton]; omega),nI _ _ (by omega),←htk,aM i _ hlt (by omega),ih,hst,append_assoc]
  rfl
theorem a7o (k:Nat) (st:(Option (List (ByteArray×Int)))×((List (List Int))×Unit)) (I:InT) (ss:List ag) (R:bI) (hk:10000000≤k) (hs:∀s∈ss,SOC s) (hR:ShW ss R) (hn:ss.length≤1000000) (ht:tot ss≤100000000) :
  F52 k (some (st,(ss,(I,())))) (be R)=some ((er ss R,()),()):=by
 have e:=Is k ss R hk hs hR hn ht ss.length k 0 [] (Nat.zero_add _) (by omega) rfl
 rw[show ((0:Nat):Int)=0 from rfl,take_zero,drop_zero,drop_zero,nil_append,show ((tot ([]:List ag):Nat):Int)=0 from rfl] at e
 unfold F52
 simp only[isSome_some,if_true,getD_some]
 rw[e,bind_some]
end Go.Proofs.YtgmmopbpldgpcaaE
set_option linter.unusedSimpArgs false
set_option linter.unusedVariables false
set_option maxRecDepth 20000
namespace Go.Proofs.YtgmmopbpldgpcaaE
def rG (r:ct):Prop:=(0≤r.1∧r.1<3)∧Cst r.2.1
abbrev cz:List Int:=[bw,bw,bw]
def iX (r:ct) (e:Int) (v:List Int):List Int:=List.set v r.1.toNat (aK (getD v r.1.toNat 0) (adI r.2.1 e))
def cV:List ct→List Int→List Bool→List Int→List Int
 |r::rs,e::E,b::set,v=>cV rs E set (if b then iX r e v else v)
 |_,_,_,v=>v
theorem Ue (r:ct) (e:Int) (v:List Int):(iX r e v).length=v.length:=length_set
theorem Uf {r:ct} {e:Int} {v:List Int} (hr:Cst r.2.1) (he:Cst e) (hv:bN v):bN (iX r e v):=Im hv (B0 (bk hv _) (kC hr he)) _
theorem Q8:bN cz:=fun x hx=>by
 simp only[cz,List.mem_cons,List.not_mem_nil,or_false,or_self] at hx
 rw[hx]
 exact BZ
theorem Mh {rs:List ct} {E:List Int} {set:List Bool} {v:List Int} {i:Nat} (h1:i<rs.length) (h2:i<E.length) (h3:i<set.length):cV (rs.drop i) (E.drop i) (set.drop i) v=cV (rs.drop (i+1)) (E.drop (i+1)) (set.drop (i+1)) (if set[i] then iX rs[i] E[i] v else v):=by
 rw[drop_eq_getElem_cons h1,drop_eq_getElem_cons h2,drop_eq_getElem_cons h3,cV]
theorem It (k:Nat) (hk:10≤k) (rs:List ct) (E:List Int) (set:List Bool) (c6:List Int) (hr:∀r∈rs,rG r) (hE:bN E) (h1:E.length=rs.length) (h2:set.length=rs.length) (hn:rs.length≤1000000):∀(d m i:Nat) (v:List Int),i+d=rs.length→d<m→v.length=3→bN v →
  im k m E set rs (rs.length:Int) (i:Int) c6 v=some ((),(c6,cV (rs.drop i) (E.drop i) (set.drop i) v,()))
 |0,m,i,v,hi,hm,hv,hc=>by
  obtain ⟨m,rfl⟩:=aq (m:=m) (by omega)
  simp only[im]
  rw[decide_eq_false (by omega),cond_false,drop_eq_nil_of_le (by omega:rs.length≤i)]
  simp[cV]
 |d+1,m,i,v,hi,hm,hv,hc=>by
  obtain ⟨m,rfl⟩:=aq (m:=m) (by omega)
  have hlt:i<rs.length:=by omega
  have hlt1:i<E.length:=by omega
  have hlt2:i<set.length:=by omega
  have ih:=fun v hv hc=>It k hk rs E set c6 hr hE h1 h2 hn d m (i+1) v (by omega) (by omega) hv hc
  obtain ⟨⟨c0,c1⟩,cc⟩:=hr _ (getElem_mem hlt)
  rw[Mh hlt hlt1 hlt2]
  simp only[im]
  rw[dlt hlt,cond_true,if_pos (inR hlt),dlt hlt2,cond_true,if_pos (inR hlt2),tnI i,ak _ _ _ hlt2,ak _ _ _ hlt,aM i _ hlt (by omega)]
  cases hb:set[i] with
  |false =>
   rw[cond_false,if_neg (by simp),ih v hv hc]
   rfl
  |true =>
   have hE1:=hE _ (getElem_mem hlt1)
   rw[cond_true,dlt hlt1,cond_true,decide_eq_true (show rs[i].1≥0 from c0),cond_true,decide_eq_true c1,cond_true,if_pos ⟨c0,c1⟩,if_pos (inR hlt1),ak _ _ _ hlt1,If k _ _ cc hE1,bind_some]
   simp only
   rw[a1o,JX k hk _ _ (bk hc _),bind_some]
   simp only
   rw[if_pos ⟨c0,c1⟩,if_pos trivial,show List.set v rs[i].1.toNat (aK (getD v rs[i].1.toNat 0) (adI rs[i].2.1 E[i]))=iX rs[i] E[i] v from rfl,ih _ (by rw[Ue]; exact hv) (Uf cc hE1 hc)]
   rfl
theorem a8o (k:Nat) (hk:10000000≤k) (rs:List ct) (E:List Int) (set:List Bool) (hr:∀r∈rs,rG r) (hE:bN E) (h1:E.length=rs.length) (h2:set.length=rs.length) (hn:rs.length≤1000000):F53 k rs E set=some ((cV rs E set cz,()),()):=by
 have e:=It k (by omega) rs E set (replicate 3 0) hr hE h1 h2 hn rs.length k 0 cz (Nat.zero_add _) (by omega) rfl Q8
 rw[show ((0:Nat):Int)=0 from rfl,drop_zero,drop_zero,drop_zero] at e
 unfold F53 F63
 rw[bind_some]
 simp only
 rw[show List.set (List.set (List.set (replicate 3 (0:Int)) 0 (1152921504606846976:Int)) 1 (1152921504606846976:Int)) 2 (1152921504606846976:Int)=cz from rfl,e,bind_some]
section
variable (k:Nat) (rs:List ct) (ss:List ag) (R:bI) (set:List Bool)
end
def emW (rs:List ct) (ss:List ag) (sets:List (List Bool)) (R:bI):List (List Int):=sets.map fun set=>cV rs (er ss R) set cz
theorem CJ:∀ {ss:List ag} {R:bI},(∀s∈ss,SOC s)→(∀r∈R,bN r)→bN (er ss R)
 | [],_,_,_=>fun x hx=>by simp[er] at hx
 |_::_,[],_,_=>fun x hx=>by simp[er] at hx
 |s::ss,r::R,hs,hR=>fun x hx=>by
  have:x=lL s r∨x∈er ss R:=List.mem_cons.1 hx
  rcases this with q | q
  ·rw[q]; exact Uc (hs s mem_cons_self) (hR r mem_cons_self)
  ·exact CJ (fun y hy=>hs y (mem_cons_of_mem _ hy)) (fun y hy=>hR y (mem_cons_of_mem _ hy)) x q
end Go.Proofs.YtgmmopbpldgpcaaE
set_option linter.unusedSimpArgs false
set_option linter.unusedVariables false
set_option maxRecDepth 20000
namespace Go.Proofs.YtgmmopbpldgpcaaE
abbrev Iu:=((List (List Int))×((List (List (List Int)))×Unit))
abbrev Mi:((Int×Unit)×(Iu×Unit)):=(((4:Int),()),((([]:(List (List Int))),(([]:(List (List (List Int)))),())),()))
theorem Iv {ss:List ag} {l:List bI} {x:bI} (h:∀y∈l,ShW ss y) (hx:ShW ss x):∀y∈bH l x,ShW ss y:=by
 unfold bH
 split
 ·exact h
 ·exact fc h hx
theorem Iw {ss:List ag} {I:InT} {s:bI} (hss:∀s∈ss,SOC s) (hs:ShW ss s):∀(al:List Nat) (l:List bI),(∀y∈l,ShW ss y)→∀y∈(bU (a7 I ss) s al l).1,ShW ss y
 | [],l,h=>h
 |a::al,l,h=>by
  rw[mt]
  exact Iw hss hs al _ (Iv h (fN hss hs))
def dQ (ss:List ag):bI:=ss.map fun s=>replicate s.1.length bw
theorem iY (ss:List ag):ShW ss (dQ ss):=by
 refine ⟨by simp[dQ],fun r hr=>?_⟩
 obtain ⟨s,_,e⟩:=List.mem_map.1 hr
 intro x hx
 rw[←e] at hx
 rw[List.eq_of_mem_replicate hx]
 exact BZ
theorem CK:∀(ss:List ag),be (dQ ss)=replicate (tot ss) bw
 | []=>rfl
 |s::ss=>by
  rw[nJ,←List.replicate_append_replicate,←CK ss]
  rfl
theorem Q9 (k:Nat) (l:List (List Int)) (h:l.length≤100000000):F55 k l=some ((l,()),()):=by
 unfold F55
 cases l with
 |nil=>rfl
 |cons x l =>
  rw[nz (by simp),cond_false,if_pos (by simp at h ⊢; omega)]
  rfl
theorem a9o (k:Nat) (l:List (List (List Int))) (h:l.length≤100000000):F57 k l=some ((l,()),()):=by
 unfold F57
 cases l with
 |nil=>rfl
 |cons x l =>
  rw[nz (by simp),cond_false,if_pos (by simp at h ⊢; omega)]
  rfl
abbrev noH:bI→List Bool:=fun _=>[]
section
variable (k:Nat) (rs:List ct) (ss:List ag) (I:InT) (N:Nat) (B:Int) (sets:List (List Bool))
theorem Ix (hk:10000000≤k) (hs:∀s∈ss,SOC s) (hn:ss.length≤1000000) (ht:tot ss≤1000000) (hN:N≤5000000) (hB:B≤100000) (t3:Int) (j:Nat) (s:bI) (c12 c15:Iu):∀(d m i:Nat) (l:List bI) (r:List Int),i+d=N→d<m→(∀y∈l,ShW ss y)→j<l.length→getD l j []=s→(l.length:Int)≤B→r.length=i →
  jK k m rs t3 sets B (j:Int) (N:Int) (i:Int) c12 c15 (mkw (eQ 0 (l.map eR)) ss I l) r =
   if ((bU (a7 I ss) s (range' i d) l).1.length:Int)≤B then some (.inl ((rs,t3,sets,B,(j:Int),()),(c12,c15,mkw (eQ 0 ((bU (a7 I ss) s (range' i d) l).1.map eR)) ss I (bU (a7 I ss) s (range' i d) l).1,r++(bU (a7 I ss) s (range' i d) l).2,()))) else some (.inr Mi)
 |0,m,i,l,r,hi,hm,hl,hj,hsj,hlB,hr=>by
  obtain ⟨m,rfl⟩:=aq (m:=m) (by omega)
  simp only[List.range'_zero,bU]
  rw[if_pos hlB,append_nil]
  simp only[jK]
  rw[decide_eq_false (by omega),cond_false]
 |d+1,m,i,l,r,hi,hm,hl,hj,hsj,hlB,hr=>by
  obtain ⟨m,rfl⟩:=aq (m:=m) (by omega)
  have hlt:i<N:=by omega
  have hsS:ShW ss s:=by
   rw[←hsj,ak _ _ _ hj]
   exact hl _ (getElem_mem hj)
  have hxS:ShW ss (a7 I ss s i):=fN hs hsS
  have e48:=Q3 k hk ss I l (a7 I ss s i) (by omega) hl hxS ht
  have hle:=jX l (a7 I ss s i)
  have hj2:j<(l.map be).length:=by simpa using hj
  have hgf:getD (l.map be) j []=be s:=by
   rw[ak _ _ _ hj2,getElem_map,←hsj,ak _ _ _ hj]
  have e51:=a6o k (some (eQ 0 (l.map eR)),(l.map be,())) I ss i s hk hs hsS hn ht
  rw[List.range'_succ,mt,Af]
  have hap:(length r+length [((ix l (a7 I ss s i):Nat):Int)])*(8*2)≤281474976710656∧length r+length [((ix l (a7 I ss s i):Nat):Int)]≤9223372036854775807:=by rw[length_singleton]; omega
  have hstep:jK k (m+1) rs t3 sets B (j:Int) (N:Int) (i:Int) c12 c15 (mkw (eQ 0 (l.map eR)) ss I l) r=if ((bH l (a7 I ss s i)).length:Int)≤B then jK k m rs t3 sets B (j:Int) (N:Int) ((i+1:Nat):Int) c12 c15 (mkw (eQ 0 ((bH l (a7 I ss s i)).map eR)) ss I (bH l (a7 I ss s i))) (r++[((ix l (a7 I ss s i):Nat):Int)]) else some (.inr Mi):=by
   simp only[jK]
   rw[dlt hlt,cond_true,if_pos (inR hj2),tnI j,hgf,e51,bind_some]
   simp only
   rw[e48,bind_some]
   simp only
   rw[show List.set (replicate 1 (0:Int)) 0 ((ix l (a7 I ss s i):Nat):Int)=[((ix l (a7 I ss s i):Nat):Int)] from rfl,if_pos hap,length_map,aM i _ hlt (by omega)]
   by_cases hc:((bH l (a7 I ss s i)).length:Int)≤B
   ·rw[if_pos hc,decide_eq_false (by omega),cond_false]
    cases jK k m rs t3 sets B (j:Int) (N:Int) ((i+1:Nat):Int) c12 c15 (mkw (eQ 0 ((bH l (a7 I ss s i)).map eR)) ss I (bH l (a7 I ss s i))) (r++[((ix l (a7 I ss s i):Nat):Int)])<;>rfl
   ·rw[if_neg hc,decide_eq_true (by omega),cond_true]
  rw[hstep]
  by_cases hc:((bH l (a7 I ss s i)).length:Int)≤B
  ·obtain ⟨tl,htl⟩:=kB l (a7 I ss s i)
   have e2:=Ix hk hs hn ht hN hB t3 j s c12 c15 d m (i+1) (bH l (a7 I ss s i)) (r++[((ix l (a7 I ss s i):Nat):Int)]) (by omega) (by omega) (Iv hl hxS) (by omega) (by rw[nO htl hj]; exact hsj) hc (by simp[hr])
   rw[if_pos hc,e2,append_assoc]
   rfl
  ·have h3:=iU (a7 I ss) s (range' (i+1) d) (bH l (a7 I ss s i))
   rw[if_neg hc,if_neg (by omega)]
theorem Iy (hk:10000000≤k) (hr:∀r∈rs,rG r) (hrn:rs.length≤1000000) (hset:∀s∈sets,s.length=rs.length) (hsn:sets.length≤1000000) (t3 t16:Int) (c12 c15:Iu) (c30:MkW) (E:List Int) (hE:bN E) (hEl:E.length=rs.length) (nx:List Int):∀(d m i:Nat) (D:List (List Int)),i+d=sets.length→d<m→D.length=i →
  sA k m rs t3 sets B t16 sets (sets.length:Int) (i:Int) c12 c15 c30 E nx D=some ((rs,t3,sets,B,t16,()),(c12,c15,c30,nx,D++(sets.drop i).map (fun set=>cV rs E set cz),()))
 |0,m,i,D,hi,hm,hD=>by
  obtain ⟨m,rfl⟩:=aq (m:=m) (by omega)
  simp only[sA]
  rw[decide_eq_false (by omega),cond_false,drop_eq_nil_of_le (by omega),map_nil,append_nil]
 |d+1,m,i,D,hi,hm,hD=>by
  obtain ⟨m,rfl⟩:=aq (m:=m) (by omega)
  have hlt:i<sets.length:=by omega
  have hset1:=hset _ (getElem_mem hlt)
  simp only[sA]
  rw[dlt hlt,cond_true,if_pos (inR hlt),tnI i,ak _ _ _ hlt,a8o k hk rs E _ hr hE hEl hset1 hrn,bind_some]
  simp only
  rw[bD,if_pos (by rw[length_singleton]; omega),aM i _ hlt (by omega),Iy hk hr hrn hset hsn t3 t16 c12 c15 c30 E hE hEl nx d m (i+1) _ (by omega) (by omega) (by simp[hD]),drop_eq_getElem_cons hlt,map_cons,append_assoc]
  rfl
theorem Ug {σ:Type} {l l' t:List σ} {i:Nat} {d0:σ} (e:l'=l++t) (h:i<l.length):l'.take (i+1)=l.take i++[l.getD i d0]:=by
 rw[e,List.take_append_of_le_length (by omega),take_succ_eq_append_getElem h,ak _ _ _ h]
theorem Iz (hk:10000000≤k) (hs:∀s∈ss,SOC s) (hn:ss.length≤1000000) (ht:tot ss≤1000000) (hN:N≤5000000) (hB:B≤100000) (hr:∀r∈rs,rG r) (hrl:rs.length=ss.length) (hset:∀s∈sets,s.length=rs.length) (hsn:sets.length≤1000000) (t3:Int) (ht3:bZ t3 0=(N:Int)) (c12:Iu):∀(f m i:Nat) (l:List bI) (nx:List (List Int)) (ou:List Int) (se:List (List Bool)),B.toNat+2≤i+f→B.toNat+2≤i+m→i≤B.toNat→i≤l.length→(∀y∈l,ShW ss y)→nx.length=i →
  wP k m rs t3 sets B (i:Int) c12 (nx,((l.take i).map (emW rs ss sets),())) (mkw (eQ 0 (l.map eR)) ss I l)=match mkA (a7 I ss) noH [] B N f i l nx ou se with
   |none=>some (.inr Mi)
   |some q=>some (.inl ((),(c12,(q.2.1,(q.1.map (emW rs ss sets),())),())))
 |0,m,i,l,nx,ou,se,hf,hm,hi,hil,hl,hnx=>by omega
 |f+1,m,i,l,nx,ou,se,hf,hm,hi,hil,hl,hnx=>by
  obtain ⟨m,rfl⟩:=aq (m:=m) (by omega)
  simp only[wP,mkA]
  rw[length_map]
  by_cases hlt:i<l.length
  ·rw[if_pos hlt,decide_eq_true (by omega),cond_true]
   by_cases hlB:(l.length:Int)>B
   ·rw[if_pos hlB,decide_eq_true hlB,cond_true]
   ·rw[if_neg hlB,decide_eq_false hlB,cond_false,ht3]
    have hBi:(l.length:Int)≤B:=by omega
    have e1:=Ix k rs ss I N B sets hk hs hn ht hN hB t3 i (l.getD i []) c12 (nx,((l.take i).map (emW rs ss sets),())) N k 0 l [] (Nat.zero_add _) (by omega) hl hlt rfl hBi rfl
    rw[←List.range_eq_range',nil_append,show ((0:Nat):Int)=0 from rfl] at e1
    have hsi:ShW ss (l.getD i []):=by rw[ak _ _ _ hlt]; exact hl _ (getElem_mem hlt)
    have hstp:=fun y hy=>Iw (I:=I) hs hsi (List.range N) l hl y hy
    obtain ⟨tl,htl⟩:=iV (a7 I ss) (l.getD i []) (List.range N) l
    have hle:=iU (a7 I ss) (l.getD i []) (List.range N) l
    have hrw:=nM (a7 I ss) (l.getD i []) (List.range N) l
    rw[length_range] at hrw
    generalize hq:bU (a7 I ss) (l.getD i []) (List.range N) l=q at *
    obtain ⟨l',r'⟩:=q
    simp only at *
    rw[e1]
    by_cases hc:((l'.length:Nat):Int)≤B
    ·rw[if_pos hc,bind_some]
     simp only
     have hlt':i<(l'.map be).length:=by rw[length_map]; omega
     have hg:getD (l'.map be) i []=be (l.getD i []):=by
      have:i<l'.length:=by omega
      rw[ak _ _ _ hlt',getElem_map,←ak l' i [] this,nO htl hlt]
     have ih:=Iz hk hs hn ht hN hB hr hrl hset hsn t3 ht3 c12 f m (i+1) l' (nx++[r']) (ou++[((ix se (noH (l.getD i [])):Nat):Int)]) (bH se (noH (l.getD i []))) (by omega) (by omega) (by omega) (by omega) hstp (by simp[hnx])
     have hE:=CJ hs hsi.2
     have hEl:=rF hsi
     have e3:=Iy k rs B sets hk hr (by omega) hset hsn t3 (i:Int) c12 (nx,((l.take i).map (emW rs ss sets),())) (mkw (eQ 0 (l'.map eR)) ss I l') (er ss (l.getD i [])) hE (by omega) r' sets.length k 0 [] (Nat.zero_add _) (by omega) rfl
     rw[show ((0:Nat):Int)=0 from rfl,drop_zero,nil_append] at e3
     have ha1:(length nx+length [r'])*(24*2)≤281474976710656∧length nx+length [r']≤9223372036854775807:=by rw[length_singleton]; omega
     have hml:((l.take i).map (emW rs ss sets)).length=i:=by rw[length_map,List.length_take]; omega
     have ha2:∀y:List (List Int),(length ((l.take i).map (emW rs ss sets))+length [y])*(24*2)≤281474976710656∧length ((l.take i).map (emW rs ss sets))+length [y]≤9223372036854775807:=fun y=>by rw[length_singleton]; omega
     have hiw:IntKind.wrap .i64 ((i:Int)+1)=((i+1:Nat):Int):=aM i l.length hlt (by omega)
     have htake:(l'.take (i+1)).map (emW rs ss sets)=(l.take i).map (emW rs ss sets)++[emW rs ss sets (l.getD i [])]:=by
      rw[Ug (d0:=[]) htl hlt,map_append]
      rfl
     rw[htake] at ih
     rw[if_pos (inR hlt'),tnI i,hg,a7o k _ I ss _ hk hs hsi hn (by omega),bind_some]
     simp only
     rw[e3,bind_some]
     simp only
     rw[a3n k _ (by omega),bind_some]
     simp only
     rw[if_pos ha1,Q9 k _ (by rw[length_map]; omega),bind_some]
     simp only
     rw[if_pos (ha2 _),hiw,show sets.map (fun set=>cV rs (er ss (l.getD i [])) set cz)=emW rs ss sets (l.getD i []) from rfl,ih]
     cases mkA (a7 I ss) noH [] B N f (i+1) l' (nx++[r']) (ou++[((ix se (noH (l.getD i [])):Nat):Int)]) (bH se (noH (l.getD i [])))<;>rfl
    ·rw[if_neg hc,bind_some]
     simp only
     obtain ⟨f,rfl⟩:∃f',f=f'+1:=⟨f-1,by omega⟩
     simp only[mkA]
     rw[if_pos (by omega),if_pos (by omega)]
  ·rw[if_neg hlt,decide_eq_false (by omega),cond_false,take_of_length_le (by omega)]
abbrev QW:=List bI×List (List Int)×List Int×List (List Bool)
def mkN (b:Int):Option QW:=mkA (a7 I ss) noH [] (aK b 100000) N ((aK b 100000).toNat+2) 0 [dQ ss] [] [] []
def Uh:Option QW→(Iu×Int×Unit)
 |none=>((([]:(List (List Int))),(([]:(List (List (List Int)))),())),(4:Int),())
 |some q=>((q.2.1,(q.1.map (emW rs ss sets),())),(0:Int),())
theorem IA {σ:Type} [DecidableEq σ] {step:σ→Nat→σ} {hold:σ→List Bool} {d0:σ} {B:Int} {N:Nat}:∀(f i:Nat) (l:List σ) (nx:List (List Int)) (ou:List Int) (se:List (List Bool)) {q:List σ×List (List Int)×List Int×List (List Bool)},mkA step hold d0 B N f i l nx ou se=some q→i≤l.length→q.1.length≤i+f
 |0,i,l,nx,ou,se,q,h,hi=>by cases h
 |f+1,i,l,nx,ou,se,q,h,hi=>by
  simp only[mkA] at h
  split at h
  ·split at h
   ·cases h
   ·have hle:=iU step (l.getD i d0) (List.range N) l
    have:=IA f _ _ _ _ _ h (by omega)
    omega
  ·injection h with h
   subst h
   simp only
   omega
theorem a0p (hk:10000000≤k) (hs:∀s∈ss,SOC s) (hn:ss.length≤1000000) (ht:tot ss≤1000000) (hN:N≤5000000) (hr:∀r∈rs,rG r) (hrl:rs.length=ss.length) (hset:∀s∈sets,s.length=rs.length) (hsn:sets.length≤1000000) (t3:Int) (ht3:bZ t3 0=(N:Int)) (b:Int) :
  F19 k rs ss I t3 sets b=some (Uh rs ss sets (mkN ss I N b),()):=by
 have hB:aK b 100000≤100000:=by unfold aK; split<;>omega
 unfold F19 mkN
 generalize aK b 100000=B at hB ⊢
 have e48:=Q3 k hk ss I [] (dQ ss) (zero_le _) (fun y hy=>by cases hy) (iY ss) ht
 have hp0:bH [] (dQ ss)=[dQ ss]:=rfl
 rw[hp0,CK] at e48
 have e2:=Iz k rs ss I N B sets hk hs hn ht hN hB hr hrl hset hsn t3 ht3 (([]:(List (List Int))),(([]:(List (List (List Int)))),())) (B.toNat+2) k 0 [dQ ss] [] [] [] (by omega) (by omega) (by omega) (zero_le _) (fun y hy=>by rw[List.mem_singleton.1 hy]; exact iY ss) rfl
 rw[show ((0:Nat):Int)=0 from rfl,take_zero,map_nil] at e2
 rw[a4o k hk ss hn (by omega),bind_some]
 simp only
 rw[Q4 k _ (by omega) ht,bind_some]
 simp only
 rw[show F48 k ((some [],([],())),(ss,(I,()))) (replicate (tot ss) bw)=_ from e48,bind_some]
 simp only
 rw[e2]
 cases hq:mkA (a7 I ss) noH [] B N (B.toNat+2) 0 [dQ ss] [] [] [] with
 |none=>rfl
 |some q =>
  obtain ⟨l1,l2,l3⟩:=JV _ _ _ _ _ _ hq
  have l4:=IA _ _ _ _ _ _ hq (zero_le _)
  simp only[List.length_nil] at l1
  simp only
  rw[bind_some]
  simp only
  rw[a4n k _ (by omega),bind_some]
  simp only
  rw[a9o k _ (by rw[length_map]; omega),bind_some]
  rfl
end
end Go.Proofs.YtgmmopbpldgpcaaE
set_option linter.unusedSimpArgs false
set_option linter.unusedVariables false
set_option maxRecDepth 20000
namespace Go.Proofs.YtgmmopbpldgpcaaE
theorem B1 {ss:List ag} {R:bI} (h:ShW ss R):R.length=ss.length:=by have:=congrArg length h.1; simpa using this
section
variable (k:Nat) (rs:List ct) (ss:List ag) (I:InT) (N:Nat) (sets:List (List Bool)) (t3 b:Int)
end
end Go.Proofs.YtgmmopbpldgpcaaE
set_option linter.unusedSimpArgs false
set_option linter.unusedVariables false
set_option maxRecDepth 20000
namespace Go.Proofs.YtgmmopbpldgpcaaE
def stF {σ:Type} (step:σ→Nat→σ) (z:σ) (x:List Nat):σ:=x.foldl step z
abbrev eE (x:List Nat):List Int:=x.map fun n:Nat=>(n:Int)
def vG {σ:Type} (step:σ→Nat→σ) (em:σ→List (List Int)) (z:σ) (x p:List Nat) (i:Nat):List Int:=getD (em (stF step z (x.take i))) (getD p i 0) []
def B2 {σ:Type} (step:σ→Nat→σ) (em:σ→List (List Int)) (z:σ) (x p:List Nat):List (List Int):=(List.range (x.length+1)).map (vG step em z x p)
theorem Ui {σ:Type} (step:σ→Nat→σ) (em:σ→List (List Int)) (z:σ) (x p:List Nat):(B2 step em z x p).length=x.length+1:=by simp[B2]
theorem Uj {σ:Type} (step:σ→Nat→σ) (z:σ) (x:List Nat) (i:Nat) (h:i<x.length):stF step z (x.take (i+1))=step (stF step z (x.take i)) x[i]:=by
 unfold stF
 rw[take_succ_eq_append_getElem h,List.foldl_append]
 rfl
theorem B3 {β:Type} (f:Nat→β) {n i:Nat} (h:i<n):((List.range n).drop i).map f=f i::((List.range n).drop (i+1)).map f:=by
 rw[drop_eq_getElem_cons (by simpa using h),map_cons,getElem_range]
section
variable {σ:Type} {step:σ→Nat→σ} {hold:σ→List Bool} {N:Nat} {l:List σ} {nx:List (List Int)} {ou:List Int} {se:List (List Bool)} {z:σ}
theorem vH (k:Nat) (mc:iz step hold N l.length l nx ou se) (hl:l.length≤1000000) (em:σ→List (List Int)) (L:Nat) (hem:∀y,(em y).length=L) (x p:List Nat) (hx:∀a∈x,a<N) (hxl:x.length≤1000000) (hp:p.length=x.length+1) (hpL:∀a∈p,a<L):∀(d m i t:Nat) (acc:List (List Int)),i+d=x.length+1→d<m→(i≤x.length→l[t]? = some (stF step z (x.take i)))→acc.length=i →
  bA k m (eE x) (eE p) (t:Int) ((x.length+1:Nat):Int) (i:Int) (nx,(l.map em,())) acc=some ((),(acc++((List.range (x.length+1)).drop i).map (vG step em z x p),()))
 |0,m,i,t,acc,hi,hm,hst,ha=>by
  obtain ⟨m,rfl⟩:=aq (m:=m) (by omega)
  simp only[bA]
  rw[decide_eq_false (by omega),cond_false,drop_eq_nil_of_le (by simp; omega),map_nil,append_nil]
 |d+1,m,i,t,acc,hi,hm,hst,ha=>by
  obtain ⟨m,rfl⟩:=aq (m:=m) (by omega)
  have hil:i≤x.length:=by omega
  have hst:=hst hil
  obtain ⟨hlt,htv⟩:=List.getElem?_eq_some_iff.1 hst
  have hlm:t<(l.map em).length:=by rw[length_map]; exact hlt
  have hge:getD (l.map em) t []=em (stF step z (x.take i)):=by rw[ak _ _ _ hlm,getElem_map,htv]
  have hip:i<p.length:=by omega
  have hip2:i<(eE p).length:=by rw[length_map]; exact hip
  have hpi:getD (eE p) i 0=((p[i]:Nat):Int):=Mg hip
  have hpiL:p[i]<L:=hpL _ (getElem_mem hip)
  have hrv:getD (em (stF step z (x.take i))) p[i] []=vG step em z x p i:=by unfold vG; rw[ak p i 0 hip]
  have hap:∀y:List Int,(acc.length+[y].length)*(24*2)≤281474976710656∧acc.length+[y].length≤9223372036854775807:=fun y=>by rw[length_singleton]; omega
  rw[B3 _ (by omega:i<x.length+1)]
  simp only[bA]
  unfold F63
  rw[decide_eq_true (by omega),cond_true,bind_some,decide_eq_true (by omega),cond_true,dlt hlm,cond_true,dlt hip2,cond_true,if_pos (inR hip2),tnI i,hpi,decide_eq_true (by omega),cond_true,if_pos (inR hip2),if_pos (inR hlm),tnI t,hge,hem,dlt hpiL,cond_true,if_pos (inR hlm),if_pos (inR hip2),if_pos (inR hpiL),tnI p[i],hrv]
  rw[bD,if_pos (hap _)]
  by_cases hxi:i<x.length
  ·obtain ⟨r,h1,h2,h3⟩:=mc.rows t _ hlt hst
   obtain ⟨u,h4,h5⟩:=h3 x[i] (hx _ (getElem_mem hxi))
   obtain ⟨hn1,hn2⟩:=List.getElem?_eq_some_iff.1 h1
   obtain ⟨hr1,hr2⟩:=List.getElem?_eq_some_iff.1 h4
   have hxi2:i<(eE x).length:=by rw[length_map]; exact hxi
   have hxv:getD (eE x) i 0=((x[i]:Nat):Int):=Mg hxi
   have ih:=vH k mc hl em L hem x p hx hxl hp hpL d m (i+1) u (acc++[vG step em z x p i]) (by omega) (by omega) (fun _=>by rw[Uj _ _ _ _ hxi]; exact h5) (by simp[ha])
   rw[dlt hxi2,cond_true,dlt hn1,cond_true,if_pos (inR hxi2),hxv,decide_eq_true (by omega),cond_true,if_pos (inR hxi2),if_pos (inR hn1),ak _ _ _ hn1,hn2,dlt hr1,cond_true,if_pos (inR hn1),if_pos (inR hxi2),if_pos (inR hr1),tnI x[i],ak _ _ _ hr1,hr2,aM i _ hxi (by omega),ih,append_assoc]
   rfl
  ·have ih:=vH k mc hl em L hem x p hx hxl hp hpL d m (i+1) t (acc++[vG step em z x p i]) (by omega) (by omega) (fun q=>by omega) (by simp[ha])
   rw[decide_eq_false (by simp; omega),cond_false,aM i (i+1) (by omega) (by omega),ih,append_assoc]
   rfl
theorem a1p (k:Nat) (hk:10000000≤k) (mc:iz step hold N l.length l nx ou se) (hl:l.length≤1000000) (hz:l[0]? = some z) (em:σ→List (List Int)) (L:Nat) (hem:∀y,(em y).length=L) (x p:List Nat) (hx:∀a∈x,a<N) (hxl:x.length≤1000000) (hp:p.length=x.length+1) (hpL:∀a∈p,a<L) :
  F26 k (nx,(l.map em,())) (eE x) (eE p)=some ((B2 step em z x p,()),()):=by
 have e:=vH k mc hl em L hem x p hx hxl hp hpL (x.length+1) k 0 0 [] (Nat.zero_add _) (by omega) (fun _=>hz) rfl
 rw[show ((0:Nat):Int)=0 from rfl,drop_zero,nil_append] at e
 unfold F26
 simp only
 rw[length_map,aM x.length (x.length+1) (by omega) (by omega),e,bind_some]
 simp only
 rw[Q9 k _ (by simp; omega),bind_some]
 rfl
end
theorem Ag (k:Nat) (l:List (List Int)) (hl:l.length≤1000000):∀(d m i:Nat),i+d=l.length→d<m→tX k m l l (i:Int)=some (.inl ((),()))
 |0,m,i,hi,hm=>by
  obtain ⟨m,rfl⟩:=aq (m:=m) (by omega)
  simp only[tX]
  rw[decide_eq_false (by omega),cond_false]
 |d+1,m,i,hi,hm=>by
  obtain ⟨m,rfl⟩:=aq (m:=m) (by omega)
  have hlt:i<l.length:=by omega
  simp only[tX]
  rw[dlt hlt,cond_true,if_pos (inR hlt),if_pos (inR hlt)]
  simp only[beq_self_eq_true,Bool.not_true,cond_false]
  rw[aM i _ hlt (by omega),Ag k l hl d m (i+1) (by omega) (by omega)]
  rfl
theorem Uk (k:Nat) (l:List (List Int)) (hk:10000000≤k) (hl:l.length≤1000000):F25 k l l=some ((true,()),()):=by
 have e:=Ag k l hl l.length k 0 (Nat.zero_add _) (by omega)
 rw[show ((0:Nat):Int)=0 from rfl] at e
 unfold F25
 simp only[bne_self_eq_false,cond_false]
 rw[e]
 rfl
end Go.Proofs.YtgmmopbpldgpcaaE
set_option linter.unusedSimpArgs false
set_option linter.unusedVariables false
set_option maxRecDepth 20000
namespace Go.Proofs.YtgmmopbpldgpcaaE
theorem Ra (k:Nat) (hk:200≤k):F13 k=some ((true,()),()):=by
 obtain ⟨k,rfl⟩:∃k',k=k'+200:=⟨k-200,by omega⟩
 kernel_rfl
theorem rH {I:InT} {N M:Nat} {s:ag} (h:fT I N M s):SOC s:=by
 obtain ⟨n,hn,g⟩:=h.g
 have hc:=iS 5 (by omega)
 refine ⟨h.ok,fun x hx=>(g.cf x hx).cst (by omega),fun x hx=>(g.ce x hx).cst (by omega),g.cn.cst (by omega),fun x hx=>?_⟩
 have:=g.arcs x hx
 unfold Cst
 omega
theorem Rb {I:InT} {N M:Nat} {s:ag} (h:fT I N M s):s.1.length≤120:=by
 obtain ⟨n,hn,g⟩:=h.g
 have:=g.ls
 omega
theorem Rc {n:Nat}:∀ {ss:List ag},(∀s∈ss,s.1.length≤n)→tot ss≤n*ss.length
 | [],_=>by simp[tot]
 |s::ss,h=>by
  have h1:=h s mem_cons_self
  have h2:=Rc (ss:=ss) fun x hx=>h x (mem_cons_of_mem _ hx)
  rw[nJ,length_cons,Nat.mul_succ]
  omega
theorem Rd {r:ct} (h:nQ r):rG r:=by
 obtain ⟨_,h1,h2⟩:=h
 refine ⟨h1,?_⟩
 unfold Cst
 omega
structure DW (I:InT) (N:Nat) (rs:List ct) (ss:List ag) (sets:List (List Bool)):Prop where
 hs:∀s∈ss,SOC s
 hI:∀s∈ss,lK I N s
 hn:ss.length≤1000000
 ht:tot ss≤1000000
 hN:N≤5000000
 hr:∀r∈rs,rG r
 hrl:rs.length=ss.length
 hset:∀s∈sets,s.length=rs.length
 hsn:sets.length≤1000000
theorem a8r {w:jD} {N M:Nat} (hw:WG w N M) {sets:List (List Bool)} (hset:∀s∈sets,s.length=w.1.2.1.length) (hsn:sets.length≤1000000):DW w.2.2.2.1 N w.1.2.1 w.2.2.2.2.1 sets:=by
 have h1:=hw.nl
 have h2:=hw.nrules
 have h3:=hw.le
 have h4:=Rc (n:=120) fun s hs=>Rb (hw.left s hs)
 exact ⟨fun s hs=>rH (hw.left s hs),fun s hs=>(hw.left s hs).io,by omega,by omega,by omega,fun r hr=>Rd (hw.rules r hr),by omega,hset,hsn⟩
theorem a2p (k:Nat) (hk:10000000≤k) {I:InT} {N:Nat} {rs:List ct} {ss:List ag} {sets:List (List Bool)} (h:DW I N rs ss sets) (b:Int):F19 k rs ss I (N:Int) sets b=some (Uh rs ss sets (mkN ss I N b),()) :=
 a0p k rs ss I N sets hk h.hs h.hn h.ht h.hN h.hr h.hrl h.hset h.hsn (N:Int) (Ic N) b
structure ND (I:InT) (ss:List ag) (N:Nat) (b:Int) (q:QW):Prop where
 m:iz (a7 I ss) noH N q.1.length q.1 q.2.1 q.2.2.1 q.2.2.2
 z:q.1[0]? = some (dQ ss)
 shp:∀x∈q.1,ShW ss x
 le:(q.1.length:Int)≤aK b 100000
theorem a3p {I:InT} {ss:List ag} {N:Nat} {b:Int} {q:QW} (hs:∀s∈ss,SOC s) (h:mkN ss I N b=some q):ND I ss N b q:=by
 obtain ⟨h1,⟨t,h2⟩,h3,h4⟩:=vE (P:=ShW ss) (fun x a hx _=>fN hs hx) _ 0 [dQ ss] [] [] [] (VD _) (fun x hx=>by rw[List.mem_singleton.1 hx]; exact iY ss) h
 exact ⟨h1,by rw[h2]; rfl,h3,h4 (Nat.zero_lt_succ _)⟩
theorem ND.len {I:InT} {ss:List ag} {N:Nat} {b:Int} {q:QW} (h:ND I ss N b q):q.1.length≤100000:=by
 have:=h.le
 unfold aK at this
 split at this<;>omega
theorem ND.rows {I:InT} {ss:List ag} {N:Nat} {b:Int} {q:QW} (h:ND I ss N b q):∀r∈q.2.1,r.length=N:=fun r hr=>by
 have h2:=h.m.nl
 obtain ⟨i,hi,e⟩:=List.mem_iff_getElem.1 hr
 obtain ⟨r',q1,q2,_⟩:=h.m.rows i _ (by omega) (getElem?_eq_getElem (by omega:i<q.1.length))
 rw[getElem?_eq_getElem hi,e] at q1
 injection q1 with q1
 rw[q1,q2]
theorem WC (rs:List ct) (ss:List ag) (sets:List (List Bool)) (R:bI):(emW rs ss sets R).length=sets.length:=by simp[emW]
def lab (I:InT) (ss:List ag) (se:List (List Bool)) (x:List Nat):List Nat:=(List.range (x.length+1)).map fun i=>ix se (bo ss (stR (bd I ss) (bP ss) (x.drop i)))
theorem Ul (I:InT) (ss:List ag) (se:List (List Bool)) (x:List Nat):Mf (bd I ss) (bo ss) se (bP ss) x=eE (lab I ss se x):=by
 unfold Mf eE lab
 rw[List.map_map]
 rfl
theorem JY (I:InT) (ss:List ag) (se:List (List Bool)) (x:List Nat):(lab I ss se x).length=x.length+1:=by simp[lab]
theorem a4p {I:InT} {ss:List ag} {N:Nat} {b:Int} {q:QT} (h:MW I ss N b q) {x:List Nat} (hx:∀a∈x,a<N):∀p∈lab I ss q.2.2.2 x,p<q.2.2.2.length:=fun p hp=>by
 obtain ⟨i,_,e⟩:=List.mem_map.1 hp
 rw[←e]
 exact (QZ h.m h.z (x.drop i) fun a ha=>hx a (List.mem_of_mem_drop ha)).1
theorem WD (k:Nat) (hk:10000000≤k) {I:InT} {ss:List ag} {N:Nat} {b:Int} {q:QT} (h:MW I ss N b q) (x:List Nat) (hx:∀a∈x,a<N) (hxl:x.length≤1000000):F24 k (q.2.1,(q.2.2.1,())) (eE x)=some ((eE (lab I ss q.2.2.2 x),()),()):=by
 have:=h.len
 rw[←Ul]
 exact a8n k hk h.m (by omega) h.z x hx hxl
theorem a5p (k:Nat) (hk:10000000≤k) {I:InT} {N:Nat} {rs:List ct} {ss:List ag} {sets:List (List Bool)} {b:Int} {q:QW} (h:ND I ss N b q) (x p:List Nat) (hx:∀a∈x,a<N) (hxl:x.length≤1000000) (hp:p.length=x.length+1) (hpL:∀a∈p,a<sets.length) :
  F26 k (q.2.1,(q.1.map (emW rs ss sets),())) (eE x) (eE p)=some ((B2 (a7 I ss) (emW rs ss sets) (dQ ss) x p,()),()):=by
 have:=h.len
 exact a1p k hk h.m (by omega) h.z (emW rs ss sets) sets.length (fun y=>WC rs ss sets y) x p hx hxl hp hpL
theorem IB (k:Nat) (hk:10000000≤k) (w:jD) (N M:Nat) (hw:WG w N M):∀(d m i:Nat),i+d=w.2.2.2.2.1.length→d<m→nn k m (i:Int) w=some (.inl ((),()))∨nn k m (i:Int) w=some (.inr ((false,()),()))
 |0,m,i,hi,hm=>by
  obtain ⟨m,rfl⟩:=aq (m:=m) (by omega)
  left
  simp only[nn]
  rw[decide_eq_false (by omega),cond_false]
 |d+1,m,i,hi,hm=>by
  obtain ⟨m,rfl⟩:=aq (m:=m) (by omega)
  have hlt:i<w.2.2.2.2.1.length:=by omega
  have h1:=hw.nl
  have h2:=hw.nrules
  obtain ⟨n,hn,g⟩:=(hw.left _ (getElem_mem hlt)).g
  have hla:=eN g.srt g.arcs
  have hnn:n*n≤120*120:=Nat.mul_le_mul hn hn
  obtain ⟨b,e,_⟩:=a6k k n w.2.2.2.2.1[i] g.ls (by omega) (fun x hx=>by have:=g.arcs x hx; omega) (by omega) hk
  have ih:=IB k hk w N M hw d m (i+1) (by omega) (by omega)
  simp only[nn]
  rw[dlt hlt,cond_true,if_pos (inR hlt),tnI i,ak _ _ _ hlt,e,bind_some]
  simp only
  cases b with
  |true=>right; rfl
  |false =>
   rw[cond_false,aM i _ hlt (by omega)]
   rcases ih with ih | ih
   ·left; rw[ih]; rfl
   ·right; rw[ih]; rfl
theorem a6p (k:Nat) (hk:10000000≤k) (w:jD) (N M:Nat) (hw:WG w N M):F16 k w=some ((true,()),())∨F16 k w=some ((false,()),()):=by
 have h1:=hw.nl
 have h2:=hw.nrules
 have e:=IB k hk w N M hw w.2.2.2.2.1.length k 0 (Nat.zero_add _) (by omega)
 rw[show ((0:Nat):Int)=0 from rfl] at e
 unfold F16
 rcases e with e | e
 ·left; rw[e]; rfl
 ·right; rw[e]; rfl
theorem a7p (k:Nat) (hk:20000000≤k) {w:jD} {N M:Nat} (hw:WG w N M) (b:Int):F17 k w.2.2.2.2.2.1 w.2.2.2.1 w.2.2.2.2.2.2.1 b=some (Me (mkM w.2.2.2.1 w.2.2.2.2.2.1 N b),()):=by
 have h1:=hw.nr
 have h2:=hw.nrules
 have h3:=hw.le
 rw[hw.num]
 exact a9n k _ N M _ hk hw.right (by omega) h3 b
theorem a9r {w:jD} {N M:Nat} (hw:WG w N M) {b:Int} {q:QT} (h:MW w.2.2.2.1 w.2.2.2.2.2.1 N b q):DW w.2.2.2.1 N w.1.2.1 w.2.2.2.2.1 q.2.2.2:=by
 have h1:=hw.nr
 have h2:=hw.nrules
 have h3:=hw.le
 obtain ⟨s1,s2,s3,s4,s5⟩:=h.small (by omega) (by omega)
 exact a8r hw (fun s hs=>by rw[s5 s hs]; exact h1) s4
end Go.Proofs.YtgmmopbpldgpcaaE
set_option linter.unusedSimpArgs false
set_option linter.unusedVariables false
set_option maxRecDepth 20000
namespace Go.Proofs.YtgmmopbpldgpcaaE
def ub (s:RgT) (p:List Int):Prop:=∀r∈s,r.1∈p∧(r.2.1+1≤1114111→r.2.1+1∈p)
theorem JZ (k:Nat) (t0:List RgT) (q:Nat) (hk:10000000≤k) (hq:q<t0.length) (hs:RgS (getD t0 q [])):∀(d m i:Nat) (l:List Int),i+d=(getD t0 q []).length→d<m→fZ l→∃l',sJ k m t0 (q:Int) (i:Int) l=some ((t0,((q:Int),())),(l',()))∧fZ l'∧(∀x∈l,x∈l')∧ub ((getD t0 q []).drop i) l'
 |0,m,i,l,hi,hm,hl=>by
  obtain ⟨m,rfl⟩:=aq (m:=m) (by omega)
  refine ⟨l,?_,hl,fun x hx=>hx,fun r hr=>?_⟩
  ·simp only[sJ]
   rw[if_pos (inR hq),tnI q,decide_eq_false (by omega),cond_false]
  ·rw[drop_eq_nil_of_le (by omega)] at hr
   cases hr
 |d+1,m,i,l,hi,hm,hl=>by
  obtain ⟨m,rfl⟩:=aq (m:=m) (by omega)
  have hlt:i<(getD t0 q []).length:=by omega
  have hlen:=eP hs
  have hP:=a3m hs hlt
  obtain ⟨p0,p1,p2⟩:=hP
  have hw:IntKind.wrap .i64 ((getD t0 q [])[i].2.1+1)=(getD t0 q [])[i].2.1+1:=w64 _ (by omega) (by omega)
  obtain ⟨l1,e1,h1,h2,hb⟩:=vx k t0 (q:Int) (i:Int) [(getD t0 q [])[i].1,(getD t0 q [])[i].2.1+1] hk rfl (fun x hx=>by
   rcases List.mem_cons.1 hx with g | g
   ·rw[g]; exact p0
   ·rcases List.mem_cons.1 g with g | g
    ·rw[g]; omega
    ·cases g) 2 k 0 l rfl (by omega) hl
  obtain ⟨l2,e2,h3,h4,h5⟩:=JZ k t0 q hk hq hs d m (i+1) l1 (by omega) (by omega) h1
  refine ⟨l2,?_,h3,fun x hx=>h4 x (h2 x hx),fun r hr=>?_⟩
  ·have e1':fR k k t0 (q:Int) (i:Int) 0 (List.set (List.set (replicate 2 (0:Int)) 0 (getD t0 q [])[i].1) 1 ((getD t0 q [])[i].2.1+1)) l=_:=e1
   have hwi:IntKind.wrap .i64 ((i:Int)+1)=((i+1:Nat):Int):=by rw[w64 _ (by omega) (by omega)]; omega
   simp only[sJ]
   rw[if_pos (inR hq),tnI q,dlt hlt,cond_true,if_pos (inR hq),if_pos (inR hlt),if_pos (inR hq),if_pos (inR hlt),tnI i,ak (getD t0 q []) i _ hlt,hw,e1',bind_some]
   simp only
   rw[hwi,e2]
   rfl
  ·rw[drop_eq_getElem_cons hlt] at hr
   rcases List.mem_cons.1 hr with g | g
   ·rw[g]
    exact ⟨h4 _ (hb _ (by simp) (by omega)),fun hle=>h4 _ (hb _ (by simp) hle)⟩
   ·exact h5 r g
theorem J0 (k:Nat) (t0:List RgT) (hk:10000000≤k) (hn:t0.length≤1000) (hs:RgL t0):∀(d m i:Nat) (l:List Int),i+d=t0.length→d<m→fZ l→∃l',mZ k m t0 (i:Int) l=some ((),(l',()))∧fZ l'∧(∀x∈l,x∈l')∧∀s∈t0.drop i,ub s l'
 |0,m,i,l,hi,hm,hl=>by
  obtain ⟨m,rfl⟩:=aq (m:=m) (by omega)
  refine ⟨l,?_,hl,fun x hx=>hx,fun s hs=>?_⟩
  ·simp only[mZ]
   rw[decide_eq_false (by omega),cond_false]
  ·rw[drop_eq_nil_of_le (by omega)] at hs
   cases hs
 |d+1,m,i,l,hi,hm,hl=>by
  obtain ⟨m,rfl⟩:=aq (m:=m) (by omega)
  have hlt:i<t0.length:=by omega
  have hr:=ml hs i
  have hlen:=eP hr
  obtain ⟨l1,e1,h1,h2,hb⟩:=JZ k t0 i hk hlt hr (getD t0 i []).length k 0 l (Nat.zero_add _) (by omega) hl
  obtain ⟨l2,e2,h3,h4,h5⟩:=J0 k t0 hk hn hs d m (i+1) l1 (by omega) (by omega) h1
  refine ⟨l2,?_,h3,fun x hx=>h4 x (h2 x hx),fun s hs=>?_⟩
  ·rw[show ((0:Nat):Int)=0 from rfl] at e1
   simp only[mZ]
   rw[dlt hlt,cond_true,e1,bind_some]
   simp only
   rw[aM i _ hlt (by omega),e2]
   rfl
  ·rw[drop_eq_getElem_cons hlt] at hs
   rcases List.mem_cons.1 hs with g | g
   ·intro r hr
    rw[drop_zero,ak _ _ _ hlt,←g] at hb
    exact ⟨h4 _ (hb r hr).1,fun hle=>h4 _ ((hb r hr).2 hle)⟩
   ·exact h5 s g
theorem a0s (k:Nat) (t0:List RgT) (hk:10000000≤k) (hn:t0.length≤1000) (hs:RgL t0):∃l,F70 k t0=some ((l,()),())∧fZ l∧0∈l∧∀s∈t0,ub s l:=by
 obtain ⟨l,e,h1,h2,h3⟩:=J0 k t0 hk hn hs t0.length k 0 [0] (Nat.zero_add _) (by omega) ⟨List.pairwise_singleton _ _,fun x hx=>by
  rw[List.mem_singleton.1 hx]; omega⟩
 refine ⟨l,?_,h1,h2 0 (List.mem_singleton.2 rfl),h3⟩
 have e':mZ k k t0 0 (List.set (replicate 1 (0:Int)) 0 0)=_:=e
 unfold F70
 simp only
 rw[e',bind_some]
theorem Um {s:RgT} {p:List Int} (hb:ub s p) {x y:Int} (hyx:y≤x) (hx:x≤1114111) (h:∀z∈p,z≤x→z≤y):has s x=has s y:=by
 unfold has
 rw[Bool.eq_iff_iff,any_eq_true,any_eq_true]
 constructor
 ·rintro ⟨r,hr,e⟩
  simp only[Bool.and_eq_true,decide_eq_true_eq] at e
  refine ⟨r,hr,?_⟩
  simp only[Bool.and_eq_true,decide_eq_true_eq]
  exact ⟨h _ (hb r hr).1 e.1,by omega⟩
 ·rintro ⟨r,hr,e⟩
  simp only[Bool.and_eq_true,decide_eq_true_eq] at e
  refine ⟨r,hr,?_⟩
  simp only[Bool.and_eq_true,decide_eq_true_eq]
  refine ⟨by omega,?_⟩
  by_cases hc:x≤r.2.1
  ·exact hc
  ·have:=h _ ((hb r hr).2 (by omega)) (by omega)
   omega
theorem CL {x y:Int}:∀(l:List RgT) (t:Int),(∀s∈l,has s x=has s y)→bM x l t=bM y l t
 | [],t,_=>rfl
 |s::l,t,h=>by
  rw[bM,bM,h s mem_cons_self]
  exact CL l _ fun r hr=>h r (mem_cons_of_mem _ hr)
theorem vI {x y:Int}:∀(l:List RgT) (t u:Int),bM x l t=bM y l u→t=u∧∀s∈l,has s x=has s y
 | [],t,u,h=>⟨h,fun s hs=>by cases hs⟩
 |s::l,t,u,h=>by
  rw[bM,bM] at h
  obtain ⟨h1,h2⟩:=vI l _ _ h
  cases hx:has s x<;>cases hy:has s y<;>rw[hx,hy] at h1<;>simp only[if_true,Bool.false_eq_true,if_false] at h1
  ·exact ⟨by omega,fun r hr=>(List.mem_cons.1 hr).elim (fun e=>by rw[e,hx,hy]) (h2 r)⟩
  ·omega
  ·omega
  ·exact ⟨by omega,fun r hr=>(List.mem_cons.1 hr).elim (fun e=>by rw[e,hx,hy]) (h2 r)⟩
def Mj (b:List Int) (x:Int) (j:Nat):Prop:=∃h:j<b.length,b[j]≤x∧∀j',j<j'→(h':j'<b.length)→x<b[j']
theorem J1 (k:Nat) (t0:List RgT) (t8 t9 v:Int) (a b c s:List Int) (hn:s.length≤5000000):∀(d m i:Nat),i+d=s.length→d<m→v∉s.take i→sL k m t0 t8 t9 v (i:Int) a b c s=some ((t0,(t8,(t9,(v,(((ix s v:Nat):Int),()))))),(a,(b,(c,(s,())))))
 |0,m,i,hi,hm,hnot=>by
  obtain ⟨m,rfl⟩:=aq (m:=m) (by omega)
  rw[take_of_length_le (by omega)] at hnot
  simp only[sL]
  rw[decide_eq_false (by omega),cond_false,ll hnot,show i=s.length by omega]
 |d+1,m,i,hi,hm,hnot=>by
  obtain ⟨m,rfl⟩:=aq (m:=m) (by omega)
  have hlt:i<s.length:=by omega
  simp only[sL]
  rw[dlt hlt,cond_true,if_pos (inR hlt),tnI i,ak _ _ _ hlt]
  by_cases h:s[i]=v
  ·rw[show (s[i] != v)=false by simpa using h,cond_false,vC hlt h hnot]
  ·rw[show (s[i] != v)=true by simpa using h,cond_true,aM i _ hlt (by omega),J1 k t0 t8 t9 v a b c s hn d m (i+1) (by omega) (by omega) (nP hlt h hnot)]
   rfl
structure vJ (t0:List RgT) (p:List Int) (i:Nat) (t8:Int) (b c s:List Int):Prop where
 bc:b.length=c.length
 ci:c.length≤i
 si:s.length≤i
 nd:s.Nodup
 at_:∀j (h:j<b.length),∃n:Nat,c[j]? = some (n:Int)∧s[n]? = some (bM b[j] t0 0)
 up:b.Pairwise (· < ·)
 lt:∀y∈b,∀z∈p.drop i,y<z
 last:b=[]∧t8 = -1∨∃h:b.length-1<b.length,t8=bM b[b.length-1] t0 0
 cut:∀x,0≤x→x≤1114111→(∀z∈p.drop i,x<z)→∃j,Mj b x j∧∃h:j<b.length,bM b[j] t0 0=bM x t0 0
theorem vJ.next {t0:List RgT} {p:List Int} {i:Nat} {t8:Int} {b c s:List Int} (hp:fZ p) (hb:∀s∈t0,ub s p) (h:vJ t0 p i t8 b c s) (hi:i<p.length) :
  (bM p[i] t0 0=t8→vJ t0 p (i+1) t8 b c s)∧(bM p[i] t0 0≠t8→vJ t0 p (i+1) (bM p[i] t0 0) (b++[p[i]]) (c++[((ix s (bM p[i] t0 0):Nat):Int)]) (bH s (bM p[i] t0 0))):=by
 have hd:p.drop i=p[i]::p.drop (i+1):=drop_eq_getElem_cons hi
 have hup:∀z∈p.drop (i+1),p[i]<z:=by
  have:=List.Pairwise.sublist (List.drop_sublist i p) hp.1
  rw[hd] at this
  exact (List.pairwise_cons.1 this).1
 have hbi:∀y∈b,y<p[i]:=fun y hy=>h.lt y hy _ (by rw[hd]; exact mem_cons_self)
 -- what is behind the place and ahead of the next one is as the place
 have key:∀x,p[i]≤x→x≤1114111→(∀z∈p.drop (i+1),x<z)→bM x t0 0=bM p[i] t0 0:=fun x h1 h2 h3=>by
  refine CL t0 0 fun r hr=>Um (hb r hr) h1 h2 fun z hz hzx=>?_
  rw[←take_append_drop i p,hd] at hz
  rcases List.mem_append.1 hz with q | q
  ·have:=hp.1
   rw[←take_append_drop i p] at this
   exact Int.le_of_lt ((List.pairwise_append.1 this).2.2 z q _ (by rw[hd]; exact mem_cons_self))
  ·rcases List.mem_cons.1 q with q | q
   ·rw[q]; exact Int.le_refl _
   ·have:=h3 z q
    omega
 constructor
 ·intro he
  refine ⟨h.bc,by have:=h.ci; omega,by have:=h.si; omega,h.nd,h.at_,h.up,fun y hy z hz=>h.lt y hy z (by rw[hd]; exact mem_cons_of_mem _ hz),h.last,fun x x0 x1 hx=>?_⟩
  by_cases hxi:x<p[i]
  ·exact h.cut x x0 x1 fun z hz=>by
    rw[hd] at hz
    rcases List.mem_cons.1 hz with q | q
    ·rw[q]; exact hxi
    ·exact hx z q
  ·rcases h.last with ⟨q,e⟩ | ⟨q,e⟩
   ·have:=Ae p[i] t0 0 (Int.le_refl _)
    omega
   ·refine ⟨b.length-1,⟨q,?_,fun j' h1 h2=>by omega⟩,q,?_⟩
    ·have:=hbi _ (getElem_mem q)
     omega
    ·rw[←e,←he,key x (by omega) x1 hx]
 ·intro hne
  have hbl:(b++[p[i]]).length=b.length+1:=by simp
  have hcl:(c++[((ix s (bM p[i] t0 0):Nat):Int)]).length=c.length+1:=by simp
  obtain ⟨tl,htl⟩:=kB s (bM p[i] t0 0)
  have hlast:(b++[p[i]])[b.length]'(by omega)=p[i]:=by simp
  have hput:=jX s (bM p[i] t0 0)
  have hbc:=h.bc
  refine ⟨by omega,by have:=h.ci; omega,by have:=h.si; omega,nS h.nd _,fun j hj=>?_,?_,fun y hy z hz=>?_,.inr ⟨by omega,?_⟩,fun x x0 x1 hx=>?_⟩
  ·by_cases hjb:j<b.length
   ·obtain ⟨n,h1,h2⟩:=h.at_ j hjb
    refine ⟨n,gL rfl h1,?_⟩
    rw[getElem_append_left hjb]
    exact gL htl h2
   ·obtain rfl:j=b.length:=by omega
    refine ⟨ix s (bM p[i] t0 0),?_,?_⟩
    ·rw[hbc,List.getElem?_append_right (Nat.le_refl _),Nat.sub_self]
     rfl
    ·rw[hlast]
     exact vD s _
  ·rw[List.pairwise_append]
   exact ⟨h.up,List.pairwise_singleton _ _,fun y hy z hz=>by rw[List.mem_singleton.1 hz]; exact hbi y hy⟩
  ·rcases List.mem_append.1 hy with q | q
   ·exact h.lt y q z (by rw[hd]; exact mem_cons_of_mem _ hz)
   ·rw[List.mem_singleton.1 q]; exact hup z hz
  ·simp
  ·by_cases hxi:x<p[i]
   ·obtain ⟨j,⟨h1,h2,h3⟩,h4,h5⟩:=h.cut x x0 x1 fun z hz=>by
     rw[hd] at hz
     rcases List.mem_cons.1 hz with q | q
     ·rw[q]; exact hxi
     ·exact hx z q
    refine ⟨j,⟨by omega,?_,fun j' q1 q2=>?_⟩,by omega,?_⟩
    ·rw[getElem_append_left h1]; exact h2
    ·by_cases hjb:j'<b.length
     ·rw[getElem_append_left hjb]; exact h3 j' q1 hjb
     ·obtain rfl:j'=b.length:=by omega
      rw[hlast]; exact hxi
    ·rw[getElem_append_left h1]; exact h5
   ·refine ⟨b.length,⟨by omega,?_,fun j' q1 q2=>by omega⟩,by omega,?_⟩
    ·rw[hlast]; omega
    ·rw[hlast,key x (by omega) x1 hx]
theorem B4 (k:Nat) (t0:List RgT) (p:List Int) (hk:10000000≤k) (hn:t0.length≤40) (hs:RgL t0) (hp:fZ p) (hbd:∀s∈t0,ub s p) (hpl:p.length≤2000000):∀(d m i:Nat) (t8:Int) (b c s:List Int),i+d=p.length→d<m→vJ t0 p i t8 b c s →
  ∃b' c' t8' s',kU k m t0 t8 (i:Int) p b c s=some ((),(b',(c',())))∧vJ t0 p p.length t8' b' c' s'
 |0,m,i,t8,b,c,s,hi,hm,h=>by
  obtain ⟨m,rfl⟩:=aq (m:=m) (by omega)
  obtain rfl:i=p.length:=by omega
  refine ⟨b,c,t8,s,?_,h⟩
  simp only[kU]
  rw[decide_eq_false (by omega),cond_false]
 |d+1,m,i,t8,b,c,s,hi,hm,h=>by
  obtain ⟨m,rfl⟩:=aq (m:=m) (by omega)
  have hlt:i<p.length:=by omega
  obtain ⟨n1,n2⟩:=h.next hp hbd hlt
  have hbc:=h.bc
  have hci:=h.ci
  have hsi:=h.si
  simp only[kU]
  rw[dlt hlt,cond_true,if_pos (inR hlt),tnI i,ak _ _ _ hlt,a1m k t0 _ hk hn hs,bind_some]
  simp only
  rw[aM i _ hlt (by omega)]
  by_cases hv:bM p[i] t0 0=t8
  ·obtain ⟨b',c',t8',s',e,h'⟩:=B4 k t0 p hk hn hs hp hbd hpl d m (i+1) t8 b c s (by omega) (by omega) (n1 hv)
   refine ⟨b',c',t8',s',?_,h'⟩
   rw[beq_iff_eq.2 hv,cond_true,e]
   rfl
  ·have e:=J1 k t0 (bM p[i] t0 0) (i:Int) (bM p[i] t0 0) p b c s (by omega) s.length k 0 (Nat.zero_add _) (by omega) (by simp)
   rw[show ((0:Nat):Int)=0 from rfl] at e
   obtain ⟨b',c',t8',s',e2,h'⟩:=B4 k t0 p hk hn hs hp hbd hpl d m (i+1) _ _ _ _ (by omega) (by omega) (n2 hv)
   refine ⟨b',c',t8',s',?_,h'⟩
   have k1:(s.length+[bM p[i] t0 0].length)*(8*2)≤281474976710656∧s.length+[bM p[i] t0 0].length≤9223372036854775807:=by rw[length_singleton]; omega
   have k2:(b.length+[p[i]].length)*(8*2)≤281474976710656∧b.length+[p[i]].length≤9223372036854775807:=by rw[length_singleton]; omega
   have k3:(c.length+[((ix s (bM p[i] t0 0):Nat):Int)].length)*(8*2)≤281474976710656∧c.length+[((ix s (bM p[i] t0 0):Nat):Int)].length≤9223372036854775807:=by rw[length_singleton]; omega
   rw[beq_false_of_ne hv,cond_false,e,bind_some]
   simp only[bD]
   rw[aM i _ hlt (by omega),tnI i,ak _ _ _ hlt]
   by_cases hm2:bM p[i] t0 0∈s
   ·have h1:=lm hm2
    rw[mo hm2] at e2
    rw[beq_false_of_ne (show ¬((ix s (bM p[i] t0 0):Nat):Int)=((s.length:Nat):Int) by omega),cond_false,if_pos (inR hlt),if_pos k2,if_pos k3,e2]
    rfl
   ·have h1:=ll hm2
    rw[mr hm2] at e2
    rw[show (((ix s (bM p[i] t0 0):Nat):Int)==((s.length:Nat):Int))=true by rw[h1]; simp,cond_true,if_pos k1,if_pos (inR hlt),if_pos k2,if_pos k3,e2]
    rfl
structure IC (t0:List RgT) (b c:List Int):Prop where
 up:b.Pairwise (· < ·)
 bc:b.length=c.length
 cl:c.length≤2000000
 lp:BU 2000000 c
 ne:c≠[]
 cut:∀x,0≤x→x≤1114111→∃j,Mj b x j∧∃h:j<b.length,bM b[j] t0 0=bM x t0 0
 same:∀i j (hi:i<b.length) (hj:j<b.length),getD c i 0=getD c j 0→bM b[i] t0 0=bM b[j] t0 0
theorem a1s (k:Nat) (t0:List RgT) (hk:10000000≤k) (hn:t0.length≤40) (hs:RgL t0):∃b c,F38 k t0=some ((b,(c,())),())∧IC t0 b c:=by
 obtain ⟨p,e,hp,h0,hb⟩:=a0s k t0 hk (by omega) hs
 have hl:=vv hp
 have hi:vJ t0 p 0 (-1) [] [] []:=⟨rfl,Nat.le_refl _,Nat.le_refl _,List.nodup_nil,(fun j h=>by simp at h),List.Pairwise.nil,(fun y hy=>by cases hy),.inl ⟨rfl,rfl⟩,(fun x x0 x1 hx=>by
  have:=hx 0 (by rw[drop_zero]; exact h0)
  omega)⟩
 obtain ⟨b,c,t8,s,e2,h⟩:=B4 k t0 p hk hn hs hp hb (by omega) p.length k 0 (-1) [] [] [] (Nat.zero_add _) (by omega) hi
 have hbc:=h.bc
 have hci:=h.ci
 have hsi:=h.si
 have hcut:=fun x x0 x1=>h.cut x x0 x1 fun z hz=>by rw[drop_length] at hz; cases hz
 refine ⟨b,c,?_,h.up,hbc,by omega,fun x hx=>?_,fun hc=>?_,hcut,fun i j hi hj he=>?_⟩
 ·rw[show ((0:Nat):Int)=0 from rfl] at e2
  unfold F38
  rw[e,bind_some]
  simp only
  rw[e2,bind_some]
 ·obtain ⟨j,hj,ej⟩:=List.mem_iff_getElem.1 hx
  obtain ⟨n,h1,h2⟩:=h.at_ j (by omega)
  rw[getElem?_eq_getElem hj,ej] at h1
  injection h1 with h1
  have:=(List.getElem?_eq_some_iff.1 h2).1
  omega
 ·obtain ⟨j,_,hj,_⟩:=hcut 0 (Int.le_refl _) (by decide)
  rw[hbc,hc] at hj
  simp at hj
 ·obtain ⟨n,h1,h2⟩:=h.at_ i hi
  obtain ⟨m,h3,h4⟩:=h.at_ j hj
  rw[getD_eq_getElem?_getD,getD_eq_getElem?_getD,h1,h3] at he
  have he':n=m:=Int.ofNat.inj (show ((n:Nat):Int)=((m:Nat):Int) from he)
  subst he'
  rw[h2] at h4
  injection h4
theorem J2 (k:Nat) (b c:List Int) (x:Int) (hb:b.length≤5000000) (hup:b.Pairwise (· < ·)) (j:Nat) (hj:Mj b x j):∀(d m i:Nat),i+d=j→d<m→tG k m b c x (i:Int)=some ((c,((j:Int),())),())
 |0,m,i,hi,hm=>by
  obtain ⟨m,rfl⟩:=aq (m:=m) (by omega)
  obtain rfl:i=j:=by omega
  obtain ⟨h1,h2,h3⟩:=hj
  simp only[tG]
  rw[aM i b.length (by omega) (by omega)]
  by_cases hc:i+1<b.length
  ·have:=h3 (i+1) (by omega) hc
   rw[dlt hc,cond_true,if_pos (inR hc),tnI (i+1),ak _ _ _ hc,decide_eq_false (by omega),cond_false]
  ·rw[decide_eq_false (by omega),cond_false]
 |d+1,m,i,hi,hm=>by
  obtain ⟨m,rfl⟩:=aq (m:=m) (by omega)
  have h0:=hj
  obtain ⟨h1,h2,h3⟩:=hj
  have hc:i+1<b.length:=by omega
  have hle:b[i+1]≤x:=by
   by_cases he:i+1=j
   ·subst he; exact h2
   ·have:=List.pairwise_iff_getElem.1 hup (i+1) j hc h1 (by omega)
    omega
  simp only[tG]
  rw[aM i b.length (by omega) (by omega),dlt hc,cond_true,if_pos (inR hc),tnI (i+1),ak _ _ _ hc,decide_eq_true hle,cond_true,J2 k b c x hb hup j h0 d m (i+1) (by omega) (by omega)]
  rfl
end Go.Proofs.YtgmmopbpldgpcaaE
set_option linter.unusedSimpArgs false
set_option linter.unusedVariables false
set_option maxRecDepth 20000
namespace Go.Proofs.YtgmmopbpldgpcaaE
theorem Jn (l:List Bool) (i j:Nat) (v:Bool) (h:j<l.length):getD (List.set l i v) j false=if i=j then v else getD l j false:=by
 rw[getD_eq_getElem?_getD,getD_eq_getElem?_getD,List.getElem?_set]
 by_cases e:i=j
 ·subst e; rw[if_pos rfl,if_pos h,if_pos rfl]; rfl
 ·rw[if_neg e,if_neg e]
theorem J3 (k:Nat) (t0:List RgT) (p q:List Int) (u:Nat) (m2:List (List Bool)) (N:Nat) (hk:10000000≤k) (hu:u<t0.length) (hs:RgL t0) (hpq:p.length=q.length) (hp:p.length≤2000000) (hq:∀x∈q,0≤x∧x<(N:Int)) (hsame:∀i j (hi:i<p.length) (hj:j<p.length),getD q i 0=getD q j 0→has (getD t0 u []) p[i]=has (getD t0 u []) p[j]):∀(d m i:Nat) (row:List Bool),i+d=p.length→d<m→row.length=N→(∀j (h:j<p.length),j<i→getD row (getD q j 0).toNat false=has (getD t0 u []) p[j])→∃row',sP k m t0 p q (u:Int) (i:Int) row m2=some ((t0,(p,(q,((u:Int),())))),(row',(m2,())))∧row'.length=N∧∀j (h:j<p.length),getD row' (getD q j 0).toNat false=has (getD t0 u []) p[j]
 |0,m,i,row,hi,hm,hr,hrow=>by
  obtain ⟨m,rfl⟩:=aq (m:=m) (by omega)
  refine ⟨row,?_,hr,fun j h=>hrow j h (by omega)⟩
  simp only[sP]
  rw[decide_eq_false (by omega),cond_false]
 |d+1,m,i,row,hi,hm,hr,hrow=>by
  obtain ⟨m,rfl⟩:=aq (m:=m) (by omega)
  have hlt:i<p.length:=by omega
  have hlt2:i<q.length:=by omega
  have hlen:=eP (ml hs u)
  have hx:=hq _ (getElem_mem hlt2)
  have hqi:getD q i 0=q[i]:=ak q i 0 hlt2
  obtain ⟨row',e,h,h2⟩:=J3 k t0 p q u m2 N hk hu hs hpq hp hq hsame d m (i+1) (List.set row (Int.toNat q[i]) (has (getD t0 u []) (getD p i 0))) (by omega) (by omega) (by rw[length_set]; exact hr) (fun j hj hji=>by
   have hqj:=hq _ (getElem_mem (show j<q.length by omega))
   have hgj:getD q j 0=q[j]'(by omega):=ak q j 0 (by omega)
   rw[Jn _ _ _ _ (by omega),ak p i 0 hlt]
   split
   ·rename_i he
    exact hsame i j hlt hj (by omega)
   ·rename_i he
    by_cases hij:j=i
    ·subst hij
     exact absurd (by rw[hqi]) he
    ·exact hrow j hj (by omega))
  refine ⟨row',?_,h,h2⟩
  have hin:0≤q[i]∧q[i]<((length row:Nat):Int):=by omega
  simp only[sP]
  rw[dlt hlt,cond_true,if_pos (inR hlt2),if_pos (inR hu),if_pos (inR hlt),tnI u,tnI i,HE k _ _ (by omega) hk,bind_some]
  simp only
  rw[ak q i _ hlt2,if_pos hin,aM i _ hlt (by omega),e]
  rfl
def InS (t0:List RgT) (p q:List Int) (I:InT):Prop:=∀u,u<t0.length→∀j (h:j<p.length),getD (getD I u []) (getD q j 0).toNat false=has (getD t0 u []) p[j]
theorem J4 (k:Nat) (t0:List RgT) (p q:List Int) (c:Int) (hk:10000000≤k) (hn:t0.length≤1000) (hs:RgL t0) (hC:IC t0 p q) (e50:F40 k q=some ((c,()),())) (hc0:0≤c) (hc1:c≤2000000) (hq:∀x∈q,0≤x∧x<c):∀(d m i:Nat) (M:List (List Bool)),i+d=t0.length→d<m→M.length=i→(∀r∈M,r.length=c.toNat)→(∀u,u<i→∀j (h:j<p.length),getD (getD M u []) (getD q j 0).toNat false=has (getD t0 u []) p[j])→∃M',sQ k m t0 p q (i:Int) M=some ((),(M',()))∧M'.length=t0.length∧(∀r∈M',r.length=c.toNat)∧InS t0 p q M'
 |0,m,i,M,hi,hm,hM,hr,hS=>by
  obtain ⟨m,rfl⟩:=aq (m:=m) (by omega)
  refine ⟨M,?_,by omega,hr,fun u hu=>hS u (by omega)⟩
  simp only[sQ]
  rw[decide_eq_false (by omega),cond_false]
 |d+1,m,i,M,hi,hm,hM,hr,hS=>by
  obtain ⟨m,rfl⟩:=aq (m:=m) (by omega)
  have hlt:i<t0.length:=by omega
  have hpq:=hC.bc
  have hcl:=hC.cl
  obtain ⟨row,e,h,hrow⟩:=J3 k t0 p q i M c.toNat hk hlt hs hpq (by omega) (fun x hx=>by have:=hq x hx; omega) (fun a b ha hb he=>(vI t0 0 0 (hC.same a b ha hb he)).2 _ (by rw[ak _ _ _ hlt]; exact getElem_mem hlt)) p.length k 0 (replicate c.toNat false) (Nat.zero_add _) (by omega) (by simp) (fun j _ hj=>by omega)
  rw[show ((0:Nat):Int)=0 from rfl] at e
  obtain ⟨M',e2,h2,h3,h4⟩:=J4 k t0 p q c hk hn hs hC e50 hc0 hc1 hq d m (i+1) (M++[row]) (by omega) (by omega) (by simp[hM]) (fun r hx=>by
   rcases List.mem_append.1 hx with g | g
   ·exact hr r g
   ·rw[List.mem_singleton.1 g]; exact h) (fun u hu j hj=>by
   by_cases hui:u<i
   ·rw[getD_eq_getElem?_getD (l:=M++[row]),getElem?_append_left (by omega),←getD_eq_getElem?_getD]
    exact hS u hui j hj
   ·obtain rfl:u=i:=by omega
    rw[getD_eq_getElem?_getD (l:=M++[row]),List.getElem?_append_right (by omega),hM,Nat.sub_self]
    exact hrow j hj)
  refine ⟨M',?_,h2,h3,h4⟩
  have k1:(0≤c∧c<c+1)∧c≤9223372036854775807∧((1:Nat):Int)*c≤281474976710656:=by omega
  have k2:(M.length+[row].length)*(24*2)≤281474976710656∧M.length+[row].length≤9223372036854775807:=by rw[length_singleton]; omega
  simp only[sQ]
  rw[dlt hlt,cond_true,e50,bind_some]
  simp only
  rw[if_pos k1,e,bind_some]
  simp only[bD]
  rw[aM i _ hlt (by omega)]
  rw[if_pos k2,e2]
  rfl
theorem a2s (k:Nat) (t0:List RgT) (p q:List Int) (hk:10000000≤k) (hn:t0.length≤1000) (hs:RgL t0) (hC:IC t0 p q):∃(M:List (List Bool)) (N:Nat),F39 k t0 p q=some ((M,()),())∧F40 k q=some (((N:Int),()),())∧N≤2000000∧M.length=t0.length∧(∀r∈M,r.length=N)∧(∀x∈q,0≤x∧x<(N:Int))∧InS t0 p q M:=by
 have hcl:=hC.cl
 obtain ⟨c,e,h0,h1,h2⟩:=a4m k q hk (by omega) hC.lp
 have hq:∀x∈q,0≤x∧x<c:=fun x hx=>⟨(hC.lp x hx).1,h2 x hx⟩
 obtain ⟨M,e2,h3,h4,h5⟩:=J4 k t0 p q c hk hn hs hC e h0 h1 hq t0.length k 0 [] (Nat.zero_add _) (by omega) rfl (fun r hr=>by cases hr) (fun u hu=>by omega)
 refine ⟨M,c.toNat,?_,by rw[show ((c.toNat:Nat):Int)=c by omega]; exact e,by omega,h3,h4,fun x hx=>by have:=hq x hx; omega,h5⟩
 rw[show ((0:Nat):Int)=0 from rfl] at e2
 unfold F39
 rw[e2,bind_some]
def ID (sets:List RgT) (I:InT) (N:Nat) (x:Int) (a:Nat):Prop:=a<N∧∀u,u<sets.length→getD (getD I u []) a false=has (getD sets u []) x
theorem a3s (k:Nat) (hk:10000000≤k) (t0:List RgT) (b c:List Int) (I:InT) (N:Nat) (hC:IC t0 b c) (hS:InS t0 b c I) (hN:∀x∈c,0≤x∧x<(N:Int)) (x:Int) (h0:0≤x) (h1:x≤1114111):∃a:Nat,F61 k b c x=some (((a:Int),()),())∧ID t0 I N x a:=by
 have hbc:=hC.bc
 have hcl:=hC.cl
 obtain ⟨j,hj,hjb,hkey⟩:=hC.cut x h0 h1
 have hjc:j<c.length:=by omega
 have hcj:=hN _ (getElem_mem hjc)
 have e:=J2 k b c x (by omega) hC.up j hj j k 0 (Nat.zero_add _) (by omega)
 rw[show ((0:Nat):Int)=0 from rfl] at e
 refine ⟨c[j].toNat,?_,by omega,fun u hu=>?_⟩
 ·unfold F61
  rw[e,bind_some]
  simp only
  rw[if_pos (inR hjc),tnI j,ak _ _ _ hjc,show ((c[j].toNat:Nat):Int)=c[j] by omega]
 ·have:=hS u hu j hjb
  rw[ak c j 0 hjc] at this
  rw[this]
  exact (vI t0 0 0 hkey).2 _ (by rw[ak _ _ _ hu]; exact getElem_mem hu)
theorem J5 (k:Nat) (t:List Int) (w:jD) (P:Int→Nat→Prop) (ht:t.length≤1000000) (hP:∀x∈t,∃a:Nat,F61 k w.2.1 w.2.2.1 x=some (((a:Int),()),())∧P x a):∀(d m i:Nat) (acc:List Nat),i+d=t.length→d<m→acc.length=i→(∀j (h:j<acc.length) (h2:j<t.length),P t[j] acc[j])→∃x:List Nat,nA k m t (i:Int) w (eE acc)=some ((),(eE x,()))∧x.length=t.length∧∀j (h:j<x.length) (h2:j<t.length),P t[j] x[j]
 |0,m,i,acc,hi,hm,ha,hx=>by
  obtain ⟨m,rfl⟩:=aq (m:=m) (by omega)
  refine ⟨acc,?_,by omega,hx⟩
  simp only[nA]
  rw[decide_eq_false (by omega),cond_false]
 |d+1,m,i,acc,hi,hm,ha,hx=>by
  obtain ⟨m,rfl⟩:=aq (m:=m) (by omega)
  have hlt:i<t.length:=by omega
  obtain ⟨a,e61,hPa⟩:=hP _ (getElem_mem hlt)
  obtain ⟨x,e,h1,h2⟩:=J5 k t w P ht hP d m (i+1) (acc++[a]) (by omega) (by omega) (by simp[ha]) (fun j h h2=>by
   by_cases hj:j<acc.length
   ·rw[getElem_append_left hj]; exact hx j hj h2
   ·have:j=i:=by simp at h; omega
    subst this
    rw[List.getElem_append_right (by omega)]
    simp only[ha,Nat.sub_self,List.getElem_cons_zero]
    exact hPa)
  refine ⟨x,?_,h1,h2⟩
  simp only[nA]
  rw[dlt hlt,cond_true,if_pos (inR hlt),tnI i,ak _ _ _ hlt,e61,bind_some]
  simp only
  rw[bD,if_pos (by rw[length_singleton,length_map]; omega),aM i _ hlt (by omega),show eE acc++[(a:Int)]=eE (acc++[a]) from by simp[eE],e]
  rfl
theorem a4s (k:Nat) (t:List Int) (w:jD) (P:Int→Nat→Prop) (ht:t.length≤1000000) (hk:10000000≤k) (hP:∀x∈t,∃a:Nat,F61 k w.2.1 w.2.2.1 x=some (((a:Int),()),())∧P x a):∃x:List Nat,F22 k w t=some ((eE x,()),())∧x.length=t.length∧∀j (h:j<x.length) (h2:j<t.length),P t[j] x[j]:=by
 obtain ⟨x,e,h⟩:=J5 k t w P ht hP t.length k 0 [] (Nat.zero_add _) (by omega) rfl (fun j h=>by cases h)
 rw[show ((0:Nat):Int)=0 from rfl] at e
 refine ⟨x,?_,h⟩
 unfold F22
 rw[show nA k k t 0 w []=_ from e,bind_some]
def Sca (x:Int):Prop:=0≤x∧x≤1114111
theorem J6 (k:Nat) (ts:List Int) (n:Nat) (hn:n≤1000) (hl:ts.length≤100000000000000):∀(d m i:Nat) (acc:List Int),i+d=n→d<m→i≤ts.length→acc.length=i→(∀x∈acc,Sca x)→∃l,tF k m ts (n:Int) (i:Int) acc=some ((),(l,()))∧l.length≤n∧∀x∈l,Sca x
 |0,m,i,acc,hi,hm,hil,ha,hs=>by
  obtain ⟨m,rfl⟩:=aq (m:=m) (by omega)
  refine ⟨acc,?_,by omega,hs⟩
  simp only[tF]
  rw[decide_eq_false (show ¬(i:Int)<(n:Int) by omega),cond_false]
  cases (decide ((i:Int)<((length ts:Nat):Int)))<;>rfl
 |d+1,m,i,acc,hi,hm,hil,ha,hs=>by
  obtain ⟨m,rfl⟩:=aq (m:=m) (by omega)
  simp only[tF]
  by_cases hlt:i<ts.length
  ·have hm0:0≤(getD ts i 0)%12:=Int.emod_nonneg _ (by decide)
   have hm1:(getD ts i 0)%12<12:=Int.emod_lt_of_pos _ (by decide)
   generalize hx2:(List.set (List.set (List.set (List.set (List.set (List.set (List.set (List.set (List.set (List.set (List.set (List.set (replicate 12 (0:Int)) 0 (97:Int)) 1 (97:Int)) 2 (98:Int)) 3 (99:Int)) 4 (49:Int)) 5 (55:Int)) 6 (32:Int)) 7 (120:Int)) 8 (19969:Int)) 9 (128512:Int)) 10 (45:Int)) 11 (50:Int))=x2
   have hx:x2.length=12:=by rw[←hx2]; rfl
   have hxs:∀y∈x2,Sca y:=by rw[←hx2]; unfold Sca; decide
   have hv:=hxs _ (cK (d:=0) (show Int.toNat (getD ts i 0%12)<x2.length by omega))
   obtain ⟨l,e,h⟩:=J6 k ts n hn hl d m (i+1) (acc++[getD x2 (Int.toNat (getD ts i 0%12)) 0]) (by omega) (by omega) (by omega) (by simp[ha]) (fc hs hv)
   refine ⟨l,?_,h⟩
   rw[dlt hlt,cond_true,decide_eq_true (show (i:Int)<(n:Int) by omega),cond_true,if_pos (inR hlt),tnI i,a7n k _ 12 (by decide) (by decide),bind_some]
   simp only
   rw[if_pos ⟨hm0,by rw[hx]; exact hm1⟩]
   have ha1:∀v:Int,(length acc+length (List.set (replicate 1 (0:Int)) 0 v))*(8*2)≤281474976710656∧length acc+length (List.set (replicate 1 (0:Int)) 0 v)≤9223372036854775807:=fun v=>by simp; omega
   rw[if_pos (ha1 _),aM i _ hlt (by omega)]
   rw[show ∀v:Int,List.set (replicate 1 (0:Int)) 0 v=[v] from fun v=>rfl,e]
   rfl
  ·exact ⟨acc,by rw[decide_eq_false (by omega),cond_false],by omega,hs⟩
theorem a5s (k:Nat) (ts:List Int) (n:Nat) (hn:n≤1000) (hk:10000000≤k) (hl:ts.length≤100000000000000):∃l,F23 k ts (n:Int)=some ((l,()),())∧l.length≤n∧∀x∈l,Sca x:=by
 obtain ⟨l,e,h⟩:=J6 k ts n hn hl n k 0 [] (Nat.zero_add _) (by omega) (zero_le _) rfl (fun x hx=>by cases hx)
 rw[show ((0:Nat):Int)=0 from rfl] at e
 refine ⟨l,?_,h⟩
 unfold F23
 rw[e,bind_some]
def IE (ns:List Int) (i:Nat) (r:ct):Prop:=i<ns.length→r.1=tmod (getD ns i 0%1073741824) 3∧r.2.1=tmod (IntKind.wrap .i64 (tdiv (getD ns i 0%1073741824) 3)) 20
theorem J7 (k:Nat) (l:List eB) (ns:List Int) (c6:b7) (ds:List eO) (hk:20000000≤k) (hl:∀r∈l,iq 5 r) (hn:ns.length≤100000000000000):∀(d m j:Nat) (rs:List ct),j+d=4→d<m→rs.length=j→2*j≤l.length→(∀r∈rs,nQ r)→(∀i (h:i<rs.length),IE ns i rs[i])→∃rs',jM k m l ns ((2*j:Nat):Int) c6 (ds,(rs,()))=some ((),(c6,(ds,(rs',())),()))∧(rs'.length≤4∧2*rs'.length≤l.length∧(l.length<2*rs'.length+2∨rs'.length=4))∧(∀r∈rs',nQ r)∧∀i (h:i<rs'.length),IE ns i rs'[i]
 |0,m,j,rs,hj,hm,hr,hjl,hp,hnum=>by
  obtain ⟨m,rfl⟩:=aq (m:=m) (by omega)
  refine ⟨rs,?_,by omega,hp,hnum⟩
  simp only[jM]
  rw[decide_eq_false (show ¬((2*j:Nat):Int)<8 by omega),cond_false]
  cases (decide (IntKind.wrap .i64 (((2*j:Nat):Int)+1)<((length l:Nat):Int)))<;>rfl
 |d+1,m,j,rs,hj,hm,hr,hjl,hp,hnum=>by
  obtain ⟨m,rfl⟩:=aq (m:=m) (by omega)
  have hw1:IntKind.wrap .i64 (((2*j:Nat):Int)+1)=((2*j+1:Nat):Int):=by rw[w64 _ (by omega) (by omega)]; omega
  have hw2:IntKind.wrap .i64 (((2*j:Nat):Int)+2)=((2*(j+1):Nat):Int):=by rw[w64 _ (by omega) (by omega)]; omega
  have hw3:IntKind.wrap .i64 (tdiv ((2*j:Nat):Int) 2)=(j:Int):=by
   have:tdiv ((2*j:Nat):Int) 2=(j:Int):=by
    rw[Int.tdiv_eq_ediv_of_nonneg (by omega)]
    omega
   rw[this]
   exact a3B j (by omega)
  simp only[jM]
  rw[hw1,hw3]
  by_cases h1:2*j+1<l.length
  ·have h0:2*j<l.length:=by omega
   obtain ⟨x1,e1,p1⟩:=QF k l[2*j] false 5 (hl _ (getElem_mem h0)) (by omega)
   obtain ⟨x2,e2,p2⟩:=QF k l[2*j+1] true 5 (hl _ (getElem_mem h1)) (by omega)
   have next:∀(u v:Int),(0≤u∧u<3)→(0≤v∧v<20)→IE ns j (u,(v,(x1,(x2,()))))→∃rs',jM k m l ns ((2*(j+1):Nat):Int) c6 (ds,(rs++[(u,(v,(x1,(x2,()))))],()))=some ((),(c6,(ds,(rs',())),()))∧(rs'.length≤4∧2*rs'.length≤l.length∧(l.length<2*rs'.length+2∨rs'.length=4))∧(∀r∈rs',nQ r)∧∀i (h:i<rs'.length),IE ns i rs'[i]:=fun u v hu hv hq =>
    J7 k l ns c6 ds hk hl hn d m (j+1) (rs++[(u,(v,(x1,(x2,()))))]) (by omega) (by omega) (by simp[hr]) (by omega) (fc hp ⟨⟨p1,p2⟩,hu,hv⟩) (fun i h=>by
     by_cases hi:i<rs.length
     ·rw[getElem_append_left hi]; exact hnum i hi
     ·have:i=j:=by simp at h; omega
      subst this
      rw[List.getElem_append_right (by omega)]
      simp only[hr,Nat.sub_self,List.getElem_cons_zero]
      exact hq)
   have ha:∀y:ct,(length rs+length [y])*(160*2)≤281474976710656∧length rs+length [y]≤9223372036854775807:=fun y=>by rw[length_singleton]; omega
   have hset:∀y z:ct,List.set (replicate 1 z) 0 y=[y]:=fun y z=>rfl
   rw[dlt h1,cond_true,decide_eq_true (show ((2*j:Nat):Int)<8 by omega),cond_true]
   by_cases h2:j<ns.length
   ·obtain ⟨rs',e,h⟩:=next (tmod (getD ns j 0%1073741824) 3) (tmod (IntKind.wrap .i64 (tdiv (getD ns j 0%1073741824) 3)) 20) (tmR (Int.emod_nonneg _ (by decide)) (by decide)) (tdR (Int.emod_nonneg _ (by decide)) (Int.emod_lt_of_pos _ (by decide))) (fun _=>⟨rfl,rfl⟩)
    refine ⟨rs',?_,h⟩
    rw[dlt h2,cond_true,if_pos (inR h2),tnI j,dh k _ 1073741824 (by decide) (by decide),bind_some]
    simp only
    rw[if_pos (inR h0),if_pos (inR h1),tnI (2*j),tnI (2*j+1),ak _ _ _ h0,ak _ _ _ h1,e1,bind_some]
    simp only
    rw[e2,bind_some]
    simp only
    rw[hset,if_pos (ha _),hw2,e]
    rfl
   ·obtain ⟨rs',e,h⟩:=next (tmod ((2*j:Nat):Int) 3) (tmod (IntKind.wrap .i64 (tdiv ((2*j:Nat):Int) 3)) 20) (tmR (by omega) (by decide)) (tdR (by omega) (by omega)) (fun q=>absurd q h2)
    refine ⟨rs',?_,h⟩
    rw[decide_eq_false (show ¬(j:Int)<((length ns:Nat):Int) by omega),cond_false,if_pos (inR h0),if_pos (inR h1),tnI (2*j),tnI (2*j+1),ak _ _ _ h0,ak _ _ _ h1,e1,bind_some]
    simp only
    rw[e2,bind_some]
    simp only
    rw[hset,if_pos (ha _),hw2,e]
    rfl
  ·refine ⟨rs,?_,by omega,hp,hnum⟩
   rw[decide_eq_false (show ¬((2*j+1:Nat):Int)<((length l:Nat):Int) by omega),cond_false]
structure VE (l:List eB) (ns:List Int) (dd:List eO) (rs:List ct):Prop where
 d4:4≤dd.length
 d6:dd.length≤6
 dp:jR dd
 dt:∃t,dd=gy++t
 r4:rs.length≤4
 rl:2*rs.length≤l.length∧(l.length<2*rs.length+2∨rs.length=4)
 rp:∀r∈rs,nQ r
 num:∀i (h:i<rs.length),IE ns i rs[i]
theorem a6s (k:Nat) (l:List eB) (ns ds:List Int) (hk:20000000≤k) (hl:∀r∈l,iq 5 r) (hn:ns.length≤100000000000000):∃(dd:List eO) (rs:List ct),F36 k l ns ds=some (((dd,(rs,())),()),())∧VE l ns dd rs:=by
 obtain ⟨dd,e1,h1,h2,h3,h3t⟩:=a6l k ds (by omega)
 obtain ⟨rs,e2,⟨h4,h5⟩,h6,h7⟩:=J7 k l ns (([]:List eO),(([]:List ct),())) dd hk hl hn 4 k 0 [] rfl (by omega) rfl (zero_le _) (fun r hr=>by cases hr) (fun i h=>by cases h)
 refine ⟨dd,rs,?_,h1,h2,h3,h3t,h4,h5,h6,h7⟩
 unfold F36
 rw[e1,bind_some]
 simp only
 rw[show jM k k l ns 0 (([]:List eO),(([]:List ct),())) (dd,(([]:List ct),()))=_ from e2,bind_some]
end Go.Proofs.YtgmmopbpldgpcaaE
set_option linter.unusedSimpArgs false
set_option linter.unusedVariables false
set_option maxRecDepth 20000
namespace Go.Proofs.YtgmmopbpldgpcaaE
abbrev mv:ag:=(([]:(List Int)),(([]:(List Int)),(([]:(List Int)),(([]:(List (Int×(Int×(Int×Unit))))),((0:Int),())))))
def vK (fl:b7) (I:InT) (x:bn) (s:ag):Prop:=br 5 x≤120∧∃z a b c,tZ I (aX (fnd fl.1) 5 x) s z a b c
structure WS (k:Nat) (l:List eB) (ns:List Int) (w:jD) (N:Nat) (sets:List RgT):Prop where
 g:WG w N w.1.1.length
 f:VE l ns w.1.1 w.1.2.1
 se:F37 k w.1=some ((sets,()),())
 sl:sets.length=w.1.1.length
 rg:RgL sets
 cuts:IC sets w.2.1 w.2.2.1
 inS:InS sets w.2.1 w.2.2.1 w.2.2.2.1
 il:w.2.2.2.1.length=sets.length
 left:∀i (h:i<w.1.2.1.length),vK w.1 w.2.2.2.1 w.1.2.1[i].2.2.1 (getD w.2.2.2.2.1 i mv)
 right:∀i (h:i<w.1.2.1.length),vK w.1 w.2.2.2.1 w.1.2.1[i].2.2.2.1 (getD w.2.2.2.2.2.1 i mv)
theorem IF {α:Type} (A:List α) (s d:α) (i:Nat) (h:i<A.length+1):getD (A++[s]) i d=if i<A.length then getD A i d else s:=by
 rw[getD_eq_getElem?_getD,getD_eq_getElem?_getD]
 by_cases hi:i<A.length
 ·rw[if_pos hi,getElem?_append_left hi]
 ·rw[if_neg hi,List.getElem?_append_right (by omega),show i-A.length=0 by omega]
  rfl
theorem J8 (k:Nat) (fl:b7) (cu nm:List Int) (I:InT) (Nv:Int×Unit) (c6:jD) (N M:Nat) (hk:20000000≤k) (hfl:fl.1.length≤1000) (hM:fl.1.length=M) (hI:I.length=M) (hrow:∀r∈I,r.length=N) (hN:N≤2000000) (hrs:∀r∈fl.2.1,nQ r) (hrl:fl.2.1.length≤4):∀(d m i:Nat) (A B:List ag),i+d=fl.2.1.length→d<m→A.length=i→B.length=i→(∀s∈A,fT I N M s)→(∀s∈B,fT I N M s) →
  (∀j (h:j<fl.2.1.length),j<i→vK fl I fl.2.1[j].2.2.1 (getD A j mv)∧vK fl I fl.2.1[j].2.2.2.1 (getD B j mv)) →
  (∃w,nk k m (i:Int) c6 (fl,(cu,(nm,(I,(A,(B,Nv))))))=some (.inr ((false,()),(w,())))) ∨
  ∃A' B',nk k m (i:Int) c6 (fl,(cu,(nm,(I,(A,(B,Nv))))))=some (.inl ((),(c6,(fl,(cu,(nm,(I,(A',(B',Nv)))))),())))∧A'.length=fl.2.1.length∧B'.length=fl.2.1.length∧(∀s∈A',fT I N M s)∧(∀s∈B',fT I N M s)∧∀j (h:j<fl.2.1.length),vK fl I fl.2.1[j].2.2.1 (getD A' j mv)∧vK fl I fl.2.1[j].2.2.2.1 (getD B' j mv)
 |0,m,i,A,B,hi,hm,hA,hB,pA,pB,hT=>by
  obtain ⟨m,rfl⟩:=aq (m:=m) (by omega)
  right
  refine ⟨A,B,?_,by omega,by omega,pA,pB,fun j h=>hT j h (by omega)⟩
  simp only[nk]
  rw[decide_eq_false (by omega),cond_false]
 |d+1,m,i,A,B,hi,hm,hA,hB,pA,pB,hT=>by
  obtain ⟨m,rfl⟩:=aq (m:=m) (by omega)
  have hlt:i<fl.2.1.length:=by omega
  obtain ⟨⟨p1,p2⟩,_⟩:=hrs _ (getElem_mem hlt)
  have e1:=QK k fl.2.1[i].2.2.1 fl hfl p1 hk
  have e2:=QK k fl.2.1[i].2.2.2.1 fl hfl p2 hk
  have hir:∀r∈I,r.length≤2000000:=fun r hr=>by rw[hrow r hr]; exact hN
  simp only[nk]
  rw[dlt hlt,cond_true,if_pos (inR hlt),tnI i,ak _ _ _ hlt,e1,bind_some,if_pos (inR hlt),e2,bind_some]
  by_cases h1:br 5 fl.2.1[i].2.2.1>120
  ·left
   rw[if_pos h1]
   exact ⟨_,rfl⟩
  ·rw[if_neg h1]
   by_cases h2:br 5 fl.2.1[i].2.2.2.1>120
   ·left
    rw[if_pos h2]
    exact ⟨_,rfl⟩
   ·rw[if_neg h2]
    simp only[Bool.not_true,cond_false]
    have g1:=gp (fnd fl.1) M (fun nm=>by have:=jp fl.1 nm; rw[hM] at this; exact this) 5 _ (by omega) p1
    have g2:=gp (fnd fl.1) M (fun nm=>by have:=jp fl.1 nm; rw[hM] at this; exact this) 5 _ (by omega) p2
    obtain ⟨j1,s1,e3,hj1,hs1,ht1⟩:=QQ k _ I (by omega) (by omega) g1 (by omega) hir
    obtain ⟨j2,s2,e4,hj2,hs2,ht2⟩:=QQ k _ I (by omega) (by omega) g2 (by omega) hir
    have w1:fT I N M s1:=VB hI hrow (by omega) hs1
    have w2:fT I N M s2:=VB hI hrow (by omega) hs2
    have hset:∀y z:ag,List.set (replicate 1 z) 0 y=[y]:=fun y z=>rfl
    have ha:∀y:ag,(length A+length [y])*(104*2)≤281474976710656∧length A+length [y]≤9223372036854775807:=fun y=>by rw[length_singleton]; omega
    have hb:∀y:ag,(length B+length [y])*(104*2)≤281474976710656∧length B+length [y]≤9223372036854775807:=fun y=>by rw[length_singleton]; omega
    rw[e3,bind_some]
    simp only
    rw[hset,if_pos (ha _),e4,bind_some]
    simp only
    rw[hset,if_pos (hb _),aM i _ hlt (by omega)]
    rcases J8 k fl cu nm I Nv c6 N M hk hfl hM hI hrow hN hrs hrl d m (i+1) (A++[s1]) (B++[s2]) (by omega) (by omega) (by simp[hA]) (by simp[hB]) (fc pA w1) (fc pB w2) (fun j h hj=>by
     rw[IF _ _ _ _ (by omega),IF _ _ _ _ (by omega),hA,hB]
     by_cases hji:j<i
     ·rw[if_pos hji,if_pos hji]; exact hT j h hji
     ·obtain rfl:j=i:=by omega
      rw[if_neg hji,if_neg hji]
      exact ⟨⟨by omega,ht1⟩,by omega,ht2⟩) with ⟨w,e⟩ | ⟨A',B',e,h⟩
    ·left
     exact ⟨w,by rw[e]; rfl⟩
    ·right
     exact ⟨A',B',by rw[e]; rfl,h⟩
theorem a7s (k:Nat) (l:List eB) (ns ds:List Int) (hk:20000000≤k) (hl:∀r∈l,iq 5 r) (hn:ns.length≤100000000000000):(∃w,F15 k l ns ds=some ((w,false,()),()))∨∃w N sets,F15 k l ns ds=some ((w,true,()),())∧WS k l ns w N sets:=by
 obtain ⟨dd,rs,e1,hf⟩:=a6s k l ns ds hk hl hn
 have h1:=hf.d4
 have h2:=hf.d6
 have h4:=hf.r4
 obtain ⟨sets,e4,h6,h7⟩:=a0m k (dd,(rs,())) (show dd.length≤1000 by omega) hf.dp hk
 have h6':sets.length=dd.length:=h6
 obtain ⟨bs,cs,e5,hC⟩:=a1s k sets (by omega) (by omega) h7
 obtain ⟨I,N,e6,e7,g5,g6,g7,g8,g9⟩:=a2s k sets bs cs (by omega) (by omega) h7 hC
 have e8:=J8 k (dd,(rs,())) bs cs I ((N:Int),()) ((([]:List eO),(([]:List ct),())),(([]:(List Int)),(([]:(List Int)),(([]:(List (List Bool))),(([]:List ag),(([]:List ag),((0:Int),()))))))) N dd.length hk (show dd.length≤1000 by omega) rfl (by omega) g7 (by omega) hf.rp h4 rs.length k 0 [] [] (Nat.zero_add _) (by omega) rfl rfl (fun s hs=>by cases hs) (fun s hs=>by cases hs) (fun j h hj=>by omega)
 rw[show ((0:Nat):Int)=0 from rfl] at e8
 unfold F15
 simp only
 rw[e1,bind_some]
 simp only
 rw[e4,bind_some]
 simp only
 rw[e5,bind_some]
 simp only
 rw[e6,bind_some]
 simp only
 rw[e7,bind_some]
 simp only
 rcases e8 with ⟨w,e8⟩ | ⟨A,B,e8,a1,a2,a3,a4,a5⟩
 ·left
  refine ⟨w,?_⟩
  rw[e8,bind_some]
 ·right
  refine ⟨((dd,(rs,())),(bs,(cs,(I,(A,(B,((N:Int),()))))))),N,sets,?_,⟨⟨a3,a4,a1,a2,h4,hf.rp,rfl,g5,hC.bc,hC.cl,hC.ne,g8,(show I.length≤1000000 by omega),fun r hr=>by rw[g7 r hr]; omega⟩,hf,e4,h6',h7,hC,g9,g6,fun i h=>(a5 i h).1,fun i h=>(a5 i h).2⟩⟩
  rw[e8,bind_some]
theorem Re (k:Nat) (hk:20000000≤k) {l:List eB} {ns:List Int} {w:jD} {N:Nat} {sets:List RgT} (hw:WS k l ns w N sets) (ts:List Int) (n:Nat) (hn:n≤1000) (ha:ts.length≤100000000000000):∃(t:List Int) (x:List Nat),F23 k ts (n:Int)=some ((t,()),())∧F22 k w t=some ((eE x,()),())∧t.length≤n∧x.length=t.length∧∀j (h:j<x.length) (h2:j<t.length),ID sets w.2.2.2.1 N t[j] x[j]:=by
 obtain ⟨t,e1,h1,h2⟩:=a5s k ts n hn (by omega) ha
 obtain ⟨x,e2,h3,h4⟩:=a4s k t w (ID sets w.2.2.2.1 N) (by omega) (by omega) (fun x hx=>by
  have:=h2 x hx
  exact a3s k (by omega) sets w.2.1 w.2.2.1 w.2.2.2.1 N hw.cuts hw.inS hw.g.lets x this.1 this.2)
 exact ⟨t,x,e1,e2,h1,h3,h4⟩
def rI (sets:List RgT) (s:ag) (t:List Int) (p j:Nat):Bool:=decide (getD s.1 p 0<0)||has (getD sets (getD s.1 p 0).toNat []) (getD t j 0)
theorem IG {sets:List RgT} {I:InT} {N:Nat} {s:ag} {t:List Int} {x:List Nat} (hs:∀y∈s.1,y<((sets.length:Nat):Int)) (hx:x.length=t.length) (h:∀j (h:j<x.length) (h2:j<t.length),ID sets I N t[j] x[j]) (p j:Nat) (hp:p<s.1.length) (hj:j<x.length):ofP I s p x[j]=rI sets s t p j:=by
 have hj2:j<t.length:=by omega
 unfold ofP rI
 have:=hs _ (cK (d:=0) hp)
 by_cases hc:getD s.1 p 0<0
 ·rw[decide_eq_true hc,Bool.true_or,Bool.true_or]
 ·rw[decide_eq_false hc,Bool.false_or,Bool.false_or,(h j hj hj2).2 _ (by omega),ak t j 0 hj2]
end Go.Proofs.YtgmmopbpldgpcaaE
set_option linter.unusedSimpArgs false
set_option linter.unusedVariables false
set_option maxRecDepth 20000
namespace Go.Proofs.YtgmmopbpldgpcaaE
structure bg (V:Int) (S:Int→Prop):Prop where
 le:V≤1152921504606846976
 lb:∀c,S c→V≤c
 at_:V<1152921504606846976→S V
theorem bg.uniq {V W:Int} {S:Int→Prop} (h:bg V S) (g:bg W S):V=W:=by
 rcases Int.lt_trichotomy V W with q | q | q
 ·have:=g.lb V (h.at_ (by have:=g.le; omega))
  omega
 ·exact q
 ·have:=h.lb W (g.at_ (by have:=h.le; omega))
  omega
theorem bg.congr {V:Int} {S T:Int→Prop} (h:bg V S) (e:∀c,S c↔T c):bg V T:=⟨h.le,fun c hc=>h.lb c ((e c).2 hc),fun q=>(e V).1 (h.at_ q)⟩
theorem bg.inf {S:Int→Prop} (h:∀c,¬S c):bg 1152921504606846976 S:=⟨Int.le_refl _,fun c hc=>absurd hc (h c),fun q=>by omega⟩
theorem bg.val {V:Int} (h:V≤1152921504606846976):bg V (fun c=>c=V∧c<1152921504606846976):=⟨h,fun c hc=>by omega,fun q=>⟨rfl,q⟩⟩
theorem bg.min {V W:Int} {S T:Int→Prop} (h:bg V S) (g:bg W T):bg (aK V W) (fun c=>S c∨T c):=by
 have h1:=h.le
 have h2:=g.le
 refine ⟨?_,fun c hc=>?_,fun q=>?_⟩
 ·unfold aK; split<;>omega
 ·rcases hc with hc | hc
  ·have:=h.lb c hc
   unfold aK; split<;>omega
  ·have:=g.lb c hc
   unfold aK; split<;>omega
 ·unfold aK at q ⊢
  split
  ·rename_i hlt
   rw[if_pos hlt] at q
   exact .inr (g.at_ q)
  ·rename_i hlt
   rw[if_neg hlt] at q
   exact .inl (h.at_ q)
theorem bg.add {V w:Int} {S:Int→Prop} (h:bg V S) (hw:0≤w):bg (adI V w) (fun c=>∃d,S d∧c=d+w∧c<1152921504606846976):=by
 refine ⟨?_,fun c hc=>?_,fun q=>?_⟩
 ·unfold adI aK; split<;>omega
 ·obtain ⟨d,hd,rfl,hlt⟩:=hc
  have:=h.lb d hd
  unfold adI aK
  split<;>omega
 ·have hV:V+w<1152921504606846976:=by
   unfold adI aK at q
   split at q<;>omega
  have e:adI V w=V+w:=by unfold adI aK; split<;>omega
  rw[e]
  exact ⟨V,h.at_ (by omega),rfl,hV⟩
inductive Run (s:ag) (O:Nat→Nat→Bool) (i:Nat):Nat→Nat→Int→Prop
 |first (p:Nat) (hp:p<s.1.length) (h:getD s.2.1 p 0<1152921504606846976) (o:O p i=true):Run s O i (i+1) p (getD s.2.1 p 0)
 |next {k:Nat} {c:Int} (x:aF) (hx:x∈s.2.2.2.1) (r:Run s O i k x.1.toNat c) (h:c+x.2.2.1<1152921504606846976) (o:O x.2.1.toNat k=true):Run s O i (k+1) x.2.1.toNat (c+x.2.2.1)
theorem Run.lt {s:ag} {O:Nat→Nat→Bool} {i k p:Nat} {c:Int} (r:Run s O i k p c):i<k:=by
 induction r with
 |first p hp h o=>omega
 |next x hx r h o ih=>omega
def Acc (s:ag) (O:Nat→Nat→Bool) (i k:Nat) (c:Int):Prop:=(i=k∧c=s.2.2.2.2.1∧c<1152921504606846976)∨∃p d,p<s.1.length∧Run s O i k p d∧c=d+getD s.2.2.1 p 0∧c<1152921504606846976
theorem vL {r:List Int} {Q:Nat→Int→Prop} {p:Nat}:∀(xs:List aF) (l:List Int) (S:Int→Prop),p<l.length→(∀x∈xs,bg (getD r x.1.toNat 0) (Q x.1.toNat)∧0≤x.2.2.1)→bg (getD l p 0) S→bg (getD (xs.foldl (gc r) l) p 0) (fun c=>S c∨∃x∈xs,x.2.1.toNat=p∧∃d,Q x.1.toNat d∧c=d+x.2.2.1∧c<1152921504606846976)
 | [],l,S,hp,hr,h=>h.congr fun c=>⟨.inl,fun q=>q.elim id fun ⟨x,hx,_⟩=>by cases hx⟩
 |x::xs,l,S,hp,hr,h=>by
  obtain ⟨h1,h2⟩:=hr x mem_cons_self
  have hr':=fun y hy=>hr y (mem_cons_of_mem _ hy)
  rw[foldl_cons]
  by_cases e:x.2.1.toNat=p
  ·have hv:getD (gc r l x) p 0=aK (getD l p 0) (adI (getD r x.1.toNat 0) x.2.2.1):=by
    unfold gc
    rw[e,getD_eq_getElem?_getD (l:=List.set _ _ _),List.getElem?_set_self hp]
    rfl
   refine (vL xs (gc r l x) _ (by rw[nU]; exact hp) hr' (by rw[hv]; exact h.min (h1.add h2))).congr fun c=>?_
   constructor
   ·rintro ((q | q) | ⟨y,hy,q⟩)
    ·exact .inl q
    ·exact .inr ⟨x,mem_cons_self,e,q⟩
    ·exact .inr ⟨y,mem_cons_of_mem _ hy,q⟩
   ·rintro (q | ⟨y,hy,q1,q2⟩)
    ·exact .inl (.inl q)
    ·rcases List.mem_cons.1 hy with g | g
     ·subst g; exact .inl (.inr q2)
     ·exact .inr ⟨y,g,q1,q2⟩
  ·have hv:getD (gc r l x) p 0=getD l p 0:=by
    unfold gc
    rw[getD_eq_getElem?_getD (l:=List.set _ _ _),List.getElem?_set_ne e]
    exact (getD_eq_getElem?_getD ..).symm
   refine (vL xs (gc r l x) S (by rw[nU]; exact hp) hr' (by rw[hv]; exact h)).congr fun c=>?_
   constructor
   ·rintro (q | ⟨y,hy,q⟩)
    ·exact .inl q
    ·exact .inr ⟨y,mem_cons_of_mem _ hy,q⟩
   ·rintro (q | ⟨y,hy,q1,q2⟩)
    ·exact .inl q
    ·rcases List.mem_cons.1 hy with g | g
     ·subst g; exact absurd q1 e
     ·exact .inr ⟨y,g,q1,q2⟩
theorem Mk {I:InT} {s:ag} {a n:Nat} {l:List Int} {p:Nat} (hp:p<l.length) (hn:p<n):getD (cP I s a n l) p 0=if ofP I s p a then getD l p 0 else bw:=by
 rw[ak _ _ _ (by rw[lq]; exact hp)]
 simp only[cP,getElem_map,getElem_range]
 by_cases h:ofP I s p a=true
 ·rw[if_pos h,if_neg (by rw[h]; simp)]
 ·rw[if_neg h,if_pos ⟨hn,by simpa using h⟩]
theorem Rf {I:InT} {s:ag} (hs:SOC s) {O:Nat→Nat→Bool} {k a:Nat} (ho:∀p,p<s.1.length→ofP I s p a=O p k) {r:List Int} (h:∀p,p<s.1.length→bg (getD r p 0) (fun c=>∃i,i<k∧Run s O i k p c)) {p:Nat} (hp:p<s.1.length):bg (getD (dI I s a r) p 0) (fun c=>∃i,i<k+1∧Run s O i (k+1) p c):=by
 unfold dI
 have hlf:=hs.ok.lf
 rw[Mk (by rw[vF hs.ok]; exact hp) hp,ho p hp]
 cases hO:O p k with
 |false =>
  rw[if_neg (by simp)]
  refine bg.inf fun c=>?_
  rintro ⟨i,hi,r⟩
  cases r with
  |first p hp h o=>rw[hO] at o; cases o
  |next x hx r h o=>rw[hO] at o; cases o
 |true =>
  rw[if_pos rfl]
  have hF:Cst (getD s.2.1 p 0):=bk hs.cf _
  unfold rD
  refine (vL (Q:=fun q c=>∃i,i<k∧Run s O i k q c) s.2.2.2.1 s.2.1 _ (by omega) (fun x hx=>⟨h _ (by have:=hs.ok.arcs x hx; omega),(hs.ca x hx).1⟩) (bg.val hF.2)).congr fun c=>?_
  constructor
  ·rintro (⟨rfl,q⟩ | ⟨x,hx,rfl,d,⟨i,hi,r⟩,rfl,hlt⟩)
   ·exact ⟨k,by omega,.first p hp q hO⟩
   ·exact ⟨i,by omega,.next x hx r hlt hO⟩
  ·rintro ⟨i,hi,r⟩
   cases r with
   |first p hp h o=>exact .inl ⟨rfl,h⟩
   |next x hx r h o=>exact .inr ⟨x,hx,rfl,_,⟨i,r.lt,r⟩,rfl,h⟩
theorem IH {Q:Nat→Int→Prop}:∀(r e:List Int) (j:Nat) (V:Int) (S:Int→Prop),r.length=e.length→(∀p (h:p<r.length),bg r[p] (Q (j+p)))→(∀y∈e,0≤y)→bg V S→bg ((zipWith adI r e).foldl aK V) (fun c=>S c∨∃p,∃h:p<e.length,∃d,Q (j+p) d∧c=d+e[p]∧c<1152921504606846976)
 | [],[],j,V,S,_,_,_,h=>h.congr fun c=>⟨.inl,fun q=>q.elim id fun ⟨p,hp,_⟩=>by simp at hp⟩
 | [],_::_,j,V,S,hl,_,_,_=>by simp at hl
 |_::_,[],j,V,S,hl,_,_,_=>by simp at hl
 |x::r,y::e,j,V,S,hl,hr,he,h=>by
  rw[List.zipWith_cons_cons,foldl_cons]
  have h0:=hr 0 (by simp)
  rw[Nat.add_zero] at h0
  refine (IH (Q:=Q) r e (j+1) _ _ (by simpa using hl) (fun p hp=>by
   have:=hr (p+1) (by simp; omega)
   rw[show j+1+p=j+(p+1) by omega]
   exact this) (fun z hz=>he z (mem_cons_of_mem _ hz)) (h.min (h0.add (he y mem_cons_self)))).congr fun c=>?_
  constructor
  ·rintro ((q | q) | ⟨p,hp,q⟩)
   ·exact .inl q
   ·exact .inr ⟨0,by simp,q⟩
   ·exact .inr ⟨p+1,by simp; omega,by rw[show j+(p+1)=j+1+p by omega]; exact q⟩
  ·rintro (q | ⟨p,hp,q⟩)
   ·exact .inl (.inl q)
   ·cases p with
    |zero=>exact .inl (.inr q)
    |succ p=>exact .inr ⟨p,by simpa using hp,by rw[show j+1+p=j+(p+1) by omega]; exact q⟩
theorem Un {s:ag} (hs:SOC s) {r:List Int} (hr:r.length=s.1.length) {Q:Nat→Int→Prop} (h:∀p,p<s.1.length→bg (getD r p 0) (Q p)):bg (lL s r) (fun c=>(c=s.2.2.2.2.1∧c<1152921504606846976)∨∃p d,p<s.1.length∧Q p d∧c=d+getD s.2.2.1 p 0∧c<1152921504606846976):=by
 have hle:=hs.ok.le
 unfold lL
 refine (IH (Q:=Q) r s.2.2.1 0 _ _ (by omega) (fun p hp=>by
  have:=h p (by omega)
  rw[ak _ _ _ hp] at this
  rw[Nat.zero_add]
  exact this) (fun y hy=>(hs.ce y hy).1) (bg.val hs.cn.2)).congr fun c=>?_
 constructor
 ·rintro (q | ⟨p,hp,d,q1,q2⟩)
  ·exact .inl q
  ·refine .inr ⟨p,d,by omega,by rw[Nat.zero_add] at q1; exact q1,?_⟩
   rw[ak _ _ _ hp]
   exact q2
 ·rintro (q | ⟨p,d,hp,q1,q2⟩)
  ·exact .inl q
  ·refine .inr ⟨p,by omega,d,by rw[Nat.zero_add]; exact q1,?_⟩
   rw[ak _ _ _ (by omega)] at q2
   exact q2
theorem J9 {I:InT} {s:ag} (hs:SOC s) {O:Nat→Nat→Bool} {x:List Nat} (ho:∀p j (h:j<x.length),p<s.1.length→ofP I s p x[j]=O p j):∀(k:Nat),k≤x.length→∀p,p<s.1.length→bg (getD ((x.take k).foldl (fun r a=>dI I s a r) (replicate s.1.length bw)) p 0) (fun c=>∃i,i<k∧Run s O i k p c)
 |0,hk,p,hp=>by
  rw[take_zero,List.foldl_nil,ak _ _ _ (by simpa using hp),List.getElem_replicate]
  exact bg.inf fun c ⟨i,hi,_⟩=>by omega
 |k+1,hk,p,hp=>by
  have hlt:k<x.length:=by omega
  rw[take_succ_eq_append_getElem hlt,List.foldl_append]
  exact Rf hs (fun q hq=>ho q k hlt hq) (fun q hq=>J9 hs ho k (by omega) q hq) hp
theorem Ka {I:InT} {s:ag} (hs:SOK s):∀(t:List Nat) (r:List Int),r.length=s.1.length→(t.foldl (fun r a=>dI I s a r) r).length=s.1.length
 | [],r,h=>h
 |a::t,r,h=>Ka hs t _ (rE hs a r)
theorem WE {I:InT} {s:ag} (hs:SOC s) {O:Nat→Nat→Bool} {x:List Nat} (ho:∀p j (h:j<x.length),p<s.1.length→ofP I s p x[j]=O p j) (k:Nat) (hk:k≤x.length):bg (lL s ((x.take k).foldl (fun r a=>dI I s a r) (replicate s.1.length bw))) (fun c=>∃i,i≤k∧Acc s O i k c):=by
 refine (Un hs (Ka hs.ok _ _ (by simp)) (J9 hs ho k hk)).congr fun c=>?_
 constructor
 ·rintro (⟨h1,h2⟩ | ⟨p,d,hp,⟨i,hi,r⟩,q⟩)
  ·exact ⟨k,Nat.le_refl _,.inl ⟨rfl,h1,h2⟩⟩
  ·exact ⟨i,by omega,.inr ⟨p,d,hp,r,q⟩⟩
 ·rintro ⟨i,hi,⟨_,h1,h2⟩ | ⟨p,d,hp,r,q⟩⟩
  ·exact .inl ⟨h1,h2⟩
  ·exact .inr ⟨p,d,hp,⟨i,r.lt,r⟩,q⟩
end Go.Proofs.YtgmmopbpldgpcaaE
set_option linter.unusedSimpArgs false
set_option linter.unusedVariables false
set_option maxRecDepth 20000
namespace Go.Proofs.YtgmmopbpldgpcaaE
abbrev Rel:=Nat→Nat→Int→Prop
def eF (A B:Rel):Rel:=fun i k c=>∃j d e,A i j d∧B j k e∧c=d+e∧c<1152921504606846976
def eps:Rel:=fun i k c=>i=k∧c=0
def orR (A B:Rel):Rel:=fun i k c=>A i k c∨B i k c
def pw (A:Rel):Nat→Rel
 |0=>eps
 |m+1=>eF (pw A m) A
def Dom (A B:Rel):Prop:=∀i k c,B i k c→∃d,d≤c∧A i k d
def Eqv (A B:Rel):Prop:=Dom A B∧Dom B A
def Pos (A:Rel):Prop:=∀i k c,A i k c→i≤k∧0≤c∧c<1152921504606846976
theorem Dom.rfl {A:Rel}:Dom A A:=fun i k c h=>⟨c,Int.le_refl _,h⟩
theorem Dom.trans {A B C:Rel} (h:Dom A B) (g:Dom B C):Dom A C:=fun i k c q=>by
 obtain ⟨d,h1,h2⟩:=g i k c q
 obtain ⟨e,h3,h4⟩:=h i k d h2
 exact ⟨e,by omega,h4⟩
theorem Dom.of {A B:Rel} (h:∀i k c,B i k c→A i k c):Dom A B:=fun i k c q=>⟨c,Int.le_refl _,h i k c q⟩
theorem Eqv.rfl {A:Rel}:Eqv A A:=⟨.rfl,.rfl⟩
theorem Eqv.symm {A B:Rel} (h:Eqv A B):Eqv B A:=⟨h.2,h.1⟩
theorem Eqv.trans {A B C:Rel} (h:Eqv A B) (g:Eqv B C):Eqv A C:=⟨h.1.trans g.1,g.2.trans h.2⟩
theorem iZ {A B A' B':Rel} (h:Dom A A') (g:Dom B B'):Dom (eF A B) (eF A' B'):=fun i k c ⟨j,d,e,h1,h2,h3,h4⟩=>by
 obtain ⟨d',q1,q2⟩:=h i j d h1
 obtain ⟨e',q3,q4⟩:=g j k e h2
 exact ⟨d'+e',by omega,j,d',e',q2,q4,Eq.refl _,by omega⟩
theorem Kb {A B A' B':Rel} (h:Dom A A') (g:Dom B B'):Dom (orR A B) (orR A' B'):=fun i k c q=>by
 rcases q with q | q
 ·obtain ⟨d,h1,h2⟩:=h i k c q; exact ⟨d,h1,.inl h2⟩
 ·obtain ⟨d,h1,h2⟩:=g i k c q; exact ⟨d,h1,.inr h2⟩
theorem II {A A':Rel} (h:Dom A A'):∀m,Dom (pw A m) (pw A' m)
 |0=>.rfl
 |m+1=>iZ (II h m) h
theorem vM {A B A' B':Rel} (h:Eqv A A') (g:Eqv B B'):Eqv (eF A B) (eF A' B'):=⟨iZ h.1 g.1,iZ h.2 g.2⟩
theorem Kf {A B A' B':Rel} (h:Eqv A A') (g:Eqv B B'):Eqv (orR A B) (orR A' B'):=⟨Kb h.1 g.1,Kb h.2 g.2⟩
theorem rJ {A A':Rel} (h:Eqv A A') (m:Nat):Eqv (pw A m) (pw A' m):=⟨II h.1 m,II h.2 m⟩
theorem WF:Pos eps:=fun i k c ⟨h1,h2⟩=>by omega
theorem IJ {A B:Rel} (h:Pos A) (g:Pos B):Pos (eF A B):=fun i k c ⟨j,d,e,h1,h2,h3,h4⟩=>by
 have:=h i j d h1
 have:=g j k e h2
 omega
theorem a8p {A B:Rel} (h:Pos A) (g:Pos B):Pos (orR A B):=fun i k c q=>q.elim (h i k c) (g i k c)
theorem fO {A:Rel} (h:Pos A):∀m,Pos (pw A m)
 |0=>WF
 |m+1=>IJ (fO h m) h
theorem nV {A:Rel} (h:Pos A):Eqv (eF A eps) A:=by
 constructor
 ·refine .of fun i k c q=>⟨k,c,0,q,⟨Eq.refl _,Eq.refl _⟩,by omega,(h i k c q).2.2⟩
 ·refine .of fun i k c ⟨j,d,e,h1,⟨h2,h3⟩,h4,h5⟩=>?_
  subst h2 h3 h4
  rwa [Int.add_zero]
theorem Ml {A B C:Rel} (ha:Pos A) (hb:Pos B) (hc:Pos C):Eqv (eF A (eF B C)) (eF (eF A B) C):=by
 constructor
 ·refine .of fun i k c ⟨j,d,e,⟨l,f,g,h1,h2,h3,h4⟩,h5,h6,h7⟩=>?_
  have:=ha _ _ _ h1
  exact ⟨l,f,g+e,h1,⟨j,g,e,h2,h5,Eq.refl _,by omega⟩,by omega,h7⟩
 ·refine .of fun i k c ⟨j,d,e,h1,⟨l,f,g,h2,h3,h4,h5⟩,h6,h7⟩=>?_
  have:=hc _ _ _ h3
  exact ⟨l,d+f,g,⟨j,d,f,h1,h2,Eq.refl _,by omega⟩,h3,by omega,h7⟩
def LeA (x y:aF):Prop:=x.1=y.1∧x.2.1=y.2.1∧x.2.2.1≤y.2.2.1
theorem LeA.rfl {x:aF}:LeA x x:=⟨Eq.refl _,Eq.refl _,Int.le_refl _⟩
theorem LeA.trans {x y z:aF} (h:LeA x y) (g:LeA y z):LeA x z:=⟨h.1.trans g.1,h.2.1.trans g.2.1,Int.le_trans h.2.2 g.2.2⟩
theorem IK (a:aF):∀(l:List aF) (x:aF),x∈fq a l→x=a∨x∈l
 | [],x,h=>.inl (List.mem_singleton.1 h)
 |b::l,x,h=>by
  unfold fq at h
  split at h
  ·rcases List.mem_cons.1 h with q | q
   ·exact .inr (by rw[q]; exact mem_cons_self)
   ·rcases IK a l x q with q | q
    ·exact .inl q
    ·exact .inr (mem_cons_of_mem _ q)
  ·split at h
   ·rename_i _ e
    rcases List.mem_cons.1 h with q | q
    ·obtain ⟨b1,b2,b3,bu⟩:=b
     obtain ⟨a1,a2,a3,au⟩:=a
     simp only at e q
     obtain ⟨rfl,rfl⟩:=e
     unfold aK at q
     split at q
     ·exact .inl q
     ·exact .inr (by rw[q]; exact mem_cons_self)
    ·exact .inr (mem_cons_of_mem _ q)
   ·rcases List.mem_cons.1 h with q | q
    ·exact .inl q
    ·exact .inr q
theorem vN (a:aF):∀(l:List aF) (y:aF),(y=a∨y∈l)→∃x∈fq a l,LeA x y
 | [],y,h=>by
  rcases h with rfl | h
  ·exact ⟨y,List.mem_singleton.2 rfl,.rfl⟩
  ·cases h
 |b::l,y,h=>by
  unfold fq
  split
  ·rcases h with h | h
   ·obtain ⟨x,h1,h2⟩:=vN a l y (.inl h)
    exact ⟨x,mem_cons_of_mem _ h1,h2⟩
   ·rcases List.mem_cons.1 h with h | h
    ·exact ⟨b,mem_cons_self,by rw[h]; exact .rfl⟩
    ·obtain ⟨x,h1,h2⟩:=vN a l y (.inr h)
     exact ⟨x,mem_cons_of_mem _ h1,h2⟩
  ·split
   ·rename_i _ e
    have h1:aK b.2.2.1 a.2.2.1≤b.2.2.1∧aK b.2.2.1 a.2.2.1≤a.2.2.1:=by unfold aK; split<;>omega
    rcases h with h | h
    ·exact ⟨_,mem_cons_self,by rw[h]; exact ⟨e.1,e.2,h1.2⟩⟩
    ·rcases List.mem_cons.1 h with h | h
     ·exact ⟨_,mem_cons_self,by rw[h]; exact ⟨rfl,rfl,h1.1⟩⟩
     ·exact ⟨y,mem_cons_of_mem _ h,.rfl⟩
   ·rcases h with h | h
    ·exact ⟨a,mem_cons_self,by rw[h]; exact .rfl⟩
    ·exact ⟨y,mem_cons_of_mem _ h,.rfl⟩
theorem Uo (l:List aF) (a x:aF) (h:x∈iR l a):(x=a∧a.2.2.1<1152921504606846976)∨x∈l:=by
 unfold iR at h
 split at h
 ·exact .inr h
 ·rcases IK a l x h with q | q
  ·exact .inl ⟨q,by omega⟩
  ·exact .inr q
theorem IL (l:List aF) (a y:aF) (h:(y=a∧a.2.2.1<1152921504606846976)∨y∈l):∃x∈iR l a,LeA x y:=by
 unfold iR
 split
 ·rcases h with h | h
  ·omega
  ·exact ⟨y,h,.rfl⟩
 ·exact vN a l y (h.imp And.left id)
theorem CM (g:Nat→aF):∀(m:Nat) (l:List aF) (x:aF),x∈cL g m l→(∃j,j<m∧x=g j∧x.2.2.1<1152921504606846976)∨x∈l
 |0,l,x,h=>.inr h
 |m+1,l,x,h=>by
  rcases Uo _ _ _ h with ⟨q,w⟩ | q
  ·exact .inl ⟨m,by omega,q,by rw[q]; exact w⟩
  ·rcases CM g m l x q with ⟨j,h1,h2⟩ | q
   ·exact .inl ⟨j,by omega,h2⟩
   ·exact .inr q
theorem rL (g:Nat→aF):∀(m:Nat) (l:List aF) (y:aF),((∃j,j<m∧y=g j∧y.2.2.1<1152921504606846976)∨y∈l)→∃x∈cL g m l,LeA x y
 |0,l,y,h=>by
  rcases h with ⟨j,h,_⟩ | h
  ·omega
  ·exact ⟨y,h,.rfl⟩
 |m+1,l,y,h=>by
  have step:((∃j,j<m∧y=g j∧y.2.2.1<1152921504606846976)∨y∈l)→∃x∈cL g (m+1) l,LeA x y:=fun q=>by
   obtain ⟨x,h1,h2⟩:=rL g m l y q
   obtain ⟨x2,h3,h4⟩:=IL (cL g m l) (g m) x (.inr h1)
   exact ⟨x2,h3,h4.trans h2⟩
  rcases h with ⟨j,h1,h2,h3⟩ | h
  ·by_cases hj:j=m
   ·subst hj
    exact IL _ _ y (.inl ⟨h2,by rw[←h2]; exact h3⟩)
   ·exact step (.inl ⟨j,by omega,h2,h3⟩)
  ·exact step (.inr h)
theorem rM (g:Nat→Nat→aF) (m:Nat):∀(n:Nat) (l:List aF) (x:aF),x∈co g m n l→(∃i j,i<n∧j<m∧x=g i j∧x.2.2.1<1152921504606846976)∨x∈l
 |0,l,x,h=>.inr h
 |n+1,l,x,h=>by
  rcases CM _ _ _ _ h with ⟨j,h1,h2⟩ | q
  ·exact .inl ⟨n,j,by omega,h1,h2⟩
  ·rcases rM g m n l x q with ⟨i,j,h1,h2⟩ | q
   ·exact .inl ⟨i,j,by omega,h2⟩
   ·exact .inr q
theorem rN (g:Nat→Nat→aF) (m:Nat):∀(n:Nat) (l:List aF) (y:aF),((∃i j,i<n∧j<m∧y=g i j∧y.2.2.1<1152921504606846976)∨y∈l)→∃x∈co g m n l,LeA x y
 |0,l,y,h=>by
  rcases h with ⟨i,j,h,_⟩ | h
  ·omega
  ·exact ⟨y,h,.rfl⟩
 |n+1,l,y,h=>by
  have step:((∃i j,i<n∧j<m∧y=g i j∧y.2.2.1<1152921504606846976)∨y∈l)→∃x∈co g m (n+1) l,LeA x y:=fun q=>by
   obtain ⟨x,h1,h2⟩:=rN g m n l y q
   obtain ⟨x2,h3,h4⟩:=rL (g n) m (co g m n l) x (.inr h1)
   exact ⟨x2,h3,h4.trans h2⟩
  rcases h with ⟨i,j,h1,h2⟩ | h
  ·by_cases hi:i=n
   ·subst hi
    exact rL _ _ _ y (.inl ⟨j,h2⟩)
   ·exact step (.inl ⟨i,j,by omega,h2⟩)
  ·exact step (.inr h)
structure SdV (s:ag):Prop where
 lf:s.2.1.length=s.1.length
 le:s.2.2.1.length=s.1.length
 cf:bN s.2.1
 ce:bN s.2.2.1
 cn:Cst s.2.2.2.2.1
 arcs:∀x∈s.2.2.2.1,(0≤x.1∧x.1<(s.1.length:Int))∧(0≤x.2.1∧x.2.1<(s.1.length:Int))∧0≤x.2.2.1
theorem bq.sdv {n M:Nat} {C:Int} {s:ag} (h:bq n C M s) (hC:C≤1000000000):SdV s :=
 ⟨by rw[h.lf,h.ls],by rw[h.le,h.ls],fun x hx=>(h.cf x hx).cst hC,fun x hx=>(h.ce x hx).cst hC,h.cn.cst hC,fun x hx=>by
  have:=h.arcs x hx
  have:=h.ls
  omega⟩
def rd (f:Int→Nat→Bool) (s:ag) (p j:Nat):Bool:=f (getD s.1 p 0) j
abbrev cM (f:Int→Nat→Bool) (s:ag):Rel:=Acc s (rd f s)
theorem Run.ok {s:ag} {O:Nat→Nat→Bool} {i k p:Nat} {c:Int} (h:SdV s) (r:Run s O i k p c):p<s.1.length∧0≤c∧c<1152921504606846976:=by
 induction r with
 |first p hp h1 o =>
  have:=bk h.cf p
  unfold Cst at this
  omega
 |next x hx r h1 o ih =>
  have:=h.arcs x hx
  omega
theorem Run.nextE {s:ag} {O:Nat→Nat→Bool} {i k:Nat} {c:Int} (x:aF) (hx:x∈s.2.2.2.1) {p q:Nat} (hp:x.1.toNat=p) (hq:x.2.1.toNat=q) (r:Run s O i k p c) (h:c+x.2.2.1<1152921504606846976) (o:O q k=true):Run s O i (k+1) q (c+x.2.2.1):=by
 subst hp hq
 exact .next x hx r h o
theorem Run.firstE {s:ag} {O:Nat→Nat→Bool} {i p:Nat} {c:Int} (hp:p<s.1.length) (hc:getD s.2.1 p 0=c) (h:c<1152921504606846976) (o:O p i=true):Run s O i (i+1) p c:=by
 subst hc
 exact .first p hp h o
theorem fm {s:ag} (h:SdV s) (O:Nat→Nat→Bool):Pos (Acc s O):=fun i k c q=>by
 rcases q with ⟨h1,h2,h3⟩ | ⟨p,d,hp,r,h2,h3⟩
 ·have:=h.cn
  unfold Cst at this
  omega
 ·have:=r.ok h
  have:=r.lt
  have:=bk h.ce p
  unfold Cst at this
  omega
theorem js {a b:Int} (h:adI a b<1152921504606846976):adI a b=a+b∧a+b<1152921504606846976:=by
 unfold adI aK at *
 split at h<;>split<;>omega
theorem kD {a b:Int} (h:a+b<1152921504606846976):adI a b=a+b:=by
 unfold adI aK
 split<;>omega
theorem Run.up {s s':ag} {O O':Nat→Nat→Bool} (h:SdV s) (n:Nat) (hl:∀p,p<s.1.length→n+p<s'.1.length) (hO:∀p,p<s.1.length→∀j,O p j=true→O' (n+p) j=true) (hF:∀p,p<s.1.length→getD s'.2.1 (n+p) 0≤getD s.2.1 p 0) (hA:∀x∈s.2.2.2.1,∃y∈s'.2.2.2.1,LeA y (shA n x)) {i k p:Nat} {c:Int} (r:Run s O i k p c):∃d,d≤c∧Run s' O' i k (n+p) d:=by
 induction r with
 |first p hp h1 o =>
  have:=hF p hp
  exact ⟨_,this,.first (n+p) (hl p hp) (by omega) (hO p hp _ o)⟩
 |next x hx r h1 o ih =>
  obtain ⟨d,g1,g2⟩:=ih
  obtain ⟨y,hy,e1,e2,e3⟩:=hA x hx
  have hb:=h.arcs x hx
  unfold shA at e1 e2 e3
  simp only at e1 e2 e3
  exact ⟨d+y.2.2.1,by omega,.nextE y hy (by omega) (by omega) g2 (by omega) (hO _ (by omega) _ o)⟩
theorem kE {α:Type} (A B:List α) (i:Nat) (d:α) (h:i<A.length):getD (A++B) i d=getD A i d:=by
 rw[getD_eq_getElem?_getD,getElem?_append_left h,←getD_eq_getElem?_getD]
theorem jt {α:Type} (A B:List α) (n j:Nat) (d:α) (h:A.length=n):getD (A++B) (n+j) d=getD B j d:=by
 rw[getD_eq_getElem?_getD,List.getElem?_append_right (by omega),show n+j-A.length=j by omega,←getD_eq_getElem?_getD]
theorem Ah (f:Int→Int) (l:List Int) (i:Nat) (h:i<l.length):getD (l.map f) i 0=f (getD l i 0):=by
 rw[ak _ _ _ (by simpa using h),getElem_map,ak _ _ _ h]
theorem Mm (x:aF):shA 0 x=x:=by
 obtain ⟨a,b,c,u⟩:=x
 simp[shA]
section
variable {a b:ag}
theorem jZ:(bm a b).1.length=a.1.length+b.1.length:=length_append
theorem Rg (ha:SdV a) {p:Nat} (hp:p<a.1.length):getD (bm a b).2.1 p 0=getD a.2.1 p 0:=kE _ _ _ _ (by rw[ha.lf]; exact hp)
theorem Rh (ha:SdV a) (hb:SdV b) {q:Nat} (hq:q<b.1.length):getD (bm a b).2.1 (a.1.length+q) 0=adI a.2.2.2.2.1 (getD b.2.1 q 0) :=
 (jt _ _ _ _ _ ha.lf).trans (Ah (fun x=>adI a.2.2.2.2.1 x) _ _ (by rw[hb.lf]; exact hq))
theorem IM (ha:SdV a) {p:Nat} (hp:p<a.1.length):getD (bm a b).2.2.1 p 0=adI (getD a.2.2.1 p 0) b.2.2.2.2.1 :=
 (kE _ _ _ _ (by rw[length_map,ha.le]; exact hp)).trans (Ah (fun x=>adI x b.2.2.2.2.1) _ _ (by rw[ha.le]; exact hp))
theorem IN (ha:SdV a) {q:Nat}:getD (bm a b).2.2.1 (a.1.length+q) 0=getD b.2.2.1 q 0:=jt _ _ _ _ _ (by rw[length_map,ha.le])
theorem my (f:Int→Nat→Bool) {p:Nat} (hp:p<a.1.length) (j:Nat):rd f (bm a b) p j=rd f a p j:=congrArg (f · j) (kE _ _ _ _ hp)
theorem ju (f:Int→Nat→Bool) (q j:Nat):rd f (bm a b) (a.1.length+q) j=rd f b q j:=congrArg (f · j) (jt _ _ _ _ _ rfl)
theorem Kg {x:aF} (h:x∈(bm a b).2.2.2.1):(∃p q,p<a.1.length∧q<b.1.length∧x=fg a b p q∧x.2.2.1<1152921504606846976)∨x∈a.2.2.2.1∨∃y∈b.2.2.2.1,x=shA a.1.length y:=by
 rcases rM _ _ _ _ _ h with q | q
 ·exact .inl q
 ·rcases List.mem_append.1 q with q | q
  ·exact .inr (.inl q)
  ·obtain ⟨y,h1,h2⟩:=List.mem_map.1 q
   exact .inr (.inr ⟨y,h1,h2.symm⟩)
theorem B5 {y:aF} (h:(∃p q,p<a.1.length∧q<b.1.length∧y=fg a b p q∧y.2.2.1<1152921504606846976)∨y∈a.2.2.2.1∨∃z∈b.2.2.2.1,y=shA a.1.length z):∃x∈(bm a b).2.2.2.1,LeA x y:=by
 refine rN _ _ _ _ _ ?_
 rcases h with h | h | ⟨z,h1,h2⟩
 ·exact .inl h
 ·exact .inr (List.mem_append_left _ h)
 ·exact .inr (List.mem_append_right _ (List.mem_map.2 ⟨z,h1,h2.symm⟩))
theorem WH (ha:SdV a) (hb:SdV b):SdV (bm a b):=by
 have h1:=ha.lf
 have h2:=ha.le
 have h3:=hb.lf
 have h4:=hb.le
 refine ⟨by simp only[bm,sd,length_append,length_map]; omega,by simp only[bm,sd,length_append,length_map]; omega,?_,?_,kC ha.cn hb.cn,fun x hx=>?_⟩
 ·refine fj ha.cf fun x hx=>?_
  obtain ⟨y,hy,rfl⟩:=List.mem_map.1 hx
  exact kC ha.cn (hb.cf y hy)
 ·refine fj (fun x hx=>?_) hb.ce
  obtain ⟨y,hy,rfl⟩:=List.mem_map.1 hx
  exact kC (ha.ce y hy) hb.cn
 ·rw[jZ]
  rcases Kg hx with ⟨p,q,hp,hq,rfl,_⟩ | hx | ⟨y,hy,rfl⟩
  ·have:=kC (bk ha.ce p) (bk hb.cf q)
   unfold Cst at this
   unfold fg
   simp only
   omega
  ·have:=ha.arcs x hx
   omega
  ·have:=hb.arcs y hy
   unfold shA
   simp only
   omega
theorem WI (ha:SdV a) (hb:SdV b) (f:Int→Nat→Bool) {i k p:Nat} {c:Int} (r:Run (bm a b) (rd f (bm a b)) i k p c):(p<a.1.length∧Run a (rd f a) i k p c)∨∃q j d e,p=a.1.length+q∧q<b.1.length∧cM f a i j d∧Run b (rd f b) j k q e∧c=d+e:=by
 induction r with
 |first p hp h o =>
  rw[jZ] at hp
  by_cases hpa:p<a.1.length
  ·left
   rw[Rg ha hpa] at h ⊢
   rw[my f hpa] at o
   exact ⟨hpa,.first p hpa h o⟩
  ·right
   obtain ⟨q,rfl⟩:∃q,p=a.1.length+q:=⟨p-a.1.length,by omega⟩
   have hq:q<b.1.length:=by omega
   rw[Rh ha hb hq] at h ⊢
   rw[ju f] at o
   obtain ⟨h1,h2⟩:=js h
   have hn:=ha.cn
   have hf:=bk hb.cf q
   unfold Cst at hn hf
   exact ⟨q,i,_,_,rfl,hq,.inl ⟨rfl,rfl,by omega⟩,.first q hq (by omega) o,h1⟩
 |@next k c x hx r h o ih =>
  rcases Kg hx with ⟨p,q,hp,hq,rfl,hw⟩ | hx | ⟨y,hy,rfl⟩
  ·right
   have o':rd f (bm a b) (a.1.length+q) k=true:=o
   rw[ju f] at o'
   have hw':adI (getD a.2.2.1 p 0) (getD b.2.1 q 0)<1152921504606846976:=hw
   obtain ⟨h1,h2⟩:=js hw'
   have h':c+adI (getD a.2.2.1 p 0) (getD b.2.1 q 0)<1152921504606846976:=h
   have he:=bk ha.ce p
   have hf:=bk hb.cf q
   unfold Cst at he hf
   rcases ih with ⟨g1,g2⟩ | ⟨q',j,d,e,g1,_⟩
   ·refine ⟨q,k,c+getD a.2.2.1 p 0,getD b.2.1 q 0,rfl,hq,.inr ⟨p,c,hp,g2,rfl,by omega⟩,.first q hq (by omega) o',?_⟩
    show c+adI (getD a.2.2.1 p 0) (getD b.2.1 q 0)=_
    omega
   ·have:p=a.1.length+q':=g1
    omega
  ·have hx':=ha.arcs x hx
   left
   rcases ih with ⟨g1,g2⟩ | ⟨q',j,d,e,g1,_⟩
   ·rw[my f (by omega)] at o
    exact ⟨by omega,.next x hx g2 h o⟩
   ·omega
  ·have hy':=hb.arcs y hy
   have e1:(shA a.1.length y).1.toNat=a.1.length+y.1.toNat:=by unfold shA; simp only; omega
   have e2:(shA a.1.length y).2.1.toNat=a.1.length+y.2.1.toNat:=by unfold shA; simp only; omega
   right
   rcases ih with ⟨g1,g2⟩ | ⟨q',j,d,e,g1,g2,g3,g4,g5⟩
   ·omega
   ·rw[e2,ju f] at o
    have h':c+y.2.2.1<1152921504606846976:=h
    have hd:=fm ha _ _ _ _ g3
    refine ⟨y.2.1.toNat,j,d,e+y.2.2.1,e2,by omega,g3,.nextE y hy (by omega) rfl g4 (by omega) o,?_⟩
    show c+y.2.2.1=_
    omega
theorem Ri (ha:SdV a) (hb:SdV b) (f:Int→Nat→Bool) {i k p:Nat} {c:Int} (r:Run a (rd f a) i k p c):∃d,d≤c∧Run (bm a b) (rd f (bm a b)) i k p d:=by
 obtain ⟨d,h1,h2⟩:=Run.up (s':=bm a b) (O':=rd f (bm a b)) ha 0 (fun p hp=>by rw[jZ]; omega) (fun p hp j o=>by rw[Nat.zero_add,my f hp]; exact o) (fun p hp=>by rw[Nat.zero_add,Rg ha hp]; exact Int.le_refl _) (fun x hx=>by
  rw[Mm]
  exact B5 (.inr (.inl hx))) r
 rw[Nat.zero_add] at h2
 exact ⟨d,h1,h2⟩
theorem Up (ha:SdV a) (hb:SdV b) (f:Int→Nat→Bool) {i j k q:Nat} {d e:Int} (h:cM f a i j d) (r:Run b (rd f b) j k q e) (hlt:d+e<1152921504606846976):∃c,c≤d+e∧Run (bm a b) (rd f (bm a b)) i k (a.1.length+q) c:=by
 induction r with
 |first q hq h1 o =>
  have o':rd f (bm a b) (a.1.length+q) j=true:=by rw[ju f]; exact o
  rcases h with ⟨rfl,rfl,h3⟩ | ⟨p,d0,hp,r,rfl,h3⟩
  ·exact ⟨_,Int.le_refl _,.firstE (by rw[jZ]; omega) ((Rh ha hb hq).trans (kD hlt)) hlt o'⟩
  ·obtain ⟨d',g1,g2⟩:=Ri ha hb f r
   have hr:=r.ok ha
   have e1:adI (getD a.2.2.1 p 0) (getD b.2.1 q 0)=getD a.2.2.1 p 0+getD b.2.1 q 0:=kD (by omega)
   obtain ⟨x,hx,x1,x2,x3⟩:=B5 (a:=a) (b:=b) (.inl ⟨p,q,hp,hq,rfl,by
    show adI (getD a.2.2.1 p 0) (getD b.2.1 q 0)<_
    omega⟩)
   have x1':x.1=(p:Int):=x1
   have x2':x.2.1=((a.1.length+q:Nat):Int):=x2
   have x3':x.2.2.1≤adI (getD a.2.2.1 p 0) (getD b.2.1 q 0):=x3
   exact ⟨d'+x.2.2.1,by omega,.nextE x hx (by omega) (by omega) g2 (by omega) o'⟩
 |next y hy r h1 o ih =>
  have hy':=hb.arcs y hy
  obtain ⟨c,g1,g2⟩:=ih (by omega)
  obtain ⟨x,hx,x1,x2,x3⟩:=B5 (a:=a) (b:=b) (.inr (.inr ⟨y,hy,rfl⟩))
  have x1':x.1=y.1+(a.1.length:Int):=x1
  have x2':x.2.1=y.2.1+(a.1.length:Int):=x2
  have x3':x.2.2.1≤y.2.2.1:=x3
  exact ⟨c+x.2.2.1,by omega,.nextE x hx (by omega) (by omega) g2 (by omega) (by rw[ju f]; exact o)⟩
theorem Kh (ha:SdV a) (hb:SdV b) (f:Int→Nat→Bool):Eqv (cM f (bm a b)) (eF (cM f a) (cM f b)):=by
 constructor
 ·intro i k c ⟨j,d,e,h1,h2,h3,h4⟩
  rcases h2 with ⟨rfl,rfl,h5⟩ | ⟨q,e0,hq,r,rfl,h5⟩
  ·rcases h1 with ⟨rfl,rfl,h6⟩ | ⟨p,d0,hp,r,rfl,h6⟩
   ·exact ⟨c,Int.le_refl _,.inl ⟨rfl,by
     show c=adI a.2.2.2.2.1 b.2.2.2.2.1
     rw[kD (by omega)]; exact h3,h4⟩⟩
   ·obtain ⟨d',g1,g2⟩:=Ri (b:=b) ha hb f r
    have hr:=r.ok ha
    have e1:adI (getD a.2.2.1 p 0) b.2.2.2.2.1=getD a.2.2.1 p 0+b.2.2.2.2.1:=kD (by omega)
    exact ⟨d'+getD (bm a b).2.2.1 p 0,by rw[IM ha hp]; omega,.inr ⟨p,d',by rw[jZ]; omega,g2,rfl,by rw[IM ha hp]; omega⟩⟩
  ·have he:=bk hb.ce q
   unfold Cst at he
   obtain ⟨c',g1,g2⟩:=Up ha hb f h1 r (by omega)
   exact ⟨c'+getD (bm a b).2.2.1 (a.1.length+q) 0,by rw[IN ha]; omega,.inr ⟨a.1.length+q,c',by rw[jZ]; omega,g2,rfl,by rw[IN ha]; omega⟩⟩
 ·refine .of fun i k c h=>?_
  have hn:=ha.cn
  have hm:=hb.cn
  unfold Cst at hn hm
  rcases h with ⟨rfl,h1,h2⟩ | ⟨p,d,hp,r,h1,h2⟩
  ·have h1':c=adI a.2.2.2.2.1 b.2.2.2.2.1:=h1
   obtain ⟨g1,g2⟩:=js (by rw[←h1']; exact h2)
   exact ⟨i,a.2.2.2.2.1,b.2.2.2.2.1,.inl ⟨rfl,rfl,by omega⟩,.inl ⟨rfl,rfl,by omega⟩,by omega,h2⟩
  ·rcases WI ha hb f r with ⟨g1,g2⟩ | ⟨q,j,d1,e1,rfl,g2,g3,g4,g5⟩
   ·have hr:=g2.ok ha
    have he:=bk ha.ce p
    unfold Cst at he
    rw[IM ha g1] at h1
    obtain ⟨q1,q2⟩:=js (a:=getD a.2.2.1 p 0) (b:=b.2.2.2.2.1) (by omega)
    exact ⟨k,d+getD a.2.2.1 p 0,b.2.2.2.2.1,.inr ⟨p,d,g1,g2,rfl,by omega⟩,.inl ⟨rfl,rfl,by omega⟩,by omega,h2⟩
   ·rw[IN ha] at h1
    have hd:=fm ha _ _ _ _ g3
    exact ⟨j,d1,e1+getD b.2.2.1 q 0,g3,.inr ⟨q,e1,g2,g4,rfl,by omega⟩,by omega,h2⟩
end
end Go.Proofs.YtgmmopbpldgpcaaE
set_option linter.unusedSimpArgs false
set_option linter.unusedVariables false
set_option maxRecDepth 20000
namespace Go.Proofs.YtgmmopbpldgpcaaE
section
variable {a b:ag}
theorem mz:(cC a b).1.length=a.1.length+b.1.length:=length_append
theorem WJ (ha:SdV a) (hb:SdV b) (f:Int→Nat→Bool) {i k p:Nat} {c:Int} (r:Run (cC a b) (rd f (cC a b)) i k p c):(p<a.1.length∧Run a (rd f a) i k p c)∨∃q,p=a.1.length+q∧q<b.1.length∧Run b (rd f b) i k q c:=by
 induction r with
 |first p hp h o =>
  rw[mz] at hp
  by_cases hpa:p<a.1.length
  ·left
   have e1:getD (cC a b).2.1 p 0=getD a.2.1 p 0:=kE _ _ _ _ (by rw[ha.lf]; exact hpa)
   have e2:rd f (cC a b) p i=rd f a p i:=my f hpa i
   rw[e1] at h ⊢
   rw[e2] at o
   exact ⟨hpa,.first p hpa h o⟩
  ·right
   obtain ⟨q,rfl⟩:∃q,p=a.1.length+q:=⟨p-a.1.length,by omega⟩
   have e1:getD (cC a b).2.1 (a.1.length+q) 0=getD b.2.1 q 0:=jt _ _ _ _ _ ha.lf
   have e2:rd f (cC a b) (a.1.length+q) i=rd f b q i:=ju f q i
   rw[e1] at h ⊢
   rw[e2] at o
   exact ⟨q,rfl,by omega,.first q (by omega) h o⟩
 |@next k c x hx r h o ih =>
  rcases List.mem_append.1 hx with hx | hx
  ·have hx':=ha.arcs x hx
   left
   rcases ih with ⟨g1,g2⟩ | ⟨q',g1,_⟩
   ·have e2:rd f (cC a b) x.2.1.toNat k=rd f a x.2.1.toNat k:=my f (by omega) k
    rw[e2] at o
    exact ⟨by omega,.next x hx g2 h o⟩
   ·omega
  ·obtain ⟨y,hy,rfl⟩:=List.mem_map.1 hx
   have hy':=hb.arcs y hy
   have e1:(shA a.1.length y).1.toNat=a.1.length+y.1.toNat:=by unfold shA; simp only; omega
   have e2:(shA a.1.length y).2.1.toNat=a.1.length+y.2.1.toNat:=by unfold shA; simp only; omega
   right
   rcases ih with ⟨g1,g2⟩ | ⟨q',g1,g2,g3⟩
   ·omega
   ·have e3:rd f (cC a b) (a.1.length+y.2.1.toNat) k=rd f b y.2.1.toNat k:=ju f _ k
    rw[e2,e3] at o
    exact ⟨y.2.1.toNat,e2,by omega,.nextE y hy (by omega) rfl g3 h o⟩
theorem WK (ha:SdV a) (hb:SdV b) (f:Int→Nat→Bool):Eqv (cM f (cC a b)) (orR (cM f a) (cM f b)):=by
 have hm:aK a.2.2.2.2.1 b.2.2.2.2.1≤a.2.2.2.2.1∧aK a.2.2.2.2.1 b.2.2.2.2.1≤b.2.2.2.2.1:=by unfold aK; split<;>omega
 constructor
 ·intro i k c h
  rcases h with (⟨h1,h2,h3⟩ | ⟨p,d,hp,r,h2,h3⟩) | (⟨h1,h2,h3⟩ | ⟨p,d,hp,r,h2,h3⟩)
  ·exact ⟨aK a.2.2.2.2.1 b.2.2.2.2.1,by omega,.inl ⟨h1,rfl,by omega⟩⟩
  ·obtain ⟨d',g1,g2⟩:=Run.up (s':=cC a b) (O':=rd f (cC a b)) ha 0 (fun p hp=>by rw[mz]; omega) (fun p hp j o=>by
    rw[Nat.zero_add]
    have e2:rd f (cC a b) p j=rd f a p j:=my f hp j
    rw[e2]; exact o) (fun p hp=>by
    rw[Nat.zero_add]
    exact Int.le_of_eq (kE _ _ _ _ (by rw[ha.lf]; exact hp))) (fun x hx=>⟨x,List.mem_append_left _ hx,by rw[Mm]; exact .rfl⟩) r
   rw[Nat.zero_add] at g2
   have e1:getD (cC a b).2.2.1 p 0=getD a.2.2.1 p 0:=kE _ _ _ _ (by rw[ha.le]; exact hp)
   exact ⟨d'+getD (cC a b).2.2.1 p 0,by omega,.inr ⟨p,d',by rw[mz]; omega,g2,rfl,by omega⟩⟩
  ·exact ⟨aK a.2.2.2.2.1 b.2.2.2.2.1,by omega,.inl ⟨h1,rfl,by omega⟩⟩
  ·obtain ⟨d',g1,g2⟩:=Run.up (s':=cC a b) (O':=rd f (cC a b)) hb a.1.length (fun p hp=>by rw[mz]; omega) (fun p hp j o=>by
    have e2:rd f (cC a b) (a.1.length+p) j=rd f b p j:=ju f p j
    rw[e2]; exact o) (fun p hp=>Int.le_of_eq (jt _ _ _ _ _ ha.lf)) (fun x hx=>⟨_,List.mem_append_right _ (List.mem_map.2 ⟨x,hx,rfl⟩),.rfl⟩) r
   have e1:getD (cC a b).2.2.1 (a.1.length+p) 0=getD b.2.2.1 p 0:=jt _ _ _ _ _ ha.le
   exact ⟨d'+getD (cC a b).2.2.1 (a.1.length+p) 0,by omega,.inr ⟨a.1.length+p,d',by rw[mz]; omega,g2,rfl,by omega⟩⟩
 ·refine .of fun i k c h=>?_
  rcases h with ⟨h1,h2,h3⟩ | ⟨p,d,hp,r,h2,h3⟩
  ·have h2':c=aK a.2.2.2.2.1 b.2.2.2.2.1:=h2
   unfold aK at h2'
   split at h2'
   ·exact .inr (.inl ⟨h1,h2',h3⟩)
   ·exact .inl (.inl ⟨h1,h2',h3⟩)
  ·rcases WJ ha hb f r with ⟨g1,g2⟩ | ⟨q,rfl,g2,g3⟩
   ·have e1:getD (cC a b).2.2.1 p 0=getD a.2.2.1 p 0:=kE _ _ _ _ (by rw[ha.le]; exact g1)
    exact .inl (.inr ⟨p,d,g1,g2,by omega,h3⟩)
   ·have e1:getD (cC a b).2.2.1 (a.1.length+q) 0=getD b.2.2.1 q 0:=jt _ _ _ _ _ ha.le
    exact .inr (.inr ⟨q,d,g2,g3,by omega,h3⟩)
def Ai (A:Rel):Rel:=fun i k c=>∃m,pw A m i k c
theorem Uq {x:aF} (h:x∈(cU a).2.2.2.1):(∃p q,p<a.1.length∧q<a.1.length∧x=ek a p q∧x.2.2.1<1152921504606846976)∨x∈a.2.2.2.1:=rM _ _ _ _ _ h
theorem vO {y:aF} (h:(∃p q,p<a.1.length∧q<a.1.length∧y=ek a p q∧y.2.2.1<1152921504606846976)∨y∈a.2.2.2.1):∃x∈(cU a).2.2.2.1,LeA x y:=rN _ _ _ _ _ h
theorem IP (ha:SdV a) (f:Int→Nat→Bool) {i k p:Nat} {c:Int} (r:Run (cU a) (rd f (cU a)) i k p c):∃m j d e,pw (cM f a) m i j d∧Run a (rd f a) j k p e∧c=d+e:=by
 induction r with
 |first p hp h o=>exact ⟨0,i,0,_,⟨rfl,rfl⟩,.first p hp h o,by rw[Int.zero_add]; rfl⟩
 |@next k c x hx r h o ih =>
  obtain ⟨m,j,d,e,g1,g2,g3⟩:=ih
  have hd:=fO (fm ha (rd f a)) m _ _ _ g1
  rcases Uq hx with ⟨p,q,hp,hq,rfl,hw⟩ | hx
  ·have hw':adI (getD a.2.2.1 p 0) (getD a.2.1 q 0)<1152921504606846976:=hw
   obtain ⟨h1,h2⟩:=js hw'
   have h':c+adI (getD a.2.2.1 p 0) (getD a.2.1 q 0)<1152921504606846976:=h
   have he:=bk ha.ce p
   have hf:=bk ha.cf q
   have hr:=g2.ok ha
   unfold Cst at he hf
   have g2':Run a (rd f a) j k p e:=g2
   refine ⟨m+1,k,d+(e+getD a.2.2.1 p 0),getD a.2.1 q 0,⟨j,d,e+getD a.2.2.1 p 0,g1,.inr ⟨p,e,hp,g2',rfl,by omega⟩,rfl,by omega⟩,.first q hq (by omega) o,?_⟩
   show c+adI (getD a.2.2.1 p 0) (getD a.2.1 q 0)=_
   omega
  ·exact ⟨m,j,d,e+x.2.2.1,g1,.next x hx g2 (by omega) o,by omega⟩
theorem WL (ha:SdV a) (f:Int→Nat→Bool) {i k p:Nat} {c:Int} (r:Run a (rd f a) i k p c):∃d,d≤c∧Run (cU a) (rd f (cU a)) i k p d:=by
 obtain ⟨d,h1,h2⟩:=Run.up (s':=cU a) (O':=rd f (cU a)) ha 0 (fun p hp=>by rw[Nat.zero_add]; exact hp) (fun p hp j o=>by rw[Nat.zero_add]; exact o) (fun p hp=>by rw[Nat.zero_add]; exact Int.le_refl _) (fun x hx=>by
  rw[Mm]
  exact vO (.inr hx)) r
 rw[Nat.zero_add] at h2
 exact ⟨d,h1,h2⟩
theorem Rj (ha:SdV a) (f:Int→Nat→Bool) {i j k p q:Nat} {d e:Int} (hp:p<a.1.length) (g2:Run (cU a) (rd f (cU a)) i j p d) (r:Run a (rd f a) j k q e) (hlt:d+getD a.2.2.1 p 0+e<1152921504606846976) (hd:0≤d):∃c,c≤d+getD a.2.2.1 p 0+e∧Run (cU a) (rd f (cU a)) i k q c:=by
 induction r with
 |first q hq h1 o =>
  have e1:adI (getD a.2.2.1 p 0) (getD a.2.1 q 0)=getD a.2.2.1 p 0+getD a.2.1 q 0:=kD (by omega)
  obtain ⟨x,hx,x1,x2,x3⟩:=vO (a:=a) (.inl ⟨p,q,hp,hq,rfl,by
   show adI (getD a.2.2.1 p 0) (getD a.2.1 q 0)<_
   omega⟩)
  have x1':x.1=(p:Int):=x1
  have x2':x.2.1=(q:Int):=x2
  have x3':x.2.2.1≤adI (getD a.2.2.1 p 0) (getD a.2.1 q 0):=x3
  exact ⟨d+x.2.2.1,by omega,.nextE x hx (by omega) (by omega) g2 (by omega) o⟩
 |next y hy r h1 o ih =>
  have hy':=ha.arcs y hy
  obtain ⟨c,q1,q2⟩:=ih (by omega)
  obtain ⟨x,hx,x1,x2,x3⟩:=vO (a:=a) (.inr hy)
  exact ⟨c+x.2.2.1,by omega,.nextE x hx (by rw[x1]) (by rw[x2]) q2 (by omega) o⟩
theorem Ki (ha:SdV a) (f:Int→Nat→Bool):∀(m i k:Nat) (c:Int),pw (cM f a) m i k c→∃d,d≤c∧cM f (cU a) i k d
 |0,i,k,c,h=>⟨0,by have:=h.2; omega,.inl ⟨h.1,rfl,by decide⟩⟩
 |m+1,i,k,c,⟨j,d,e,h1,h2,h3,h4⟩=>by
  have hp1:=fO (fm ha (rd f a)) m _ _ _ h1
  obtain ⟨d',g1,g2⟩:=Ki ha f m i j d h1
  rcases h2 with ⟨rfl,rfl,h5⟩ | ⟨q,e0,hq,r,rfl,h5⟩
  ·have:=ha.cn
   unfold Cst at this
   exact ⟨d',by omega,g2⟩
  ·have hr:=r.ok ha
   have hE:=bk ha.ce q
   unfold Cst at hE
   rcases g2 with ⟨rfl,g3,g4⟩ | ⟨p,d0,hp,r',g3,g4⟩
   ·have g3':d'=0:=g3
    obtain ⟨e',q1,q2⟩:=WL ha f r
    exact ⟨e'+getD (cU a).2.2.1 q 0,by show e'+getD a.2.2.1 q 0≤_; omega,.inr ⟨q,e',hq,q2,rfl,by show e'+getD a.2.2.1 q 0<_; omega⟩⟩
   ·have g3':d'=d0+getD a.2.2.1 p 0:=g3
    have hE2:=bk ha.ce p
    unfold Cst at hE2
    have hd0:0≤d0:=by
     obtain ⟨m',j',d1,e1,w1,w2,w3⟩:=IP ha f r'
     have:=fO (fm ha (rd f a)) m' _ _ _ w1
     have:=w2.ok ha
     omega
    obtain ⟨c',q1,q2⟩:=Rj ha f hp r' r (by omega) hd0
    exact ⟨c'+getD (cU a).2.2.1 q 0,by show c'+getD a.2.2.1 q 0≤_; omega,.inr ⟨q,c',hq,q2,rfl,by show c'+getD a.2.2.1 q 0<_; omega⟩⟩
theorem Ur (ha:SdV a) (f:Int→Nat→Bool):Eqv (cM f (cU a)) (Ai (cM f a)):=by
 constructor
 ·intro i k c ⟨m,h⟩
  exact Ki ha f m i k c h
 ·refine .of fun i k c h=>?_
  rcases h with ⟨h1,h2,h3⟩ | ⟨p,d,hp,r,h2,h3⟩
  ·exact ⟨0,h1,h2⟩
  ·obtain ⟨m,j,d1,e1,w1,w2,w3⟩:=IP ha f r
   have h2':c=d+getD a.2.2.1 p 0:=h2
   have:=fO (fm ha (rd f a)) m _ _ _ w1
   exact ⟨m+1,j,d1,e1+getD a.2.2.1 p 0,w1,.inr ⟨p,e1,hp,w2,rfl,by omega⟩,by omega,h3⟩
def B6 (A:Rel) (w:Int):Rel:=fun i k c=>∃d,A i k d∧c=d+w∧c<1152921504606846976
theorem WM (ha:SdV a) (w:Int) (f:Int→Nat→Bool) {i k p:Nat} {c:Int} (r:Run (iv a w) (rd f (iv a w)) i k p c) (hw:0≤w):∃d,Run a (rd f a) i k p d∧c=d+w:=by
 induction r with
 |first p hp h o =>
  have e:getD (iv a w).2.1 p 0=adI (getD a.2.1 p 0) w:=Ah (fun x=>adI x w) _ _ (by rw[ha.lf]; exact hp)
  rw[e] at h ⊢
  obtain ⟨h1,h2⟩:=js h
  exact ⟨_,.first p hp (by omega) o,h1⟩
 |next x hx r h o ih =>
  obtain ⟨d,g1,g2⟩:=ih
  exact ⟨d+x.2.2.1,.next x hx g1 (by omega) o,by omega⟩
theorem Us (ha:SdV a) (w:Int) (f:Int→Nat→Bool) {i k p:Nat} {c:Int} (r:Run a (rd f a) i k p c) (hlt:c+w<1152921504606846976):Run (iv a w) (rd f (iv a w)) i k p (c+w):=by
 induction r with
 |first p hp h o =>
  have e:getD (iv a w).2.1 p 0=adI (getD a.2.1 p 0) w:=Ah (fun x=>adI x w) _ _ (by rw[ha.lf]; exact hp)
  exact .firstE hp (e.trans (kD hlt)) hlt o
 |@next k c x hx r h o ih =>
  have hx':=ha.arcs x hx
  have:=Run.next (s:=iv a w) (O:=rd f (iv a w)) x hx (ih (by omega)) (by omega) o
  rwa [show c+w+x.2.2.1=c+x.2.2.1+w by omega] at this
theorem WN (ha:SdV a) {w:Int} (hw:0≤w) (f:Int→Nat→Bool):Eqv (cM f (iv a w)) (B6 (cM f a) w):=by
 constructor
 ·refine .of fun i k c ⟨d,h1,h2,h3⟩=>?_
  rcases h1 with ⟨g1,rfl,g3⟩ | ⟨p,d0,hp,r,rfl,g3⟩
  ·exact .inl ⟨g1,by
    show c=adI a.2.2.2.2.1 w
    rw[kD (by omega)]; exact h2,h3⟩
  ·have:=bk ha.ce p
   unfold Cst at this
   exact .inr ⟨p,d0+w,hp,Us ha w f r (by omega),by show c=d0+w+getD a.2.2.1 p 0; omega,h3⟩
 ·refine .of fun i k c h=>?_
  rcases h with ⟨h1,h2,h3⟩ | ⟨p,d,hp,r,h2,h3⟩
  ·have h2':c=adI a.2.2.2.2.1 w:=h2
   obtain ⟨g1,g2⟩:=js (by rw[←h2']; exact h3)
   exact ⟨a.2.2.2.2.1,.inl ⟨h1,rfl,by omega⟩,by omega,h3⟩
  ·obtain ⟨d0,g1,g2⟩:=WM ha w f r hw
   have h2':c=d+getD a.2.2.1 p 0:=h2
   exact ⟨d0+getD a.2.2.1 p 0,.inr ⟨p,d0,hp,g1,rfl,by omega⟩,by omega,h3⟩
def vP (a:ag):ag:=sd a.1 a.2.1 a.2.2.1 a.2.2.2.1 0
theorem WO (ha:SdV a):SdV (vP a):=⟨ha.lf,ha.le,ha.cf,ha.ce,⟨Int.le_refl (0:Int),(by decide:(0:Int)≤1152921504606846976)⟩,ha.arcs⟩
theorem Kj (f:Int→Nat→Bool) {i k p:Nat} {c:Int}:Run (vP a) (rd f (vP a)) i k p c↔Run a (rd f a) i k p c:=by
 constructor
 ·intro r
  induction r with
  |first p hp h o=>exact .first p hp h o
  |next x hx r h o ih=>exact .next x hx ih h o
 ·intro r
  induction r with
  |first p hp h o=>exact .first (s:=vP a) p hp h o
  |next x hx r h o ih=>exact .next (s:=vP a) x hx ih h o
theorem WQ (ha:SdV a) (f:Int→Nat→Bool):Eqv (cM f (vP a)) (orR (cM f a) eps):=by
 constructor
 ·intro i k c h
  rcases h with (⟨h1,h2,h3⟩ | ⟨p,d,hp,r,h2⟩) | ⟨h1,h2⟩
  ·have:=ha.cn
   unfold Cst at this
   exact ⟨0,by omega,.inl ⟨h1,rfl,by decide⟩⟩
  ·exact ⟨c,Int.le_refl _,.inr ⟨p,d,hp,(Kj f).2 r,h2⟩⟩
  ·exact ⟨0,by omega,.inl ⟨h1,rfl,by decide⟩⟩
 ·refine .of fun i k c h=>?_
  rcases h with ⟨h1,h2,h3⟩ | ⟨p,d,hp,r,h2⟩
  ·exact .inr ⟨h1,h2⟩
  ·exact .inl (.inr ⟨p,d,hp,(Kj f).1 r,h2⟩)
end
def Ut (A:Rel) (lo:Int) (k:Nat) (S:Rel):Rel:=orR (eF (pw A k) S) (fun i j c=>∃m:Nat,lo≤(m:Int)∧m<k∧pw A m i j c)
theorem Uu {A S S':Rel} (hA:Pos A) (hS:Pos S) (lo:Int) (k:Nat) (h:Eqv S' (if ((k+1:Nat):Int)>lo then orR (eF A S) eps else eF A S)):Eqv (Ut A lo k S') (Ut A lo (k+1) S):=by
 have hP:=fO hA k
 have asc:=Ml hP hA hS
 constructor
 ·intro i j c q
  rcases q with q | ⟨m,h1,h2,h3⟩
  ·obtain ⟨d,h1,h2⟩:=asc.1 i j c q
   have:Dom S' (eF A S):=by
    refine h.1.trans ?_
    split
    ·exact .of fun _ _ _ q=>.inl q
    ·exact .rfl
   obtain ⟨e,h3,h4⟩:=iZ (Dom.rfl (A:=pw A k)) this i j d h2
   exact ⟨e,by omega,.inl h4⟩
  ·by_cases hm:m=k
   ·subst hm
    have:Dom S' eps:=by
     refine h.1.trans ?_
     rw[if_pos (by omega)]
     exact .of fun _ _ _ q=>.inr q
    obtain ⟨e,h4,h5⟩:=(nV hP).1 i j c h3
    obtain ⟨e2,h6,h7⟩:=iZ (Dom.rfl (A:=pw A m)) this i j e h5
    exact ⟨e2,by omega,.inl h7⟩
   ·exact ⟨c,Int.le_refl _,.inr ⟨m,h1,by omega,h3⟩⟩
 ·intro i j c q
  rcases q with q | ⟨m,h1,h2,h3⟩
  ·obtain ⟨d,h1,h2⟩:=iZ (Dom.rfl (A:=pw A k)) h.2 i j c q
   split at h2
   ·rename_i hlo
    obtain ⟨l,e,g,w1,w2,w3,w4⟩:=h2
    rcases w2 with w2 | w2
    ·obtain ⟨e2,h6,h7⟩:=asc.2 i j d ⟨l,e,g,w1,w2,w3,w4⟩
     exact ⟨e2,by omega,.inl h7⟩
    ·obtain ⟨e2,h6,h7⟩:=(nV hP).2 i j d ⟨l,e,g,w1,w2,w3,w4⟩
     exact ⟨e2,by omega,.inr ⟨k,by omega,by omega,h7⟩⟩
   ·obtain ⟨e2,h6,h7⟩:=asc.2 i j d h2
    exact ⟨e2,by omega,.inl h7⟩
  ·exact ⟨c,Int.le_refl _,.inr ⟨m,h1,by omega,h3⟩⟩
theorem Kk {a:ag} (ha:SdV a) (lo:Int) (f:Int→Nat→Bool):∀(k:Nat) (s:ag),SdV s→Eqv (cM f (kx a lo k s)) (Ut (cM f a) lo k (cM f s))
 |0,s,hs=>by
  constructor
  ·intro i j c q
   rcases q with ⟨l,e,g,⟨rfl,w1⟩,w2,w3,w4⟩ | ⟨m,_,h,_⟩
   ·exact ⟨g,by omega,w2⟩
   ·omega
  ·refine .of fun i j c q=>.inl ⟨i,0,c,⟨rfl,rfl⟩,q,by omega,(fm hs _ _ _ _ q).2.2⟩
 |k+1,s,hs=>by
  have hc:=WH ha hs
  have e:=Kh ha hs f
  rw[kx]
  refine Eqv.trans ?_ (Uu (fm ha _) (fm hs _) lo k (S':=cM f (if ((k+1:Nat):Int)>lo then vP (bm a s) else bm a s)) ?_)
  ·refine Kk ha lo f k _ ?_
   split
   ·exact WO hc
   ·exact hc
  ·split
   ·exact (WQ hc f).trans (Kf e .rfl)
   ·exact e
def nW (f:Int→Nat→Bool) (fn:ByteArray→Int) (x:bn):Rel:=fun i k c=>(x.a.1=1∧i=k∧c=0)∨(x.a.1≠1∧k=i+1∧c=0∧f (if x.a.1=2 then fn x.a.2.2.2.2.1 else -1) i=true)
def den (f:Int→Nat→Bool) (fn:ByteArray→Int):Nat→bn→Rel
 |0,x=>nW f fn x
 |h+1,x=>if x.a.1=1∨x.a.1=2∨x.a.1=3 then nW f fn x
  else if x.a.1=4 then eF (den f fn h (getD x.l 0 eD)) (den f fn h (getD x.l 1 eD))
  else if x.a.1=5 then orR (den f fn h (getD x.l 0 eD)) (den f fn h (getD x.l 1 eD))
  else if x.a.1=6 then Ai (den f fn h (getD x.l 0 eD))
  else if x.a.1=8 then B6 (den f fn h (getD x.l 0 eD)) x.a.2.2.2.1
  else fun i k c=>∃m:Nat,x.a.2.1≤(m:Int)∧(m:Int)≤x.a.2.2.1∧pw (den f fn h (getD x.l 0 eD)) m i k c
theorem IQ (f:Int→Nat→Bool) (fn:ByteArray→Int) (x:bn):Eqv (cM f (jQ fn x)) (nW f fn x):=by
 unfold jQ nW
 have one:∀v:Int,Eqv (cM f (sd [v] [0] [0] [] 1152921504606846976)) (fun i k c=>k=i+1∧c=0∧f v i=true):=fun v=>by
  constructor
  ·refine .of fun i k c ⟨h1,h2,h3⟩=>?_
   subst h1 h2
   exact .inr ⟨0,0,by simp,.firstE (by simp) rfl (by decide) h3,rfl,by decide⟩
  ·refine .of fun i k c h=>?_
   rcases h with ⟨h1,h2,h3⟩ | ⟨p,d,hp,r,h2,h3⟩
   ·have h2':c=1152921504606846976:=h2
    omega
   ·have hp':p<1:=hp
    cases r with
    |first p hp h o =>
     obtain rfl:p=0:=by omega
     exact ⟨rfl,by rw[h2]; rfl,o⟩
    |next x hx r h o=>cases hx
 split
 ·rename_i h
  rw[h]
  constructor
  ·refine .of fun i k c q=>?_
   rcases q with ⟨_,h1,h2⟩ | ⟨h1,_⟩
   ·exact .inl ⟨h1,h2,by rw[h2]; decide⟩
   ·exact absurd rfl h1
  ·refine .of fun i k c q=>?_
   rcases q with ⟨h1,h2,h3⟩ | ⟨p,d,hp,r,h2,h3⟩
   ·exact .inl ⟨rfl,h1,h2⟩
   ·exact absurd hp (Nat.not_lt_zero _)
 ·rename_i h
  have key:∀v:Int,Eqv (fun i k c=>k=i+1∧c=0∧f v i=true) (fun i k c=>(x.a.1=1∧i=k∧c=0)∨(x.a.1≠1∧k=i+1∧c=0∧f v i=true)):=fun v =>
   ⟨.of fun i k c q=>q.elim (fun q=>absurd q.1 h) fun q=>q.2,.of fun i k c q=>.inr ⟨h,q⟩⟩
  split
  ·exact (one _).trans (key _)
  ·exact (one _).trans (key _)
theorem IR (f:Int→Nat→Bool) (fn:ByteArray→Int) (x:bn):Pos (nW f fn x):=fun i k c q=>by
 rcases q with ⟨_,h1,h2⟩ | ⟨_,h1,h2,_⟩<;>omega
theorem i6 {w:Bool} (f:Int→Nat→Bool) (fn:ByteArray→Int) (M:Nat) (hfn:∀nm,-1≤fn nm∧fn nm<(M:Int)):∀(h:Nat) (x:bn),h≤5→cr w h x→Eqv (cM f (aX fn h x)) (den f fn h x)
 |0,x,_,p=>by
  rw[iw p]
  exact IQ f fn x
 |h+1,x,h6,p=>by
  have hv:∀y,cr w h y→SdV (aX fn h y):=fun y hy=>(gp fn M hfn h y (by omega) hy).sdv (by have:=iS h (by omega); omega)
  rcases p with p | ⟨a,p,q,e,hp1,hq1⟩ | ⟨a,p,e,hp1⟩ | ⟨a,b,p,e,hp1⟩ | ⟨a,_,b,p,e,hp1⟩
  ·rw[iw p]
   have d1:den f fn (h+1) x=nW f fn x:=by unfold den; exact if_pos (li p)
   rw[d1]
   exact IQ f fn x
  ·have g1:=i6 f fn M hfn h p (by omega) hp1
   have g2:=i6 f fn M hfn h q (by omega) hq1
   rcases a with a | a
   ·have s1:aX fn (h+1) x=bm (aX fn h p) (aX fn h q):=by
     conv=>lhs; unfold aX
     rw[if_neg (by omega),if_pos a,e]
     rfl
    have d1:den f fn (h+1) x=eF (den f fn h p) (den f fn h q):=by
     conv=>lhs; unfold den
     rw[if_neg (by omega),if_pos a,e]
     rfl
    rw[s1,d1]
    exact (Kh (hv p hp1) (hv q hq1) f).trans (vM g1 g2)
   ·have s1:aX fn (h+1) x=cC (aX fn h p) (aX fn h q):=by
     conv=>lhs; unfold aX
     rw[if_neg (by omega),if_neg (by omega),if_pos a,e]
     rfl
    have d1:den f fn (h+1) x=orR (den f fn h p) (den f fn h q):=by
     conv=>lhs; unfold den
     rw[if_neg (by omega),if_neg (by omega),if_pos a,e]
     rfl
    rw[s1,d1]
    exact (WK (hv p hp1) (hv q hq1) f).trans (Kf g1 g2)
  ·have g1:=i6 f fn M hfn h p (by omega) hp1
   have s1:aX fn (h+1) x=cU (aX fn h p):=by
    conv=>lhs; unfold aX
    rw[if_neg (by omega),if_neg (by omega),if_neg (by omega),if_pos a,e]
    rfl
   have d1:den f fn (h+1) x=Ai (den f fn h p):=by
    conv=>lhs; unfold den
    rw[if_neg (by omega),if_neg (by omega),if_neg (by omega),if_pos a,e]
    rfl
   rw[s1,d1]
   refine (Ur (hv p hp1) f).trans ⟨fun i k c ⟨m,q⟩=>?_,fun i k c ⟨m,q⟩=>?_⟩
   ·obtain ⟨d,h1,h2⟩:=(rJ g1 m).1 i k c q
    exact ⟨d,h1,m,h2⟩
   ·obtain ⟨d,h1,h2⟩:=(rJ g1 m).2 i k c q
    exact ⟨d,h1,m,h2⟩
  ·have g1:=i6 f fn M hfn h p (by omega) hp1
   have hP:=fO (fm (hv p hp1) (rd f (aX fn h p))) x.a.2.2.1.toNat
   have s1:aX fn (h+1) x=kx (aX fn h p) x.a.2.1 x.a.2.2.1.toNat (sd [] [] [] [] 0):=by
    conv=>lhs; unfold aX
    rw[if_neg (by omega),if_neg (by omega),if_neg (by omega),if_neg (by omega),if_neg (by omega),e]
    rfl
   have d1:den f fn (h+1) x=fun i k c=>∃m:Nat,x.a.2.1≤(m:Int)∧(m:Int)≤x.a.2.2.1∧pw (den f fn h p) m i k c:=by
    conv=>lhs; unfold den
    rw[if_neg (by omega),if_neg (by omega),if_neg (by omega),if_neg (by omega),if_neg (by omega),e]
    rfl
   rw[s1,d1]
   have hn0:SdV (sd [] [] [] [] 0):=(BT M 0 (Int.le_refl _)).sdv (by decide)
   have hne:Eqv (cM f (sd [] [] [] [] 0)) eps:=by
    constructor
    ·exact .of fun i k c q=>.inl ⟨q.1,q.2,by rw[q.2]; decide⟩
    ·refine .of fun i k c q=>?_
     rcases q with ⟨h1,h2,h3⟩ | ⟨p,d,hp,r,h2,h3⟩
     ·exact ⟨h1,h2⟩
     ·exact absurd hp (Nat.not_lt_zero _)
   refine (Kk (hv p hp1) x.a.2.1 f _ _ hn0).trans ⟨fun i k c ⟨m,q1,q2,q3⟩=>?_,fun i k c q=>?_⟩
   ·obtain ⟨d,h1,h2⟩:=(rJ g1 m).1 i k c q3
    by_cases hm:m=x.a.2.2.1.toNat
    ·subst hm
     obtain ⟨d2,h3,h4⟩:=((vM .rfl hne).trans (nV hP)).1 i k d h2
     exact ⟨d2,by omega,.inl h4⟩
    ·exact ⟨d,h1,.inr ⟨m,q1,by omega,h2⟩⟩
   ·rcases q with q | ⟨m,q1,q2,q3⟩
    ·obtain ⟨d2,h3,h4⟩:=((vM .rfl hne).trans (nV hP)).2 i k c q
     obtain ⟨d,h1,h2⟩:=(rJ g1 _).2 i k d2 h4
     exact ⟨d,by omega,_,by omega,by omega,h2⟩
    ·obtain ⟨d,h1,h2⟩:=(rJ g1 m).2 i k c q3
     exact ⟨d,h1,m,q1,by omega,h2⟩
  ·have g1:=i6 f fn M hfn h p (by omega) hp1
   have s1:aX fn (h+1) x=iv (aX fn h p) x.a.2.2.2.1:=by
    conv=>lhs; unfold aX
    rw[if_neg (by omega),if_neg (by omega),if_neg (by omega),if_neg (by omega),if_pos a,e]
    rfl
   have d1:den f fn (h+1) x=B6 (den f fn h p) x.a.2.2.2.1:=by
    conv=>lhs; unfold den
    rw[if_neg (by omega),if_neg (by omega),if_neg (by omega),if_neg (by omega),if_pos a,e]
    rfl
   rw[s1,d1]
   refine (WN (hv p hp1) b.1 f).trans ⟨fun i k c ⟨d,h1,h2,h3⟩=>?_,fun i k c ⟨d,h1,h2,h3⟩=>?_⟩
   ·obtain ⟨d2,h4,h5⟩:=g1.1 i k d h1
    exact ⟨d2+x.a.2.2.2.1,by omega,d2,h5,rfl,by omega⟩
   ·obtain ⟨d2,h4,h5⟩:=g1.2 i k d h1
    exact ⟨d2+x.a.2.2.2.1,by omega,d2,h5,rfl,by omega⟩
end Go.Proofs.YtgmmopbpldgpcaaE
set_option linter.unusedSimpArgs false
set_option linter.unusedVariables false
set_option maxRecDepth 20000
namespace Go.Proofs.YtgmmopbpldgpcaaE
section
variable {I:InT} {s s':ag} {z:List Int} {a b c:List Bool}
theorem nX (h:tZ I s s' z a b c) (hs:SdV s) (f:Int→Nat→Bool) {L:Nat} (hO:∀p j,p<s.1.length→j<L→rd f s p j=true→∃x,ofP I s p x=true) {i k p:Nat} {e:Int} (r:Run s (rd f s) i k p e) (hk:k≤L):onB a p∧onB c p:=by
 induction r with
 |first p hp h1 o =>
  obtain ⟨x,hx⟩:=hO p i hp (by omega) o
  have hc:=h.may.may p x hp hx
  exact ⟨h.may.beg p hp hc h1,hc⟩
 |@next k e x hx r h1 o ih =>
  have hb:=hs.arcs x hx
  obtain ⟨g1,g2⟩:=ih (by omega)
  obtain ⟨y,hy⟩:=hO x.2.1.toNat k (by omega) (by omega) o
  have hc:=h.may.may x.2.1.toNat y (by omega) hy
  exact ⟨(h.cl x hx).1 g1 hc,hc⟩
theorem WR (h:tZ I s s' z a b c) (hs:SdV s) (f:Int→Nat→Bool) {L:Nat} (hO:∀p j,p<s.1.length→j<L→rd f s p j=true→∃x,ofP I s p x=true) {i k p:Nat} {e:Int} (r:Run s (rd f s) i k p e):k≤L→onB b p→0≤getD z p 0∧Run s' (rd f s') i k (getD z p 0).toNat e:=by
 induction r with
 |first p hp h1 o =>
  intro hk hb
  obtain ⟨g1,g2⟩:=nX h hs f hO (.first p hp h1 o) hk
  have hz:=(h.q.dom p hp).2 ⟨g1,hb⟩
  obtain ⟨v1,v2,v3⟩:=h.q.val p hp hz
  have hr:=h.ren.rng p hp
  exact ⟨hz,.firstE (by omega) v2 h1 (by unfold rd; rw[v1]; exact o)⟩
 |@next k e x hx r h1 o ih =>
  intro hk hb
  have hx':=hs.arcs x hx
  obtain ⟨g1,g2⟩:=nX h hs f hO (.next x hx r h1 o) hk
  obtain ⟨g3,g4⟩:=nX h hs f hO r (by omega)
  have hz:=(h.q.dom x.2.1.toNat (by omega)).2 ⟨g1,hb⟩
  obtain ⟨v1,v2,v3⟩:=h.q.val x.2.1.toNat (by omega) hz
  obtain ⟨i1,i2⟩:=ih (by omega) ((h.cl x hx).2 hb g4)
  refine ⟨hz,.nextE (ft z x) (h.arc.has x hx i1 hz) rfl rfl i2 h1 (by unfold rd; rw[v1]; exact o)⟩
theorem Rk (h:tZ I s s' z a b c) (hs:SdV s) (f:Int→Nat→Bool) {i k q:Nat} {e:Int} (r:Run s' (rd f s') i k q e):∃p,p<s.1.length∧getD z p 0=(q:Int)∧Run s (rd f s) i k p e:=by
 induction r with
 |first q hq h1 o =>
  obtain ⟨p,hp,hz⟩:=h.q.sur q hq
  obtain ⟨v1,v2,v3⟩:=h.q.val p hp (by omega)
  rw[hz,tnI q] at v1 v2
  rw[v2] at h1 ⊢
  unfold rd at o
  rw[v1] at o
  exact ⟨p,hp,hz,.first p hp h1 o⟩
 |@next k e y hy r h1 o ih =>
  obtain ⟨x,hx,rfl,g1,g2⟩:=h.arc.src y hy
  have hx':=hs.arcs x hx
  obtain ⟨p,hp,hz,hr⟩:=ih
  have e1:(ft z x).1=getD z x.1.toNat 0:=rfl
  have e2:(ft z x).2.1=getD z x.2.1.toNat 0:=rfl
  have hpx:p=x.1.toNat:=by
   rcases Nat.lt_trichotomy p x.1.toNat with q | q | q
   ·have:=h.ren.mon p _ q (by omega) (by omega) g1
    omega
   ·exact q
   ·have:=h.ren.mon _ p q hp g1 (by omega)
    omega
  subst hpx
  obtain ⟨v1,v2,v3⟩:=h.q.val x.2.1.toNat (by omega) g2
  unfold rd at o
  rw[e2,v1] at o
  exact ⟨x.2.1.toNat,by omega,by rw[e2]; omega,.next x hx hr h1 o⟩
theorem Uv (h:tZ I s s' z a b c) (hs:SdV s) (f:Int→Nat→Bool) {L:Nat} (hO:∀p j,p<s.1.length→j<L→rd f s p j=true→∃x,ofP I s p x=true) {i k:Nat} {e:Int} (hk:k≤L):cM f s' i k e↔cM f s i k e:=by
 constructor
 ·rintro (⟨h1,h2,h3⟩ | ⟨q,d,hq,r,h2,h3⟩)
  ·rw[h.non] at h2
   exact .inl ⟨h1,h2,h3⟩
  ·obtain ⟨p,hp,hz,r'⟩:=Rk h hs f r
   obtain ⟨v1,v2,v3⟩:=h.q.val p hp (by omega)
   rw[hz,tnI q] at v3
   rw[v3] at h2
   exact .inr ⟨p,d,hp,r',h2,h3⟩
 ·rintro (⟨h1,h2,h3⟩ | ⟨p,d,hp,r,h2,h3⟩)
  ·rw[←h.non] at h2
   exact .inl ⟨h1,h2,h3⟩
  ·have hr:=r.ok hs
   have hE:getD s.2.2.1 p 0<1152921504606846976:=by omega
   obtain ⟨g1,g2⟩:=nX h hs f hO r hk
   obtain ⟨hz,r'⟩:=WR h hs f hO r hk (h.may.fin p hp g2 hE)
   obtain ⟨v1,v2,v3⟩:=h.q.val p hp hz
   have hrg:=h.ren.rng p hp
   exact .inr ⟨_,d,by omega,r',by rw[v3]; exact h2,h3⟩
end
inductive i7 (s:ag) (O:Nat→Nat→Bool):Nat→Nat→Nat→Nat→Prop
 |one (i p:Nat) (o:O p i=true):i7 s O i p (i+1) p
 |cons {i k q:Nat} (x:aF) (hx:x∈s.2.2.2.1) (o:O x.1.toNat i=true) (r:i7 s O (i+1) x.2.1.toNat k q):i7 s O i x.1.toNat k q
theorem i7.lt {s:ag} {O:Nat→Nat→Bool} {i p k q:Nat} (r:i7 s O i p k q):i<k:=by
 induction r with
 |one i p o=>omega
 |cons x hx o r ih=>omega
theorem i7.on {s:ag} {O:Nat→Nat→Bool} {i p k q:Nat} (r:i7 s O i p k q):O p i=true:=by
 cases r with
 |one _ _ o=>exact o
 |cons x hx o r=>exact o
theorem i7.snoc {s:ag} {O:Nat→Nat→Bool} {i p k q:Nat} (r:i7 s O i p k q) (x:aF) (hx:x∈s.2.2.2.1) (hq:x.1.toNat=q) (o:O x.2.1.toNat k=true):i7 s O i p (k+1) x.2.1.toNat:=by
 induction r with
 |one i p o1 =>
  subst hq
  exact .cons x hx o1 (.one _ _ o)
 |cons y hy o1 r ih=>exact .cons y hy o1 (ih hq o)
theorem Uw {s:ag} {O:Nat→Nat→Bool} {i k q:Nat} {e:Int} (r:Run s O i k q e):∃p,p<s.1.length∧getD s.2.1 p 0<1152921504606846976∧i7 s O i p k q:=by
 induction r with
 |first p hp h o=>exact ⟨p,hp,h,.one i p o⟩
 |next x hx r h o ih =>
  obtain ⟨p,h1,h2,h3⟩:=ih
  exact ⟨p,h1,h2,h3.snoc x hx rfl o⟩
theorem Ux {s:ag} {O:Nat→Nat→Bool} {i0 i p k q:Nat} (hA:∀x∈s.2.2.2.1,0≤x.2.2.1∧x.2.2.1≤20000) (r:i7 s O i p k q):k≤1000→∀e,0≤e→e≤20000*(i:Int)+20000→Run s O i0 (i+1) p e→∃d,0≤d∧d≤20000*(k:Int)∧Run s O i0 k q d:=by
 induction r with
 |one i p o=>exact fun hk e h0 h1 r=>⟨e,h0,by omega,r⟩
 |@cons i k q x hx o r ih =>
  intro hk e h0 h1 r'
  have hx':=hA x hx
  have hlt:=r.lt
  have o':=r.on
  exact ih hk (e+x.2.2.1) (by omega) (by omega) (.next x hx r' (by omega) o')
def Liv (s:ag) (O:Nat→Nat→Bool) (L i p:Nat):Prop:=∃k q,k≤L∧i7 s O i p k q∧getD s.2.2.1 q 0<1152921504606846976
theorem Uy {s:ag} {O:Nat→Nat→Bool} {L i p:Nat} (hi:i<L):Liv s O L i p↔O p i=true∧(getD s.2.2.1 p 0<1152921504606846976∨∃x∈s.2.2.2.1,x.1.toNat=p∧Liv s O L (i+1) x.2.1.toNat):=by
 constructor
 ·rintro ⟨k,q,hk,r,hE⟩
  cases r with
  |one _ _ o=>exact ⟨o,.inl hE⟩
  |cons x hx o r=>exact ⟨o,.inr ⟨x,hx,rfl,k,q,hk,r,hE⟩⟩
 ·rintro ⟨o,hE | ⟨x,hx,rfl,k,q,hk,r,hE⟩⟩
  ·exact ⟨i+1,p,hi,.one i p o,hE⟩
  ·exact ⟨k,q,hk,.cons x hx o r,hE⟩
theorem Aj (I:InT) (s:ag) (a:Nat) (r:List Bool) (p:Nat):∀(xs:List aF) (row:List Bool),(∀x∈xs,x.1.toNat<row.length)→(onB (xs.foldl (kA I s a r) row) p↔onB row p∨∃x∈xs,x.1.toNat=p∧ofP I s p a=true∧onB r x.2.1.toNat)
 | [],row,_=>⟨.inl,fun q=>q.elim id fun ⟨x,hx,_⟩=>by cases hx⟩
 |x::xs,row,h=>by
  have h0:=h x mem_cons_self
  rw[foldl_cons,Aj I s a r p xs _ (fun y hy=>by rw[HP]; exact h y (mem_cons_of_mem _ hy))]
  have key:onB (kA I s a r row x) p↔onB row p∨(x.1.toNat=p∧ofP I s p a=true∧onB r x.2.1.toNat):=by
   unfold kA
   by_cases hc:ofP I s x.1.toNat a&&getD r x.2.1.toNat false
   ·rw[if_pos hc]
    simp only[Bool.and_eq_true] at hc
    by_cases e:p=x.1.toNat
    ·subst e
     unfold onB
     rw[cS h0]
     exact ⟨fun _=>.inr ⟨rfl,hc.1,hc.2⟩,fun _=>rfl⟩
    ·unfold onB
     rw[bL e]
     exact ⟨.inl,fun q=>q.elim id fun q=>absurd q.1.symm e⟩
   ·rw[if_neg hc]
    refine ⟨.inl,fun q=>q.elim id fun ⟨q1,q2,q3⟩=>?_⟩
    subst q1
    unfold onB at q3
    rw[q2,q3] at hc
    exact absurd rfl hc
  rw[key]
  constructor
  ·rintro ((q | q) | ⟨y,hy,q⟩)
   ·exact .inl q
   ·exact .inr ⟨x,mem_cons_self,q⟩
   ·exact .inr ⟨y,mem_cons_of_mem _ hy,q⟩
  ·rintro (q | ⟨y,hy,q⟩)
   ·exact .inl (.inl q)
   ·rcases List.mem_cons.1 hy with g | g
    ·subst g; exact .inl (.inr q)
    ·exact .inr ⟨y,g,q⟩
theorem Mn (I:InT) {s:ag} (hs:SOK s) (a:Nat) (r:List Bool) {p:Nat} (hp:p<s.1.length):onB (gz I s a r) p↔ofP I s p a=true∧(getD s.2.2.1 p 0<1152921504606846976∨∃x∈s.2.2.2.1,x.1.toNat=p∧onB r x.2.1.toNat):=by
 unfold gz
 rw[Aj I s a r p _ _ (fun x hx=>by
  have:=hs.arcs x hx
  simp only[length_map,length_range]
  omega)]
 have e:onB ((List.range s.1.length).map (gK I s a)) p↔gK I s a p=true:=by
  unfold onB
  rw[ak _ _ _ (by simpa using hp),getElem_map,getElem_range]
 rw[e]
 unfold gK
 simp only[Bool.and_eq_true,decide_eq_true_eq]
 constructor
 ·rintro (⟨h1,h2⟩ | ⟨x,hx,h1,h2,h3⟩)
  ·exact ⟨h2,.inl h1⟩
  ·exact ⟨h2,.inr ⟨x,hx,h1,h3⟩⟩
 ·rintro ⟨h1,h2 | ⟨x,hx,h2,h3⟩⟩
  ·exact .inl ⟨h2,h1⟩
  ·exact .inr ⟨x,hx,h2,h1,h3⟩
abbrev stT (I:InT) (s:ag) (r:List Bool) (a:Nat):List Bool:=gz I s a r
theorem B7 {I:InT} {s:ag} (hs:SOK s) {O:Nat→Nat→Bool} {x:List Nat} (ho:∀p j (h:j<x.length),p<s.1.length→ofP I s p x[j]=O p j):∀(d i:Nat),i+d=x.length→∀p,p<s.1.length→(onB (stR (stT I s) (replicate s.1.length false) (x.drop i)) p↔Liv s O x.length i p)
 |0,i,hi,p,hp=>by
  rw[drop_eq_nil_of_le (by omega)]
  constructor
  ·intro h
   unfold onB stR at h
   rw[ak _ _ _ (by simpa using hp),List.getElem_replicate] at h
   cases h
  ·rintro ⟨k,q,hk,r,_⟩
   have:=r.lt
   omega
 |d+1,i,hi,p,hp=>by
  have hlt:i<x.length:=by omega
  rw[drop_eq_getElem_cons hlt]
  show onB (gz I s x[i] (stR (stT I s) (replicate s.1.length false) (x.drop (i+1)))) p↔_
  rw[Mn I hs _ _ hp,Uy hlt,ho p i hlt hp]
  have ih:=fun q hq=>B7 hs ho d (i+1) (by omega) q hq
  constructor
  ·rintro ⟨h1,h2 | ⟨y,hy,h2,h3⟩⟩
   ·exact ⟨h1,.inl h2⟩
   ·exact ⟨h1,.inr ⟨y,hy,h2,(ih _ (by have:=hs.arcs y hy; omega)).1 h3⟩⟩
  ·rintro ⟨h1,h2 | ⟨y,hy,h2,h3⟩⟩
   ·exact ⟨h1,.inl h2⟩
   ·exact ⟨h1,.inr ⟨y,hy,h2,(ih _ (by have:=hs.arcs y hy; omega)).2 h3⟩⟩
structure SmC (s:ag):Prop where
 cf:∀p,p<s.1.length→0≤getD s.2.1 p 0∧(getD s.2.1 p 0≤20000∨getD s.2.1 p 0=1152921504606846976)
 ce:∀p,p<s.1.length→0≤getD s.2.2.1 p 0∧(getD s.2.2.1 p 0≤20000∨getD s.2.2.1 p 0=1152921504606846976)
 cn:0≤s.2.2.2.2.1
 ca:∀x∈s.2.2.2.1,0≤x.2.2.1∧x.2.2.1≤20000
theorem Uz {I:InT} {N M:Nat} {s:ag} (h:fT I N M s):SmC s:=by
 obtain ⟨n,hn,g⟩:=h.g
 have hc:=iS 5 (by omega)
 have h1:=g.ls
 have h2:=g.cn
 unfold CB at h2
 refine ⟨fun p hp=>?_,fun p hp=>?_,h2.1,fun x hx=>?_⟩
 ·have:=g.ef (i:=p) (by omega)
  unfold CB at this
  omega
 ·have:=g.ee (i:=p) (by omega)
  unfold CB at this
  omega
 ·have:=g.arcs x hx
  omega
theorem UA {I:InT} {s:ag} (hs:SOK s) (hc:SmC s) {O:Nat→Nat→Bool} {x:List Nat} (hx:x.length≤1000) (ho:∀p j (h:j<x.length),p<s.1.length→ofP I s p x[j]=O p j) (i:Nat) (hi:i≤x.length):nL s (stR (stT I s) (replicate s.1.length false) (x.drop i))=true↔∃k e,k≤x.length∧Acc s O i k e:=by
 unfold nL
 rw[Bool.or_eq_true,decide_eq_true_eq,any_eq_true]
 constructor
 ·rintro (h | ⟨p,hp,h⟩)
  ·exact ⟨i,_,hi,.inl ⟨rfl,rfl,h⟩⟩
  ·have hp':p<s.1.length:=List.mem_range.1 hp
   unfold nK at h
   simp only[Bool.and_eq_true,decide_eq_true_eq] at h
   obtain ⟨k,q,hk,r,hE⟩:=(B7 hs ho (x.length-i) i (by omega) p hp').1 h.1
   have hF:=hc.cf p hp'
   have hlt:=r.lt
   have o:=r.on
   have h2:getD s.2.1 p 0<1152921504606846976:=h.2
   obtain ⟨d,d0,d1,r'⟩:=Ux (i0:=i) hc.ca r (by omega) (getD s.2.1 p 0) hF.1 (by omega) (.first p hp' h2 o)
   have hq:q<s.1.length:=by
    cases r' with
    |first q hq h o=>exact hq
    |next y hy r h o=>have:=hs.arcs y hy; omega
   have hEq:=hc.ce q hq
   exact ⟨k,d+getD s.2.2.1 q 0,hk,.inr ⟨q,d,hq,r',rfl,by omega⟩⟩
 ·rintro ⟨k,e,hk,⟨h1,h2,h3⟩ | ⟨q,d,hq,r,h2,h3⟩⟩
  ·exact .inl (show _<(1152921504606846976:Int) by omega)
  ·obtain ⟨p,hp,hF,hP⟩:=Uw r
   have hEq:=hc.ce q hq
   have hd:0≤d:=by
    clear h2 h3 hP
    induction r with
    |first p hp h o=>exact (hc.cf p hp).1
    |next y hy r h o ih =>
     have:=hc.ca y hy
     have:=ih (by omega) (by have:=hs.arcs y hy; omega) (hc.ce _ (by have:=hs.arcs y hy; omega))
     omega
   refine .inr ⟨p,List.mem_range.2 hp,?_⟩
   unfold nK
   simp only[Bool.and_eq_true,decide_eq_true_eq]
   exact ⟨(B7 hs ho (x.length-i) i (by omega) p hp).2 ⟨k,q,hk,hP,by omega⟩,hF⟩
theorem Rm (I:InT) (ss:List ag) {L:cm} (a i:Nat) (h:i<ss.length) (h2:i<L.length) (h3:i<(bd I ss L a).length):(bd I ss L a)[i]=gz I ss[i] a L[i]:=List.getElem_zipWith ..
theorem IS (I:InT) (ss:List ag) (i:Nat) (h:i<ss.length):∀(t:List Nat),getD (stR (bd I ss) (bP ss) t) i []=stR (stT I ss[i]) (replicate ss[i].1.length false) t
 | []=>by
  show getD (bP ss) i []=replicate ss[i].1.length false
  rw[ak _ _ _ (by simpa[bP] using h)]
  simp[bP]
 |a::t=>by
  have hl:=mu (jY (I:=I) (ss:=ss) t)
  have hl2:=mu (jY (I:=I) (ss:=ss) (a::t))
  have ih:=IS I ss i h t
  rw[ak _ _ _ (by omega)] at ih
  show getD (bd I ss (stR (bd I ss) (bP ss) t) a) i []=gz I ss[i] a (stR (stT I ss[i]) (replicate ss[i].1.length false) t)
  have hl3:i<(bd I ss (stR (bd I ss) (bP ss) t) a).length:=by
   have:(bd I ss (stR (bd I ss) (bP ss) t) a).length=ss.length:=hl2
   omega
  rw[ak _ _ _ hl3,Rm I ss a i h (by omega),ih]
theorem Mo (I:InT) (ss:List ag) (i:Nat) (h:i<ss.length) (t:List Nat):getD (bo ss (stR (bd I ss) (bP ss) t)) i false=nL ss[i] (stR (stT I ss[i]) (replicate ss[i].1.length false) t):=by
 have hl:=mu (jY (I:=I) (ss:=ss) t)
 have hl2:=lj (jY (I:=I) (ss:=ss) t)
 have e:=IS I ss i h t
 rw[ak _ _ _ (by omega)] at e ⊢
 unfold bo
 rw[List.getElem_zipWith,e]
end Go.Proofs.YtgmmopbpldgpcaaE

