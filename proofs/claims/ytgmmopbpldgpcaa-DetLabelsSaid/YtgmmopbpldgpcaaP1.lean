/- Plain laws. Conditions: none. -/
import Derived.Test.YtgmmopbpldgpcaaP0
set_option linter.unusedSimpArgs false
set_option linter.unusedVariables false
set_option maxRecDepth 20000
open List (append_assoc append_nil drop_eq_getElem_cons drop_eq_nil_of_le drop_zero ext_getElem foldl_cons getD getElem_map getElem_mem length length_append length_map length_singleton map_append map_cons map_nil map_take mem_cons_of_mem mem_cons_self nil_append range' replicate take_append_drop take_zero zipWith)
open Option (bind_some getD_some isSome_some)
open Nat (zero_le)
namespace Go.Proofs.YtgmmopbpldgpcaaE
structure SOC (s:SideT):Prop where
 ok:SOK s
 cf:CstL s.2.1
 ce:CstL s.2.2.1
 cn:Cst s.2.2.2.2.1
 ca:∀x∈s.2.2.2.1,Cst x.2.2.1
def arcC (r:List Int) (l:List Int) (x:ArcT):List Int:=List.set l x.2.1.toNat (minI (getD l x.2.1.toNat 0) (adI (getD r x.1.toNat 0) x.2.2.1))
def farC (s:SideT) (r:List Int):List Int:=s.2.2.2.1.foldl (arcC r) s.2.1
def maskC (I:InT) (s:SideT) (a i:Nat) (l:List Int):List Int:=(List.range l.length).map fun p=>if p<i∧ofP I s p a=false then INF1 else getD l p 0
def stepC (I:InT) (s:SideT) (a:Nat) (r:List Int):List Int:=maskC I s a s.1.length (farC s r)
theorem arcC_len (r l:List Int) (x:ArcT):(arcC r l x).length=l.length:=List.length_set
theorem arcsC_len (r:List Int):∀(xs:List ArcT) (l:List Int),(xs.foldl (arcC r) l).length=l.length
 | [],l=>rfl
 |x::xs,l=>by rw[foldl_cons,arcsC_len r xs,arcC_len]
theorem maskC_len (I:InT) (s:SideT) (a i:Nat) (l:List Int):(maskC I s a i l).length=l.length:=by simp[maskC]
theorem maskC_0 (I:InT) (s:SideT) (a:Nat) (l:List Int):maskC I s a 0 l=l:=by
 refine ext_getElem (by simp[maskC]) fun i h1 h2=>?_
 simp only[maskC,getElem_map,List.getElem_range]
 rw[if_neg (by omega),getD_lt _ _ _ h2]
theorem maskC_no {I:InT} {s:SideT} {a i:Nat} {l:List Int} (h:ofP I s i a=true):maskC I s a (i+1) l=maskC I s a i l:=by
 refine ext_getElem (by simp[maskC]) fun j h1 h2=>?_
 simp only[maskC,getElem_map,List.getElem_range]
 by_cases e:j=i
 ·subst e; rw[h]; simp
 ·have:j<i+1∧ofP I s j a=false↔j<i∧ofP I s j a=false:=by constructor<;>exact fun ⟨q,w⟩=>⟨by omega,w⟩
  simp only[this]
theorem maskC_yes {I:InT} {s:SideT} {a i:Nat} {l:List Int} (hi:i<l.length) (h:ofP I s i a=false):List.set (maskC I s a i l) i INF1=maskC I s a (i+1) l:=by
 refine ext_getElem (by simp[maskC]) fun j h1 h2=>?_
 rw[List.getElem_set]
 simp only[maskC,getElem_map,List.getElem_range]
 by_cases e:i=j
 ·subst e; rw[if_pos rfl,if_pos ⟨by omega,h⟩]
 ·have:j<i+1∧ofP I s j a=false↔j<i∧ofP I s j a=false:=by constructor<;>exact fun ⟨q,w⟩=>⟨by omega,w⟩
  rw[if_neg e]
  simp only[this]
theorem cstL_set {l:List Int} (h:CstL l) {x:Int} (hx:Cst x) (i:Nat):CstL (List.set l i x):=fun y hy=>by
 rcases List.mem_or_eq_of_mem_set hy with q | q
 ·exact h y q
 ·rw[q]; exact hx
theorem cstL_getD {l:List Int} (h:CstL l) (i:Nat):Cst (getD l i 0):=by
 by_cases hi:i<l.length
 ·exact h.at_ hi
 ·rw[List.getD_eq_getElem?_getD,List.getElem?_eq_none (by omega)]
  exact ⟨Int.le_refl _,by decide⟩
theorem arcC_cst {r l:List Int} {x:ArcT} (hr:CstL r) (hl:CstL l) (hx:Cst x.2.2.1):CstL (arcC r l x):=cstL_set hl (cst_min (cstL_getD hl _) (cst_ad (cstL_getD hr _) hx)) _
theorem arcsC_cst {r:List Int} (hr:CstL r):∀(xs:List ArcT) (l:List Int),CstL l→(∀x∈xs,Cst x.2.2.1)→CstL (xs.foldl (arcC r) l)
 | [],l,hl,_=>hl
 |x::xs,l,hl,h=>by
  rw[foldl_cons]
  exact arcsC_cst hr xs _ (arcC_cst hr hl (h x mem_cons_self)) fun y hy=>h y (mem_cons_of_mem _ hy)
theorem maskC_cst {I:InT} {s:SideT} {a i:Nat} {l:List Int} (hl:CstL l):CstL (maskC I s a i l):=fun x hx=>by
 obtain ⟨p,_,e⟩:=List.mem_map.1 hx
 rw[←e]
 split
 ·exact cst_inf
 ·exact cstL_getD hl _
theorem farC_len {s:SideT} (hs:SOK s) (r:List Int):(farC s r).length=s.1.length:=by
 unfold farC
 rw[arcsC_len,hs.lf]
theorem farC_cst {s:SideT} (hs:SOC s) {r:List Int} (hr:CstL r):CstL (farC s r):=arcsC_cst hr _ _ hs.cf hs.ca
theorem stepC_len {I:InT} {s:SideT} (hs:SOK s) (a:Nat) (r:List Int):(stepC I s a r).length=s.1.length:=by
 unfold stepC
 rw[maskC_len,farC_len hs]
theorem stepC_cst {I:InT} {s:SideT} (hs:SOC s) {a:Nat} {r:List Int} (hr:CstL r):CstL (stepC I s a r):=maskC_cst (farC_cst hs hr)
def stepW (I:InT) (ss:List SideT) (R:Rows) (a:Nat):Rows:=zipWith (fun s r=>stepC I s a r) ss R
theorem stepW_shw {I:InT} {a:Nat}:∀ {ss:List SideT} {R:Rows},(∀s∈ss,SOC s)→ShW ss R→ShW ss (stepW I ss R a)
 | [],[],_,h=>h
 | [],_::_,_,h=>by have:=h.1; simp at this
 |_::_,[],_,h=>by have:=h.1; simp at this
 |s::ss,r::R,hs,h=>by
  obtain ⟨h1,h2⟩:=h
  simp only[map_cons,List.cons.injEq] at h1
  obtain ⟨g1,g2⟩:=stepW_shw (I:=I) (a:=a) (ss:=ss) (R:=R) (fun x hx=>hs x (mem_cons_of_mem _ hx)) ⟨h1.2,fun x hx=>h2 x (mem_cons_of_mem _ hx)⟩
  have hs0:=hs s mem_cons_self
  refine ⟨?_,fun x hx=>?_⟩
  ·show List.map length (stepC I s a r::stepW I ss R a)=_
   rw[map_cons,map_cons,g1,stepC_len hs0.ok]
  ·rcases List.mem_cons.1 hx with q | q
   ·rw[q]; exact stepC_cst hs0 (h2 r mem_cons_self)
   ·exact g2 x q
section
variable (k:Nat) (s:SideT) (I:InT) (a:Nat)
theorem F80_ok (st:(Option (List (ByteArray×Int)))×((List (List Int))×Unit)) (ms:List SideT) (p:Nat) (hp:p<s.1.length):F80 k (some (st,(ms,(I,())))) s (p:Int) (a:Int)=some ((ofP I s p a,()),()):=by
 unfold F80 ofP
 rw[if_pos (inR hp),tnI p]
 simp only[getD_some,isSome_some,if_true]
 by_cases h:getD s.1 p 0<0
 ·rw[decide_eq_true h,cond_true,Bool.true_or]
 ·rw[decide_eq_false h,cond_false,Bool.false_or]
  generalize hv:getD s.1 p 0=v at h ⊢
  by_cases h2:v<((length I:Nat):Int)
  ·rw[decide_eq_true h2,cond_true,if_pos ⟨by omega,h2⟩]
   by_cases h3:(a:Int)<((length (getD I v.toNat []):Nat):Int)
   ·rw[decide_eq_true h3,cond_true,if_pos ⟨by omega,h2⟩,if_pos ⟨by omega,h3⟩]
    rfl
   ·rw[decide_eq_false h3,cond_false]
    have:getD (getD I v.toNat []) a false=false:=by
     rw[List.getD_eq_getElem?_getD,List.getElem?_eq_none (by omega)]; rfl
    rw[this]
  ·rw[decide_eq_false h2,cond_false]
   have:getD I v.toNat []=[]:=by
    rw[List.getD_eq_getElem?_getD,List.getElem?_eq_none (by omega)]; rfl
   rw[this]
   rfl
theorem fillL_mid (b post:List Int):∀(vs pre c:List Int),vs.length=c.length→fillL (pre++(c++post)) pre.length vs=pre++(vs++post)
 | [],pre,c,h=>by
  cases c with
  |nil=>rfl
  |cons x c=>simp at h
 |v::vs,pre,[],h=>by simp at h
 |v::vs,pre,x::c,h=>by
  have ih:=fillL_mid b post vs (pre++[v]) c (by simpa using h)
  rw[length_append,length_singleton,append_assoc,append_assoc] at ih
  rw[fillL,List.set_append_right _ _ (Nat.le_refl _),Nat.sub_self,List.cons_append,List.set_cons_zero]
  exact ih
theorem copyL_mid (vs pre c post:List Int) (h:vs.length=c.length) (n:Nat) (hn:vs.length≤n):copyL (pre++(c++post)) pre.length n vs=pre++(vs++post):=by
 unfold copyL
 rw[List.take_of_length_le hn]
 exact fillL_mid [] post vs pre c h
theorem F51_0_ok (hk:10000000≤k) (hs:SOC s) (M:Option MkW) (r:List Int) (hr:r.length=s.1.length) (hrc:CstL r) (t2:Int) (t20:List SideT) (t21 t22:Int) (preB postB pre post:List Int) (hp:preB.length=pre.length) (hb:pre.length+s.1.length≤1000000000000):∀(d m i:Nat) (row:List Int),i+d=s.2.2.2.1.length→d<m→row.length=s.1.length→CstL row →
  F51_0 k m M (preB++(r++postB)) t2 (pre.length:Int) t20 t21 t22 s.2.2.2.1 (s.2.2.2.1.length:Int) (i:Int) s (pre++(row++post)) =
   some ((M,preB++(r++postB),t2,(pre.length:Int),t20,t21,t22,()),(s,pre++((s.2.2.2.1.drop i).foldl (arcC r) row++post),()))
 |0,m,i,row,hi,hm,hrow,hc=>by
  obtain ⟨m,rfl⟩:=pos1 (m:=m) (by omega)
  simp only[F51_0]
  rw[decide_eq_false (by omega),cond_false,drop_eq_nil_of_le (by omega)]
  rfl
 |d+1,m,i,row,hi,hm,hrow,hc=>by
  obtain ⟨m,rfl⟩:=pos1 (m:=m) (by omega)
  have hlt:i<s.2.2.2.1.length:=by omega
  have hla:=hs.ok.la
  have hln:=hs.ok.ln
  obtain ⟨⟨f0,f1⟩,g0,g1⟩:=hs.ok.arcs _ (getElem_mem hlt)
  have hx:=hs.ca _ (getElem_mem hlt)
  have ih:=fun row' hrow' hc'=>F51_0_ok hk hs M r hr hrc t2 t20 t21 t22 preB postB pre post hp hb d m (i+1) row' (by omega) (by omega) hrow' hc'
  have hdrop:s.2.2.2.1.drop i=s.2.2.2.1[i]::s.2.2.2.1.drop (i+1):=drop_eq_getElem_cons hlt
  rw[hdrop,foldl_cons]
  simp only[F51_0]
  rw[dlt hlt,cond_true,if_pos (inR hlt),tnI i,wsucc i _ hlt (by omega),getD_lt _ _ _ hlt]
  generalize s.2.2.2.1[i]=x at f0 f1 g0 g1 hx ⊢
  obtain ⟨x1,hx1⟩:∃n:Nat,x.1=(n:Int):=⟨x.1.toNat,by omega⟩
  obtain ⟨x2,hx2⟩:∃n:Nat,x.2.1=(n:Int):=⟨x.2.1.toNat,by omega⟩
  have n1:x1<s.1.length:=by omega
  have n2:x2<s.1.length:=by omega
  have hin1:0≤((pre.length+x1:Nat):Int)∧((pre.length+x1:Nat):Int)<((length (preB++(r++postB)):Nat):Int):=by
   simp only[length_append]
   omega
  have hin2:0≤((pre.length+x2:Nat):Int)∧((pre.length+x2:Nat):Int)<((length (pre++(row++post)):Nat):Int):=by
   simp only[length_append]
   omega
  have harc:arcC r row x=List.set row x2 (minI (getD row x2 0) (adI (getD r x1 0) x.2.2.1)):=by
   unfold arcC
   rw[hx1,hx2]
   rfl
  have h1:getD (preB++(r++postB)) (pre.length+x1) 0=getD r x1 0:=by rw[←hp,getD_mid _ _ _ _ _ (by omega)]
  rw[hx1,hx2,waddN _ _ (by omega),waddN _ _ (by omega),if_pos hin2,if_pos hin1,tnI (pre.length+x1),tnI (pre.length+x2),h1,F79_ad k _ _ (cstL_getD hrc _) hx,bind_some]
  simp only
  rw[getD_mid _ _ _ _ _ (by omega),set2,F78_two k (by omega) _ _ (cstL_getD hc _),bind_some]
  simp only
  rw[if_pos hin2,set_mid _ _ _ _ _ (by omega),←harc,ih _ (by rw[arcC_len]; exact hrow) (arcC_cst hrc hc hx)]
  rfl
theorem F51_1_ok (hs:SOK s) (st:(Option (List (ByteArray×Int)))×((List (List Int))×Unit)) (ms:List SideT) (t1:List Int) (t20:List SideT) (t21 t22:Int) (pre post:List Int) (hb:pre.length+s.1.length≤1000000000000) (row:List Int) (hrow:row.length=s.1.length):∀(d m i:Nat),i+d=s.1.length→d<m →
  F51_1 k m (some (st,(ms,(I,())))) t1 (a:Int) (pre.length:Int) t20 t21 t22 (s.1.length:Int) (i:Int) s (pre++(maskC I s a i row++post)) =
   some ((some (st,(ms,(I,()))),t1,(a:Int),(pre.length:Int),t20,t21,t22,()),(s,pre++(maskC I s a s.1.length row++post),()))
 |0,m,i,hi,hm=>by
  obtain ⟨m,rfl⟩:=pos1 (m:=m) (by omega)
  have:i=s.1.length:=by omega
  subst this
  simp only[F51_1]
  rw[decide_eq_false (by omega),cond_false]
 |d+1,m,i,hi,hm=>by
  obtain ⟨m,rfl⟩:=pos1 (m:=m) (by omega)
  have hlt:i<s.1.length:=by omega
  have hln:=hs.ln
  have ih:=F51_1_ok hs st ms t1 t20 t21 t22 pre post hb row hrow d m (i+1) (by omega) (by omega)
  simp only[F51_1]
  rw[dlt hlt,cond_true,F80_ok k s I a st ms i hlt,bind_some,wsucc i _ hlt (by omega)]
  simp only
  cases ho:ofP I s i a with
  |false =>
   have hin:0≤((pre.length+i:Nat):Int)∧((pre.length+i:Nat):Int)<((length (pre++(maskC I s a i row++post)):Nat):Int):=by
    simp only[length_append,maskC_len]
    omega
   rw[Bool.not_false,cond_true,waddN _ _ (by omega),if_pos hin,tnI (pre.length+i),set_mid _ _ _ _ _ (by rw[maskC_len]; omega),show List.set (maskC I s a i row) i (1152921504606846976:Int)=_ from maskC_yes (by omega) ho,ih]
   rfl
  |true =>
   rw[Bool.not_true,cond_false,←maskC_no ho,ih]
   rfl
end
theorem F51_2_ok (k:Nat) (st:(Option (List (ByteArray×Int)))×((List (List Int))×Unit)) (I:InT) (ss:List SideT) (a:Nat) (R:Rows) (hk:10000000≤k) (hs:∀s∈ss,SOC s) (hR:ShW ss R) (hn:ss.length≤1000000) (ht:tot ss≤100000000):∀(d m i:Nat) (D:Rows),i+d=ss.length→d<m→ShW (ss.take i) D →
  F51_2 k m (some (st,(ss,(I,())))) (flatW R) (a:Int) ((tot (ss.take i):Nat):Int) ss (ss.length:Int) (i:Int) (flatW D++replicate (tot (ss.drop i)) INF1)=some ((),(flatW (D++stepW I (ss.drop i) (R.drop i) a),()))
 |0,m,i,D,hi,hm,hD=>by
  obtain ⟨m,rfl⟩:=pos1 (m:=m) (by omega)
  simp only[F51_2]
  rw[decide_eq_false (by omega),cond_false,drop_eq_nil_of_le (by omega:ss.length≤i)]
  simp[tot,stepW]
 |d+1,m,i,D,hi,hm,hD=>by
  obtain ⟨m,rfl⟩:=pos1 (m:=m) (by omega)
  have hlt:i<ss.length:=by omega
  have hlL:R.length=ss.length:=by have:=congrArg length hR.1; simpa using this
  have hlt2:i<R.length:=by omega
  have hss:ss.drop i=ss[i]::ss.drop (i+1):=drop_eq_getElem_cons hlt
  have hLL:R.drop i=R[i]::R.drop (i+1):=drop_eq_getElem_cons hlt2
  have hso:=hs _ (getElem_mem hlt)
  have hrl:R[i].length=ss[i].1.length:=by
   have:=congrArg (fun l=>l[i]?) hR.1
   simpa[List.getElem?_map,hlt,hlt2] using this
  have hrc:=hR.2 _ (getElem_mem hlt2)
  have htk:tot (ss.take (i+1))=tot (ss.take i)+ss[i].1.length:=by
   rw[List.take_succ_eq_append_getElem hlt,tot_app]
   simp[tot]
  have htd:tot (ss.drop i)=ss[i].1.length+tot (ss.drop (i+1)):=by rw[hss,tot_cons]
  have htot:tot ss=tot (ss.take i)+tot (ss.drop i):=by rw[←tot_app,take_append_drop]
  have hLsplit:flatW R=flatW (R.take i)++(R[i]++flatW (R.drop (i+1))):=by
   have h0:R=R.take i++(R[i]::R.drop (i+1)):=by rw[←hLL,take_append_drop]
   calc flatW R=flatW (R.take i++(R[i]::R.drop (i+1))):=congrArg flatW h0
    _=_:=by
     show (R.take i++(R[i]::R.drop (i+1))).flatten=_
     rw[List.flatten_append,List.flatten_cons]
  have hLt:ShW (ss.take i) (R.take i):=⟨by rw[map_take,map_take,hR.1],fun r hr=>hR.2 r (List.mem_of_mem_take hr)⟩
  have hpl:(flatW (R.take i)).length=tot (ss.take i):=flatW_len hLt
  have hDl:(flatW D).length=tot (ss.take i):=flatW_len hD
  have hrep:replicate (tot (ss.drop i)) INF1=replicate ss[i].1.length INF1++replicate (tot (ss.drop (i+1))) INF1:=by
   rw[htd,←List.replicate_append_replicate]
  have hln:=hso.ok.ln
  have hla:=hso.ok.la
  have hlf:=hso.ok.lf
  have hcp:=copyL_mid ss[i].2.1 (flatW D) (replicate ss[i].1.length INF1) (replicate (tot (ss.drop (i+1))) INF1) (by rw[List.length_replicate]; omega) (Int.toNat ((length (flatW D++(replicate ss[i].1.length INF1++replicate (tot (ss.drop (i+1))) INF1)):Nat):Int)-(flatW D).length) (by rw[tnI,length_append,length_append,List.length_replicate]; omega)
  have e0:=F51_0_ok k ss[i] hk hso (some (st,(ss,(I,())))) R[i] hrl hrc (a:Int) ss (ss.length:Int) (i:Int) (flatW (R.take i)) (flatW (R.drop (i+1))) (flatW D) (replicate (tot (ss.drop (i+1))) INF1) (by omega) (by omega) ss[i].2.2.2.1.length k 0 ss[i].2.1 (Nat.zero_add _) (by omega) (by omega) hso.cf
  have e1:=F51_1_ok k ss[i] I a hso.ok st ss (flatW R) ss (ss.length:Int) (i:Int) (flatW D) (replicate (tot (ss.drop (i+1))) INF1) (by omega) (farC ss[i] R[i]) (farC_len hso.ok _) ss[i].1.length k 0 (Nat.zero_add _) (by omega)
  rw[show ((0:Nat):Int)=0 from rfl,maskC_0] at e1
  rw[show ((0:Nat):Int)=0 from rfl,drop_zero,←hLsplit] at e0
  have ih:=F51_2_ok k st I ss a R hk hs hR hn ht d m (i+1) (D++[stepC I ss[i] a R[i]]) (by omega) (by omega) (by
   refine ⟨?_,fun r hr=>?_⟩
   ·rw[List.take_succ_eq_append_getElem hlt,map_append,map_append,hD.1]
    simp[stepC_len hso.ok]
   ·rcases List.mem_append.1 hr with q | q
    ·exact hD.2 r q
    ·rw[List.mem_singleton.1 q]; exact stepC_cst hso hrc)
  have hfl:flatW D++(maskC I ss[i] a ss[i].1.length (farC ss[i] R[i])++replicate (tot (ss.drop (i+1))) INF1)=flatW (D++[stepC I ss[i] a R[i]])++replicate (tot (ss.drop (i+1))) INF1:=by
   simp[flatW,stepC]
  have hst:stepW I (ss.drop i) (R.drop i) a=stepC I ss[i] a R[i]::stepW I (ss.drop (i+1)) (R.drop (i+1)) a:=by
   rw[hss,hLL]
   rfl
  simp only[F51_2]
  rw[dlt hlt,cond_true,if_pos (inR hlt),tnI i,getD_lt _ _ _ hlt,hrep,←hDl,if_pos (by simp only[length_append]; omega),tnI (flatW D).length,hcp,e0,bind_some]
  simp only
  rw[show (ss[i].2.2.2.1).foldl (arcC R[i]) ss[i].2.1=farC ss[i] R[i] from rfl,e1,bind_some]
  simp only
  rw[hDl,waddN _ _ (by omega),←htk,wsucc i _ hlt (by omega),hfl,ih,hst,append_assoc]
  rfl
theorem F51_ok (k:Nat) (st:(Option (List (ByteArray×Int)))×((List (List Int))×Unit)) (I:InT) (ss:List SideT) (a:Nat) (R:Rows) (hk:10000000≤k) (hs:∀s∈ss,SOC s) (hR:ShW ss R) (hn:ss.length≤1000000) (ht:tot ss≤1000000) :
  F51 k (some (st,(ss,(I,())))) (flatW R) (a:Int)=some ((flatW (stepW I ss R a),()),()):=by
 have hfl:=flatW_len hR
 have e:=F51_2_ok k st I ss a R hk hs hR hn (by omega) ss.length k 0 [] (Nat.zero_add _) (by omega) ⟨rfl,fun r hr=>by cases hr⟩
 rw[show ((0:Nat):Int)=0 from rfl,take_zero,drop_zero,drop_zero,nil_append,show ((tot ([]:List SideT):Nat):Int)=0 from rfl,show flatW []=[] from rfl,nil_append] at e
 unfold F51
 rw[hfl,F49_ok k _ (by omega) ht,bind_some]
 simp only[isSome_some,if_true,getD_some]
 rw[e,bind_some]
end Go.Proofs.YtgmmopbpldgpcaaE
set_option linter.unusedSimpArgs false
set_option linter.unusedVariables false
set_option maxRecDepth 20000
namespace Go.Proofs.YtgmmopbpldgpcaaE
section
variable (k:Nat) (I:InT) (N:Nat) (ss:List SideT) (a:Nat) (R:Rows)
end
def endC (s:SideT) (r:List Int):Int:=(zipWith adI r s.2.2.1).foldl minI s.2.2.2.2.1
def endsW (ss:List SideT) (R:Rows):List Int:=zipWith endC ss R
theorem foldl_min_cst:∀(l:List Int) (c:Int),Cst c→CstL l→Cst (l.foldl minI c)
 | [],c,h,_=>h
 |x::l,c,h,hl=>foldl_min_cst l _ (cst_min h (hl x mem_cons_self)) fun y hy=>hl y (mem_cons_of_mem _ hy)
theorem zipAd_cst:∀ {a b:List Int},CstL a→CstL b→CstL (zipWith adI a b)
 | [],_,_,_=>fun x hx=>by simp at hx
 |_::_,[],_,_=>fun x hx=>by simp at hx
 |x::a,y::b,ha,hb=>fun z hz=>by
  rw[List.zipWith_cons_cons] at hz
  rcases List.mem_cons.1 hz with q | q
  ·rw[q]; exact cst_ad (ha x mem_cons_self) (hb y mem_cons_self)
  ·exact zipAd_cst (fun z hz=>ha z (mem_cons_of_mem _ hz)) (fun z hz=>hb z (mem_cons_of_mem _ hz)) z q
theorem endC_cst {s:SideT} (hs:SOC s) {r:List Int} (hr:CstL r):Cst (endC s r):=foldl_min_cst _ _ hs.cn (zipAd_cst hr hs.ce)
theorem endsW_len {ss:List SideT} {R:Rows} (h:ShW ss R):(endsW ss R).length=ss.length:=by
 have hlL:R.length=ss.length:=by have:=congrArg length h.1; simpa using this
 simp[endsW,hlL]
theorem zip_drop {f:Int→Int→Int} {a b:List Int} {i:Nat} (h1:i<a.length) (h2:i<b.length):(zipWith f a b).drop i=f a[i] b[i]::(zipWith f a b).drop (i+1):=by
 rw[drop_eq_getElem_cons (by rw[List.length_zipWith]; omega),List.getElem_zipWith]
theorem F52_0_ok (k:Nat) (s:SideT) (hs:SOC s) (r:List Int) (hr:r.length=s.1.length) (hrc:CstL r) (t15:List SideT) (t16 t17:Int) (pre post:List Int) (D:List Int) (hb:pre.length+s.1.length≤1000000000000):∀(d m i:Nat) (acc:List Int),i+d=s.1.length→d<m→acc.length=i+1 →
  F52_0 k m (pre++(r++post)) (pre.length:Int) t15 t16 t17 s.2.2.1 (s.2.2.1.length:Int) (i:Int) s D acc=some ((pre++(r++post),(pre.length:Int),t15,t16,t17,()),(s,D,acc++(zipWith adI r s.2.2.1).drop i,()))
 |0,m,i,acc,hi,hm,ha=>by
  obtain ⟨m,rfl⟩:=pos1 (m:=m) (by omega)
  have hle:=hs.ok.le
  simp only[F52_0]
  rw[decide_eq_false (by omega),cond_false,drop_eq_nil_of_le (by rw[List.length_zipWith]; omega),append_nil]
 |d+1,m,i,acc,hi,hm,ha=>by
  obtain ⟨m,rfl⟩:=pos1 (m:=m) (by omega)
  have hle:=hs.ok.le
  have hln:=hs.ok.ln
  have hlt:i<s.1.length:=by omega
  have hlt1:i<r.length:=by omega
  have hlt2:i<s.2.2.1.length:=by omega
  have hin:0≤((pre.length+i:Nat):Int)∧((pre.length+i:Nat):Int)<((length (pre++(r++post)):Nat):Int):=by
   simp only[length_append]
   omega
  simp only[F52_0]
  rw[dlt hlt2,cond_true,if_pos (inR hlt2),waddN _ _ (by omega),if_pos hin,tnI (pre.length+i),tnI i,getD_mid _ _ _ _ _ hlt1,F79_ad k _ _ (cstL_getD hrc _) (cstL_getD hs.ce _),bind_some]
  simp only
  rw[one_list,if_pos (by rw[length_singleton]; omega),wsucc i _ hlt (by omega),F52_0_ok k s hs r hr hrc t15 t16 t17 pre post D hb d m (i+1) _ (by omega) (by omega) (by simp[ha]),zip_drop hlt1 hlt2,getD_lt _ _ _ hlt1,getD_lt _ _ _ hlt2,append_assoc]
  rfl
theorem F52_1_ok (k:Nat) (ss:List SideT) (R:Rows) (hk:10000000≤k) (hs:∀s∈ss,SOC s) (hR:ShW ss R) (hn:ss.length≤1000000) (ht:tot ss≤100000000):∀(d m i:Nat) (D:List Int),i+d=ss.length→d<m→D.length=i →
  F52_1 k m (flatW R) ((tot (ss.take i):Nat):Int) ss (ss.length:Int) (i:Int) D=some ((),(D++endsW (ss.drop i) (R.drop i),()))
 |0,m,i,D,hi,hm,hD=>by
  obtain ⟨m,rfl⟩:=pos1 (m:=m) (by omega)
  simp only[F52_1]
  rw[decide_eq_false (by omega),cond_false,drop_eq_nil_of_le (by omega:ss.length≤i)]
  simp[endsW]
 |d+1,m,i,D,hi,hm,hD=>by
  obtain ⟨m,rfl⟩:=pos1 (m:=m) (by omega)
  have hlt:i<ss.length:=by omega
  have hlL:R.length=ss.length:=by have:=congrArg length hR.1; simpa using this
  have hlt2:i<R.length:=by omega
  have hso:=hs _ (getElem_mem hlt)
  have hrl:R[i].length=ss[i].1.length:=by
   have:=congrArg (fun l=>l[i]?) hR.1
   simpa[List.getElem?_map,hlt,hlt2] using this
  have hrc:=hR.2 _ (getElem_mem hlt2)
  have htk:tot (ss.take (i+1))=tot (ss.take i)+ss[i].1.length:=by
   rw[List.take_succ_eq_append_getElem hlt,tot_app]
   simp[tot]
  have htot:tot ss=tot (ss.take i)+tot (ss.drop i):=by rw[←tot_app,take_append_drop]
  have htd:tot (ss.drop i)=ss[i].1.length+tot (ss.drop (i+1)):=by rw[drop_eq_getElem_cons hlt,tot_cons]
  have hLsplit:flatW R=flatW (R.take i)++(R[i]++flatW (R.drop (i+1))):=by
   have h0:R=R.take i++(R[i]::R.drop (i+1)):=by rw[←drop_eq_getElem_cons hlt2,take_append_drop]
   calc flatW R=flatW (R.take i++(R[i]::R.drop (i+1))):=congrArg flatW h0
    _=_:=by
     show (R.take i++(R[i]::R.drop (i+1))).flatten=_
     rw[List.flatten_append,List.flatten_cons]
  have hLt:ShW (ss.take i) (R.take i):=⟨by rw[map_take,map_take,hR.1],fun r hr=>hR.2 r (List.mem_of_mem_take hr)⟩
  have hpl:(flatW (R.take i)).length=tot (ss.take i):=flatW_len hLt
  have hln:=hso.ok.ln
  have hle:=hso.ok.le
  have e0:=F52_0_ok k ss[i] hso R[i] hrl hrc ss (ss.length:Int) (i:Int) (flatW (R.take i)) (flatW (R.drop (i+1))) D (by omega) ss[i].1.length k 0 [ss[i].2.2.2.2.1] (Nat.zero_add _) (by omega) rfl
  rw[show ((0:Nat):Int)=0 from rfl,drop_zero,←hLsplit,hpl] at e0
  have ih:=F52_1_ok k ss R hk hs hR hn ht d m (i+1) (D++[endC ss[i] R[i]]) (by omega) (by omega) (by simp[hD])
  have hst:endsW (ss.drop i) (R.drop i)=endC ss[i] R[i]::endsW (ss.drop (i+1)) (R.drop (i+1)):=by
   rw[show ss.drop i=ss[i]::ss.drop (i+1) from drop_eq_getElem_cons hlt,show R.drop i=R[i]::R.drop (i+1) from drop_eq_getElem_cons hlt2]
   rfl
  have hll:([ss[i].2.2.2.2.1]++zipWith adI R[i] ss[i].2.2.1).length≤100001:=by
   rw[length_append,List.length_zipWith,length_singleton]
   omega
  simp only[F52_1]
  rw[dlt hlt,cond_true,if_pos (inR hlt),tnI i,getD_lt _ _ _ hlt,one_list,e0,bind_some]
  simp only
  rw[F78_ok k _ (by omega) (by omega),bind_some]
  simp only
  rw[List.singleton_append,foldl_cons,minI_c' hso.cn,show (zipWith adI R[i] ss[i].2.2.1).foldl minI ss[i].2.2.2.2.1=endC ss[i] R[i] from rfl,one_list,if_pos (by rw[length_singleton]; omega),waddN _ _ (by omega),←htk,wsucc i _ hlt (by omega),ih,hst,append_assoc]
  rfl
theorem F52_ok (k:Nat) (st:(Option (List (ByteArray×Int)))×((List (List Int))×Unit)) (I:InT) (ss:List SideT) (R:Rows) (hk:10000000≤k) (hs:∀s∈ss,SOC s) (hR:ShW ss R) (hn:ss.length≤1000000) (ht:tot ss≤100000000) :
  F52 k (some (st,(ss,(I,())))) (flatW R)=some ((endsW ss R,()),()):=by
 have e:=F52_1_ok k ss R hk hs hR hn ht ss.length k 0 [] (Nat.zero_add _) (by omega) rfl
 rw[show ((0:Nat):Int)=0 from rfl,take_zero,drop_zero,drop_zero,nil_append,show ((tot ([]:List SideT):Nat):Int)=0 from rfl] at e
 unfold F52
 simp only[isSome_some,if_true,getD_some]
 rw[e,bind_some]
end Go.Proofs.YtgmmopbpldgpcaaE
set_option linter.unusedSimpArgs false
set_option linter.unusedVariables false
set_option maxRecDepth 20000
namespace Go.Proofs.YtgmmopbpldgpcaaE
def RulC (r:RulT):Prop:=(0≤r.1∧r.1<3)∧Cst r.2.1
abbrev none3:List Int:=[INF1,INF1,INF1]
def rulV (r:RulT) (e:Int) (v:List Int):List Int:=List.set v r.1.toNat (minI (getD v r.1.toNat 0) (adI r.2.1 e))
def emitW:List RulT→List Int→List Bool→List Int→List Int
 |r::rs,e::E,b::set,v=>emitW rs E set (if b then rulV r e v else v)
 |_,_,_,v=>v
theorem rulV_len (r:RulT) (e:Int) (v:List Int):(rulV r e v).length=v.length:=List.length_set
theorem rulV_cst {r:RulT} {e:Int} {v:List Int} (hr:Cst r.2.1) (he:Cst e) (hv:CstL v):CstL (rulV r e v):=cstL_set hv (cst_min (cstL_getD hv _) (cst_ad hr he)) _
theorem none3_cst:CstL none3:=fun x hx=>by
 simp only[none3,List.mem_cons,List.not_mem_nil,or_false,or_self] at hx
 rw[hx]
 exact cst_inf
theorem emitW_len:∀(rs:List RulT) (E:List Int) (set:List Bool) (v:List Int),(emitW rs E set v).length=v.length
 | [],_,_,v=>by simp[emitW]
 |_::_,[],_,v=>by simp[emitW]
 |_::_,_::_,[],v=>by simp[emitW]
 |r::rs,e::E,b::set,v=>by
  rw[emitW,emitW_len rs E set]
  split
  ·exact rulV_len r e v
  ·rfl
theorem emitW_drop {rs:List RulT} {E:List Int} {set:List Bool} {v:List Int} {i:Nat} (h1:i<rs.length) (h2:i<E.length) (h3:i<set.length):emitW (rs.drop i) (E.drop i) (set.drop i) v=emitW (rs.drop (i+1)) (E.drop (i+1)) (set.drop (i+1)) (if set[i] then rulV rs[i] E[i] v else v):=by
 rw[drop_eq_getElem_cons h1,drop_eq_getElem_cons h2,drop_eq_getElem_cons h3,emitW]
theorem F53_0_ok (k:Nat) (hk:10≤k) (rs:List RulT) (E:List Int) (set:List Bool) (c6:List Int) (hr:∀r∈rs,RulC r) (hE:CstL E) (h1:E.length=rs.length) (h2:set.length=rs.length) (hn:rs.length≤1000000):∀(d m i:Nat) (v:List Int),i+d=rs.length→d<m→v.length=3→CstL v →
  F53_0 k m E set rs (rs.length:Int) (i:Int) c6 v=some ((),(c6,emitW (rs.drop i) (E.drop i) (set.drop i) v,()))
 |0,m,i,v,hi,hm,hv,hc=>by
  obtain ⟨m,rfl⟩:=pos1 (m:=m) (by omega)
  simp only[F53_0]
  rw[decide_eq_false (by omega),cond_false,drop_eq_nil_of_le (by omega:rs.length≤i)]
  simp[emitW]
 |d+1,m,i,v,hi,hm,hv,hc=>by
  obtain ⟨m,rfl⟩:=pos1 (m:=m) (by omega)
  have hlt:i<rs.length:=by omega
  have hlt1:i<E.length:=by omega
  have hlt2:i<set.length:=by omega
  have ih:=fun v hv hc=>F53_0_ok k hk rs E set c6 hr hE h1 h2 hn d m (i+1) v (by omega) (by omega) hv hc
  obtain ⟨⟨c0,c1⟩,cc⟩:=hr _ (getElem_mem hlt)
  rw[emitW_drop hlt hlt1 hlt2]
  simp only[F53_0]
  rw[dlt hlt,cond_true,if_pos (inR hlt),dlt hlt2,cond_true,if_pos (inR hlt2),tnI i,getD_lt _ _ _ hlt2,getD_lt _ _ _ hlt,wsucc i _ hlt (by omega)]
  cases hb:set[i] with
  |false =>
   rw[cond_false,if_neg (by simp),ih v hv hc]
   rfl
  |true =>
   have hE1:=hE _ (getElem_mem hlt1)
   rw[cond_true,dlt hlt1,cond_true,decide_eq_true (show rs[i].1≥0 from c0),cond_true,decide_eq_true c1,cond_true,if_pos ⟨c0,c1⟩,if_pos (inR hlt1),getD_lt _ _ _ hlt1,F79_ad k _ _ cc hE1,bind_some]
   simp only
   rw[set2,F78_two k hk _ _ (cstL_getD hc _),bind_some]
   simp only
   rw[if_pos ⟨c0,c1⟩,if_pos trivial,show List.set v rs[i].1.toNat (minI (getD v rs[i].1.toNat 0) (adI rs[i].2.1 E[i]))=rulV rs[i] E[i] v from rfl,ih _ (by rw[rulV_len]; exact hv) (rulV_cst cc hE1 hc)]
   rfl
theorem F53_ok (k:Nat) (hk:10000000≤k) (rs:List RulT) (E:List Int) (set:List Bool) (hr:∀r∈rs,RulC r) (hE:CstL E) (h1:E.length=rs.length) (h2:set.length=rs.length) (hn:rs.length≤1000000):F53 k rs E set=some ((emitW rs E set none3,()),()):=by
 have e:=F53_0_ok k (by omega) rs E set (replicate 3 0) hr hE h1 h2 hn rs.length k 0 none3 (Nat.zero_add _) (by omega) rfl none3_cst
 rw[show ((0:Nat):Int)=0 from rfl,drop_zero,drop_zero,drop_zero] at e
 unfold F53 F63
 rw[bind_some]
 simp only
 rw[show List.set (List.set (List.set (replicate 3 (0:Int)) 0 (1152921504606846976:Int)) 1 (1152921504606846976:Int)) 2 (1152921504606846976:Int)=none3 from rfl,e,bind_some]
section
variable (k:Nat) (rs:List RulT) (ss:List SideT) (R:Rows) (set:List Bool)
end
def emW (rs:List RulT) (ss:List SideT) (sets:List (List Bool)) (R:Rows):List (List Int):=sets.map fun set=>emitW rs (endsW ss R) set none3
theorem endsW_cst:∀ {ss:List SideT} {R:Rows},(∀s∈ss,SOC s)→(∀r∈R,CstL r)→CstL (endsW ss R)
 | [],_,_,_=>fun x hx=>by simp[endsW] at hx
 |_::_,[],_,_=>fun x hx=>by simp[endsW] at hx
 |s::ss,r::R,hs,hR=>fun x hx=>by
  have:x=endC s r∨x∈endsW ss R:=List.mem_cons.1 hx
  rcases this with q | q
  ·rw[q]; exact endC_cst (hs s mem_cons_self) (hR r mem_cons_self)
  ·exact endsW_cst (fun y hy=>hs y (mem_cons_of_mem _ hy)) (fun y hy=>hR y (mem_cons_of_mem _ hy)) x q
end Go.Proofs.YtgmmopbpldgpcaaE
set_option linter.unusedSimpArgs false
set_option linter.unusedVariables false
set_option maxRecDepth 20000
namespace Go.Proofs.YtgmmopbpldgpcaaE
abbrev FwdT:=((List (List Int))×((List (List (List Int)))×Unit))
abbrev noneD:((Int×Unit)×(FwdT×Unit)):=(((4:Int),()),((([]:(List (List Int))),(([]:(List (List (List Int)))),())),()))
theorem put1_shw {ss:List SideT} {l:List Rows} {x:Rows} (h:∀y∈l,ShW ss y) (hx:ShW ss x):∀y∈put1 l x,ShW ss y:=by
 unfold put1
 split
 ·exact h
 ·exact all_append h hx
theorem rowA_shw {ss:List SideT} {I:InT} {s:Rows} (hss:∀s∈ss,SOC s) (hs:ShW ss s):∀(al:List Nat) (l:List Rows),(∀y∈l,ShW ss y)→∀y∈(rowA (stepW I ss) s al l).1,ShW ss y
 | [],l,h=>h
 |a::al,l,h=>by
  rw[rowA_1]
  exact rowA_shw hss hs al _ (put1_shw h (stepW_shw hss hs))
def infW (ss:List SideT):Rows:=ss.map fun s=>replicate s.1.length INF1
theorem infW_shw (ss:List SideT):ShW ss (infW ss):=by
 refine ⟨by simp[infW],fun r hr=>?_⟩
 obtain ⟨s,_,e⟩:=List.mem_map.1 hr
 intro x hx
 rw[←e] at hx
 rw[List.eq_of_mem_replicate hx]
 exact cst_inf
theorem infW_flat:∀(ss:List SideT),flatW (infW ss)=replicate (tot ss) INF1
 | []=>rfl
 |s::ss=>by
  rw[tot_cons,←List.replicate_append_replicate,←infW_flat ss]
  rfl
theorem F55_ok (k:Nat) (l:List (List Int)) (h:l.length≤100000000):F55 k l=some ((l,()),()):=by
 unfold F55
 cases l with
 |nil=>rfl
 |cons x l =>
  rw[nz (by simp),cond_false,if_pos (by simp at h ⊢; omega)]
  rfl
theorem F57_ok (k:Nat) (l:List (List (List Int))) (h:l.length≤100000000):F57 k l=some ((l,()),()):=by
 unfold F57
 cases l with
 |nil=>rfl
 |cons x l =>
  rw[nz (by simp),cond_false,if_pos (by simp at h ⊢; omega)]
  rfl
abbrev noH:Rows→List Bool:=fun _=>[]
section
variable (k:Nat) (rs:List RulT) (ss:List SideT) (I:InT) (N:Nat) (B:Int) (sets:List (List Bool))
theorem F19_0_ok (hk:10000000≤k) (hs:∀s∈ss,SOC s) (hn:ss.length≤1000000) (ht:tot ss≤1000000) (hN:N≤5000000) (hB:B≤100000) (t3:Int) (j:Nat) (s:Rows) (c12 c15:FwdT):∀(d m i:Nat) (l:List Rows) (r:List Int),i+d=N→d<m→(∀y∈l,ShW ss y)→j<l.length→getD l j []=s→(l.length:Int)≤B→r.length=i →
  F19_0 k m rs t3 sets B (j:Int) (N:Int) (i:Int) c12 c15 (mkw (mapK 0 (l.map keyW)) ss I l) r =
   if ((rowA (stepW I ss) s (range' i d) l).1.length:Int)≤B then some (.inl ((rs,t3,sets,B,(j:Int),()),(c12,c15,mkw (mapK 0 ((rowA (stepW I ss) s (range' i d) l).1.map keyW)) ss I (rowA (stepW I ss) s (range' i d) l).1,r++(rowA (stepW I ss) s (range' i d) l).2,()))) else some (.inr noneD)
 |0,m,i,l,r,hi,hm,hl,hj,hsj,hlB,hr=>by
  obtain ⟨m,rfl⟩:=pos1 (m:=m) (by omega)
  simp only[List.range'_zero,rowA]
  rw[if_pos hlB,append_nil]
  simp only[F19_0]
  rw[decide_eq_false (by omega),cond_false]
 |d+1,m,i,l,r,hi,hm,hl,hj,hsj,hlB,hr=>by
  obtain ⟨m,rfl⟩:=pos1 (m:=m) (by omega)
  have hlt:i<N:=by omega
  have hsS:ShW ss s:=by
   rw[←hsj,getD_lt _ _ _ hj]
   exact hl _ (getElem_mem hj)
  have hxS:ShW ss (stepW I ss s i):=stepW_shw hs hsS
  have e48:=F48_ok k hk ss I l (stepW I ss s i) (by omega) hl hxS ht
  have hle:=put1_le l (stepW I ss s i)
  have hj2:j<(l.map flatW).length:=by simpa using hj
  have hgf:getD (l.map flatW) j []=flatW s:=by
   rw[getD_lt _ _ _ hj2,getElem_map,←hsj,getD_lt _ _ _ hj]
  have e51:=F51_ok k (some (mapK 0 (l.map keyW)),(l.map flatW,())) I ss i s hk hs hsS hn ht
  rw[List.range'_succ,rowA_1,rowA_2]
  have hap:(length r+length [((ix l (stepW I ss s i):Nat):Int)])*(8*2)≤281474976710656∧length r+length [((ix l (stepW I ss s i):Nat):Int)]≤9223372036854775807:=by rw[length_singleton]; omega
  have hstep:F19_0 k (m+1) rs t3 sets B (j:Int) (N:Int) (i:Int) c12 c15 (mkw (mapK 0 (l.map keyW)) ss I l) r=if ((put1 l (stepW I ss s i)).length:Int)≤B then F19_0 k m rs t3 sets B (j:Int) (N:Int) ((i+1:Nat):Int) c12 c15 (mkw (mapK 0 ((put1 l (stepW I ss s i)).map keyW)) ss I (put1 l (stepW I ss s i))) (r++[((ix l (stepW I ss s i):Nat):Int)]) else some (.inr noneD):=by
   simp only[F19_0]
   rw[dlt hlt,cond_true,if_pos (inR hj2),tnI j,hgf,e51,bind_some]
   simp only
   rw[e48,bind_some]
   simp only
   rw[show List.set (replicate 1 (0:Int)) 0 ((ix l (stepW I ss s i):Nat):Int)=[((ix l (stepW I ss s i):Nat):Int)] from rfl,if_pos hap,length_map,wsucc i _ hlt (by omega)]
   by_cases hc:((put1 l (stepW I ss s i)).length:Int)≤B
   ·rw[if_pos hc,decide_eq_false (by omega),cond_false]
    cases F19_0 k m rs t3 sets B (j:Int) (N:Int) ((i+1:Nat):Int) c12 c15 (mkw (mapK 0 ((put1 l (stepW I ss s i)).map keyW)) ss I (put1 l (stepW I ss s i))) (r++[((ix l (stepW I ss s i):Nat):Int)])<;>rfl
   ·rw[if_neg hc,decide_eq_true (by omega),cond_true]
  rw[hstep]
  by_cases hc:((put1 l (stepW I ss s i)).length:Int)≤B
  ·obtain ⟨tl,htl⟩:=put1_pre l (stepW I ss s i)
   have e2:=F19_0_ok hk hs hn ht hN hB t3 j s c12 c15 d m (i+1) (put1 l (stepW I ss s i)) (r++[((ix l (stepW I ss s i):Nat):Int)]) (by omega) (by omega) (put1_shw hl hxS) (by omega) (by rw[getD_pre htl hj]; exact hsj) hc (by simp[hr])
   rw[if_pos hc,e2,append_assoc]
   rfl
  ·have h3:=rowA_le (stepW I ss) s (range' (i+1) d) (put1 l (stepW I ss s i))
   rw[if_neg hc,if_neg (by omega)]
theorem F19_1_ok (hk:10000000≤k) (hr:∀r∈rs,RulC r) (hrn:rs.length≤1000000) (hset:∀s∈sets,s.length=rs.length) (hsn:sets.length≤1000000) (t3 t16:Int) (c12 c15:FwdT) (c30:MkW) (E:List Int) (hE:CstL E) (hEl:E.length=rs.length) (nx:List Int):∀(d m i:Nat) (D:List (List Int)),i+d=sets.length→d<m→D.length=i →
  F19_1 k m rs t3 sets B t16 sets (sets.length:Int) (i:Int) c12 c15 c30 E nx D=some ((rs,t3,sets,B,t16,()),(c12,c15,c30,nx,D++(sets.drop i).map (fun set=>emitW rs E set none3),()))
 |0,m,i,D,hi,hm,hD=>by
  obtain ⟨m,rfl⟩:=pos1 (m:=m) (by omega)
  simp only[F19_1]
  rw[decide_eq_false (by omega),cond_false,drop_eq_nil_of_le (by omega),map_nil,append_nil]
 |d+1,m,i,D,hi,hm,hD=>by
  obtain ⟨m,rfl⟩:=pos1 (m:=m) (by omega)
  have hlt:i<sets.length:=by omega
  have hset1:=hset _ (getElem_mem hlt)
  simp only[F19_1]
  rw[dlt hlt,cond_true,if_pos (inR hlt),tnI i,getD_lt _ _ _ hlt,F53_ok k hk rs E _ hr hE hEl hset1 hrn,bind_some]
  simp only
  rw[one_list,if_pos (by rw[length_singleton]; omega),wsucc i _ hlt (by omega),F19_1_ok hk hr hrn hset hsn t3 t16 c12 c15 c30 E hE hEl nx d m (i+1) _ (by omega) (by omega) (by simp[hD]),drop_eq_getElem_cons hlt,map_cons,append_assoc]
  rfl
theorem take_pre {σ:Type} {l l' t:List σ} {i:Nat} {d0:σ} (e:l'=l++t) (h:i<l.length):l'.take (i+1)=l.take i++[l.getD i d0]:=by
 rw[e,List.take_append_of_le_length (by omega),List.take_succ_eq_append_getElem h,getD_lt _ _ _ h]
theorem F19_2_ok (hk:10000000≤k) (hs:∀s∈ss,SOC s) (hn:ss.length≤1000000) (ht:tot ss≤1000000) (hN:N≤5000000) (hB:B≤100000) (hr:∀r∈rs,RulC r) (hrl:rs.length=ss.length) (hset:∀s∈sets,s.length=rs.length) (hsn:sets.length≤1000000) (t3:Int) (ht3:maxI t3 0=(N:Int)) (c12:FwdT):∀(f m i:Nat) (l:List Rows) (nx:List (List Int)) (ou:List Int) (se:List (List Bool)),B.toNat+2≤i+f→B.toNat+2≤i+m→i≤B.toNat→i≤l.length→(∀y∈l,ShW ss y)→nx.length=i →
  F19_2 k m rs t3 sets B (i:Int) c12 (nx,((l.take i).map (emW rs ss sets),())) (mkw (mapK 0 (l.map keyW)) ss I l)=match mkA (stepW I ss) noH [] B N f i l nx ou se with
   |none=>some (.inr noneD)
   |some q=>some (.inl ((),(c12,(q.2.1,(q.1.map (emW rs ss sets),())),())))
 |0,m,i,l,nx,ou,se,hf,hm,hi,hil,hl,hnx=>by omega
 |f+1,m,i,l,nx,ou,se,hf,hm,hi,hil,hl,hnx=>by
  obtain ⟨m,rfl⟩:=pos1 (m:=m) (by omega)
  simp only[F19_2,mkA]
  rw[length_map]
  by_cases hlt:i<l.length
  ·rw[if_pos hlt,decide_eq_true (by omega),cond_true]
   by_cases hlB:(l.length:Int)>B
   ·rw[if_pos hlB,decide_eq_true hlB,cond_true]
   ·rw[if_neg hlB,decide_eq_false hlB,cond_false,ht3]
    have hBi:(l.length:Int)≤B:=by omega
    have e1:=F19_0_ok k rs ss I N B sets hk hs hn ht hN hB t3 i (l.getD i []) c12 (nx,((l.take i).map (emW rs ss sets),())) N k 0 l [] (Nat.zero_add _) (by omega) hl hlt rfl hBi rfl
    rw[←List.range_eq_range',nil_append,show ((0:Nat):Int)=0 from rfl] at e1
    have hsi:ShW ss (l.getD i []):=by rw[getD_lt _ _ _ hlt]; exact hl _ (getElem_mem hlt)
    have hstp:=fun y hy=>rowA_shw (I:=I) hs hsi (List.range N) l hl y hy
    obtain ⟨tl,htl⟩:=rowA_pre (stepW I ss) (l.getD i []) (List.range N) l
    have hle:=rowA_le (stepW I ss) (l.getD i []) (List.range N) l
    have hrw:=rowA_row (stepW I ss) (l.getD i []) (List.range N) l
    rw[List.length_range] at hrw
    generalize hq:rowA (stepW I ss) (l.getD i []) (List.range N) l=q at *
    obtain ⟨l',r'⟩:=q
    simp only at *
    rw[e1]
    by_cases hc:((l'.length:Nat):Int)≤B
    ·rw[if_pos hc,bind_some]
     simp only
     have hlt':i<(l'.map flatW).length:=by rw[length_map]; omega
     have hg:getD (l'.map flatW) i []=flatW (l.getD i []):=by
      have:i<l'.length:=by omega
      rw[getD_lt _ _ _ hlt',getElem_map,←getD_lt l' i [] this,getD_pre htl hlt]
     have ih:=F19_2_ok hk hs hn ht hN hB hr hrl hset hsn t3 ht3 c12 f m (i+1) l' (nx++[r']) (ou++[((ix se (noH (l.getD i [])):Nat):Int)]) (put1 se (noH (l.getD i []))) (by omega) (by omega) (by omega) (by omega) hstp (by simp[hnx])
     have hE:=endsW_cst hs hsi.2
     have hEl:=endsW_len hsi
     have e3:=F19_1_ok k rs B sets hk hr (by omega) hset hsn t3 (i:Int) c12 (nx,((l.take i).map (emW rs ss sets),())) (mkw (mapK 0 (l'.map keyW)) ss I l') (endsW ss (l.getD i [])) hE (by omega) r' sets.length k 0 [] (Nat.zero_add _) (by omega) rfl
     rw[show ((0:Nat):Int)=0 from rfl,drop_zero,nil_append] at e3
     have ha1:(length nx+length [r'])*(24*2)≤281474976710656∧length nx+length [r']≤9223372036854775807:=by rw[length_singleton]; omega
     have hml:((l.take i).map (emW rs ss sets)).length=i:=by rw[length_map,List.length_take]; omega
     have ha2:∀y:List (List Int),(length ((l.take i).map (emW rs ss sets))+length [y])*(24*2)≤281474976710656∧length ((l.take i).map (emW rs ss sets))+length [y]≤9223372036854775807:=fun y=>by rw[length_singleton]; omega
     have hiw:IntKind.wrap .i64 ((i:Int)+1)=((i+1:Nat):Int):=wsucc i l.length hlt (by omega)
     have htake:(l'.take (i+1)).map (emW rs ss sets)=(l.take i).map (emW rs ss sets)++[emW rs ss sets (l.getD i [])]:=by
      rw[take_pre (d0:=[]) htl hlt,map_append]
      rfl
     rw[htake] at ih
     rw[if_pos (inR hlt'),tnI i,hg,F52_ok k _ I ss _ hk hs hsi hn (by omega),bind_some]
     simp only
     rw[e3,bind_some]
     simp only
     rw[F54_ok k _ (by omega),bind_some]
     simp only
     rw[if_pos ha1,F55_ok k _ (by rw[length_map]; omega),bind_some]
     simp only
     rw[if_pos (ha2 _),hiw,show sets.map (fun set=>emitW rs (endsW ss (l.getD i [])) set none3)=emW rs ss sets (l.getD i []) from rfl,ih]
     cases mkA (stepW I ss) noH [] B N f (i+1) l' (nx++[r']) (ou++[((ix se (noH (l.getD i [])):Nat):Int)]) (put1 se (noH (l.getD i [])))<;>rfl
    ·rw[if_neg hc,bind_some]
     simp only
     obtain ⟨f,rfl⟩:∃f',f=f'+1:=⟨f-1,by omega⟩
     simp only[mkA]
     rw[if_pos (by omega),if_pos (by omega)]
  ·rw[if_neg hlt,decide_eq_false (by omega),cond_false,List.take_of_length_le (by omega)]
abbrev QW:=List Rows×List (List Int)×List Int×List (List Bool)
def mkN (b:Int):Option QW:=mkA (stepW I ss) noH [] (minI b 100000) N ((minI b 100000).toNat+2) 0 [infW ss] [] [] []
def outD:Option QW→(FwdT×Int×Unit)
 |none=>((([]:(List (List Int))),(([]:(List (List (List Int)))),())),(4:Int),())
 |some q=>((q.2.1,(q.1.map (emW rs ss sets),())),(0:Int),())
theorem mkA_llen {σ:Type} [DecidableEq σ] {step:σ→Nat→σ} {hold:σ→List Bool} {d0:σ} {B:Int} {N:Nat}:∀(f i:Nat) (l:List σ) (nx:List (List Int)) (ou:List Int) (se:List (List Bool)) {q:List σ×List (List Int)×List Int×List (List Bool)},mkA step hold d0 B N f i l nx ou se=some q→i≤l.length→q.1.length≤i+f
 |0,i,l,nx,ou,se,q,h,hi=>by cases h
 |f+1,i,l,nx,ou,se,q,h,hi=>by
  simp only[mkA] at h
  split at h
  ·split at h
   ·cases h
   ·have hle:=rowA_le step (l.getD i d0) (List.range N) l
    have:=mkA_llen f _ _ _ _ _ h (by omega)
    omega
  ·injection h with h
   subst h
   simp only
   omega
theorem F19_ok (hk:10000000≤k) (hs:∀s∈ss,SOC s) (hn:ss.length≤1000000) (ht:tot ss≤1000000) (hN:N≤5000000) (hr:∀r∈rs,RulC r) (hrl:rs.length=ss.length) (hset:∀s∈sets,s.length=rs.length) (hsn:sets.length≤1000000) (t3:Int) (ht3:maxI t3 0=(N:Int)) (b:Int) :
  F19 k rs ss I t3 sets b=some (outD rs ss sets (mkN ss I N b),()):=by
 have hB:minI b 100000≤100000:=by unfold minI; split<;>omega
 unfold F19 mkN
 generalize minI b 100000=B at hB ⊢
 have e48:=F48_ok k hk ss I [] (infW ss) (zero_le _) (fun y hy=>by cases hy) (infW_shw ss) ht
 have hp0:put1 [] (infW ss)=[infW ss]:=rfl
 rw[hp0,infW_flat] at e48
 have e2:=F19_2_ok k rs ss I N B sets hk hs hn ht hN hB hr hrl hset hsn t3 ht3 (([]:(List (List Int))),(([]:(List (List (List Int)))),())) (B.toNat+2) k 0 [infW ss] [] [] [] (by omega) (by omega) (by omega) (zero_le _) (fun y hy=>by rw[List.mem_singleton.1 hy]; exact infW_shw ss) rfl
 rw[show ((0:Nat):Int)=0 from rfl,take_zero,map_nil] at e2
 rw[F50_ok k hk ss hn (by omega),bind_some]
 simp only
 rw[F49_ok k _ (by omega) ht,bind_some]
 simp only
 rw[show F48 k ((some [],([],())),(ss,(I,()))) (replicate (tot ss) INF1)=_ from e48,bind_some]
 simp only
 rw[e2]
 cases hq:mkA (stepW I ss) noH [] B N (B.toNat+2) 0 [infW ss] [] [] [] with
 |none=>rfl
 |some q =>
  obtain ⟨l1,l2,l3⟩:=mkA_len _ _ _ _ _ _ hq
  have l4:=mkA_llen _ _ _ _ _ _ hq (zero_le _)
  simp only[List.length_nil] at l1
  simp only
  rw[bind_some]
  simp only
  rw[F56_ok k _ (by omega),bind_some]
  simp only
  rw[F57_ok k _ (by rw[length_map]; omega),bind_some]
  rfl
end
end Go.Proofs.YtgmmopbpldgpcaaE
set_option linter.unusedSimpArgs false
set_option linter.unusedVariables false
set_option maxRecDepth 20000
namespace Go.Proofs.YtgmmopbpldgpcaaE
theorem F32_0_ok (k:Nat) (a b:List Int) (hl:a.length=b.length) (hn:a.length≤1000000000):∀(d m i:Nat),i+d=a.length→d<m→F32_0 k m a b (i:Int)=if a.drop i=b.drop i then some (.inl ((),())) else some (.inr ((false,()),()))
 |0,m,i,hi,hm=>by
  obtain ⟨m,rfl⟩:=pos1 (m:=m) (by omega)
  rw[if_pos (by rw[drop_eq_nil_of_le (by omega),drop_eq_nil_of_le (by omega)])]
  simp only[F32_0]
  rw[decide_eq_false (by omega),cond_false]
 |d+1,m,i,hi,hm=>by
  obtain ⟨m,rfl⟩:=pos1 (m:=m) (by omega)
  have hlt:i<a.length:=by omega
  have hlt2:i<b.length:=by omega
  have ih:=F32_0_ok k a b hl hn d m (i+1) (by omega) (by omega)
  simp only[F32_0]
  rw[dlt hlt,cond_true,if_pos (inR hlt),if_pos (inR hlt2),tnI i,getD_lt _ _ _ hlt,getD_lt _ _ _ hlt2,wsucc i _ hlt (by omega)]
  by_cases h:a[i]=b[i]
  ·rw[show (a[i] != b[i])=false by simpa using h,cond_false,ih]
   by_cases h2:a.drop (i+1)=b.drop (i+1)
   ·rw[if_pos h2,if_pos ((drop_eq_step hlt hlt2 h).2 h2)]
    rfl
   ·rw[if_neg h2,if_neg fun e=>h2 ((drop_eq_step hlt hlt2 h).1 e)]
    rfl
  ·rw[show (a[i] != b[i])=true by simpa using h,cond_true,if_neg fun e=>h ?_]
   rw[drop_eq_getElem_cons hlt,drop_eq_getElem_cons hlt2] at e
   injection e
theorem F32_ok (k:Nat) (a b:List Int) (hk:10000000≤k) (hn:a.length≤5000000):F32 k a b=some ((decide (a=b),()),()):=by
 unfold F32
 by_cases hl:a.length=b.length
 ·have e:=F32_0_ok k a b hl (by omega) a.length k 0 (Nat.zero_add _) (by omega)
  rw[show ((0:Nat):Int)=0 from rfl,drop_zero,drop_zero] at e
  rw[show ((((length a:Nat):Int) != ((length b:Nat):Int)))=false by rw[hl]; simp,cond_false,e]
  by_cases h:a=b
  ·rw[if_pos h,decide_eq_true h]; rfl
  ·rw[if_neg h,decide_eq_false h]; rfl
 ·rw[show ((((length a:Nat):Int) != ((length b:Nat):Int)))=true from bne_iff_ne.2 (by omega),cond_true,decide_eq_false fun e=>hl (by rw[e])]
section
variable (k:Nat) (rs:List RulT) (ss:List SideT) (I:InT) (N:Nat) (sets:List (List Bool)) (t3 b:Int)
end
end Go.Proofs.YtgmmopbpldgpcaaE
set_option linter.unusedSimpArgs false
set_option linter.unusedVariables false
set_option maxRecDepth 20000
namespace Go.Proofs.YtgmmopbpldgpcaaE
theorem F13_known (k:Nat) (hk:200≤k):F13 k=some ((true,()),()):=by
 obtain ⟨k,rfl⟩:∃k',k=k'+200:=⟨k-200,by omega⟩
 kernel_rfl
theorem sideW_soc {I:InT} {N M:Nat} {s:SideT} (h:SideW I N M s):SOC s:=by
 obtain ⟨n,hn,g⟩:=h.g
 have hc:=cB_range 5 (by omega)
 refine ⟨h.ok,fun x hx=>(g.cf x hx).cst (by omega),fun x hx=>(g.ce x hx).cst (by omega),g.cn.cst (by omega),fun x hx=>?_⟩
 have:=g.arcs x hx
 unfold Cst
 omega
theorem sideW_len {I:InT} {N M:Nat} {s:SideT} (h:SideW I N M s):s.1.length≤120:=by
 obtain ⟨n,hn,g⟩:=h.g
 have:=g.ls
 omega
theorem tot_le {n:Nat}:∀ {ss:List SideT},(∀s∈ss,s.1.length≤n)→tot ss≤n*ss.length
 | [],_=>by simp[tot]
 |s::ss,h=>by
  have h1:=h s mem_cons_self
  have h2:=tot_le (ss:=ss) fun x hx=>h x (mem_cons_of_mem _ hx)
  rw[tot_cons,List.length_cons,Nat.mul_succ]
  omega
theorem rulP_c {r:RulT} (h:RulP r):RulC r:=by
 obtain ⟨_,h1,h2⟩:=h
 refine ⟨h1,?_⟩
 unfold Cst
 omega
structure DW (I:InT) (N:Nat) (rs:List RulT) (ss:List SideT) (sets:List (List Bool)):Prop where
 hs:∀s∈ss,SOC s
 hI:∀s∈ss,InOK I N s
 hn:ss.length≤1000000
 ht:tot ss≤1000000
 hN:N≤5000000
 hr:∀r∈rs,RulC r
 hrl:rs.length=ss.length
 hset:∀s∈sets,s.length=rs.length
 hsn:sets.length≤1000000
theorem wg_dw {w:WorT} {N M:Nat} (hw:WG w N M) {sets:List (List Bool)} (hset:∀s∈sets,s.length=w.1.2.1.length) (hsn:sets.length≤1000000):DW w.2.2.2.1 N w.1.2.1 w.2.2.2.2.1 sets:=by
 have h1:=hw.nl
 have h2:=hw.nrules
 have h3:=hw.le
 have h4:=tot_le (n:=120) fun s hs=>sideW_len (hw.left s hs)
 exact ⟨fun s hs=>sideW_soc (hw.left s hs),fun s hs=>(hw.left s hs).io,by omega,by omega,by omega,fun r hr=>rulP_c (hw.rules r hr),by omega,hset,hsn⟩
theorem F19_dw (k:Nat) (hk:10000000≤k) {I:InT} {N:Nat} {rs:List RulT} {ss:List SideT} {sets:List (List Bool)} (h:DW I N rs ss sets) (b:Int):F19 k rs ss I (N:Int) sets b=some (outD rs ss sets (mkN ss I N b),()) :=
 F19_ok k rs ss I N sets hk h.hs h.hn h.ht h.hN h.hr h.hrl h.hset h.hsn (N:Int) (maxI_nat N) b
structure ND (I:InT) (ss:List SideT) (N:Nat) (b:Int) (q:QW):Prop where
 m:Mach (stepW I ss) noH N q.1.length q.1 q.2.1 q.2.2.1 q.2.2.2
 z:q.1[0]? = some (infW ss)
 shp:∀x∈q.1,ShW ss x
 le:(q.1.length:Int)≤minI b 100000
theorem mkN_ok {I:InT} {ss:List SideT} {N:Nat} {b:Int} {q:QW} (hs:∀s∈ss,SOC s) (h:mkN ss I N b=some q):ND I ss N b q:=by
 obtain ⟨h1,⟨t,h2⟩,h3,h4⟩:=mkA_mach (P:=ShW ss) (fun x a hx _=>stepW_shw hs hx) _ 0 [infW ss] [] [] [] (mach0 _) (fun x hx=>by rw[List.mem_singleton.1 hx]; exact infW_shw ss) h
 exact ⟨h1,by rw[h2]; rfl,h3,h4 (Nat.zero_lt_succ _)⟩
theorem ND.len {I:InT} {ss:List SideT} {N:Nat} {b:Int} {q:QW} (h:ND I ss N b q):q.1.length≤100000:=by
 have:=h.le
 unfold minI at this
 split at this<;>omega
theorem ND.rows {I:InT} {ss:List SideT} {N:Nat} {b:Int} {q:QW} (h:ND I ss N b q):∀r∈q.2.1,r.length=N:=fun r hr=>by
 have h2:=h.m.nl
 obtain ⟨i,hi,e⟩:=List.mem_iff_getElem.1 hr
 obtain ⟨r',q1,q2,_⟩:=h.m.rows i _ (by omega) (List.getElem?_eq_getElem (by omega:i<q.1.length))
 rw[List.getElem?_eq_getElem hi,e] at q1
 injection q1 with q1
 rw[q1,q2]
theorem F16_0_ok (k:Nat) (hk:10000000≤k) (w:WorT) (N M:Nat) (hw:WG w N M):∀(d m i:Nat),i+d=w.2.2.2.2.1.length→d<m→F16_0 k m (i:Int) w=some (.inl ((),()))∨F16_0 k m (i:Int) w=some (.inr ((false,()),()))
 |0,m,i,hi,hm=>by
  obtain ⟨m,rfl⟩:=pos1 (m:=m) (by omega)
  left
  simp only[F16_0]
  rw[decide_eq_false (by omega),cond_false]
 |d+1,m,i,hi,hm=>by
  obtain ⟨m,rfl⟩:=pos1 (m:=m) (by omega)
  have hlt:i<w.2.2.2.2.1.length:=by omega
  have h1:=hw.nl
  have h2:=hw.nrules
  obtain ⟨n,hn,g⟩:=(hw.left _ (getElem_mem hlt)).g
  have hla:=srt_len g.srt g.arcs
  have hnn:n*n≤120*120:=Nat.mul_le_mul hn hn
  obtain ⟨b,e,_⟩:=F43_ok k n w.2.2.2.2.1[i] g.ls (by omega) (fun x hx=>by have:=g.arcs x hx; omega) (by omega) hk
  have ih:=F16_0_ok k hk w N M hw d m (i+1) (by omega) (by omega)
  simp only[F16_0]
  rw[dlt hlt,cond_true,if_pos (inR hlt),tnI i,getD_lt _ _ _ hlt,e,bind_some]
  simp only
  cases b with
  |true=>right; rfl
  |false =>
   rw[cond_false,wsucc i _ hlt (by omega)]
   rcases ih with ih | ih
   ·left; rw[ih]; rfl
   ·right; rw[ih]; rfl
theorem F16_ok (k:Nat) (hk:10000000≤k) (w:WorT) (N M:Nat) (hw:WG w N M):F16 k w=some ((true,()),())∨F16 k w=some ((false,()),()):=by
 have h1:=hw.nl
 have h2:=hw.nrules
 have e:=F16_0_ok k hk w N M hw w.2.2.2.2.1.length k 0 (Nat.zero_add _) (by omega)
 rw[show ((0:Nat):Int)=0 from rfl] at e
 unfold F16
 rcases e with e | e
 ·left; rw[e]; rfl
 ·right; rw[e]; rfl
theorem start10 {β:Type} (k:Nat) (hk:20000000≤k) (a0:List RawT) (a1 a2:List Int) (h1:a1.length≤100000000000000) (yes no:β) (f:((WorT×Bool×Unit)×Unit)→Option β) (hf:∀w N M,F15 k a0 a1 a2=some ((w,true,()),())→WG w N M→F16 k w=some ((true,()),())→f ((w,true,()),())=some yes) :
  ((F13 k).bind fun r1=>bif (!r1.1.1) then some no else (F14 k a0).bind fun r2=>bif (!r2.1.1) then some yes else (F15 k a0 a1 a2).bind fun r3=>bif (!r3.1.2.1) then some yes else (F16 k r3.1.1).bind fun r8=>bif (!r8.1.1) then some yes else f r3)=some yes:=by
 rw[F13_known k (by omega),bind_some]
 simp only[Bool.not_true,cond_false]
 rcases start9 k hk a0 a1 a2 h1 with e | ⟨e,⟨w,e2⟩ | ⟨w,N,M,e2,hw⟩⟩
 ·rw[e]; rfl
 ·rw[e,bind_some]
  simp only[Bool.not_true,cond_false]
  rw[e2]; rfl
 ·rw[e,bind_some]
  simp only[Bool.not_true,cond_false]
  rw[e2,bind_some]
  simp only[Bool.not_true,cond_false]
  rcases F16_ok k (by omega) w N M hw with e3 | e3
  ·rw[e3,bind_some]
   simp only[Bool.not_true,cond_false]
   exact hf w N M e2 hw e3
  ·rw[e3]; rfl
end Go.Proofs.YtgmmopbpldgpcaaE
set_option linter.unusedSimpArgs false
set_option linter.unusedVariables false
set_option maxRecDepth 20000
namespace Go.Proofs.YtgmmopbpldgpcaaE
def BndIn (s:RgT) (p:List Int):Prop:=∀r∈s,r.1∈p∧(r.2.1+1≤1114111→r.2.1+1∈p)
theorem has_same {s:RgT} {p:List Int} (hb:BndIn s p) {x y:Int} (hyx:y≤x) (hx:x≤1114111) (h:∀z∈p,z≤x→z≤y):has s x=has s y:=by
 unfold has
 rw[Bool.eq_iff_iff,List.any_eq_true,List.any_eq_true]
 constructor
 ·rintro ⟨r,hr,e⟩
  simp only[Bool.and_eq_true,decide_eq_true_eq] at e
  refine ⟨r,hr,?_⟩
  simp only[Bool.and_eq_true,decide_eq_true_eq]
  exact ⟨h _ (hb r hr).1 e.1,by omega⟩
 ·rintro ⟨r,hr,e⟩
  simp only[Bool.and_eq_true,decide_eq_true_eq] at e
  refine ⟨r,hr,?_⟩
  simp only[Bool.and_eq_true,decide_eq_true_eq]
  refine ⟨by omega,?_⟩
  by_cases hc:x≤r.2.1
  ·exact hc
  ·have:=h _ ((hb r hr).2 (by omega)) (by omega)
   omega
theorem keyF_same {x y:Int}:∀(l:List RgT) (t:Int),(∀s∈l,has s x=has s y)→keyF x l t=keyF y l t
 | [],t,_=>rfl
 |s::l,t,h=>by
  rw[keyF,keyF,h s mem_cons_self]
  exact keyF_same l _ fun r hr=>h r (mem_cons_of_mem _ hr)
def CutAt (b:List Int) (x:Int) (j:Nat):Prop:=∃h:j<b.length,b[j]≤x∧∀j',j<j'→(h':j'<b.length)→x<b[j']
structure CutI (t0:List RgT) (p:List Int) (i:Nat) (t8:Int) (b c s:List Int):Prop where
 bc:b.length=c.length
 ci:c.length≤i
 si:s.length≤i
 nd:s.Nodup
 at_:∀j (h:j<b.length),∃n:Nat,c[j]? = some (n:Int)∧s[n]? = some (keyF b[j] t0 0)
 up:b.Pairwise (· < ·)
 lt:∀y∈b,∀z∈p.drop i,y<z
 last:b=[]∧t8 = -1∨∃h:b.length-1<b.length,t8=keyF b[b.length-1] t0 0
 cut:∀x,0≤x→x≤1114111→(∀z∈p.drop i,x<z)→∃j,CutAt b x j∧∃h:j<b.length,keyF b[j] t0 0=keyF x t0 0
theorem CutI.next {t0:List RgT} {p:List Int} {i:Nat} {t8:Int} {b c s:List Int} (hp:RisL p) (hb:∀s∈t0,BndIn s p) (h:CutI t0 p i t8 b c s) (hi:i<p.length) :
  (keyF p[i] t0 0=t8→CutI t0 p (i+1) t8 b c s)∧(keyF p[i] t0 0≠t8→CutI t0 p (i+1) (keyF p[i] t0 0) (b++[p[i]]) (c++[((ix s (keyF p[i] t0 0):Nat):Int)]) (put1 s (keyF p[i] t0 0))):=by
 have hd:p.drop i=p[i]::p.drop (i+1):=drop_eq_getElem_cons hi
 have hup:∀z∈p.drop (i+1),p[i]<z:=by
  have:=List.Pairwise.sublist (List.drop_sublist i p) hp.1
  rw[hd] at this
  exact (List.pairwise_cons.1 this).1
 have hbi:∀y∈b,y<p[i]:=fun y hy=>h.lt y hy _ (by rw[hd]; exact mem_cons_self)
 -- what is behind the place and ahead of the next one is as the place
 have key:∀x,p[i]≤x→x≤1114111→(∀z∈p.drop (i+1),x<z)→keyF x t0 0=keyF p[i] t0 0:=fun x h1 h2 h3=>by
  refine keyF_same t0 0 fun r hr=>has_same (hb r hr) h1 h2 fun z hz hzx=>?_
  rw[←take_append_drop i p,hd] at hz
  rcases List.mem_append.1 hz with q | q
  ·have:=hp.1
   rw[←take_append_drop i p] at this
   exact Int.le_of_lt ((List.pairwise_append.1 this).2.2 z q _ (by rw[hd]; exact mem_cons_self))
  ·rcases List.mem_cons.1 q with q | q
   ·rw[q]; exact Int.le_refl _
   ·have:=h3 z q
    omega
 constructor
 ·intro he
  refine ⟨h.bc,by have:=h.ci; omega,by have:=h.si; omega,h.nd,h.at_,h.up,fun y hy z hz=>h.lt y hy z (by rw[hd]; exact mem_cons_of_mem _ hz),h.last,fun x x0 x1 hx=>?_⟩
  by_cases hxi:x<p[i]
  ·exact h.cut x x0 x1 fun z hz=>by
    rw[hd] at hz
    rcases List.mem_cons.1 hz with q | q
    ·rw[q]; exact hxi
    ·exact hx z q
  ·rcases h.last with ⟨q,e⟩ | ⟨q,e⟩
   ·have:=keyF_range p[i] t0 0 (Int.le_refl _)
    omega
   ·refine ⟨b.length-1,⟨q,?_,fun j' h1 h2=>by omega⟩,q,?_⟩
    ·have:=hbi _ (getElem_mem q)
     omega
    ·rw[←e,←he,key x (by omega) x1 hx]
 ·intro hne
  have hbl:(b++[p[i]]).length=b.length+1:=by simp
  have hcl:(c++[((ix s (keyF p[i] t0 0):Nat):Int)]).length=c.length+1:=by simp
  obtain ⟨tl,htl⟩:=put1_pre s (keyF p[i] t0 0)
  have hlast:(b++[p[i]])[b.length]'(by omega)=p[i]:=by simp
  have hput:=put1_le s (keyF p[i] t0 0)
  have hbc:=h.bc
  refine ⟨by omega,by have:=h.ci; omega,by have:=h.si; omega,put1_nodup h.nd _,fun j hj=>?_,?_,fun y hy z hz=>?_,.inr ⟨by omega,?_⟩,fun x x0 x1 hx=>?_⟩
  ·by_cases hjb:j<b.length
   ·obtain ⟨n,h1,h2⟩:=h.at_ j hjb
    refine ⟨n,get_preA rfl h1,?_⟩
    rw[List.getElem_append_left hjb]
    exact get_preA htl h2
   ·obtain rfl:j=b.length:=by omega
    refine ⟨ix s (keyF p[i] t0 0),?_,?_⟩
    ·rw[hbc,List.getElem?_append_right (Nat.le_refl _),Nat.sub_self]
     rfl
    ·rw[hlast]
     exact put1_get s _
  ·rw[List.pairwise_append]
   exact ⟨h.up,List.pairwise_singleton _ _,fun y hy z hz=>by rw[List.mem_singleton.1 hz]; exact hbi y hy⟩
  ·rcases List.mem_append.1 hy with q | q
   ·exact h.lt y q z (by rw[hd]; exact mem_cons_of_mem _ hz)
   ·rw[List.mem_singleton.1 q]; exact hup z hz
  ·simp
  ·by_cases hxi:x<p[i]
   ·obtain ⟨j,⟨h1,h2,h3⟩,h4,h5⟩:=h.cut x x0 x1 fun z hz=>by
     rw[hd] at hz
     rcases List.mem_cons.1 hz with q | q
     ·rw[q]; exact hxi
     ·exact hx z q
    refine ⟨j,⟨by omega,?_,fun j' q1 q2=>?_⟩,by omega,?_⟩
    ·rw[List.getElem_append_left h1]; exact h2
    ·by_cases hjb:j'<b.length
     ·rw[List.getElem_append_left hjb]; exact h3 j' q1 hjb
     ·obtain rfl:j'=b.length:=by omega
      rw[hlast]; exact hxi
    ·rw[List.getElem_append_left h1]; exact h5
   ·refine ⟨b.length,⟨by omega,?_,fun j' q1 q2=>by omega⟩,by omega,?_⟩
    ·rw[hlast]; omega
    ·rw[hlast,key x (by omega) x1 hx]
end Go.Proofs.YtgmmopbpldgpcaaE
set_option linter.unusedSimpArgs false
set_option linter.unusedVariables false
set_option maxRecDepth 20000
namespace Go.Proofs.YtgmmopbpldgpcaaE
structure IsMin (V:Int) (S:Int→Prop):Prop where
 le:V≤1152921504606846976
 lb:∀c,S c→V≤c
 at_:V<1152921504606846976→S V
theorem IsMin.congr {V:Int} {S T:Int→Prop} (h:IsMin V S) (e:∀c,S c↔T c):IsMin V T:=⟨h.le,fun c hc=>h.lb c ((e c).2 hc),fun q=>(e V).1 (h.at_ q)⟩
theorem IsMin.val {V:Int} (h:V≤1152921504606846976):IsMin V (fun c=>c=V∧c<1152921504606846976):=⟨h,fun c hc=>by omega,fun q=>⟨rfl,q⟩⟩
theorem IsMin.min {V W:Int} {S T:Int→Prop} (h:IsMin V S) (g:IsMin W T):IsMin (minI V W) (fun c=>S c∨T c):=by
 have h1:=h.le
 have h2:=g.le
 refine ⟨?_,fun c hc=>?_,fun q=>?_⟩
 ·unfold minI; split<;>omega
 ·rcases hc with hc | hc
  ·have:=h.lb c hc
   unfold minI; split<;>omega
  ·have:=g.lb c hc
   unfold minI; split<;>omega
 ·unfold minI at q ⊢
  split
  ·rename_i hlt
   rw[if_pos hlt] at q
   exact .inr (g.at_ q)
  ·rename_i hlt
   rw[if_neg hlt] at q
   exact .inl (h.at_ q)
theorem IsMin.add {V w:Int} {S:Int→Prop} (h:IsMin V S) (hw:0≤w):IsMin (adI V w) (fun c=>∃d,S d∧c=d+w∧c<1152921504606846976):=by
 refine ⟨?_,fun c hc=>?_,fun q=>?_⟩
 ·unfold adI minI; split<;>omega
 ·obtain ⟨d,hd,rfl,hlt⟩:=hc
  have:=h.lb d hd
  unfold adI minI
  split<;>omega
 ·have hV:V+w<1152921504606846976:=by
   unfold adI minI at q
   split at q<;>omega
  have e:adI V w=V+w:=by unfold adI minI; split<;>omega
  rw[e]
  exact ⟨V,h.at_ (by omega),rfl,hV⟩
inductive Run (s:SideT) (O:Nat→Nat→Bool) (i:Nat):Nat→Nat→Int→Prop
 |first (p:Nat) (hp:p<s.1.length) (h:getD s.2.1 p 0<1152921504606846976) (o:O p i=true):Run s O i (i+1) p (getD s.2.1 p 0)
 |next {k:Nat} {c:Int} (x:ArcT) (hx:x∈s.2.2.2.1) (r:Run s O i k x.1.toNat c) (h:c+x.2.2.1<1152921504606846976) (o:O x.2.1.toNat k=true):Run s O i (k+1) x.2.1.toNat (c+x.2.2.1)
theorem Run.lt {s:SideT} {O:Nat→Nat→Bool} {i k p:Nat} {c:Int} (r:Run s O i k p c):i<k:=by
 induction r with
 |first p hp h o=>omega
 |next x hx r h o ih=>omega
end Go.Proofs.YtgmmopbpldgpcaaE

