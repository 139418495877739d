/- Plain laws. Conditions: none. -/
import Derived.Test.YtgmmopbpldgpcaaP1
set_option linter.unusedSimpArgs false
set_option linter.unusedVariables false
set_option maxRecDepth 20000
open List (append_assoc append_nil getD getElem_replicate length_cons length_map length_set length_take nil_append replicate replicate_zero)
open Option (bind_some)
namespace Go.Proofs.YtgmmopbpldgpcaaE
abbrev GrT:=List (List Int)
def gg (g:GrT) (i k:Nat):Int:=getD (getD g i []) k 0
def gs (g:GrT) (i k:Nat) (v:Int):GrT:=List.set g i (List.set (getD g i []) k v)
structure GS (n:Nat) (g:GrT):Prop where
 len:g.length=n
 row:∀i,i<n→(getD g i []).length=n
theorem GS.set {n:Nat} {g:GrT} (h:GS n g) (i k:Nat) (v:Int) (hi:i<n):GS n (gs g i k v):=by
 have hl:=h.len
 unfold gs
 refine ⟨by rw[length_set]; exact hl,fun j hj=>?_⟩
 by_cases e:j=i
 ·subst e
  rw[cS (by omega),length_set]
  exact h.row j hj
 ·rw[bL e]
  exact h.row j hj
theorem Ak {n:Nat} {g:GrT} (h:GS n g) {i k:Nat} (v:Int) (hi:i<n) (hk:k<n) (i' k':Nat):gg (gs g i k v) i' k'=if i'=i∧k'=k then v else gg g i' k':=by
 have hl:=h.len
 have hr:=h.row i hi
 unfold gg gs
 by_cases e:i'=i
 ·subst e
  rw[cS (by omega)]
  by_cases e2:k'=k
  ·subst e2
   rw[cS (by omega),if_pos ⟨rfl,rfl⟩]
  ·rw[bL e2,if_neg fun q=>e2 q.2]
 ·rw[bL e,if_neg fun q=>e q.1]
theorem WT {α:Type} (A B:List α) (r d:α) (i:Nat) (h:A.length=i):getD (A++r::B) i d=r:=by
 have:=jt A (r::B) i 0 d h
 rwa [Nat.add_zero] at this
theorem Kl {α:Type} (A B:List α) (r r':α) (i:Nat) (h:A.length=i):List.set (A++r::B) i r'=A++r'::B:=by
 rw[List.set_append_right _ _ (by omega),show i-A.length=0 by omega,List.set_cons_zero]
theorem IT (k:Nat) (n:Nat) (hn:n≤1000000) (A B:GrT) (i:Nat) (hA:A.length=i):∀(d m j:Nat),j+d=n→d<m →
  tI k m (n:Int) (i:Int) (j:Int) (A++(replicate j bw++replicate d 0)::B)=some (((n:Int),(i:Int),()),(A++replicate n bw::B,()))
 |0,m,j,hj,hm=>by
  obtain ⟨m,rfl⟩:=aq (m:=m) (by omega)
  simp only[tI]
  rw[decide_eq_false (by omega),cond_false,replicate_zero,append_nil,show j=n by omega]
 |d+1,m,j,hj,hm=>by
  obtain ⟨m,rfl⟩:=aq (m:=m) (by omega)
  have hset:List.set (replicate j bw++replicate (d+1) 0) j (1152921504606846976:Int)=replicate (j+1) bw++replicate d 0:=by
   rw[List.set_append_right _ _ (by simp),List.length_replicate,Nat.sub_self,List.replicate_succ,List.set_cons_zero,List.replicate_succ',append_assoc]
   rfl
  have hl:i<(A++(replicate j bw++replicate (d+1) 0)::B).length:=by rw[List.length_append,length_cons]; omega
  have hl2:j<(replicate j bw++replicate (d+1) (0:Int)).length:=by simp
  simp only[tI]
  rw[decide_eq_true (by omega),cond_true,if_pos (inR hl),tnI i,WT _ _ _ _ _ hA,if_pos (inR hl2),tnI j,hset,Kl _ _ _ _ _ hA,aM j n (by omega) (by omega),IT k n hn A B i hA d m (j+1) (by omega) (by omega)]
  rfl
theorem IU (k:Nat) (n:Nat) (hk:10000000≤k) (hn:n≤1000000):∀(d m i:Nat),i+d=n→d<m →
  tJ k m (n:Int) (i:Int) (replicate i (replicate n bw)++replicate d [])=some ((),(replicate n (replicate n bw),()))
 |0,m,i,hi,hm=>by
  obtain ⟨m,rfl⟩:=aq (m:=m) (by omega)
  simp only[tJ]
  rw[decide_eq_false (by omega),cond_false,replicate_zero,append_nil,show i=n by omega]
 |d+1,m,i,hi,hm=>by
  obtain ⟨m,rfl⟩:=aq (m:=m) (by omega)
  have hl:i<(replicate i (replicate n bw)++replicate (d+1) ([]:List Int)).length:=by simp
  have e:=IT k n hn (replicate i (replicate n bw)) (replicate d []) i (by simp) n k 0 (Nat.zero_add _) (by omega)
  rw[show ((0:Nat):Int)=0 from rfl,replicate_zero,nil_append] at e
  have hA:replicate i (replicate n bw)++replicate n bw::replicate d []=replicate (i+1) (replicate n bw)++replicate d []:=by
   rw[List.replicate_succ',append_assoc]
   rfl
  simp only[tJ]
  rw[decide_eq_true (by omega),cond_true,if_pos (by omega),if_pos (inR hl),tnI i,tnI n,List.replicate_succ,Kl _ _ _ _ _ (by simp),e,bind_some]
  simp only
  rw[hA,aM i n (by omega) (by omega),IU k n hk hn d m (i+1) (by omega) (by omega)]
  rfl
abbrev jE (n:Nat):GrT:=replicate n (replicate n bw)
theorem jv (k:Nat) (n:Nat) (hk:10000000≤k) (hn:n≤1000000):F82 k (n:Int)=some ((jE n,()),()):=by
 have e:=IU k n hk hn n k 0 (Nat.zero_add _) (by omega)
 rw[show ((0:Nat):Int)=0 from rfl,replicate_zero,nil_append] at e
 unfold F82
 rw[if_pos (by omega),tnI n]
 simp only
 rw[e,bind_some]
theorem gT (n:Nat):GS n (jE n):=⟨by simp,fun i hi=>by rw[ak _ _ _ (by simpa using hi),getElem_replicate,List.length_replicate]⟩
theorem gU {n i k:Nat} (hi:i<n) (hk:k<n):gg (jE n) i k=1152921504606846976:=by
 unfold gg
 rw[ak (jE n) i [] (by simpa using hi),getElem_replicate,ak _ _ _ (by simpa using hk),getElem_replicate]
structure IsG (n:Nat) (g:GrT) (D:Rel):Prop where
 gs:GS n g
 min:∀i k,i<n→k<n→bg (gg g i k) (D i k)
theorem bg.cst {V:Int} {S:Int→Prop} (h:bg V S) (hS:∀c,S c→0≤c):Cst V:=by
 refine ⟨?_,h.le⟩
 by_cases q:V<1152921504606846976
 ·exact hS V (h.at_ q)
 ·omega
theorem IsG.congr {n:Nat} {g:GrT} {D E:Rel} (h:IsG n g D) (e:∀i k c,i<n→k<n→(D i k c↔E i k c)):IsG n g E:=⟨h.gs,fun i k hi hk=>(h.min i k hi hk).congr fun c=>e i k c hi hk⟩
theorem IV (k:Nat) (n:Nat) (hn:n≤1000000):∀(d m i:Nat) (g:GrT),i+d=n→d<m→GS n g→(∀i' k',i'<n→k'<n→gg g i' k'=if i'=k'∧i'<i then 0 else 1152921504606846976) →
  ∃g',tL k m (n:Int) (i:Int) g=some ((),(g',()))∧IsG n g' eps
 |0,m,i,g,hi,hm,hg,hv=>by
  obtain ⟨m,rfl⟩:=aq (m:=m) (by omega)
  refine ⟨g,?_,hg,fun a b ha hb=>?_⟩
  ·simp only[tL]
   rw[decide_eq_false (by omega),cond_false]
  ·rw[hv a b ha hb]
   split
   ·exact ⟨by decide,fun c hc=>by have:=hc.2; omega,fun _=>⟨by omega,rfl⟩⟩
   ·exact bg.inf fun c hc=>by have:=hc.1; omega
 |d+1,m,i,g,hi,hm,hg,hv=>by
  obtain ⟨m,rfl⟩:=aq (m:=m) (by omega)
  have hlt:i<n:=by omega
  have hl:=hg.len
  have hr:=hg.row i hlt
  obtain ⟨g',e,h⟩:=IV k n hn d m (i+1) (gs g i i 0) (by omega) (by omega) (hg.set i i 0 hlt) (fun i' k' h1 h2=>by
   rw[Ak hg 0 hlt hlt,hv i' k' h1 h2]
   by_cases q:i'=i∧k'=i
   ·rw[if_pos q,if_pos (by omega)]
   ·rw[if_neg q]
    by_cases q2:i'=k'∧i'<i
    ·rw[if_pos q2,if_pos (by omega)]
    ·rw[if_neg q2,if_neg (by omega)])
  refine ⟨g',?_,h⟩
  unfold gs at e
  simp only[tL]
  rw[decide_eq_true (by omega),cond_true,if_pos (by omega),tnI i,if_pos (by omega),aM i n hlt (by omega),e]
  rfl
theorem IW (k:Nat) (n:Nat) (hk:10000000≤k) (hn:n≤1000000):∃g,F81 k (n:Int)=some ((g,()),())∧IsG n g eps:=by
 obtain ⟨g,e,h⟩:=IV k n hn n k 0 (jE n) (Nat.zero_add _) (by omega) (gT n) (fun i k hi hk=>by rw[gU hi hk,if_neg (by omega)])
 rw[show ((0:Nat):Int)=0 from rfl] at e
 refine ⟨g,?_,h⟩
 unfold F81
 rw[jv k n hk hn,bind_some]
 simp only
 rw[e,bind_some]
section
variable {n:Nat} {a b:GrT} {D1 D2:Rel}
theorem IX (k:Nat) (hn:n≤1000000) (ha:GS n a) (hb:GS n b) (i:Nat) (hi:i<n):∀(d m j:Nat) (e:GrT),j+d=n→d<m→GS n e→(∀i' k',i'<n→k'<n→gg e i' k'=if i'<i∨i'=i∧k'<j then aK (gg a i' k') (gg b i' k') else 1152921504606846976) →
  ∃e',tM k m a b (i:Int) (j:Int) e=some ((a,b,(i:Int),()),(e',()))∧GS n e'∧∀i' k',i'<n→k'<n→gg e' i' k'=if i'<i+1 then aK (gg a i' k') (gg b i' k') else 1152921504606846976
 |0,m,j,e,hj,hm,he,hv=>by
  obtain ⟨m,rfl⟩:=aq (m:=m) (by omega)
  have hl:=ha.len
  refine ⟨e,?_,he,fun i' k' h1 h2=>?_⟩
  ·simp only[tM]
   rw[decide_eq_false (by omega),cond_false]
  ·rw[hv i' k' h1 h2]
   by_cases q:i'<i+1
   ·rw[if_pos q,if_pos (by omega)]
   ·rw[if_neg q,if_neg (by omega)]
 |d+1,m,j,e,hj,hm,he,hv=>by
  obtain ⟨m,rfl⟩:=aq (m:=m) (by omega)
  have hlt:j<n:=by omega
  have l1:=ha.len
  have l2:=hb.len
  have l3:=he.len
  have r1:=ha.row i hi
  have r2:=hb.row i hi
  have r3:=he.row i hi
  obtain ⟨e',eq,h⟩:=IX k hn ha hb i hi d m (j+1) (gs e i j (aK (gg a i j) (gg b i j))) (by omega) (by omega) (he.set i j _ hi) (fun i' k' h1 h2=>by
   rw[Ak he _ hi hlt,hv i' k' h1 h2]
   by_cases q:i'=i∧k'=j
   ·rw[if_pos q,if_pos (by omega),q.1,q.2]
   ·rw[if_neg q]
    by_cases q2:i'<i∨i'=i∧k'<j
    ·rw[if_pos q2,if_pos (by omega)]
    ·rw[if_neg q2,if_neg (by omega)])
  refine ⟨e',?_,h⟩
  unfold gs gg at eq
  simp only[tM]
  rw[decide_eq_true (by omega),cond_true,if_pos (by omega),if_pos (by omega),tnI i,if_pos (by omega),if_pos (by omega),if_pos (by omega),if_pos (by omega),tnI j,aM j n hlt (by omega),eq]
  rfl
theorem IY (k:Nat) (hk:10000000≤k) (hn:n≤1000000) (ha:GS n a) (hb:GS n b):∀(d m i:Nat) (e:GrT),i+d=n→d<m→GS n e→(∀i' k',i'<n→k'<n→gg e i' k'=if i'<i then aK (gg a i' k') (gg b i' k') else 1152921504606846976) →
  ∃e',tN k m a b (i:Int) e=some ((),(e',()))∧GS n e'∧∀i' k',i'<n→k'<n→gg e' i' k'=aK (gg a i' k') (gg b i' k')
 |0,m,i,e,hi,hm,he,hv=>by
  obtain ⟨m,rfl⟩:=aq (m:=m) (by omega)
  have hl:=ha.len
  refine ⟨e,?_,he,fun i' k' h1 h2=>by rw[hv i' k' h1 h2,if_pos (by omega)]⟩
  simp only[tN]
  rw[decide_eq_false (by omega),cond_false]
 |d+1,m,i,e,hi,hm,he,hv=>by
  obtain ⟨m,rfl⟩:=aq (m:=m) (by omega)
  have hl:=ha.len
  obtain ⟨e1,q1,q2,q3⟩:=IX k hn ha hb i (by omega) n k 0 e (Nat.zero_add _) (by omega) he (fun i' k' h1 h2=>by
   rw[hv i' k' h1 h2]
   by_cases q:i'<i
   ·rw[if_pos q,if_pos (by omega)]
   ·rw[if_neg q,if_neg (by omega)])
  rw[show ((0:Nat):Int)=0 from rfl] at q1
  obtain ⟨e',eq,h⟩:=IY k hk hn ha hb d m (i+1) e1 (by omega) (by omega) q2 q3
  refine ⟨e',?_,h⟩
  simp only[tN]
  rw[decide_eq_true (by omega),cond_true,q1,bind_some]
  simp only
  rw[aM i n (by omega) (by omega),eq]
  rfl
theorem Rn (k:Nat) (hk:10000000≤k) (hn:n≤1000000) (ha:IsG n a D1) (hb:IsG n b D2):∃g,F84 k a b=some ((g,()),())∧IsG n g (orR D1 D2):=by
 have hl:=ha.gs.len
 obtain ⟨g,e,h1,h2⟩:=IY k hk hn ha.gs hb.gs n k 0 (jE n) (Nat.zero_add _) (by omega) (gT n) (fun i k hi hk=>by rw[gU hi hk,if_neg (by omega)])
 rw[show ((0:Nat):Int)=0 from rfl] at e
 refine ⟨g,?_,h1,fun i k hi hk=>by rw[h2 i k hi hk]; exact (ha.min i k hi hk).min (hb.min i k hi hk)⟩
 unfold F84
 rw[hl,jv k n hk hn,bind_some]
 simp only
 rw[e,bind_some]
theorem bg.add2 {V W:Int} {S T:Int→Prop} (h:bg V S) (g:bg W T) (hS:∀c,S c→0≤c) (hT:∀c,T c→0≤c):bg (adI V W) (fun c=>∃d e,S d∧T e∧c=d+e∧c<1152921504606846976):=by
 have c1:=h.cst hS
 have c2:=g.cst hT
 unfold Cst at c1 c2
 refine ⟨?_,fun c hc=>?_,fun q=>?_⟩
 ·unfold adI aK; split<;>omega
 ·obtain ⟨d,e,hd,he,rfl,hlt⟩:=hc
  have:=h.lb d hd
  have:=g.lb e he
  unfold adI aK
  split<;>omega
 ·obtain ⟨e1,e2⟩:=js q
  exact ⟨V,W,h.at_ (by omega),g.at_ (by omega),e1,by omega⟩
def Al (D1 D2:Rel) (i j k:Nat):Rel:=fun i' k' c=>∃j' d e,(i'<i∨i'=i∧(j'<j∨j'=j∧k'<k))∧D1 i' j' d∧D2 j' k' e∧c=d+e∧c<1152921504606846976
theorem IZ (k:Nat) (hn:n≤1000000) (ha:IsG n a D1) (hb:IsG n b D2) (p1:Pos D1) (p2:Pos D2) (i j:Nat) (hi:i<n) (hj:j<n):∀(d m q:Nat) (e:GrT),q+d=n→d<m→IsG n e (Al D1 D2 i j q) →
  ∃e',tP k m a b (i:Int) (j:Int) (q:Int) e=some ((a,b,(i:Int),(j:Int),()),(e',()))∧IsG n e' (Al D1 D2 i j n)
 |0,m,q,e,hq,hm,he=>by
  obtain ⟨m,rfl⟩:=aq (m:=m) (by omega)
  have hl:=ha.gs.len
  obtain rfl:q=n:=by omega
  refine ⟨e,?_,he⟩
  simp only[tP]
  rw[decide_eq_false (by omega),cond_false]
 |d+1,m,q,e,hq,hm,he=>by
  obtain ⟨m,rfl⟩:=aq (m:=m) (by omega)
  have hlt:q<n:=by omega
  have l1:=ha.gs.len
  have l2:=hb.gs.len
  have l3:=he.gs.len
  have r1:=ha.gs.row i hi
  have r2:=hb.gs.row j hj
  have r3:=he.gs.row i hi
  have m1:=ha.min i j hi hj
  have m2:=hb.min j q hj hlt
  have c1:=m1.cst fun c h=>(p1 _ _ _ h).2.1
  have c2:=m2.cst fun c h=>(p2 _ _ _ h).2.1
  obtain ⟨e',eq,h⟩:=IZ k hn ha hb p1 p2 i j hi hj d m (q+1) (gs e i q (aK (gg e i q) (adI (gg a i j) (gg b j q)))) (by omega) (by omega) ⟨he.gs.set i q _ hi,fun i' k' h1 h2=>by
   rw[Ak he.gs _ hi hlt]
   by_cases g:i'=i∧k'=q
   ·rw[if_pos g,g.1,g.2]
    refine ((he.min i q hi hlt).min (m1.add2 m2 (fun c h=>(p1 _ _ _ h).2.1) (fun c h=>(p2 _ _ _ h).2.1))).congr fun c=>?_
    constructor
    ·rintro (⟨j',d,e,h1,h2⟩ | ⟨d,e,h2⟩)
     ·exact ⟨j',d,e,by omega,h2⟩
     ·exact ⟨j,d,e,by omega,h2⟩
    ·rintro ⟨j',d,e,h1,h2⟩
     by_cases hj':j'=j
     ·subst hj'
      exact .inr ⟨d,e,h2⟩
     ·exact .inl ⟨j',d,e,by omega,h2⟩
   ·rw[if_neg g]
    refine (he.min i' k' h1 h2).congr fun c=>⟨fun ⟨j',d,e,h3,h4⟩=>⟨j',d,e,by omega,h4⟩,fun ⟨j',d,e,h3,h4⟩=>⟨j',d,e,by omega,h4⟩⟩⟩
  refine ⟨e',?_,h⟩
  unfold gs gg at eq
  unfold gg at c1 c2
  simp only[tP]
  rw[decide_eq_true (by omega),cond_true,if_pos (by omega),if_pos (by omega),tnI i,if_pos (by omega),if_pos (by omega),if_pos (by omega),if_pos (by omega),tnI j,if_pos (by omega),tnI q,gn k _ _ c1 c2,bind_some]
  simp only
  rw[if_pos (by omega),aM q n hlt (by omega),eq]
  rfl
theorem I0 (k:Nat) (hk:10000000≤k) (hn:n≤1000000) (ha:IsG n a D1) (hb:IsG n b D2) (p1:Pos D1) (p2:Pos D2) (i:Nat) (hi:i<n):∀(d m j:Nat) (e:GrT),j+d=n→d<m→IsG n e (Al D1 D2 i j 0) →
  ∃e',tQ k m a b (i:Int) (j:Int) e=some ((a,b,(i:Int),()),(e',()))∧IsG n e' (Al D1 D2 i n 0)
 |0,m,j,e,hj,hm,he=>by
  obtain ⟨m,rfl⟩:=aq (m:=m) (by omega)
  have hl:=ha.gs.len
  obtain rfl:j=n:=by omega
  refine ⟨e,?_,he⟩
  simp only[tQ]
  rw[decide_eq_false (by omega),cond_false]
 |d+1,m,j,e,hj,hm,he=>by
  obtain ⟨m,rfl⟩:=aq (m:=m) (by omega)
  have hlt:j<n:=by omega
  have l1:=ha.gs.len
  obtain ⟨e1,q1,q2⟩:=IZ k hn ha hb p1 p2 i j hi hlt (n-j) k j e (by omega) (by omega) (he.congr fun i' k' c h1 h2=>⟨fun ⟨j',d,e,h3,h4⟩=>⟨j',d,e,by omega,h4⟩,fun ⟨j',d,e,h3,h4,h5,h6⟩=>⟨j',d,e,by have:=p2 _ _ _ h5; omega,h4,h5,h6⟩⟩)
  obtain ⟨e',eq,h⟩:=I0 k hk hn ha hb p1 p2 i hi d m (j+1) e1 (by omega) (by omega) (q2.congr fun i' k' c h1 h2=>⟨fun ⟨j',d,e,h3,h4⟩=>⟨j',d,e,by omega,h4⟩,fun ⟨j',d,e,h3,h4⟩=>⟨j',d,e,by omega,h4⟩⟩)
  refine ⟨e',?_,h⟩
  simp only[tQ]
  rw[decide_eq_true (by omega),cond_true,q1,bind_some]
  simp only
  rw[aM j n hlt (by omega),eq]
  rfl
theorem I1 (k:Nat) (hk:10000000≤k) (hn:n≤1000000) (ha:IsG n a D1) (hb:IsG n b D2) (p1:Pos D1) (p2:Pos D2):∀(d m i:Nat) (e:GrT),i+d=n→d<m→IsG n e (Al D1 D2 i 0 0) →
  ∃e',tR k m a b (i:Int) e=some ((),(e',()))∧IsG n e' (eF D1 D2)
 |0,m,i,e,hi,hm,he=>by
  obtain ⟨m,rfl⟩:=aq (m:=m) (by omega)
  have hl:=ha.gs.len
  refine ⟨e,?_,he.congr fun i' k' c h1 h2=>⟨fun ⟨j',d,e,h3,h4⟩=>⟨j',d,e,h4⟩,fun ⟨j',d,e,h4⟩=>⟨j',d,e,by omega,h4⟩⟩⟩
  simp only[tR]
  rw[decide_eq_false (by omega),cond_false]
 |d+1,m,i,e,hi,hm,he=>by
  obtain ⟨m,rfl⟩:=aq (m:=m) (by omega)
  have hlt:i<n:=by omega
  have l1:=ha.gs.len
  obtain ⟨e1,q1,q2⟩:=I0 k hk hn ha hb p1 p2 i hlt (n-i) k i e (by omega) (by omega) (he.congr fun i' k' c h1 h2=>⟨fun ⟨j',d,e,h3,h4⟩=>⟨j',d,e,by omega,h4⟩,fun ⟨j',d,e,h3,h4,h6⟩=>⟨j',d,e,by have:=p1 _ _ _ h4; omega,h4,h6⟩⟩)
  obtain ⟨e',eq,h⟩:=I1 k hk hn ha hb p1 p2 d m (i+1) e1 (by omega) (by omega) (q2.congr fun i' k' c h1 h2=>⟨fun ⟨j',d,e,h3,h4⟩=>⟨j',d,e,by omega,h4⟩,fun ⟨j',d,e,h3,h4,h5,h6⟩=>⟨j',d,e,by have:=p2 _ _ _ h5; omega,h4,h5,h6⟩⟩)
  refine ⟨e',?_,h⟩
  simp only[tR]
  rw[decide_eq_true (by omega),cond_true,q1,bind_some]
  simp only
  rw[aM i n hlt (by omega),eq]
  rfl
theorem Ro (k:Nat) (hk:10000000≤k) (hn:n≤1000000) (ha:IsG n a D1) (hb:IsG n b D2) (p1:Pos D1) (p2:Pos D2):∃g,F85 k a b=some ((g,()),())∧IsG n g (eF D1 D2):=by
 have hl:=ha.gs.len
 obtain ⟨g,e,h⟩:=I1 k hk hn ha hb p1 p2 n k 0 (jE n) (Nat.zero_add _) (by omega) ⟨gT n,fun i k hi hk=>by
  rw[gU hi hk]
  exact bg.inf fun c ⟨j',d,e,h3,_⟩=>by omega⟩
 rw[show ((0:Nat):Int)=0 from rfl] at e
 refine ⟨g,?_,h⟩
 unfold F85
 rw[hl,jv k n hk hn,bind_some]
 simp only
 rw[e,bind_some]
end
end Go.Proofs.YtgmmopbpldgpcaaE
set_option linter.unusedSimpArgs false
set_option linter.unusedVariables false
set_option maxRecDepth 20000
namespace Go.Proofs.YtgmmopbpldgpcaaE
def fS (sets:List RgT) (t:List Int) (v:Int) (j:Nat):Bool:=decide (v<0)||has (getD sets v.toNat []) (getD t j 0)
theorem I2 (nm:ByteArray):∀(l:List eO) (i:Nat),(∃d∈l,d.1=nm)→0≤fY l nm i
 | [],i,⟨d,hd,_⟩=>by cases hd
 |d::l,i,⟨e,he,q⟩=>by
  unfold fY
  by_cases h:d.1.toList=nm.toList
  ·rw[if_pos h]; omega
  ·rw[if_neg h]
   rcases List.mem_cons.1 he with g | g
   ·rw[←g,q] at h; exact absurd rfl h
   ·exact I2 nm l (i+1) ⟨e,g,q⟩
theorem WU {l t:List eO} (h:l=gy++t) {nm:ByteArray} (hn:Hq nm):0≤fnd l nm:=by
 refine I2 nm l 0 ?_
 have h4:nms.take 4=gy.map (·.1):=rfl
 unfold Hq at hn
 rw[h4] at hn
 obtain ⟨d,hd,e⟩:=List.mem_map.1 hn
 exact ⟨d,by rw[h]; exact List.mem_append_left _ hd,e⟩
abbrev Am:=bn→b7→List RgT→List Int→Option (((List (List Int))×Unit)×Unit)
theorem nY (k:Nat) (f:Am) (sets:List RgT) (t:List Int) (n9:Int) (c4:vp) (fl:b7) (Q:bn→GrT→Prop) (hl:c4.2.2.2.2.2.1.length≤1000) (hf:∀y∈c4.2.2.2.2.2.1,∃g,f y fl sets t=some ((g,()),())∧Q y g):∀(d m i:Nat) (acc:List GrT),i+d=c4.2.2.2.2.2.1.length→d<m→acc.length=i →
  ∃L,nD k f m sets t n9 (i:Int) c4 fl acc=some ((sets,t,n9,()),(c4,fl,acc++L,()))∧L.length=d∧∀j,j<d→∃y g,c4.2.2.2.2.2.1[i+j]? = some y∧L[j]? = some g∧Q y g
 |0,m,i,acc,hi,hm,ha=>by
  obtain ⟨m,rfl⟩:=aq (m:=m) (by omega)
  refine ⟨[],?_,rfl,fun j hj=>by omega⟩
  simp only[nD]
  rw[decide_eq_false (by omega),cond_false,append_nil]
 |d+1,m,i,acc,hi,hm,ha=>by
  obtain ⟨m,rfl⟩:=aq (m:=m) (by omega)
  have hlt:i<c4.2.2.2.2.2.1.length:=by omega
  obtain ⟨g,e,hQ⟩:=hf _ (List.getElem_mem hlt)
  obtain ⟨L,e2,h1,h2⟩:=nY k f sets t n9 c4 fl Q hl hf d m (i+1) (acc++[g]) (by omega) (by omega) (by simp[ha])
  refine ⟨g::L,?_,by simp[h1],fun j hj=>?_⟩
  ·simp only[nD]
   rw[dlt hlt,cond_true,if_pos (inR hlt),tnI i,ak _ _ _ hlt,e,bind_some]
   simp only
   rw[if_pos (by rw[List.length_singleton]; omega),aM i _ hlt (by omega),e2,append_assoc]
   rfl
  ·cases j with
   |zero=>exact ⟨_,g,List.getElem?_eq_getElem hlt,rfl,hQ⟩
   |succ j =>
    obtain ⟨y,g',q1,q2,q3⟩:=h2 j (by omega)
    exact ⟨y,g',by rw[show i+(j+1)=i+1+j by omega]; exact q1,by rw[List.getElem?_cons_succ]; exact q2,q3⟩
theorem nZ (k:Nat) (f:Am) (hk:10000000≤k) (fl:b7) (hfl:fl.1.length≤1000) (sets:List RgT) (hg:RgL sets) (hsl:sets.length=fl.1.length) (t:List Int) (ht:t.length≤100000) (c4:vp) (hc:c4.1=3∨c4.1=2∧0≤fnd fl.1 c4.2.2.2.2.1) (v:Int) (hv:v=if c4.1=2 then fnd fl.1 c4.2.2.2.2.1 else -1):∀(d m i:Nat) (g:GrT),i+d=t.length→d<m→GS (t.length+1) g→(∀i' k',i'<t.length+1→k'<t.length+1→gg g i' k'=if i'<i∧k'=i'+1∧fS sets t v i'=true then 0 else 1152921504606846976) →
  ∃g',ip k f m sets t ((t.length+1:Nat):Int) (i:Int) c4 fl g=some ((),(g',()))∧IsG (t.length+1) g' (fun i k c=>k=i+1∧c=0∧fS sets t v i=true)
 |0,m,i,g,hi,hm,hG,hgv=>by
  obtain ⟨m,rfl⟩:=aq (m:=m) (by omega)
  refine ⟨g,?_,hG,fun a b ha hb=>?_⟩
  ·simp only[ip]
   rw[aM i (t.length+1) (by omega) (by omega),decide_eq_false (by omega),cond_false]
  ·rw[hgv a b ha hb]
   split
   ·rename_i q
    exact ⟨by decide,fun c hc=>by have:=hc.2.1; omega,fun _=>⟨q.2.1,rfl,q.2.2⟩⟩
   ·rename_i q
    exact bg.inf fun c hc=>q ⟨by have:=hc.1; omega,hc.1,hc.2.2⟩
 |d+1,m,i,g,hi,hm,hG,hgv=>by
  obtain ⟨m,rfl⟩:=aq (m:=m) (by omega)
  have hlt:i<t.length:=by omega
  have hl:=hG.len
  have hr:=hG.row i (by omega)
  have hw:IntKind.wrap .i64 ((i:Int)+1)=((i+1:Nat):Int):=aM i (t.length+1) (by omega) (by omega)
  have hit:(0:Int)≤((i+1:Nat):Int)∧((i+1:Nat):Int)<(((getD g i []).length:Nat):Int):=by omega
  have hig:(0:Int)≤(i:Int)∧(i:Int)<((g.length:Nat):Int):=by omega
  have yes:fS sets t v i=true→∃g',(ip k f m sets t ((t.length+1:Nat):Int) ((i+1:Nat):Int) c4 fl (List.set g i (List.set (getD g i []) (i+1) 0))).bind some=some ((),(g',()))∧IsG (t.length+1) g' (fun i k c=>k=i+1∧c=0∧fS sets t v i=true):=fun hf=>by
   obtain ⟨g',e,h⟩:=nZ k f hk fl hfl sets hg hsl t ht c4 hc v hv d m (i+1) (gs g i (i+1) 0) (by omega) (by omega) (hG.set i _ _ (by omega)) (fun i' k' h1 h2=>by
    rw[Ak hG _ (by omega) (by omega),hgv i' k' h1 h2]
    by_cases q:i'=i∧k'=i+1
    ·rw[if_pos q,if_pos ⟨by omega,by omega,by rw[q.1]; exact hf⟩]
    ·rw[if_neg q]
     by_cases q2:i'<i∧k'=i'+1∧fS sets t v i'=true
     ·rw[if_pos q2,if_pos ⟨by omega,q2.2⟩]
     ·rw[if_neg q2,if_neg fun q3=>q2 ⟨by omega,q3.2⟩])
   exact ⟨g',by unfold gs at e; rw[e]; rfl,h⟩
  have no:fS sets t v i=false→∃g',(ip k f m sets t ((t.length+1:Nat):Int) ((i+1:Nat):Int) c4 fl g).bind some=some ((),(g',()))∧IsG (t.length+1) g' (fun i k c=>k=i+1∧c=0∧fS sets t v i=true):=fun hf=>by
   obtain ⟨g',e,h⟩:=nZ k f hk fl hfl sets hg hsl t ht c4 hc v hv d m (i+1) g (by omega) (by omega) hG (fun i' k' h1 h2=>by
    rw[hgv i' k' h1 h2]
    by_cases q2:i'<i∧k'=i'+1∧fS sets t v i'=true
    ·rw[if_pos q2,if_pos ⟨by omega,q2.2⟩]
    ·rw[if_neg q2,if_neg fun q3=>by
      by_cases hi':i'=i
      ·subst hi'
       rw[hf] at q3
       cases q3.2.2
      ·exact q2 ⟨by omega,q3.2⟩])
   exact ⟨g',by rw[e]; rfl,h⟩
  simp only[ip]
  rw[hw,decide_eq_true (by omega),cond_true]
  rcases hc with hc | ⟨hc,hc2⟩
  ·have hf:fS sets t v i=true:=by
    rw[hv,if_neg (by omega)]
    rfl
   rw[beq_iff_eq.2 hc,cond_true,if_pos hig,tnI i,if_pos hit,tnI (i+1)]
   exact yes hf
  ·rw[if_pos hc] at hv
   have hr2:=jp fl.1 c4.2.2.2.2.1
   have hb:(0:Int)≤fnd fl.1 c4.2.2.2.2.1∧fnd fl.1 c4.2.2.2.2.1<((sets.length:Nat):Int):=by omega
   have hlr:=eP (ml hg (fnd fl.1 c4.2.2.2.2.1).toNat)
   have hf:fS sets t v i=has (getD sets (fnd fl.1 c4.2.2.2.2.1).toNat []) (getD t i 0):=by
    unfold fS
    rw[hv,decide_eq_false (by omega),Bool.false_or]
   rw[beq_false_of_ne (by omega),cond_false,if_pos (inR hlt),Hv k fl _ hfl hk,bind_some]
   simp only
   rw[if_pos hb,HE k _ _ (by omega) hk,bind_some]
   simp only
   rw[tnI i,←hf]
   cases hh:fS sets t v i with
   |true =>
    rw[cond_true,if_pos hig,if_pos hit,tnI (i+1)]
    exact yes hh
   |false =>
    rw[cond_false]
    exact no hh
theorem I3 (k:Nat) (f:Am) {n:Nat} (hn:n≤200000) {g0:GrT} (h0:GS n g0) (hc0:∀i k,i<n→k<n→Cst (gg g0 i k)) (c4:vp) (hw:Cst c4.2.2.2.1) (i:Nat) (hi:i<n):∀(d m j:Nat) (g:GrT),i≤j→j+d=n→d<m→GS n g→(∀i' k',i'<n→k'<n→gg g i' k'=if i'≤k'∧(i'<i∨i'=i∧k'<j) then adI (gg g0 i' k') c4.2.2.2.1 else 1152921504606846976) →
  ∃g',tS k f m (n:Int) (i:Int) (j:Int) c4 g [g0]=some (((n:Int),(i:Int),()),(c4,g',[g0],()))∧GS n g'∧∀i' k',i'<n→k'<n→gg g' i' k'=if i'≤k'∧i'<i+1 then adI (gg g0 i' k') c4.2.2.2.1 else 1152921504606846976
 |0,m,j,g,hij,hj,hm,hG,hgv=>by
  obtain ⟨m,rfl⟩:=aq (m:=m) (by omega)
  refine ⟨g,?_,hG,fun i' k' h1 h2=>?_⟩
  ·simp only[tS]
   rw[decide_eq_false (by omega),cond_false]
  ·rw[hgv i' k' h1 h2]
   by_cases q:i'≤k'∧i'<i+1
   ·rw[if_pos q,if_pos (by omega)]
   ·rw[if_neg q,if_neg (by omega)]
 |d+1,m,j,g,hij,hj,hm,hG,hgv=>by
  obtain ⟨m,rfl⟩:=aq (m:=m) (by omega)
  have hlt:j<n:=by omega
  have l0:=h0.len
  have l1:=hG.len
  have r0:=h0.row i hi
  have r1:=hG.row i hi
  have hc:=hc0 i j hi hlt
  obtain ⟨g',e,h⟩:=I3 k f hn h0 hc0 c4 hw i hi d m (j+1) (gs g i j (adI (gg g0 i j) c4.2.2.2.1)) (by omega) (by omega) (by omega) (hG.set i _ _ hi) (fun i' k' h1 h2=>by
   rw[Ak hG _ hi hlt,hgv i' k' h1 h2]
   by_cases q:i'=i∧k'=j
   ·rw[if_pos q,if_pos (by omega),q.1,q.2]
   ·rw[if_neg q]
    by_cases q2:i'≤k'∧(i'<i∨i'=i∧k'<j)
    ·rw[if_pos q2,if_pos (by omega)]
    ·rw[if_neg q2,if_neg (by omega)])
  refine ⟨g',?_,h⟩
  unfold gs gg at e
  unfold gg at hc
  simp only[tS]
  rw[decide_eq_true (by omega),cond_true,if_pos (by omega),if_pos (by simp),show getD [g0] (Int.toNat 0) []=g0 from rfl,if_pos (by omega),tnI i,if_pos (by omega),tnI j,gn k _ _ hc hw,bind_some]
  simp only
  rw[if_pos (by omega),aM j n hlt (by omega),e]
  rfl
theorem I4 (k:Nat) (f:Am) (hk:10000000≤k) {n:Nat} (hn:n≤200000) {g0:GrT} {D:Rel} (h0:IsG n g0 D) (pD:Pos D) (c4:vp) (hw:Cst c4.2.2.2.1):∀(d m i:Nat) (g:GrT),i+d=n→d<m→GS n g→(∀i' k',i'<n→k'<n→gg g i' k'=if i'≤k'∧i'<i then adI (gg g0 i' k') c4.2.2.2.1 else 1152921504606846976) →
  ∃g',tT k f m (n:Int) (i:Int) c4 g [g0]=some ((),(g',()))∧IsG n g' (B6 D c4.2.2.2.1)
 |0,m,i,g,hi,hm,hG,hgv=>by
  obtain ⟨m,rfl⟩:=aq (m:=m) (by omega)
  refine ⟨g,?_,hG,fun i' k' h1 h2=>?_⟩
  ·simp only[tT]
   rw[decide_eq_false (by omega),cond_false]
  ·rw[hgv i' k' h1 h2]
   by_cases q:i'≤k'∧i'<i
   ·rw[if_pos q]
    exact (h0.min i' k' h1 h2).add hw.1
   ·rw[if_neg q]
    exact bg.inf fun c ⟨d,hd,_⟩=>by
     have:=pD _ _ _ hd
     omega
 |d+1,m,i,g,hi,hm,hG,hgv=>by
  obtain ⟨m,rfl⟩:=aq (m:=m) (by omega)
  have hlt:i<n:=by omega
  obtain ⟨g1,q1,q2,q3⟩:=I3 k f hn h0.gs (fun i k hi hk=>(h0.min i k hi hk).cst fun c h=>(pD _ _ _ h).2.1) c4 hw i hlt (n-i) k i g (Nat.le_refl _) (by omega) (by omega) hG (fun i' k' h1 h2=>by
   rw[hgv i' k' h1 h2]
   by_cases q:i'≤k'∧i'<i
   ·rw[if_pos q,if_pos (by omega)]
   ·rw[if_neg q,if_neg (by omega)])
  obtain ⟨g',e,h⟩:=I4 k f hk hn h0 pD c4 hw d m (i+1) g1 (by omega) (by omega) q2 q3
  refine ⟨g',?_,h⟩
  simp only[tT]
  rw[decide_eq_true (by omega),cond_true,q1,bind_some]
  simp only
  rw[aM i n hlt (by omega),e]
  rfl
def VF (D:Rel) (lo:Int) (q:Nat):Rel:=fun i k c=>∃m:Nat,lo≤(m:Int)∧m<q∧pw D m i k c
theorem n7 (k:Nat) (f:Am) (hk:10000000≤k) {n:Nat} (hn:n≤200000) {g0:GrT} {D:Rel} (h0:IsG n g0 D) (pD:Pos D) (lo:Int) (h:Nat) (hh:h≤1000000):∀(d m q:Nat) (best now:GrT),q+d=h+1→d<m→IsG n best (VF D lo q)→IsG n now (pw D q) →
  ∃g,lg k f m lo (h:Int) (q:Int) [g0] best now=some ((),(g,()))∧IsG n g (VF D lo (h+1))
 |0,m,q,best,now,hq,hm,hb,hw=>by
  obtain ⟨m,rfl⟩:=aq (m:=m) (by omega)
  obtain rfl:q=h+1:=by omega
  refine ⟨best,?_,hb⟩
  simp only[lg]
  rw[decide_eq_false (by omega),cond_false]
 |d+1,m,q,best,now,hq,hm,hb,hw=>by
  obtain ⟨m,rfl⟩:=aq (m:=m) (by omega)
  obtain ⟨n2,e2,h2⟩:=Ro k hk (by omega) hw h0 (fO pD q) pD
  have hz:(0:Int)≤0∧(0:Int)<(([g0].length:Nat):Int):=by simp
  simp only[lg]
  rw[decide_eq_true (by omega),cond_true,show getD [g0] (Int.toNat 0) []=g0 from rfl,aM q (h+1) (by omega) (by omega)]
  by_cases hlo:(q:Int)≥lo
  ·obtain ⟨b2,e1,h1⟩:=Rn k hk (by omega) hb hw
   obtain ⟨g,e,hg⟩:=n7 k f hk hn h0 pD lo h hh d m (q+1) b2 n2 (by omega) (by omega) (h1.congr fun i k c _ _=>by
    constructor
    ·rintro (⟨m',w1,w2,w3⟩ | w)
     ·exact ⟨m',w1,by omega,w3⟩
     ·exact ⟨q,hlo,by omega,w⟩
    ·rintro ⟨m',w1,w2,w3⟩
     by_cases hmq:m'=q
     ·subst hmq; exact .inr w3
     ·exact .inl ⟨m',w1,by omega,w3⟩) h2
   refine ⟨g,?_,hg⟩
   rw[decide_eq_true hlo,cond_true,e1,bind_some]
   simp only
   rw[if_pos hz,e2,bind_some]
   simp only
   rw[e]
   rfl
  ·obtain ⟨g,e,hg⟩:=n7 k f hk hn h0 pD lo h hh d m (q+1) best n2 (by omega) (by omega) (hb.congr fun i k c _ _=>by
    constructor
    ·rintro ⟨m',w1,w2,w3⟩
     exact ⟨m',w1,by omega,w3⟩
    ·rintro ⟨m',w1,w2,w3⟩
     exact ⟨m',w1,by omega,w3⟩) h2
   refine ⟨g,?_,hg⟩
   rw[decide_eq_false hlo,cond_false,if_pos hz,e2,bind_some]
   simp only
   rw[e]
   rfl
theorem I5 {D:Rel} (pD:Pos D):∀(m i k:Nat) (c:Int),pw D m i k c→∃m' d,m'≤k-i∧d≤c∧pw D m' i k d
 |0,i,k,c,h=>⟨0,c,Nat.zero_le _,Int.le_refl _,h⟩
 |m+1,i,k,c,⟨j,d,e,h1,h2,h3,h4⟩=>by
  have p1:=fO pD m _ _ _ h1
  have p2:=pD _ _ _ h2
  obtain ⟨m',d',g1,g2,g3⟩:=I5 pD m i j d h1
  by_cases hj:j=k
  ·subst hj
   exact ⟨m',d',g1,by omega,g3⟩
  ·exact ⟨m'+1,d'+e,by omega,by omega,j,d',e,g3,h2,rfl,by omega⟩
theorem UB {D:Rel} (pD:Pos D):Pos (Ai D):=fun i k c ⟨m,h⟩=>fO pD m _ _ _ h
theorem WV {D:Rel} (pD:Pos D) {w:Int} (hw:0≤w):Pos (B6 D w):=fun i k c ⟨d,h1,h2,h3⟩=>by
 have:=pD _ _ _ h1
 omega
theorem VG {f:Int→Nat→Bool} {fn:ByteArray→Int} {h:Nat} {x p q:bn} (a:x.a.1=4) (e:x.l=[p,q]):den f fn (h+1) x=eF (den f fn h p) (den f fn h q):=by
 conv=>lhs; unfold den
 rw[if_neg (by omega),if_pos a,e]
 rfl
theorem VH {f:Int→Nat→Bool} {fn:ByteArray→Int} {h:Nat} {x p q:bn} (a:x.a.1=5) (e:x.l=[p,q]):den f fn (h+1) x=orR (den f fn h p) (den f fn h q):=by
 conv=>lhs; unfold den
 rw[if_neg (by omega),if_neg (by omega),if_pos a,e]
 rfl
theorem VI {f:Int→Nat→Bool} {fn:ByteArray→Int} {h:Nat} {x p:bn} (a:x.a.1=6) (e:x.l=[p]):den f fn (h+1) x=Ai (den f fn h p):=by
 conv=>lhs; unfold den
 rw[if_neg (by omega),if_neg (by omega),if_neg (by omega),if_pos a,e]
 rfl
theorem VJ {f:Int→Nat→Bool} {fn:ByteArray→Int} {h:Nat} {x p:bn} (a:x.a.1=7) (e:x.l=[p]):den f fn (h+1) x=fun i k c=>∃m:Nat,x.a.2.1≤(m:Int)∧(m:Int)≤x.a.2.2.1∧pw (den f fn h p) m i k c:=by
 conv=>lhs; unfold den
 rw[if_neg (by omega),if_neg (by omega),if_neg (by omega),if_neg (by omega),if_neg (by omega),e]
 rfl
theorem VK {f:Int→Nat→Bool} {fn:ByteArray→Int} {h:Nat} {x p:bn} (a:x.a.1=8) (e:x.l=[p]):den f fn (h+1) x=B6 (den f fn h p) x.a.2.2.2.1:=by
 conv=>lhs; unfold den
 rw[if_neg (by omega),if_neg (by omega),if_neg (by omega),if_neg (by omega),if_pos a,e]
 rfl
theorem vQ {f:Int→Nat→Bool} {fn:ByteArray→Int} {h:Nat} {x:bn} (p:lI x):den f fn h x=nW f fn x:=by
 cases h with
 |zero=>rfl
 |succ h=>unfold den; exact if_pos (li p)
theorem fU {w:Bool} (f:Int→Nat→Bool) (fn:ByteArray→Int):∀(h:Nat) (x:bn),cr w h x→Pos (den f fn h x)
 |0,x,p=>by
  rw[vQ p]
  exact IR f fn x
 |h+1,x,p=>by
  rcases p with p | ⟨a,p,q,e,hp1,hq1⟩ | ⟨a,p,e,hp1⟩ | ⟨a,b,p,e,hp1⟩ | ⟨a,_,b,p,e,hp1⟩
  ·rw[vQ p]
   exact IR f fn x
  ·have g1:=fU f fn h p hp1
   have g2:=fU f fn h q hq1
   rcases a with a | a
   ·rw[VG a e]; exact IJ g1 g2
   ·rw[VH a e]; exact a8p g1 g2
  ·rw[VI a e]; exact UB (fU f fn h p hp1)
  ·rw[VJ a e]
   exact fun i k c ⟨m,_,_,h⟩=>fO (fU f fn _ p hp1) m _ _ _ h
  ·rw[VK a e]; exact WV (fU f fn h p hp1) b.1
theorem An {w:Bool} (fl:b7) (hfl:fl.1.length≤1000) (h4:∃t,fl.1=gy++t) (sets:List RgT) (hsl:sets.length=fl.1.length) (hg:RgL sets) (t:List Int) (ht:t.length≤1000):∀(h k:Nat) (x:bn),h≤5→cr w h x→h+10000000<k→∃g,R64 k x fl sets t=some ((g,()),())∧IsG (t.length+1) g (den (fS sets t) (fnd fl.1) h x):=by
 have hw1:IntKind.wrap .i64 (((t.length:Nat):Int)+1)=((t.length+1:Nat):Int):=aM t.length (t.length+1) (by omega) (by omega)
 have leaf:∀(h k:Nat) (x:bn),lI x→h+10000000<k→∃g,R64 k x fl sets t=some ((g,()),())∧IsG (t.length+1) g (den (fS sets t) (fnd fl.1) h x):=by
  intro h k x p hk
  obtain ⟨k,rfl⟩:∃k',k=k'+1:=⟨k-1,by omega⟩
  rw[vQ p]
  obtain ⟨p,hnil⟩:=p
  obtain ⟨L,e0,hL,_⟩:=nY k (R64 k) sets t ((t.length+1:Nat):Int) (x.a.1,(x.a.2.1,(x.a.2.2.1,(x.a.2.2.2.1,(x.a.2.2.2.2.1,(x.l,())))))) fl (fun _ _=>True) (by rw[hnil]; simp) (fun y hy=>by rw[hnil] at hy; cases hy) 0 k 0 [] (by rw[hnil]; rfl) (by omega) rfl
  rw[show ((0:Nat):Int)=0 from rfl] at e0
  show ∃g,B64 k (R64 k) x fl sets t=_∧_
  unfold B64
  simp only
  rw[hw1,e0,bind_some]
  simp only
  rcases p with p | ⟨p,pn⟩ | p
  ·obtain ⟨g,e,hG⟩:=IW k (t.length+1) (by omega) (by omega)
   refine ⟨g,?_,hG.congr fun i k c _ _=>⟨fun q=>.inl ⟨p,q⟩,fun q=>q.elim And.right fun q=>absurd p q.1⟩⟩
   rw[beq_iff_eq.2 p,cond_true,e,bind_some]
  ·obtain ⟨tl,h4⟩:=h4
   obtain ⟨g,e,hG⟩:=nZ k (R64 k) (by omega) fl hfl sets hg hsl t (by omega) (x.a.1,(x.a.2.1,(x.a.2.2.1,(x.a.2.2.2.1,(x.a.2.2.2.2.1,(x.l,())))))) (.inr ⟨p,WU h4 pn⟩) _ rfl t.length k 0 (jE (t.length+1)) (Nat.zero_add _) (by omega) (gT _) (fun i k hi hk=>by rw[gU hi hk,if_neg (by omega)])
   rw[show ((0:Nat):Int)=0 from rfl] at e
   refine ⟨g,?_,hG.congr fun i k c _ _=>⟨fun q=>.inr ⟨by omega,q⟩,fun q=>q.elim (fun q=>absurd q.1 (by omega)) And.right⟩⟩
   rw[beq_false_of_ne (by omega),cond_false,beq_iff_eq.2 p,cond_true,jv k _ (by omega) (by omega),bind_some]
   simp only
   rw[e,bind_some]
  ·obtain ⟨g,e,hG⟩:=nZ k (R64 k) (by omega) fl hfl sets hg hsl t (by omega) (x.a.1,(x.a.2.1,(x.a.2.2.1,(x.a.2.2.2.1,(x.a.2.2.2.2.1,(x.l,())))))) (.inl p) _ rfl t.length k 0 (jE (t.length+1)) (Nat.zero_add _) (by omega) (gT _) (fun i k hi hk=>by rw[gU hi hk,if_neg (by omega)])
   rw[show ((0:Nat):Int)=0 from rfl] at e
   refine ⟨g,?_,hG.congr fun i k c _ _=>⟨fun q=>.inr ⟨by omega,q⟩,fun q=>q.elim (fun q=>absurd q.1 (by omega)) And.right⟩⟩
   rw[beq_false_of_ne (by omega),cond_false,beq_false_of_ne (by omega),cond_false,beq_iff_eq.2 p,cond_true,jv k _ (by omega) (by omega),bind_some]
   simp only
   rw[e,bind_some]
 intro h
 induction h with
 |zero=>intro k x _ p hk; exact leaf 0 k x p hk
 |succ h ih =>
  intro k x h5 p hk
  rcases p with p | p
  ·exact leaf (h+1) k x p hk
  obtain ⟨k,rfl⟩:∃k',k=k'+1:=⟨k-1,by omega⟩
  have hrec:∀y,cr w h y→∃g,R64 k y fl sets t=some ((g,()),())∧IsG (t.length+1) g (den (fS sets t) (fnd fl.1) h y):=fun y hy=>ih k y (by omega) hy (by omega)
  have hpos:∀y,cr w h y→Pos (den (fS sets t) (fnd fl.1) h y):=fun y hy=>fU _ _ h y hy
  show ∃g,B64 k (R64 k) x fl sets t=_∧_
  have one:∀y,x.l=[y]→cr w h y→∃g,nD k (R64 k) k sets t ((t.length+1:Nat):Int) 0 (x.a.1,(x.a.2.1,(x.a.2.2.1,(x.a.2.2.2.1,(x.a.2.2.2.2.1,(x.l,())))))) fl []=some ((sets,t,((t.length+1:Nat):Int),()),((x.a.1,(x.a.2.1,(x.a.2.2.1,(x.a.2.2.2.1,(x.a.2.2.2.2.1,(x.l,())))))),fl,[g],()))∧IsG (t.length+1) g (den (fS sets t) (fnd fl.1) h y):=fun y hy hp=>by
   obtain ⟨L,e0,hL,hQ⟩:=nY k (R64 k) sets t ((t.length+1:Nat):Int) (x.a.1,(x.a.2.1,(x.a.2.2.1,(x.a.2.2.2.1,(x.a.2.2.2.2.1,(x.l,())))))) fl (fun y g=>IsG (t.length+1) g (den (fS sets t) (fnd fl.1) h y)) (by rw[hy]; simp) (fun z hz=>by
    rw[hy] at hz
    rw[List.mem_singleton.1 hz]
    exact hrec y hp) 1 k 0 [] (by rw[hy]; rfl) (by omega) rfl
   match L,hL with
   | [g],_ =>
    obtain ⟨z,g',q1,q2,q3⟩:=hQ 0 (by omega)
    simp only[hy] at q1
    injection q1 with q1
    injection q2 with q2
    subst q1 q2
    exact ⟨g,e0,q3⟩
  rcases p with ⟨a,p,q,e,hp1,hq1⟩ | ⟨a,p,e,hp1⟩ | ⟨a,b,p,e,hp1⟩ | ⟨a,_,b,p,e,hp1⟩
  ·obtain ⟨L,e0,hL,hQ⟩:=nY k (R64 k) sets t ((t.length+1:Nat):Int) (x.a.1,(x.a.2.1,(x.a.2.2.1,(x.a.2.2.2.1,(x.a.2.2.2.2.1,(x.l,())))))) fl (fun y g=>IsG (t.length+1) g (den (fS sets t) (fnd fl.1) h y)) (by rw[e]; simp) (fun z hz=>by
    rw[e] at hz
    rcases List.mem_cons.1 hz with g | g
    ·rw[g]; exact hrec p hp1
    ·rw[List.mem_singleton.1 g]; exact hrec q hq1) 2 k 0 [] (by rw[e]; rfl) (by omega) rfl
   match L,hL with
   | [g1,g2],_ =>
    obtain ⟨z,g',q1,q2,q3⟩:=hQ 0 (by omega)
    obtain ⟨z',g'',r1,r2,r3⟩:=hQ 1 (by omega)
    simp only[e] at q1 r1
    injection q1 with q1
    injection q2 with q2
    injection r1 with r1
    injection r2 with r2
    subst q1 q2 r1 r2
    rw[show ((0:Nat):Int)=0 from rfl,nil_append] at e0
    have i0:(0:Int)≤0∧(0:Int)<((([g1,g2]:List GrT).length:Nat):Int):=by simp only[length_cons,List.length_nil]; omega
    have i1:(0:Int)≤1∧(1:Int)<((([g1,g2]:List GrT).length:Nat):Int):=by simp only[length_cons,List.length_nil]; omega
    unfold B64
    simp only
    rw[hw1,e0,bind_some]
    simp only
    rcases a with a | a
    ·obtain ⟨g,eg,hG⟩:=Ro k (by omega) (by omega) q3 r3 (hpos _ hp1) (hpos _ hq1)
     refine ⟨g,?_,by rw[VG a e]; exact hG⟩
     rw[a,show ((4:Int)==1)=false from rfl,cond_false,show ((4:Int)==2)=false from rfl,cond_false,show ((4:Int)==3)=false from rfl,cond_false,show ((4:Int)==5)=false from rfl,cond_false,show ((4:Int)==4)=true from rfl,cond_true,if_pos i0,if_pos i1]
     simp only[show Int.toNat 0=0 from rfl,show Int.toNat 1=1 from rfl,List.getD_cons_zero,List.getD_cons_succ]
     rw[eg,bind_some]
    ·obtain ⟨g,eg,hG⟩:=Rn k (by omega) (by omega) q3 r3
     refine ⟨g,?_,by rw[VH a e]; exact hG⟩
     rw[a,show ((5:Int)==1)=false from rfl,cond_false,show ((5:Int)==2)=false from rfl,cond_false,show ((5:Int)==3)=false from rfl,cond_false,show ((5:Int)==5)=true from rfl,cond_true,if_pos i0,if_pos i1]
     simp only[show Int.toNat 0=0 from rfl,show Int.toNat 1=1 from rfl,List.getD_cons_zero,List.getD_cons_succ]
     rw[eg,bind_some]
  ·obtain ⟨g1,e0,hg1⟩:=one p e hp1
   obtain ⟨gu,eu,hu⟩:=IW k (t.length+1) (by omega) (by omega)
   have hP:=hpos _ hp1
   obtain ⟨g,eg,hG⟩:=n7 k (R64 k) (by omega) (by omega) hg1 hP 0 (t.length+1) (by omega) (t.length+2) k 0 (jE (t.length+1)) gu (by omega) (by omega) ⟨gT _,fun i k hi hk=>by
    rw[gU hi hk]
    exact bg.inf fun c ⟨m,_,h,_⟩=>by omega⟩ hu
   rw[show ((0:Nat):Int)=0 from rfl] at eg
   refine ⟨g,?_,?_⟩
   ·unfold B64
    simp only
    rw[hw1,e0,bind_some]
    simp only
    rw[a,show ((6:Int)==1)=false from rfl,cond_false,show ((6:Int)==2)=false from rfl,cond_false,show ((6:Int)==3)=false from rfl,cond_false,show ((6:Int)==5)=false from rfl,cond_false,show ((6:Int)==4)=false from rfl,cond_false,show ((6:Int)==8)=false from rfl,cond_false,show ((6:Int)==6)=true from rfl,cond_true,jv k _ (by omega) (by omega),bind_some,eu,bind_some]
    simp only
    rw[eg,bind_some]
   ·rw[VI a e]
    refine ⟨hG.gs,fun i k hi hk=>?_⟩
    have hm:=hG.min i k hi hk
    refine ⟨hm.le,fun c ⟨m,hc⟩=>?_,fun q=>?_⟩
    ·obtain ⟨m',d,w1,w2,w3⟩:=I5 hP m i k c hc
     have:=hm.lb d ⟨m',by omega,by omega,w3⟩
     omega
    ·obtain ⟨m,_,_,h⟩:=hm.at_ q
     exact ⟨m,h⟩
  ·obtain ⟨g1,e0,hg1⟩:=one p e hp1
   obtain ⟨gu,eu,hu⟩:=IW k (t.length+1) (by omega) (by omega)
   have hP:=hpos _ hp1
   obtain ⟨g,eg,hG⟩:=n7 k (R64 k) (by omega) (by omega) hg1 hP x.a.2.1 x.a.2.2.1.toNat (by omega) (x.a.2.2.1.toNat+1) k 0 (jE (t.length+1)) gu (by omega) (by omega) ⟨gT _,fun i k hi hk=>by
    rw[gU hi hk]
    exact bg.inf fun c ⟨m,_,h,_⟩=>by omega⟩ hu
   rw[show ((0:Nat):Int)=0 from rfl,show ((x.a.2.2.1.toNat:Nat):Int)=x.a.2.2.1 by omega] at eg
   refine ⟨g,?_,?_⟩
   ·unfold B64
    simp only
    rw[hw1,e0,bind_some]
    simp only
    rw[a,show ((7:Int)==1)=false from rfl,cond_false,show ((7:Int)==2)=false from rfl,cond_false,show ((7:Int)==3)=false from rfl,cond_false,show ((7:Int)==5)=false from rfl,cond_false,show ((7:Int)==4)=false from rfl,cond_false,show ((7:Int)==8)=false from rfl,cond_false,show ((7:Int)==6)=false from rfl,cond_false,jv k _ (by omega) (by omega),bind_some,eu,bind_some]
    simp only
    rw[eg,bind_some]
   ·rw[VJ a e]
    exact hG.congr fun i k c _ _=>⟨fun ⟨m,w1,w2,w3⟩=>⟨m,w1,by omega,w3⟩,fun ⟨m,w1,w2,w3⟩=>⟨m,w1,by omega,w3⟩⟩
  ·obtain ⟨g1,e0,hg1⟩:=one p e hp1
   have hP:=hpos _ hp1
   obtain ⟨g,eg,hG⟩:=I4 k (R64 k) (by omega) (by omega) hg1 hP (x.a.1,(x.a.2.1,(x.a.2.2.1,(x.a.2.2.2.1,(x.a.2.2.2.2.1,(x.l,())))))) (by unfold Cst; simp only; omega) (t.length+1) k 0 (jE (t.length+1)) (Nat.zero_add _) (by omega) (gT _) (fun i k hi hk=>by rw[gU hi hk,if_neg (by omega)])
   rw[show ((0:Nat):Int)=0 from rfl] at eg
   refine ⟨g,?_,by rw[VK a e]; exact hG⟩
   unfold B64
   simp only
   rw[hw1,e0,bind_some]
   simp only
   rw[beq_false_of_ne (by omega),cond_false,beq_false_of_ne (by omega),cond_false,beq_false_of_ne (by omega),cond_false,beq_false_of_ne (by omega),cond_false,beq_false_of_ne (by omega),cond_false,beq_iff_eq.2 a,cond_true,jv k _ (by omega) (by omega),bind_some]
   simp only
   rw[eg,bind_some]
end Go.Proofs.YtgmmopbpldgpcaaE
set_option linter.unusedSimpArgs false
set_option linter.unusedVariables false
set_option maxRecDepth 20000
namespace Go.Proofs.YtgmmopbpldgpcaaE
def kF (g:GrT) (i:Nat):Nat→Int
 |0=>1152921504606846976
 |j+1=>aK (kF g i j) (gg g j i)
def jF (g:GrT) (i:Nat):Nat→Bool
 |0=>false
 |j+1=>jF g i j||decide (gg g i j<1152921504606846976)
theorem vR {n:Nat} {g:GrT} {D:Rel} (h:IsG n g D) {i:Nat} (hi:i<n):∀j,j≤n→bg (kF g i j) (fun c=>∃j',j'<j∧D j' i c)
 |0,_=>bg.inf fun c ⟨j',q,_⟩=>by omega
 |j+1,hj=>by
  refine ((vR h hi j (by omega)).min (h.min j i (by omega) hi)).congr fun c=>?_
  constructor
  ·rintro (⟨j',h1,h2⟩ | q)
   ·exact ⟨j',by omega,h2⟩
   ·exact ⟨j,by omega,q⟩
  ·rintro ⟨j',h1,h2⟩
   by_cases e:j'=j
   ·subst e; exact .inr h2
   ·exact .inl ⟨j',by omega,h2⟩
theorem I6 {n:Nat} {g:GrT} {D:Rel} (h:IsG n g D) (pD:Pos D) {i:Nat} (hi:i<n):∀j,j≤n→(jF g i j=true↔∃j' c,j'<j∧D i j' c)
 |0,_=>⟨fun q=>(by cases q),fun ⟨j',c,q,_⟩=>by omega⟩
 |j+1,hj=>by
  have ih:=I6 h pD hi j (by omega)
  have hm:=h.min i j hi (by omega)
  unfold jF
  rw[Bool.or_eq_true,decide_eq_true_eq,ih]
  constructor
  ·rintro (⟨j',c,h1,h2⟩ | q)
   ·exact ⟨j',c,by omega,h2⟩
   ·exact ⟨j,_,by omega,hm.at_ q⟩
  ·rintro ⟨j',c,h1,h2⟩
   by_cases e:j'=j
   ·subst e
    have:=hm.lb c h2
    have:=pD _ _ _ h2
    exact .inr (by omega)
   ·exact .inl ⟨j',c,by omega,h2⟩
theorem I7 (k:Nat) (t:List Int) (fl:b7) (n:Nat) (hn:n=t.length+1) (hn2:n≤1000000):∀(d m i:Nat),i+d=n→d<m →
  tU k m t (i:Int) fl (replicate i cz++replicate d (replicate 3 0))=some ((t,()),(fl,replicate n cz,()))
 |0,m,i,hi,hm=>by
  obtain ⟨m,rfl⟩:=aq (m:=m) (by omega)
  simp only[tU]
  rw[replicate_zero,append_nil,decide_eq_false (by omega),cond_false,show i=n by omega]
 |d+1,m,i,hi,hm=>by
  obtain ⟨m,rfl⟩:=aq (m:=m) (by omega)
  have hset:List.set (replicate i cz++replicate (d+1) (replicate 3 (0:Int))) i cz=replicate (i+1) cz++replicate d (replicate 3 0):=by
   rw[List.set_append_right _ _ (by simp),List.length_replicate,Nat.sub_self,List.replicate_succ,List.set_cons_zero,show replicate (i+1) cz=replicate i cz++[cz] from List.replicate_succ',append_assoc]
   rfl
  have hbl:(replicate i cz++replicate (d+1) (replicate 3 (0:Int))).length=n:=by simp; omega
  simp only[tU]
  unfold F30
  rw[decide_eq_true (by omega),cond_true,bind_some]
  simp only
  rw[if_pos (by omega),tnI i,show List.set (List.set (List.set (replicate 3 (0:Int)) 0 (1152921504606846976:Int)) 1 (1152921504606846976:Int)) 2 (1152921504606846976:Int)=cz from rfl,hset,aM i n (by omega) (by omega),I7 k t fl n hn hn2 d m (i+1) (by omega) (by omega)]
  rfl
section
variable {t:List Int} {n:Nat} (hn:n=t.length+1) (hn2:n≤1000000) {a b:GrT} (ha:GS n a) (hb:GS n b) (fl:b7) (r:ct) (sets:List RgT)
theorem I8 (k:Nat) (hn:n=t.length+1) (hn2:n≤1000000) (ha:GS n a) (hb:GS n b) (t8:Int) (out:List (List Int)) (i:Nat) (hi:i<n):∀(d m j:Nat),j+d=n→d<m →
  nF k m t t8 (i:Int) (jF b i j) (kF a i j) (j:Int) fl r out sets a b=some ((t,t8,(i:Int),jF b i n,kF a i n,()),(fl,r,out,sets,a,b,()))
 |0,m,j,hj,hm=>by
  obtain ⟨m,rfl⟩:=aq (m:=m) (by omega)
  obtain rfl:j=n:=by omega
  simp only[nF]
  rw[decide_eq_false (by omega),cond_false]
 |d+1,m,j,hj,hm=>by
  obtain ⟨m,rfl⟩:=aq (m:=m) (by omega)
  have l1:=ha.len
  have l2:=hb.len
  have r1:=ha.row j (by omega)
  have r2:=hb.row i hi
  have ih:=I8 k hn hn2 ha hb t8 out i hi d m (j+1) (by omega) (by omega)
  have hw:IntKind.wrap .i64 ((j:Int)+1)=((j+1:Nat):Int):=aM j n (by omega) (by omega)
  have hc:kF a i (j+1)=aK (kF a i j) (getD (getD a j []) i 0):=rfl
  have hh:jF b i (j+1)=(jF b i j||decide (getD (getD b i []) j 0<1152921504606846976)):=rfl
  rw[hc,hh] at ih
  simp only[nF]
  rw[decide_eq_true (by omega),cond_true]
  cases hb':jF b i j with
  |true =>
   rw[hb',Bool.true_or] at ih
   rw[cond_true,if_pos (by omega),tnI j,if_pos (by omega),tnI i,hw,ih]
   rfl
  |false =>
   rw[hb',Bool.false_or] at ih
   rw[cond_false,if_pos (by omega),tnI i,if_pos (by omega),tnI j,if_pos (by omega),if_pos (by omega),hw,ih]
   rfl
def I9 (r:ct) (a b:GrT) (n i:Nat) (v:List Int):List Int:=if jF b i n then iX r (kF a i n) v else v
theorem vS (k:Nat) (hk:10000000≤k) (hn:n=t.length+1) (hn2:n≤1000000) (ha:GS n a) (hb:GS n b) (hr:rG r) (hca:∀i,i<n→Cst (kF a i n)) (t8:Int) (base:Nat→List Int):∀(d m i:Nat) (out:List (List Int)),i+d=n→d<m→out.length=n→(∀i',i'<n→getD out i' []=if i'<i then I9 r a b n i' (base i') else base i') →
  ∃out',nG k m t t8 (i:Int) fl r out sets a b=some ((t,t8,()),(fl,out',sets,()))∧out'.length=n∧∀i',i'<n→getD out' i' []=I9 r a b n i' (base i')
 |0,m,i,out,hi,hm,ho,hv=>by
  obtain ⟨m,rfl⟩:=aq (m:=m) (by omega)
  refine ⟨out,?_,ho,fun i' h=>by rw[hv i' h,if_pos (by omega)]⟩
  simp only[nG]
  rw[decide_eq_false (by omega),cond_false]
 |d+1,m,i,out,hi,hm,ho,hv=>by
  obtain ⟨m,rfl⟩:=aq (m:=m) (by omega)
  have hlt:i<n:=by omega
  have e1:=I8 fl r sets k hn hn2 ha hb t8 out i hlt n k 0 (Nat.zero_add _) (by omega)
  rw[show ((0:Nat):Int)=0 from rfl,show jF b i 0=false from rfl,show kF a i 0=1152921504606846976 from rfl] at e1
  have hw:IntKind.wrap .i64 ((i:Int)+1)=((i+1:Nat):Int):=aM i n (by omega) (by omega)
  have hc:=hca i hlt
  have hio:(0:Int)≤(i:Int)∧(i:Int)<((out.length:Nat):Int):=by omega
  obtain ⟨q0,q1⟩:=hr.1
  have q2:(0:Int)≤r.1∧r.1<((3:Nat):Int):=by omega
  have hbi:=hv i hlt
  rw[if_neg (by omega)] at hbi
  simp only[nG]
  rw[decide_eq_true (by omega),cond_true,e1,bind_some]
  simp only
  cases hh:jF b i n with
  |true =>
   obtain ⟨out',e2,h⟩:=vS k hk hn hn2 ha hb hr hca t8 base d m (i+1) (List.set out i (iX r (kF a i n) (getD out i []))) (by omega) (by omega) (by rw[length_set]; exact ho) (fun i' h'=>by
    by_cases q:i'=i
    ·subst q
     rw[cS (by omega),if_pos (by omega),hbi]
     unfold I9
     rw[hh,if_pos rfl]
    ·rw[bL q,hv i' h']
     by_cases q3:i'<i
     ·rw[if_pos q3,if_pos (by omega)]
     ·rw[if_neg q3,if_neg (by omega)])
   refine ⟨out',?_,h⟩
   unfold iX at e2
   rw[cond_true,if_pos hio,if_pos q2,if_pos hio,tnI i,gn k _ _ hr.2 hc,bind_some]
   simp only
   rw[if_pos q2,hw,e2]
   rfl
  |false =>
   obtain ⟨out',e2,h⟩:=vS k hk hn hn2 ha hb hr hca t8 base d m (i+1) out (by omega) (by omega) ho (fun i' h'=>by
    rw[hv i' h']
    by_cases q:i'=i
    ·subst q
     rw[if_neg (by omega),if_pos (by omega)]
     unfold I9
     rw[hh,if_neg (by simp)]
    ·by_cases q3:i'<i
     ·rw[if_pos q3,if_pos (by omega)]
     ·rw[if_neg q3,if_neg (by omega)])
   refine ⟨out',?_,h⟩
   rw[cond_false,hw,e2]
   rfl
end
theorem ui (r:ct) (e:Int) (b:Bool):∀(rs:List ct) (E:List Int) (H:List Bool) (v:List Int),E.length=rs.length→H.length=rs.length→cV (rs++[r]) (E++[e]) (H++[b]) v=if b then iX r e (cV rs E H v) else cV rs E H v
 | [],[],[],v,_,_=>by cases b<;>rfl
 | [],_::_,_,v,h,_=>by simp at h
 | [],[],_::_,v,_,h=>by simp at h
 |_::_,[],_,v,h,_=>by simp at h
 |_::_,_::_,[],v,_,h=>by simp at h
 |r'::rs,e'::E,b'::H,v,h1,h2=>by
  show cV (rs++[r]) (E++[e]) (H++[b]) (if b' then iX r' e' v else v)=if b then iX r e (cV rs E H (if b' then iX r' e' v else v)) else cV rs E H (if b' then iX r' e' v else v)
  exact ui r e b rs E H _ (by simpa using h1) (by simpa using h2)
def gOf (k:Nat) (fl:b7) (sets:List RgT) (t:List Int) (x:bn):GrT:=match F64 k x fl sets t with
 |some r=>r.1.1
 |none=>[]
theorem Ao {k:Nat} {fl:b7} {sets:List RgT} {t:List Int} {x:bn} {n:Nat} {D:Rel} (h:∃g,F64 k x fl sets t=some ((g,()),())∧IsG n g D):F64 k x fl sets t=some ((gOf k fl sets t x,()),())∧IsG n (gOf k fl sets t x) D:=by
 obtain ⟨g,e,hg⟩:=h
 unfold gOf
 rw[e]
 exact ⟨rfl,hg⟩
def esR (k:Nat) (fl:b7) (sets:List RgT) (t:List Int) (i:Nat):List Int:=fl.2.1.map fun r=>kF (gOf k fl sets t r.2.2.1) i (t.length+1)
def hsR (k:Nat) (fl:b7) (sets:List RgT) (t:List Int) (i:Nat):List Bool:=fl.2.1.map fun r=>jF (gOf k fl sets t r.2.2.2.1) i (t.length+1)
theorem Ja (k:Nat) (hk:20000000≤k) (fl:b7) (hfl:fl.1.length≤1000) (h4:∃t,fl.1=gy++t) (sets:List RgT) (hsl:sets.length=fl.1.length) (hg:RgL sets) (t:List Int) (ht:t.length≤1000) (hrs:∀r∈fl.2.1,nQ r) (hrl:fl.2.1.length≤1000):∀(d m q:Nat) (out:List (List Int)),q+d=fl.2.1.length→d<m→out.length=t.length+1→(∀i,i<t.length+1→getD out i []=cV (fl.2.1.take q) ((esR k fl sets t i).take q) ((hsR k fl sets t i).take q) cz) →
  ∃out',tV k m t (q:Int) fl out sets=some ((),(out',()))∧out'.length=t.length+1∧∀i,i<t.length+1→getD out' i []=cV fl.2.1 (esR k fl sets t i) (hsR k fl sets t i) cz
 |0,m,q,out,hq,hm,ho,hv=>by
  obtain ⟨m,rfl⟩:=aq (m:=m) (by omega)
  refine ⟨out,?_,ho,fun i hi=>?_⟩
  ·simp only[tV]
   rw[decide_eq_false (by omega),cond_false]
  ·rw[hv i hi,List.take_of_length_le (by omega),List.take_of_length_le (by unfold esR; rw[length_map]; omega),List.take_of_length_le (by unfold hsR; rw[length_map]; omega)]
 |d+1,m,q,out,hq,hm,ho,hv=>by
  obtain ⟨m,rfl⟩:=aq (m:=m) (by omega)
  have hlt:q<fl.2.1.length:=by omega
  have hr:=hrs _ (List.getElem_mem hlt)
  have hr2:=hr
  obtain ⟨⟨p1,p2⟩,_⟩:=hr2
  obtain ⟨e1,g1⟩:=Ao (An fl hfl h4 sets hsl hg t ht 5 k _ (Nat.le_refl _) p1 (by omega))
  obtain ⟨e2,g2⟩:=Ao (An fl hfl h4 sets hsl hg t ht 5 k _ (Nat.le_refl _) p2 (by omega))
  have hget:getD fl.2.1 q ((0:Int),((0:Int),((ae.mk ((0:Int),((0:Int),((0:Int),((0:Int),(ByteArray.empty,()))))) []:bn),((ae.mk ((0:Int),((0:Int),((0:Int),((0:Int),(ByteArray.empty,()))))) []:bn),()))))=fl.2.1[q]:=ak _ _ _ hlt
  have hpd:=fU (fS sets t) (fnd fl.1) 5 _ p1
  obtain ⟨o1,q1,q2,q3⟩:=vS (t:=t) (n:=t.length+1) fl fl.2.1[q] sets k (by omega) rfl (by omega) g1.gs g2.gs (Rd hr) (fun i hi=>(vR g1 hi (t.length+1) (Nat.le_refl _)).cst fun c ⟨j',_,h⟩=>(hpd _ _ _ h).2.1) (q:Int) (fun i=>cV (fl.2.1.take q) ((esR k fl sets t i).take q) ((hsR k fl sets t i).take q) cz) (t.length+1) k 0 out (Nat.zero_add _) (by omega) ho (fun i' h'=>by rw[hv i' h',if_neg (by omega)])
  rw[show ((0:Nat):Int)=0 from rfl] at q1
  obtain ⟨out',e,h⟩:=Ja k hk fl hfl h4 sets hsl hg t ht hrs hrl d m (q+1) o1 (by omega) (by omega) q2 (fun i hi=>by
   have l1:q<(esR k fl sets t i).length:=by unfold esR; rw[length_map]; exact hlt
   have l2:q<(hsR k fl sets t i).length:=by unfold hsR; rw[length_map]; exact hlt
   rw[q3 i hi,List.take_succ_eq_append_getElem hlt,List.take_succ_eq_append_getElem l1,List.take_succ_eq_append_getElem l2,ui _ _ _ _ _ _ _ (by rw[length_take,length_take]; omega) (by rw[length_take,length_take]; omega)]
   unfold I9
   simp only[esR,hsR,List.getElem_map])
  refine ⟨out',?_,h⟩
  have e1':F64 k (fl.2.1[q]).2.2.1 fl sets t=_:=e1
  have e2':F64 k (fl.2.1[q]).2.2.2.1 fl sets t=_:=e2
  simp only[tV]
  rw[dlt hlt,cond_true,if_pos (inR hlt),tnI q,hget,e1',bind_some,e2',bind_some]
  simp only
  rw[q1,bind_some]
  simp only
  rw[aM q _ hlt (by omega),e]
  rfl
theorem a9p (k:Nat) (hk:20000000≤k) (fl:b7) (hfl:fl.1.length≤1000) (h4:∃t,fl.1=gy++t) (sets:List RgT) (hF:F37 k fl=some ((sets,()),())) (hsl:sets.length=fl.1.length) (hg:RgL sets) (t:List Int) (ht:t.length≤1000) (hrs:∀r∈fl.2.1,nQ r) (hrl:fl.2.1.length≤1000):∃out,F28 k fl t=some ((out,()),())∧out.length=t.length+1∧∀i,i<t.length+1→getD out i []=cV fl.2.1 (esR k fl sets t i) (hsR k fl sets t i) cz:=by
 have e0:=I7 k t fl (t.length+1) rfl (by omega) (t.length+1) k 0 (Nat.zero_add _) (by omega)
 rw[show ((0:Nat):Int)=0 from rfl,replicate_zero,nil_append] at e0
 obtain ⟨out,e,h⟩:=Ja k hk fl hfl h4 sets hsl hg t ht hrs hrl fl.2.1.length k 0 (replicate (t.length+1) cz) (Nat.zero_add _) (by omega) (by simp) (fun i hi=>by
  rw[ak _ _ _ (by simpa using hi),getElem_replicate]
  rfl)
 rw[show ((0:Nat):Int)=0 from rfl] at e
 refine ⟨out,?_,h⟩
 have hw1:IntKind.wrap .i64 (((t.length:Nat):Int)+1)=((t.length+1:Nat):Int):=aM t.length (t.length+1) (by omega) (by omega)
 unfold F28
 simp only
 rw[hw1,if_pos (by omega),tnI (t.length+1),e0,bind_some]
 simp only
 rw[hF,bind_some]
 simp only
 rw[e,bind_some]
theorem B8 {w:Bool} {fl:b7} {I:InT} {N:Nat} {x:bn} {s':ag} (h:vK fl I x s') (hx:cr w 5 x) {sets:List RgT} (hsl:sets.length=fl.1.length) {t:List Int} {xs:List Nat} (hxl:xs.length=t.length) (hlet:∀j (h:j<xs.length) (h2:j<t.length),ID sets I N t[j] xs[j]) (i k:Nat) (hk:k≤t.length):(∀c,Acc s' (rI sets s' t) i k c→∃d,d≤c∧den (fS sets t) (fnd fl.1) 5 x i k d)∧∀c,den (fS sets t) (fnd fl.1) 5 x i k c→∃d,d≤c∧Acc s' (rI sets s' t) i k d:=by
 obtain ⟨_,z,a,b,c,h⟩:=h
 have hfn:∀nm,-1≤fnd fl.1 nm∧fnd fl.1 nm<((sets.length:Nat):Int):=fun nm=>by have:=jp fl.1 nm; omega
 have hG:=gp (fnd fl.1) sets.length hfn 5 x (by omega) hx
 have hsv:=hG.sdv (by have:=iS 5 (by omega); omega)
 have hE:=i6 (fS sets t) (fnd fl.1) sets.length hfn 5 x (Nat.le_refl _) hx
 have hT:∀e,cM (fS sets t) s' i k e↔cM (fS sets t) (aX (fnd fl.1) 5 x) i k e:=fun e=>Uv h hsv (fS sets t) (L:=t.length) (fun p j hp hj ho=>⟨xs[j]'(by omega),by
  rw[IG (fun y hy=>(hG.sets y hy).2) hxl hlet p j hp (by omega)]
  exact ho⟩) hk
 constructor
 ·intro c hc
  exact hE.2 i k c ((hT c).1 hc)
 ·intro c hc
  obtain ⟨d,h1,h2⟩:=hE.1 i k c hc
  exact ⟨d,h1,(hT d).2 h2⟩
theorem bg.dom {V:Int} {S T:Int→Prop} (h:bg V S) (h1:∀c,T c→∃d,d≤c∧S d) (h2:∀c,S c→∃d,d≤c∧T d):bg V T:=by
 refine ⟨h.le,fun c hc=>?_,fun q=>?_⟩
 ·obtain ⟨d,g1,g2⟩:=h1 c hc
  have:=h.lb d g2
  omega
 ·obtain ⟨d,g1,g2⟩:=h2 V (h.at_ q)
  obtain ⟨e,g3,g4⟩:=h1 d g2
  have:=h.lb e g4
  rwa [show V=d by omega]
theorem Jb (I:InT) (ss:List ag) (hs:∀s∈ss,SOC s) (i:Nat) (h:i<ss.length):∀(t:List Nat) (z:bI),ShW ss z→getD (stF (a7 I ss) z t) i []=t.foldl (fun r a=>dI I ss[i] a r) (getD z i [])
 | [],z,hz=>rfl
 |a::t,z,hz=>by
  have hl:=B1 hz
  have hz2:=fN (I:=I) (a:=a) hs hz
  have hl2:=B1 hz2
  show getD (stF (a7 I ss) (a7 I ss z a) t) i []=t.foldl _ (dI I ss[i] a (getD z i []))
  rw[Jb I ss hs i h t _ hz2]
  have:getD (a7 I ss z a) i []=dI I ss[i] a (getD z i []):=by
   rw[ak _ _ _ (by omega),ak z i [] (by omega)]
   exact List.getElem_zipWith ..
  rw[this]
theorem Mp (I:InT) (ss:List ag) (hs:∀s∈ss,SOC s) (i:Nat) (h:i<ss.length) (t:List Nat):getD (er ss (stF (a7 I ss) (dQ ss) t)) i 0=lL ss[i] (t.foldl (fun r a=>dI I ss[i] a r) (replicate ss[i].1.length bw)):=by
 have hsh:ShW ss (stF (a7 I ss) (dQ ss) t):=by
  have key:∀(t:List Nat) (z:bI),ShW ss z→ShW ss (stF (a7 I ss) z t):=by
   intro t
   induction t with
   |nil=>exact fun z hz=>hz
   |cons a t ih=>exact fun z hz=>ih _ (fN hs hz)
  exact key t _ (iY ss)
 have hl:=B1 hsh
 have hl2:=rF hsh
 have e:=Jb I ss hs i h t _ (iY ss)
 have e0:getD (dQ ss) i []=replicate ss[i].1.length bw:=by
  rw[ak _ _ _ (by simpa[dQ] using h)]
  simp[dQ]
 rw[e0,ak _ _ _ (by omega)] at e
 rw[ak _ _ _ (by omega),←e]
 exact List.getElem_zipWith ..
theorem WW (k:Nat) (hk:20000000≤k) (a0:List eB) (a1 a2:List Int) (h1:a1.length≤100000000000000):F14 k a0=some ((false,()),())∨F14 k a0=some ((true,()),())∧((∃w,F15 k a0 a1 a2=some ((w,false,()),()))∨∃w N sets,F15 k a0 a1 a2=some ((w,true,()),())∧WS k a0 a1 w N sets):=by
 obtain ⟨b,e14,hb⟩:=a9k k a0 (by omega)
 cases b with
 |false=>exact .inl e14
 |true=>exact .inr ⟨e14,a7s k a0 a1 a2 hk (hb rfl).2 h1⟩
end Go.Proofs.YtgmmopbpldgpcaaE

