/- Plain laws. Conditions: none. -/
import Derived.Test.YtibammoednhnoaaP0
set_option linter.unusedSimpArgs false
set_option linter.unusedVariables false
set_option maxRecDepth 20000
open List (append_assoc append_nil drop_eq_getElem_cons drop_eq_nil_of_le drop_zero getD getD_eq_getElem?_getD getElem?_map getElem_map getElem_mem getElem_replicate length length_append length_cons length_map length_nil length_set length_singleton map_append map_take mem_cons_of_mem mem_cons_self nil_append range' replicate replicate_zero take_append_drop take_zero)
open Option (bind_some getD_some isSome_some)
open Nat (zero_le)
namespace Go.Proofs.YtibammoednhnoaaE
abbrev Rel:=Nat→Nat→Int→Prop
def comp (A B:Rel):Rel:=fun i k c=>∃j d e,A i j d∧B j k e∧c=d+e∧c<1152921504606846976
def eps:Rel:=fun i k c=>i=k∧c=0
def orR (A B:Rel):Rel:=fun i k c=>A i k c∨B i k c
def pw (A:Rel):Nat→Rel
 |0=>eps
 |m+1=>comp (pw A m) A
def Dom (A B:Rel):Prop:=∀i k c,B i k c→∃d,d≤c∧A i k d
def Eqv (A B:Rel):Prop:=Dom A B∧Dom B A
def Pos (A:Rel):Prop:=∀i k c,A i k c→i≤k∧0≤c∧c<1152921504606846976
theorem Dom.rfl {A:Rel}:Dom A A:=fun i k c h=>⟨c,Int.le_refl _,h⟩
theorem Dom.trans {A B C:Rel} (h:Dom A B) (g:Dom B C):Dom A C:=fun i k c q=>by
 obtain ⟨d,h1,h2⟩:=g i k c q
 obtain ⟨e,h3,h4⟩:=h i k d h2
 exact ⟨e,by omega,h4⟩
theorem Dom.of {A B:Rel} (h:∀i k c,B i k c→A i k c):Dom A B:=fun i k c q=>⟨c,Int.le_refl _,h i k c q⟩
theorem Eqv.rfl {A:Rel}:Eqv A A:=⟨.rfl,.rfl⟩
theorem Eqv.symm {A B:Rel} (h:Eqv A B):Eqv B A:=⟨h.2,h.1⟩
theorem Eqv.trans {A B C:Rel} (h:Eqv A B) (g:Eqv B C):Eqv A C:=⟨h.1.trans g.1,g.2.trans h.2⟩
theorem comp_dom {A B A' B':Rel} (h:Dom A A') (g:Dom B B'):Dom (comp A B) (comp A' B'):=fun i k c ⟨j,d,e,h1,h2,h3,h4⟩=>by
 obtain ⟨d',q1,q2⟩:=h i j d h1
 obtain ⟨e',q3,q4⟩:=g j k e h2
 exact ⟨d'+e',by omega,j,d',e',q2,q4,Eq.refl _,by omega⟩
theorem orR_dom {A B A' B':Rel} (h:Dom A A') (g:Dom B B'):Dom (orR A B) (orR A' B'):=fun i k c q=>by
 rcases q with q | q
 ·obtain ⟨d,h1,h2⟩:=h i k c q; exact ⟨d,h1,.inl h2⟩
 ·obtain ⟨d,h1,h2⟩:=g i k c q; exact ⟨d,h1,.inr h2⟩
theorem pw_dom {A A':Rel} (h:Dom A A'):∀m,Dom (pw A m) (pw A' m)
 |0=>.rfl
 |m+1=>comp_dom (pw_dom h m) h
theorem comp_eqv {A B A' B':Rel} (h:Eqv A A') (g:Eqv B B'):Eqv (comp A B) (comp A' B'):=⟨comp_dom h.1 g.1,comp_dom h.2 g.2⟩
theorem orR_eqv {A B A' B':Rel} (h:Eqv A A') (g:Eqv B B'):Eqv (orR A B) (orR A' B'):=⟨orR_dom h.1 g.1,orR_dom h.2 g.2⟩
theorem pw_eqv {A A':Rel} (h:Eqv A A') (m:Nat):Eqv (pw A m) (pw A' m):=⟨pw_dom h.1 m,pw_dom h.2 m⟩
theorem pos_eps:Pos eps:=fun i k c ⟨h1,h2⟩=>by omega
theorem pos_comp {A B:Rel} (h:Pos A) (g:Pos B):Pos (comp A B):=fun i k c ⟨j,d,e,h1,h2,h3,h4⟩=>by
 have:=h i j d h1
 have:=g j k e h2
 omega
theorem pos_or {A B:Rel} (h:Pos A) (g:Pos B):Pos (orR A B):=fun i k c q=>q.elim (h i k c) (g i k c)
theorem pos_pw {A:Rel} (h:Pos A):∀m,Pos (pw A m)
 |0=>pos_eps
 |m+1=>pos_comp (pos_pw h m) h
theorem comp_eps {A:Rel} (h:Pos A):Eqv (comp A eps) A:=by
 constructor
 ·refine .of fun i k c q=>⟨k,c,0,q,⟨Eq.refl _,Eq.refl _⟩,by omega,(h i k c q).2.2⟩
 ·refine .of fun i k c ⟨j,d,e,h1,⟨h2,h3⟩,h4,h5⟩=>?_
  subst h2 h3 h4
  rwa [Int.add_zero]
theorem comp_assoc {A B C:Rel} (ha:Pos A) (hb:Pos B) (hc:Pos C):Eqv (comp A (comp B C)) (comp (comp A B) C):=by
 constructor
 ·refine .of fun i k c ⟨j,d,e,⟨l,f,g,h1,h2,h3,h4⟩,h5,h6,h7⟩=>?_
  have:=ha _ _ _ h1
  exact ⟨l,f,g+e,h1,⟨j,g,e,h2,h5,Eq.refl _,by omega⟩,by omega,h7⟩
 ·refine .of fun i k c ⟨j,d,e,h1,⟨l,f,g,h2,h3,h4,h5⟩,h6,h7⟩=>?_
  have:=hc _ _ _ h3
  exact ⟨l,d+f,g,⟨j,d,f,h1,h2,Eq.refl _,by omega⟩,h3,by omega,h7⟩
def LeA (x y:ArcT):Prop:=x.1=y.1∧x.2.1=y.2.1∧x.2.2.1≤y.2.2.1
theorem LeA.rfl {x:ArcT}:LeA x x:=⟨Eq.refl _,Eq.refl _,Int.le_refl _⟩
theorem LeA.trans {x y z:ArcT} (h:LeA x y) (g:LeA y z):LeA x z:=⟨h.1.trans g.1,h.2.1.trans g.2.1,Int.le_trans h.2.2 g.2.2⟩
theorem insA_src (a:ArcT):∀(l:List ArcT) (x:ArcT),x∈insA a l→x=a∨x∈l
 | [],x,h=>.inl (List.mem_singleton.1 h)
 |b::l,x,h=>by
  unfold insA at h
  split at h
  ·rcases List.mem_cons.1 h with q | q
   ·exact .inr (by rw[q]; exact mem_cons_self)
   ·rcases insA_src a l x q with q | q
    ·exact .inl q
    ·exact .inr (mem_cons_of_mem _ q)
  ·split at h
   ·rename_i _ e
    rcases List.mem_cons.1 h with q | q
    ·obtain ⟨b1,b2,b3,bu⟩:=b
     obtain ⟨a1,a2,a3,au⟩:=a
     simp only at e q
     obtain ⟨rfl,rfl⟩:=e
     unfold minI at q
     split at q
     ·exact .inl q
     ·exact .inr (by rw[q]; exact mem_cons_self)
    ·exact .inr (mem_cons_of_mem _ q)
   ·rcases List.mem_cons.1 h with q | q
    ·exact .inl q
    ·exact .inr q
theorem insA_has (a:ArcT):∀(l:List ArcT) (y:ArcT),(y=a∨y∈l)→∃x∈insA a l,LeA x y
 | [],y,h=>by
  rcases h with rfl | h
  ·exact ⟨y,List.mem_singleton.2 rfl,.rfl⟩
  ·cases h
 |b::l,y,h=>by
  unfold insA
  split
  ·rcases h with h | h
   ·obtain ⟨x,h1,h2⟩:=insA_has a l y (.inl h)
    exact ⟨x,mem_cons_of_mem _ h1,h2⟩
   ·rcases List.mem_cons.1 h with h | h
    ·exact ⟨b,mem_cons_self,by rw[h]; exact .rfl⟩
    ·obtain ⟨x,h1,h2⟩:=insA_has a l y (.inr h)
     exact ⟨x,mem_cons_of_mem _ h1,h2⟩
  ·split
   ·rename_i _ e
    have h1:minI b.2.2.1 a.2.2.1≤b.2.2.1∧minI b.2.2.1 a.2.2.1≤a.2.2.1:=by unfold minI; split<;>omega
    rcases h with h | h
    ·exact ⟨_,mem_cons_self,by rw[h]; exact ⟨e.1,e.2,h1.2⟩⟩
    ·rcases List.mem_cons.1 h with h | h
     ·exact ⟨_,mem_cons_self,by rw[h]; exact ⟨rfl,rfl,h1.1⟩⟩
     ·exact ⟨y,mem_cons_of_mem _ h,.rfl⟩
   ·rcases h with h | h
    ·exact ⟨a,mem_cons_self,by rw[h]; exact .rfl⟩
    ·exact ⟨y,mem_cons_of_mem _ h,.rfl⟩
theorem putA_src (l:List ArcT) (a x:ArcT) (h:x∈putA l a):(x=a∧a.2.2.1<1152921504606846976)∨x∈l:=by
 unfold putA at h
 split at h
 ·exact .inr h
 ·rcases insA_src a l x h with q | q
  ·exact .inl ⟨q,by omega⟩
  ·exact .inr q
theorem putA_has (l:List ArcT) (a y:ArcT) (h:(y=a∧a.2.2.1<1152921504606846976)∨y∈l):∃x∈putA l a,LeA x y:=by
 unfold putA
 split
 ·rcases h with h | h
  ·omega
  ·exact ⟨y,h,.rfl⟩
 ·exact insA_has a l y (h.imp And.left id)
theorem foldA_src (g:Nat→ArcT):∀(m:Nat) (l:List ArcT) (x:ArcT),x∈foldA g m l→(∃j,j<m∧x=g j∧x.2.2.1<1152921504606846976)∨x∈l
 |0,l,x,h=>.inr h
 |m+1,l,x,h=>by
  rcases putA_src _ _ _ h with ⟨q,w⟩ | q
  ·exact .inl ⟨m,by omega,q,by rw[q]; exact w⟩
  ·rcases foldA_src g m l x q with ⟨j,h1,h2⟩ | q
   ·exact .inl ⟨j,by omega,h2⟩
   ·exact .inr q
theorem foldA_has (g:Nat→ArcT):∀(m:Nat) (l:List ArcT) (y:ArcT),((∃j,j<m∧y=g j∧y.2.2.1<1152921504606846976)∨y∈l)→∃x∈foldA g m l,LeA x y
 |0,l,y,h=>by
  rcases h with ⟨j,h,_⟩ | h
  ·omega
  ·exact ⟨y,h,.rfl⟩
 |m+1,l,y,h=>by
  have step:((∃j,j<m∧y=g j∧y.2.2.1<1152921504606846976)∨y∈l)→∃x∈foldA g (m+1) l,LeA x y:=fun q=>by
   obtain ⟨x,h1,h2⟩:=foldA_has g m l y q
   obtain ⟨x2,h3,h4⟩:=putA_has (foldA g m l) (g m) x (.inr h1)
   exact ⟨x2,h3,h4.trans h2⟩
  rcases h with ⟨j,h1,h2,h3⟩ | h
  ·by_cases hj:j=m
   ·subst hj
    exact putA_has _ _ y (.inl ⟨h2,by rw[←h2]; exact h3⟩)
   ·exact step (.inl ⟨j,by omega,h2,h3⟩)
  ·exact step (.inr h)
theorem foldB_src (g:Nat→Nat→ArcT) (m:Nat):∀(n:Nat) (l:List ArcT) (x:ArcT),x∈foldB g m n l→(∃i j,i<n∧j<m∧x=g i j∧x.2.2.1<1152921504606846976)∨x∈l
 |0,l,x,h=>.inr h
 |n+1,l,x,h=>by
  rcases foldA_src _ _ _ _ h with ⟨j,h1,h2⟩ | q
  ·exact .inl ⟨n,j,by omega,h1,h2⟩
  ·rcases foldB_src g m n l x q with ⟨i,j,h1,h2⟩ | q
   ·exact .inl ⟨i,j,by omega,h2⟩
   ·exact .inr q
theorem foldB_has (g:Nat→Nat→ArcT) (m:Nat):∀(n:Nat) (l:List ArcT) (y:ArcT),((∃i j,i<n∧j<m∧y=g i j∧y.2.2.1<1152921504606846976)∨y∈l)→∃x∈foldB g m n l,LeA x y
 |0,l,y,h=>by
  rcases h with ⟨i,j,h,_⟩ | h
  ·omega
  ·exact ⟨y,h,.rfl⟩
 |n+1,l,y,h=>by
  have step:((∃i j,i<n∧j<m∧y=g i j∧y.2.2.1<1152921504606846976)∨y∈l)→∃x∈foldB g m (n+1) l,LeA x y:=fun q=>by
   obtain ⟨x,h1,h2⟩:=foldB_has g m n l y q
   obtain ⟨x2,h3,h4⟩:=foldA_has (g n) m (foldB g m n l) x (.inr h1)
   exact ⟨x2,h3,h4.trans h2⟩
  rcases h with ⟨i,j,h1,h2⟩ | h
  ·by_cases hi:i=n
   ·subst hi
    exact foldA_has _ _ _ y (.inl ⟨j,h2⟩)
   ·exact step (.inl ⟨i,j,by omega,h2⟩)
  ·exact step (.inr h)
structure SdV (s:SideT):Prop where
 lf:s.2.1.length=s.1.length
 le:s.2.2.1.length=s.1.length
 cf:CstL s.2.1
 ce:CstL s.2.2.1
 cn:Cst s.2.2.2.2.1
 arcs:∀x∈s.2.2.2.1,(0≤x.1∧x.1<(s.1.length:Int))∧(0≤x.2.1∧x.2.1<(s.1.length:Int))∧0≤x.2.2.1
theorem SideG.sdv {n M:Nat} {C:Int} {s:SideT} (h:SideG n C M s) (hC:C≤1000000000):SdV s :=
 ⟨by rw[h.lf,h.ls],by rw[h.le,h.ls],fun x hx=>(h.cf x hx).cst hC,fun x hx=>(h.ce x hx).cst hC,h.cn.cst hC,fun x hx=>by
  have:=h.arcs x hx
  have:=h.ls
  omega⟩
def rd (f:Int→Nat→Bool) (s:SideT) (p j:Nat):Bool:=f (getD s.1 p 0) j
abbrev AccF (f:Int→Nat→Bool) (s:SideT):Rel:=Acc s (rd f s)
theorem Run.ok {s:SideT} {O:Nat→Nat→Bool} {i k p:Nat} {c:Int} (h:SdV s) (r:Run s O i k p c):p<s.1.length∧0≤c∧c<1152921504606846976:=by
 induction r with
 |first p hp h1 o =>
  have:=cstL_getD h.cf p
  unfold Cst at this
  omega
 |next x hx r h1 o ih =>
  have:=h.arcs x hx
  omega
theorem Run.nextE {s:SideT} {O:Nat→Nat→Bool} {i k:Nat} {c:Int} (x:ArcT) (hx:x∈s.2.2.2.1) {p q:Nat} (hp:x.1.toNat=p) (hq:x.2.1.toNat=q) (r:Run s O i k p c) (h:c+x.2.2.1<1152921504606846976) (o:O q k=true):Run s O i (k+1) q (c+x.2.2.1):=by
 subst hp hq
 exact .next x hx r h o
theorem Run.firstE {s:SideT} {O:Nat→Nat→Bool} {i p:Nat} {c:Int} (hp:p<s.1.length) (hc:getD s.2.1 p 0=c) (h:c<1152921504606846976) (o:O p i=true):Run s O i (i+1) p c:=by
 subst hc
 exact .first p hp h o
theorem pos_acc {s:SideT} (h:SdV s) (O:Nat→Nat→Bool):Pos (Acc s O):=fun i k c q=>by
 rcases q with ⟨h1,h2,h3⟩ | ⟨p,d,hp,r,h2,h3⟩
 ·have:=h.cn
  unfold Cst at this
  omega
 ·have:=r.ok h
  have:=r.lt
  have:=cstL_getD h.ce p
  unfold Cst at this
  omega
theorem adI_lt {a b:Int} (h:adI a b<1152921504606846976):adI a b=a+b∧a+b<1152921504606846976:=by
 unfold adI minI at *
 split at h<;>split<;>omega
theorem adI_of {a b:Int} (h:a+b<1152921504606846976):adI a b=a+b:=by
 unfold adI minI
 split<;>omega
theorem Run.up {s s':SideT} {O O':Nat→Nat→Bool} (h:SdV s) (n:Nat) (hl:∀p,p<s.1.length→n+p<s'.1.length) (hO:∀p,p<s.1.length→∀j,O p j=true→O' (n+p) j=true) (hF:∀p,p<s.1.length→getD s'.2.1 (n+p) 0≤getD s.2.1 p 0) (hA:∀x∈s.2.2.2.1,∃y∈s'.2.2.2.1,LeA y (shA n x)) {i k p:Nat} {c:Int} (r:Run s O i k p c):∃d,d≤c∧Run s' O' i k (n+p) d:=by
 induction r with
 |first p hp h1 o =>
  have:=hF p hp
  exact ⟨_,this,.first (n+p) (hl p hp) (by omega) (hO p hp _ o)⟩
 |next x hx r h1 o ih =>
  obtain ⟨d,g1,g2⟩:=ih
  obtain ⟨y,hy,e1,e2,e3⟩:=hA x hx
  have hb:=h.arcs x hx
  unfold shA at e1 e2 e3
  simp only at e1 e2 e3
  exact ⟨d+y.2.2.1,by omega,.nextE y hy (by omega) (by omega) g2 (by omega) (hO _ (by omega) _ o)⟩
theorem getD_l {α:Type} (A B:List α) (i:Nat) (d:α) (h:i<A.length):getD (A++B) i d=getD A i d:=by
 rw[getD_eq_getElem?_getD,List.getElem?_append_left h,←getD_eq_getElem?_getD]
theorem getD_r {α:Type} (A B:List α) (n j:Nat) (d:α) (h:A.length=n):getD (A++B) (n+j) d=getD B j d:=by
 rw[getD_eq_getElem?_getD,List.getElem?_append_right (by omega),show n+j-A.length=j by omega,←getD_eq_getElem?_getD]
theorem getD_m (f:Int→Int) (l:List Int) (i:Nat) (h:i<l.length):getD (l.map f) i 0=f (getD l i 0):=by
 rw[getD_lt _ _ _ (by simpa using h),getElem_map,getD_lt _ _ _ h]
theorem shA_0 (x:ArcT):shA 0 x=x:=by
 obtain ⟨a,b,c,u⟩:=x
 simp[shA]
section
variable {a b:SideT}
theorem cat_len:(catS a b).1.length=a.1.length+b.1.length:=length_append
theorem cat_F1 (ha:SdV a) {p:Nat} (hp:p<a.1.length):getD (catS a b).2.1 p 0=getD a.2.1 p 0:=getD_l _ _ _ _ (by rw[ha.lf]; exact hp)
theorem cat_F2 (ha:SdV a) (hb:SdV b) {q:Nat} (hq:q<b.1.length):getD (catS a b).2.1 (a.1.length+q) 0=adI a.2.2.2.2.1 (getD b.2.1 q 0) :=
 (getD_r _ _ _ _ _ ha.lf).trans (getD_m (fun x=>adI a.2.2.2.2.1 x) _ _ (by rw[hb.lf]; exact hq))
theorem cat_E1 (ha:SdV a) {p:Nat} (hp:p<a.1.length):getD (catS a b).2.2.1 p 0=adI (getD a.2.2.1 p 0) b.2.2.2.2.1 :=
 (getD_l _ _ _ _ (by rw[length_map,ha.le]; exact hp)).trans (getD_m (fun x=>adI x b.2.2.2.2.1) _ _ (by rw[ha.le]; exact hp))
theorem cat_E2 (ha:SdV a) {q:Nat}:getD (catS a b).2.2.1 (a.1.length+q) 0=getD b.2.2.1 q 0:=getD_r _ _ _ _ _ (by rw[length_map,ha.le])
theorem cat_r1 (f:Int→Nat→Bool) {p:Nat} (hp:p<a.1.length) (j:Nat):rd f (catS a b) p j=rd f a p j:=congrArg (f · j) (getD_l _ _ _ _ hp)
theorem cat_r2 (f:Int→Nat→Bool) (q j:Nat):rd f (catS a b) (a.1.length+q) j=rd f b q j:=congrArg (f · j) (getD_r _ _ _ _ _ rfl)
theorem cat_src {x:ArcT} (h:x∈(catS a b).2.2.2.1):(∃p q,p<a.1.length∧q<b.1.length∧x=catG a b p q∧x.2.2.1<1152921504606846976)∨x∈a.2.2.2.1∨∃y∈b.2.2.2.1,x=shA a.1.length y:=by
 rcases foldB_src _ _ _ _ _ h with q | q
 ·exact .inl q
 ·rcases List.mem_append.1 q with q | q
  ·exact .inr (.inl q)
  ·obtain ⟨y,h1,h2⟩:=List.mem_map.1 q
   exact .inr (.inr ⟨y,h1,h2.symm⟩)
theorem cat_has {y:ArcT} (h:(∃p q,p<a.1.length∧q<b.1.length∧y=catG a b p q∧y.2.2.1<1152921504606846976)∨y∈a.2.2.2.1∨∃z∈b.2.2.2.1,y=shA a.1.length z):∃x∈(catS a b).2.2.2.1,LeA x y:=by
 refine foldB_has _ _ _ _ _ ?_
 rcases h with h | h | ⟨z,h1,h2⟩
 ·exact .inl h
 ·exact .inr (List.mem_append_left _ h)
 ·exact .inr (List.mem_append_right _ (List.mem_map.2 ⟨z,h1,h2.symm⟩))
theorem cat_sdv (ha:SdV a) (hb:SdV b):SdV (catS a b):=by
 have h1:=ha.lf
 have h2:=ha.le
 have h3:=hb.lf
 have h4:=hb.le
 refine ⟨by simp only[catS,sd,length_append,length_map]; omega,by simp only[catS,sd,length_append,length_map]; omega,?_,?_,cst_ad ha.cn hb.cn,fun x hx=>?_⟩
 ·refine mem_app ha.cf fun x hx=>?_
  obtain ⟨y,hy,rfl⟩:=List.mem_map.1 hx
  exact cst_ad ha.cn (hb.cf y hy)
 ·refine mem_app (fun x hx=>?_) hb.ce
  obtain ⟨y,hy,rfl⟩:=List.mem_map.1 hx
  exact cst_ad (ha.ce y hy) hb.cn
 ·rw[cat_len]
  rcases cat_src hx with ⟨p,q,hp,hq,rfl,_⟩ | hx | ⟨y,hy,rfl⟩
  ·have:=cst_ad (cstL_getD ha.ce p) (cstL_getD hb.cf q)
   unfold Cst at this
   unfold catG
   simp only
   omega
  ·have:=ha.arcs x hx
   omega
  ·have:=hb.arcs y hy
   unfold shA
   simp only
   omega
theorem cat_run (ha:SdV a) (hb:SdV b) (f:Int→Nat→Bool) {i k p:Nat} {c:Int} (r:Run (catS a b) (rd f (catS a b)) i k p c):(p<a.1.length∧Run a (rd f a) i k p c)∨∃q j d e,p=a.1.length+q∧q<b.1.length∧AccF f a i j d∧Run b (rd f b) j k q e∧c=d+e:=by
 induction r with
 |first p hp h o =>
  rw[cat_len] at hp
  by_cases hpa:p<a.1.length
  ·left
   rw[cat_F1 ha hpa] at h ⊢
   rw[cat_r1 f hpa] at o
   exact ⟨hpa,.first p hpa h o⟩
  ·right
   obtain ⟨q,rfl⟩:∃q,p=a.1.length+q:=⟨p-a.1.length,by omega⟩
   have hq:q<b.1.length:=by omega
   rw[cat_F2 ha hb hq] at h ⊢
   rw[cat_r2 f] at o
   obtain ⟨h1,h2⟩:=adI_lt h
   have hn:=ha.cn
   have hf:=cstL_getD hb.cf q
   unfold Cst at hn hf
   exact ⟨q,i,_,_,rfl,hq,.inl ⟨rfl,rfl,by omega⟩,.first q hq (by omega) o,h1⟩
 |@next k c x hx r h o ih =>
  rcases cat_src hx with ⟨p,q,hp,hq,rfl,hw⟩ | hx | ⟨y,hy,rfl⟩
  ·right
   have o':rd f (catS a b) (a.1.length+q) k=true:=o
   rw[cat_r2 f] at o'
   have hw':adI (getD a.2.2.1 p 0) (getD b.2.1 q 0)<1152921504606846976:=hw
   obtain ⟨h1,h2⟩:=adI_lt hw'
   have h':c+adI (getD a.2.2.1 p 0) (getD b.2.1 q 0)<1152921504606846976:=h
   have he:=cstL_getD ha.ce p
   have hf:=cstL_getD hb.cf q
   unfold Cst at he hf
   rcases ih with ⟨g1,g2⟩ | ⟨q',j,d,e,g1,_⟩
   ·refine ⟨q,k,c+getD a.2.2.1 p 0,getD b.2.1 q 0,rfl,hq,.inr ⟨p,c,hp,g2,rfl,by omega⟩,.first q hq (by omega) o',?_⟩
    show c+adI (getD a.2.2.1 p 0) (getD b.2.1 q 0)=_
    omega
   ·have:p=a.1.length+q':=g1
    omega
  ·have hx':=ha.arcs x hx
   left
   rcases ih with ⟨g1,g2⟩ | ⟨q',j,d,e,g1,_⟩
   ·rw[cat_r1 f (by omega)] at o
    exact ⟨by omega,.next x hx g2 h o⟩
   ·omega
  ·have hy':=hb.arcs y hy
   have e1:(shA a.1.length y).1.toNat=a.1.length+y.1.toNat:=by unfold shA; simp only; omega
   have e2:(shA a.1.length y).2.1.toNat=a.1.length+y.2.1.toNat:=by unfold shA; simp only; omega
   right
   rcases ih with ⟨g1,g2⟩ | ⟨q',j,d,e,g1,g2,g3,g4,g5⟩
   ·omega
   ·rw[e2,cat_r2 f] at o
    have h':c+y.2.2.1<1152921504606846976:=h
    have hd:=pos_acc ha _ _ _ _ g3
    refine ⟨y.2.1.toNat,j,d,e+y.2.2.1,e2,by omega,g3,.nextE y hy (by omega) rfl g4 (by omega) o,?_⟩
    show c+y.2.2.1=_
    omega
theorem cat_up (ha:SdV a) (hb:SdV b) (f:Int→Nat→Bool) {i k p:Nat} {c:Int} (r:Run a (rd f a) i k p c):∃d,d≤c∧Run (catS a b) (rd f (catS a b)) i k p d:=by
 obtain ⟨d,h1,h2⟩:=Run.up (s':=catS a b) (O':=rd f (catS a b)) ha 0 (fun p hp=>by rw[cat_len]; omega) (fun p hp j o=>by rw[Nat.zero_add,cat_r1 f hp]; exact o) (fun p hp=>by rw[Nat.zero_add,cat_F1 ha hp]; exact Int.le_refl _) (fun x hx=>by
  rw[shA_0]
  exact cat_has (.inr (.inl hx))) r
 rw[Nat.zero_add] at h2
 exact ⟨d,h1,h2⟩
theorem cat_run2 (ha:SdV a) (hb:SdV b) (f:Int→Nat→Bool) {i j k q:Nat} {d e:Int} (h:AccF f a i j d) (r:Run b (rd f b) j k q e) (hlt:d+e<1152921504606846976):∃c,c≤d+e∧Run (catS a b) (rd f (catS a b)) i k (a.1.length+q) c:=by
 induction r with
 |first q hq h1 o =>
  have o':rd f (catS a b) (a.1.length+q) j=true:=by rw[cat_r2 f]; exact o
  rcases h with ⟨rfl,rfl,h3⟩ | ⟨p,d0,hp,r,rfl,h3⟩
  ·exact ⟨_,Int.le_refl _,.firstE (by rw[cat_len]; omega) ((cat_F2 ha hb hq).trans (adI_of hlt)) hlt o'⟩
  ·obtain ⟨d',g1,g2⟩:=cat_up ha hb f r
   have hr:=r.ok ha
   have e1:adI (getD a.2.2.1 p 0) (getD b.2.1 q 0)=getD a.2.2.1 p 0+getD b.2.1 q 0:=adI_of (by omega)
   obtain ⟨x,hx,x1,x2,x3⟩:=cat_has (a:=a) (b:=b) (.inl ⟨p,q,hp,hq,rfl,by
    show adI (getD a.2.2.1 p 0) (getD b.2.1 q 0)<_
    omega⟩)
   have x1':x.1=(p:Int):=x1
   have x2':x.2.1=((a.1.length+q:Nat):Int):=x2
   have x3':x.2.2.1≤adI (getD a.2.2.1 p 0) (getD b.2.1 q 0):=x3
   exact ⟨d'+x.2.2.1,by omega,.nextE x hx (by omega) (by omega) g2 (by omega) o'⟩
 |next y hy r h1 o ih =>
  have hy':=hb.arcs y hy
  obtain ⟨c,g1,g2⟩:=ih (by omega)
  obtain ⟨x,hx,x1,x2,x3⟩:=cat_has (a:=a) (b:=b) (.inr (.inr ⟨y,hy,rfl⟩))
  have x1':x.1=y.1+(a.1.length:Int):=x1
  have x2':x.2.1=y.2.1+(a.1.length:Int):=x2
  have x3':x.2.2.1≤y.2.2.1:=x3
  exact ⟨c+x.2.2.1,by omega,.nextE x hx (by omega) (by omega) g2 (by omega) (by rw[cat_r2 f]; exact o)⟩
theorem acc_cat (ha:SdV a) (hb:SdV b) (f:Int→Nat→Bool):Eqv (AccF f (catS a b)) (comp (AccF f a) (AccF f b)):=by
 constructor
 ·intro i k c ⟨j,d,e,h1,h2,h3,h4⟩
  rcases h2 with ⟨rfl,rfl,h5⟩ | ⟨q,e0,hq,r,rfl,h5⟩
  ·rcases h1 with ⟨rfl,rfl,h6⟩ | ⟨p,d0,hp,r,rfl,h6⟩
   ·exact ⟨c,Int.le_refl _,.inl ⟨rfl,by
     show c=adI a.2.2.2.2.1 b.2.2.2.2.1
     rw[adI_of (by omega)]; exact h3,h4⟩⟩
   ·obtain ⟨d',g1,g2⟩:=cat_up (b:=b) ha hb f r
    have hr:=r.ok ha
    have e1:adI (getD a.2.2.1 p 0) b.2.2.2.2.1=getD a.2.2.1 p 0+b.2.2.2.2.1:=adI_of (by omega)
    exact ⟨d'+getD (catS a b).2.2.1 p 0,by rw[cat_E1 ha hp]; omega,.inr ⟨p,d',by rw[cat_len]; omega,g2,rfl,by rw[cat_E1 ha hp]; omega⟩⟩
  ·have he:=cstL_getD hb.ce q
   unfold Cst at he
   obtain ⟨c',g1,g2⟩:=cat_run2 ha hb f h1 r (by omega)
   exact ⟨c'+getD (catS a b).2.2.1 (a.1.length+q) 0,by rw[cat_E2 ha]; omega,.inr ⟨a.1.length+q,c',by rw[cat_len]; omega,g2,rfl,by rw[cat_E2 ha]; omega⟩⟩
 ·refine .of fun i k c h=>?_
  have hn:=ha.cn
  have hm:=hb.cn
  unfold Cst at hn hm
  rcases h with ⟨rfl,h1,h2⟩ | ⟨p,d,hp,r,h1,h2⟩
  ·have h1':c=adI a.2.2.2.2.1 b.2.2.2.2.1:=h1
   obtain ⟨g1,g2⟩:=adI_lt (by rw[←h1']; exact h2)
   exact ⟨i,a.2.2.2.2.1,b.2.2.2.2.1,.inl ⟨rfl,rfl,by omega⟩,.inl ⟨rfl,rfl,by omega⟩,by omega,h2⟩
  ·rcases cat_run ha hb f r with ⟨g1,g2⟩ | ⟨q,j,d1,e1,rfl,g2,g3,g4,g5⟩
   ·have hr:=g2.ok ha
    have he:=cstL_getD ha.ce p
    unfold Cst at he
    rw[cat_E1 ha g1] at h1
    obtain ⟨q1,q2⟩:=adI_lt (a:=getD a.2.2.1 p 0) (b:=b.2.2.2.2.1) (by omega)
    exact ⟨k,d+getD a.2.2.1 p 0,b.2.2.2.2.1,.inr ⟨p,d,g1,g2,rfl,by omega⟩,.inl ⟨rfl,rfl,by omega⟩,by omega,h2⟩
   ·rw[cat_E2 ha] at h1
    have hd:=pos_acc ha _ _ _ _ g3
    exact ⟨j,d1,e1+getD b.2.2.1 q 0,g3,.inr ⟨q,e1,g2,g4,rfl,by omega⟩,by omega,h2⟩
end
end Go.Proofs.YtibammoednhnoaaE
set_option linter.unusedSimpArgs false
set_option linter.unusedVariables false
set_option maxRecDepth 20000
namespace Go.Proofs.YtibammoednhnoaaE
section
variable {a b:SideT}
theorem alt_len:(altS a b).1.length=a.1.length+b.1.length:=length_append
theorem alt_run (ha:SdV a) (hb:SdV b) (f:Int→Nat→Bool) {i k p:Nat} {c:Int} (r:Run (altS a b) (rd f (altS a b)) i k p c):(p<a.1.length∧Run a (rd f a) i k p c)∨∃q,p=a.1.length+q∧q<b.1.length∧Run b (rd f b) i k q c:=by
 induction r with
 |first p hp h o =>
  rw[alt_len] at hp
  by_cases hpa:p<a.1.length
  ·left
   have e1:getD (altS a b).2.1 p 0=getD a.2.1 p 0:=getD_l _ _ _ _ (by rw[ha.lf]; exact hpa)
   have e2:rd f (altS a b) p i=rd f a p i:=cat_r1 f hpa i
   rw[e1] at h ⊢
   rw[e2] at o
   exact ⟨hpa,.first p hpa h o⟩
  ·right
   obtain ⟨q,rfl⟩:∃q,p=a.1.length+q:=⟨p-a.1.length,by omega⟩
   have e1:getD (altS a b).2.1 (a.1.length+q) 0=getD b.2.1 q 0:=getD_r _ _ _ _ _ ha.lf
   have e2:rd f (altS a b) (a.1.length+q) i=rd f b q i:=cat_r2 f q i
   rw[e1] at h ⊢
   rw[e2] at o
   exact ⟨q,rfl,by omega,.first q (by omega) h o⟩
 |@next k c x hx r h o ih =>
  rcases List.mem_append.1 hx with hx | hx
  ·have hx':=ha.arcs x hx
   left
   rcases ih with ⟨g1,g2⟩ | ⟨q',g1,_⟩
   ·have e2:rd f (altS a b) x.2.1.toNat k=rd f a x.2.1.toNat k:=cat_r1 f (by omega) k
    rw[e2] at o
    exact ⟨by omega,.next x hx g2 h o⟩
   ·omega
  ·obtain ⟨y,hy,rfl⟩:=List.mem_map.1 hx
   have hy':=hb.arcs y hy
   have e1:(shA a.1.length y).1.toNat=a.1.length+y.1.toNat:=by unfold shA; simp only; omega
   have e2:(shA a.1.length y).2.1.toNat=a.1.length+y.2.1.toNat:=by unfold shA; simp only; omega
   right
   rcases ih with ⟨g1,g2⟩ | ⟨q',g1,g2,g3⟩
   ·omega
   ·have e3:rd f (altS a b) (a.1.length+y.2.1.toNat) k=rd f b y.2.1.toNat k:=cat_r2 f _ k
    rw[e2,e3] at o
    exact ⟨y.2.1.toNat,e2,by omega,.nextE y hy (by omega) rfl g3 h o⟩
theorem acc_alt (ha:SdV a) (hb:SdV b) (f:Int→Nat→Bool):Eqv (AccF f (altS a b)) (orR (AccF f a) (AccF f b)):=by
 have hm:minI a.2.2.2.2.1 b.2.2.2.2.1≤a.2.2.2.2.1∧minI a.2.2.2.2.1 b.2.2.2.2.1≤b.2.2.2.2.1:=by unfold minI; split<;>omega
 constructor
 ·intro i k c h
  rcases h with (⟨h1,h2,h3⟩ | ⟨p,d,hp,r,h2,h3⟩) | (⟨h1,h2,h3⟩ | ⟨p,d,hp,r,h2,h3⟩)
  ·exact ⟨minI a.2.2.2.2.1 b.2.2.2.2.1,by omega,.inl ⟨h1,rfl,by omega⟩⟩
  ·obtain ⟨d',g1,g2⟩:=Run.up (s':=altS a b) (O':=rd f (altS a b)) ha 0 (fun p hp=>by rw[alt_len]; omega) (fun p hp j o=>by
    rw[Nat.zero_add]
    have e2:rd f (altS a b) p j=rd f a p j:=cat_r1 f hp j
    rw[e2]; exact o) (fun p hp=>by
    rw[Nat.zero_add]
    exact Int.le_of_eq (getD_l _ _ _ _ (by rw[ha.lf]; exact hp))) (fun x hx=>⟨x,List.mem_append_left _ hx,by rw[shA_0]; exact .rfl⟩) r
   rw[Nat.zero_add] at g2
   have e1:getD (altS a b).2.2.1 p 0=getD a.2.2.1 p 0:=getD_l _ _ _ _ (by rw[ha.le]; exact hp)
   exact ⟨d'+getD (altS a b).2.2.1 p 0,by omega,.inr ⟨p,d',by rw[alt_len]; omega,g2,rfl,by omega⟩⟩
  ·exact ⟨minI a.2.2.2.2.1 b.2.2.2.2.1,by omega,.inl ⟨h1,rfl,by omega⟩⟩
  ·obtain ⟨d',g1,g2⟩:=Run.up (s':=altS a b) (O':=rd f (altS a b)) hb a.1.length (fun p hp=>by rw[alt_len]; omega) (fun p hp j o=>by
    have e2:rd f (altS a b) (a.1.length+p) j=rd f b p j:=cat_r2 f p j
    rw[e2]; exact o) (fun p hp=>Int.le_of_eq (getD_r _ _ _ _ _ ha.lf)) (fun x hx=>⟨_,List.mem_append_right _ (List.mem_map.2 ⟨x,hx,rfl⟩),.rfl⟩) r
   have e1:getD (altS a b).2.2.1 (a.1.length+p) 0=getD b.2.2.1 p 0:=getD_r _ _ _ _ _ ha.le
   exact ⟨d'+getD (altS a b).2.2.1 (a.1.length+p) 0,by omega,.inr ⟨a.1.length+p,d',by rw[alt_len]; omega,g2,rfl,by omega⟩⟩
 ·refine .of fun i k c h=>?_
  rcases h with ⟨h1,h2,h3⟩ | ⟨p,d,hp,r,h2,h3⟩
  ·have h2':c=minI a.2.2.2.2.1 b.2.2.2.2.1:=h2
   unfold minI at h2'
   split at h2'
   ·exact .inr (.inl ⟨h1,h2',h3⟩)
   ·exact .inl (.inl ⟨h1,h2',h3⟩)
  ·rcases alt_run ha hb f r with ⟨g1,g2⟩ | ⟨q,rfl,g2,g3⟩
   ·have e1:getD (altS a b).2.2.1 p 0=getD a.2.2.1 p 0:=getD_l _ _ _ _ (by rw[ha.le]; exact g1)
    exact .inl (.inr ⟨p,d,g1,g2,by omega,h3⟩)
   ·have e1:getD (altS a b).2.2.1 (a.1.length+q) 0=getD b.2.2.1 q 0:=getD_r _ _ _ _ _ ha.le
    exact .inr (.inr ⟨q,d,g2,g3,by omega,h3⟩)
def starR (A:Rel):Rel:=fun i k c=>∃m,pw A m i k c
theorem star_src {x:ArcT} (h:x∈(starS a).2.2.2.1):(∃p q,p<a.1.length∧q<a.1.length∧x=starG a p q∧x.2.2.1<1152921504606846976)∨x∈a.2.2.2.1:=foldB_src _ _ _ _ _ h
theorem star_has {y:ArcT} (h:(∃p q,p<a.1.length∧q<a.1.length∧y=starG a p q∧y.2.2.1<1152921504606846976)∨y∈a.2.2.2.1):∃x∈(starS a).2.2.2.1,LeA x y:=foldB_has _ _ _ _ _ h
theorem star_run (ha:SdV a) (f:Int→Nat→Bool) {i k p:Nat} {c:Int} (r:Run (starS a) (rd f (starS a)) i k p c):∃m j d e,pw (AccF f a) m i j d∧Run a (rd f a) j k p e∧c=d+e:=by
 induction r with
 |first p hp h o=>exact ⟨0,i,0,_,⟨rfl,rfl⟩,.first p hp h o,by rw[Int.zero_add]; rfl⟩
 |@next k c x hx r h o ih =>
  obtain ⟨m,j,d,e,g1,g2,g3⟩:=ih
  have hd:=pos_pw (pos_acc ha (rd f a)) m _ _ _ g1
  rcases star_src hx with ⟨p,q,hp,hq,rfl,hw⟩ | hx
  ·have hw':adI (getD a.2.2.1 p 0) (getD a.2.1 q 0)<1152921504606846976:=hw
   obtain ⟨h1,h2⟩:=adI_lt hw'
   have h':c+adI (getD a.2.2.1 p 0) (getD a.2.1 q 0)<1152921504606846976:=h
   have he:=cstL_getD ha.ce p
   have hf:=cstL_getD ha.cf q
   have hr:=g2.ok ha
   unfold Cst at he hf
   have g2':Run a (rd f a) j k p e:=g2
   refine ⟨m+1,k,d+(e+getD a.2.2.1 p 0),getD a.2.1 q 0,⟨j,d,e+getD a.2.2.1 p 0,g1,.inr ⟨p,e,hp,g2',rfl,by omega⟩,rfl,by omega⟩,.first q hq (by omega) o,?_⟩
   show c+adI (getD a.2.2.1 p 0) (getD a.2.1 q 0)=_
   omega
  ·exact ⟨m,j,d,e+x.2.2.1,g1,.next x hx g2 (by omega) o,by omega⟩
theorem star_up (ha:SdV a) (f:Int→Nat→Bool) {i k p:Nat} {c:Int} (r:Run a (rd f a) i k p c):∃d,d≤c∧Run (starS a) (rd f (starS a)) i k p d:=by
 obtain ⟨d,h1,h2⟩:=Run.up (s':=starS a) (O':=rd f (starS a)) ha 0 (fun p hp=>by rw[Nat.zero_add]; exact hp) (fun p hp j o=>by rw[Nat.zero_add]; exact o) (fun p hp=>by rw[Nat.zero_add]; exact Int.le_refl _) (fun x hx=>by
  rw[shA_0]
  exact star_has (.inr hx)) r
 rw[Nat.zero_add] at h2
 exact ⟨d,h1,h2⟩
theorem star_run2 (ha:SdV a) (f:Int→Nat→Bool) {i j k p q:Nat} {d e:Int} (hp:p<a.1.length) (g2:Run (starS a) (rd f (starS a)) i j p d) (r:Run a (rd f a) j k q e) (hlt:d+getD a.2.2.1 p 0+e<1152921504606846976) (hd:0≤d):∃c,c≤d+getD a.2.2.1 p 0+e∧Run (starS a) (rd f (starS a)) i k q c:=by
 induction r with
 |first q hq h1 o =>
  have e1:adI (getD a.2.2.1 p 0) (getD a.2.1 q 0)=getD a.2.2.1 p 0+getD a.2.1 q 0:=adI_of (by omega)
  obtain ⟨x,hx,x1,x2,x3⟩:=star_has (a:=a) (.inl ⟨p,q,hp,hq,rfl,by
   show adI (getD a.2.2.1 p 0) (getD a.2.1 q 0)<_
   omega⟩)
  have x1':x.1=(p:Int):=x1
  have x2':x.2.1=(q:Int):=x2
  have x3':x.2.2.1≤adI (getD a.2.2.1 p 0) (getD a.2.1 q 0):=x3
  exact ⟨d+x.2.2.1,by omega,.nextE x hx (by omega) (by omega) g2 (by omega) o⟩
 |next y hy r h1 o ih =>
  have hy':=ha.arcs y hy
  obtain ⟨c,q1,q2⟩:=ih (by omega)
  obtain ⟨x,hx,x1,x2,x3⟩:=star_has (a:=a) (.inr hy)
  exact ⟨c+x.2.2.1,by omega,.nextE x hx (by rw[x1]) (by rw[x2]) q2 (by omega) o⟩
theorem star_pw (ha:SdV a) (f:Int→Nat→Bool):∀(m i k:Nat) (c:Int),pw (AccF f a) m i k c→∃d,d≤c∧AccF f (starS a) i k d
 |0,i,k,c,h=>⟨0,by have:=h.2; omega,.inl ⟨h.1,rfl,by decide⟩⟩
 |m+1,i,k,c,⟨j,d,e,h1,h2,h3,h4⟩=>by
  have hp1:=pos_pw (pos_acc ha (rd f a)) m _ _ _ h1
  obtain ⟨d',g1,g2⟩:=star_pw ha f m i j d h1
  rcases h2 with ⟨rfl,rfl,h5⟩ | ⟨q,e0,hq,r,rfl,h5⟩
  ·have:=ha.cn
   unfold Cst at this
   exact ⟨d',by omega,g2⟩
  ·have hr:=r.ok ha
   have hE:=cstL_getD ha.ce q
   unfold Cst at hE
   rcases g2 with ⟨rfl,g3,g4⟩ | ⟨p,d0,hp,r',g3,g4⟩
   ·have g3':d'=0:=g3
    obtain ⟨e',q1,q2⟩:=star_up ha f r
    exact ⟨e'+getD (starS a).2.2.1 q 0,by show e'+getD a.2.2.1 q 0≤_; omega,.inr ⟨q,e',hq,q2,rfl,by show e'+getD a.2.2.1 q 0<_; omega⟩⟩
   ·have g3':d'=d0+getD a.2.2.1 p 0:=g3
    have hE2:=cstL_getD ha.ce p
    unfold Cst at hE2
    have hd0:0≤d0:=by
     obtain ⟨m',j',d1,e1,w1,w2,w3⟩:=star_run ha f r'
     have:=pos_pw (pos_acc ha (rd f a)) m' _ _ _ w1
     have:=w2.ok ha
     omega
    obtain ⟨c',q1,q2⟩:=star_run2 ha f hp r' r (by omega) hd0
    exact ⟨c'+getD (starS a).2.2.1 q 0,by show c'+getD a.2.2.1 q 0≤_; omega,.inr ⟨q,c',hq,q2,rfl,by show c'+getD a.2.2.1 q 0<_; omega⟩⟩
theorem acc_star (ha:SdV a) (f:Int→Nat→Bool):Eqv (AccF f (starS a)) (starR (AccF f a)):=by
 constructor
 ·intro i k c ⟨m,h⟩
  exact star_pw ha f m i k c h
 ·refine .of fun i k c h=>?_
  rcases h with ⟨h1,h2,h3⟩ | ⟨p,d,hp,r,h2,h3⟩
  ·exact ⟨0,h1,h2⟩
  ·obtain ⟨m,j,d1,e1,w1,w2,w3⟩:=star_run ha f r
   have h2':c=d+getD a.2.2.1 p 0:=h2
   have:=pos_pw (pos_acc ha (rd f a)) m _ _ _ w1
   exact ⟨m+1,j,d1,e1+getD a.2.2.1 p 0,w1,.inr ⟨p,e1,hp,w2,rfl,by omega⟩,by omega,h3⟩
def wgtR (A:Rel) (w:Int):Rel:=fun i k c=>∃d,A i k d∧c=d+w∧c<1152921504606846976
theorem wgt_run (ha:SdV a) (w:Int) (f:Int→Nat→Bool) {i k p:Nat} {c:Int} (r:Run (wgtS a w) (rd f (wgtS a w)) i k p c) (hw:0≤w):∃d,Run a (rd f a) i k p d∧c=d+w:=by
 induction r with
 |first p hp h o =>
  have e:getD (wgtS a w).2.1 p 0=adI (getD a.2.1 p 0) w:=getD_m (fun x=>adI x w) _ _ (by rw[ha.lf]; exact hp)
  rw[e] at h ⊢
  obtain ⟨h1,h2⟩:=adI_lt h
  exact ⟨_,.first p hp (by omega) o,h1⟩
 |next x hx r h o ih =>
  obtain ⟨d,g1,g2⟩:=ih
  exact ⟨d+x.2.2.1,.next x hx g1 (by omega) o,by omega⟩
theorem wgt_run2 (ha:SdV a) (w:Int) (f:Int→Nat→Bool) {i k p:Nat} {c:Int} (r:Run a (rd f a) i k p c) (hlt:c+w<1152921504606846976):Run (wgtS a w) (rd f (wgtS a w)) i k p (c+w):=by
 induction r with
 |first p hp h o =>
  have e:getD (wgtS a w).2.1 p 0=adI (getD a.2.1 p 0) w:=getD_m (fun x=>adI x w) _ _ (by rw[ha.lf]; exact hp)
  exact .firstE hp (e.trans (adI_of hlt)) hlt o
 |@next k c x hx r h o ih =>
  have hx':=ha.arcs x hx
  have:=Run.next (s:=wgtS a w) (O:=rd f (wgtS a w)) x hx (ih (by omega)) (by omega) o
  rwa [show c+w+x.2.2.1=c+x.2.2.1+w by omega] at this
theorem acc_wgt (ha:SdV a) {w:Int} (hw:0≤w) (f:Int→Nat→Bool):Eqv (AccF f (wgtS a w)) (wgtR (AccF f a) w):=by
 constructor
 ·refine .of fun i k c ⟨d,h1,h2,h3⟩=>?_
  rcases h1 with ⟨g1,rfl,g3⟩ | ⟨p,d0,hp,r,rfl,g3⟩
  ·exact .inl ⟨g1,by
    show c=adI a.2.2.2.2.1 w
    rw[adI_of (by omega)]; exact h2,h3⟩
  ·have:=cstL_getD ha.ce p
   unfold Cst at this
   exact .inr ⟨p,d0+w,hp,wgt_run2 ha w f r (by omega),by show c=d0+w+getD a.2.2.1 p 0; omega,h3⟩
 ·refine .of fun i k c h=>?_
  rcases h with ⟨h1,h2,h3⟩ | ⟨p,d,hp,r,h2,h3⟩
  ·have h2':c=adI a.2.2.2.2.1 w:=h2
   obtain ⟨g1,g2⟩:=adI_lt (by rw[←h2']; exact h3)
   exact ⟨a.2.2.2.2.1,.inl ⟨h1,rfl,by omega⟩,by omega,h3⟩
  ·obtain ⟨d0,g1,g2⟩:=wgt_run ha w f r hw
   have h2':c=d+getD a.2.2.1 p 0:=h2
   exact ⟨d0+getD a.2.2.1 p 0,.inr ⟨p,d0,hp,g1,rfl,by omega⟩,by omega,h3⟩
def nonS (a:SideT):SideT:=sd a.1 a.2.1 a.2.2.1 a.2.2.2.1 0
theorem non_sdv (ha:SdV a):SdV (nonS a):=⟨ha.lf,ha.le,ha.cf,ha.ce,⟨Int.le_refl (0:Int),(by decide:(0:Int)≤1152921504606846976)⟩,ha.arcs⟩
theorem non_run (f:Int→Nat→Bool) {i k p:Nat} {c:Int}:Run (nonS a) (rd f (nonS a)) i k p c↔Run a (rd f a) i k p c:=by
 constructor
 ·intro r
  induction r with
  |first p hp h o=>exact .first p hp h o
  |next x hx r h o ih=>exact .next x hx ih h o
 ·intro r
  induction r with
  |first p hp h o=>exact .first (s:=nonS a) p hp h o
  |next x hx r h o ih=>exact .next (s:=nonS a) x hx ih h o
theorem acc_non (ha:SdV a) (f:Int→Nat→Bool):Eqv (AccF f (nonS a)) (orR (AccF f a) eps):=by
 constructor
 ·intro i k c h
  rcases h with (⟨h1,h2,h3⟩ | ⟨p,d,hp,r,h2⟩) | ⟨h1,h2⟩
  ·have:=ha.cn
   unfold Cst at this
   exact ⟨0,by omega,.inl ⟨h1,rfl,by decide⟩⟩
  ·exact ⟨c,Int.le_refl _,.inr ⟨p,d,hp,(non_run f).2 r,h2⟩⟩
  ·exact ⟨0,by omega,.inl ⟨h1,rfl,by decide⟩⟩
 ·refine .of fun i k c h=>?_
  rcases h with ⟨h1,h2,h3⟩ | ⟨p,d,hp,r,h2⟩
  ·exact .inr ⟨h1,h2⟩
  ·exact .inl (.inr ⟨p,d,hp,(non_run f).1 r,h2⟩)
end
def timR (A:Rel) (lo:Int) (k:Nat) (S:Rel):Rel:=orR (comp (pw A k) S) (fun i j c=>∃m:Nat,lo≤(m:Int)∧m<k∧pw A m i j c)
theorem tim_step {A S S':Rel} (hA:Pos A) (hS:Pos S) (lo:Int) (k:Nat) (h:Eqv S' (if ((k+1:Nat):Int)>lo then orR (comp A S) eps else comp A S)):Eqv (timR A lo k S') (timR A lo (k+1) S):=by
 have hP:=pos_pw hA k
 have asc:=comp_assoc hP hA hS
 constructor
 ·intro i j c q
  rcases q with q | ⟨m,h1,h2,h3⟩
  ·obtain ⟨d,h1,h2⟩:=asc.1 i j c q
   have:Dom S' (comp A S):=by
    refine h.1.trans ?_
    split
    ·exact .of fun _ _ _ q=>.inl q
    ·exact .rfl
   obtain ⟨e,h3,h4⟩:=comp_dom (Dom.rfl (A:=pw A k)) this i j d h2
   exact ⟨e,by omega,.inl h4⟩
  ·by_cases hm:m=k
   ·subst hm
    have:Dom S' eps:=by
     refine h.1.trans ?_
     rw[if_pos (by omega)]
     exact .of fun _ _ _ q=>.inr q
    obtain ⟨e,h4,h5⟩:=(comp_eps hP).1 i j c h3
    obtain ⟨e2,h6,h7⟩:=comp_dom (Dom.rfl (A:=pw A m)) this i j e h5
    exact ⟨e2,by omega,.inl h7⟩
   ·exact ⟨c,Int.le_refl _,.inr ⟨m,h1,by omega,h3⟩⟩
 ·intro i j c q
  rcases q with q | ⟨m,h1,h2,h3⟩
  ·obtain ⟨d,h1,h2⟩:=comp_dom (Dom.rfl (A:=pw A k)) h.2 i j c q
   split at h2
   ·rename_i hlo
    obtain ⟨l,e,g,w1,w2,w3,w4⟩:=h2
    rcases w2 with w2 | w2
    ·obtain ⟨e2,h6,h7⟩:=asc.2 i j d ⟨l,e,g,w1,w2,w3,w4⟩
     exact ⟨e2,by omega,.inl h7⟩
    ·obtain ⟨e2,h6,h7⟩:=(comp_eps hP).2 i j d ⟨l,e,g,w1,w2,w3,w4⟩
     exact ⟨e2,by omega,.inr ⟨k,by omega,by omega,h7⟩⟩
   ·obtain ⟨e2,h6,h7⟩:=asc.2 i j d h2
    exact ⟨e2,by omega,.inl h7⟩
  ·exact ⟨c,Int.le_refl _,.inr ⟨m,h1,by omega,h3⟩⟩
theorem acc_tim {a:SideT} (ha:SdV a) (lo:Int) (f:Int→Nat→Bool):∀(k:Nat) (s:SideT),SdV s→Eqv (AccF f (timS a lo k s)) (timR (AccF f a) lo k (AccF f s))
 |0,s,hs=>by
  constructor
  ·intro i j c q
   rcases q with ⟨l,e,g,⟨rfl,w1⟩,w2,w3,w4⟩ | ⟨m,_,h,_⟩
   ·exact ⟨g,by omega,w2⟩
   ·omega
  ·refine .of fun i j c q=>.inl ⟨i,0,c,⟨rfl,rfl⟩,q,by omega,(pos_acc hs _ _ _ _ q).2.2⟩
 |k+1,s,hs=>by
  have hc:=cat_sdv ha hs
  have e:=acc_cat ha hs f
  rw[timS]
  refine Eqv.trans ?_ (tim_step (pos_acc ha _) (pos_acc hs _) lo k (S':=AccF f (if ((k+1:Nat):Int)>lo then nonS (catS a s) else catS a s)) ?_)
  ·refine acc_tim ha lo f k _ ?_
   split
   ·exact non_sdv hc
   ·exact hc
  ·split
   ·exact (acc_non hc f).trans (orR_eqv e .rfl)
   ·exact e
def leafR (f:Int→Nat→Bool) (fn:ByteArray→Int) (x:RexT):Rel:=fun i k c=>(x.a.1=1∧i=k∧c=0)∨(x.a.1≠1∧k=i+1∧c=0∧f (if x.a.1=2 then fn x.a.2.2.2.2.1 else -1) i=true)
def den (f:Int→Nat→Bool) (fn:ByteArray→Int):Nat→RexT→Rel
 |0,x=>leafR f fn x
 |h+1,x=>if x.a.1=1∨x.a.1=2∨x.a.1=3 then leafR f fn x
  else if x.a.1=4 then comp (den f fn h (getD x.l 0 rex0)) (den f fn h (getD x.l 1 rex0))
  else if x.a.1=5 then orR (den f fn h (getD x.l 0 rex0)) (den f fn h (getD x.l 1 rex0))
  else if x.a.1=6 then starR (den f fn h (getD x.l 0 rex0))
  else if x.a.1=8 then wgtR (den f fn h (getD x.l 0 rex0)) x.a.2.2.2.1
  else fun i k c=>∃m:Nat,x.a.2.1≤(m:Int)∧(m:Int)≤x.a.2.2.1∧pw (den f fn h (getD x.l 0 rex0)) m i k c
theorem leaf_acc (f:Int→Nat→Bool) (fn:ByteArray→Int) (x:RexT):Eqv (AccF f (leafS fn x)) (leafR f fn x):=by
 unfold leafS leafR
 have one:∀v:Int,Eqv (AccF f (sd [v] [0] [0] [] 1152921504606846976)) (fun i k c=>k=i+1∧c=0∧f v i=true):=fun v=>by
  constructor
  ·refine .of fun i k c ⟨h1,h2,h3⟩=>?_
   subst h1 h2
   exact .inr ⟨0,0,by simp,.firstE (by simp) rfl (by decide) h3,rfl,by decide⟩
  ·refine .of fun i k c h=>?_
   rcases h with ⟨h1,h2,h3⟩ | ⟨p,d,hp,r,h2,h3⟩
   ·have h2':c=1152921504606846976:=h2
    omega
   ·have hp':p<1:=hp
    cases r with
    |first p hp h o =>
     obtain rfl:p=0:=by omega
     exact ⟨rfl,by rw[h2]; rfl,o⟩
    |next x hx r h o=>cases hx
 split
 ·rename_i h
  rw[h]
  constructor
  ·refine .of fun i k c q=>?_
   rcases q with ⟨_,h1,h2⟩ | ⟨h1,_⟩
   ·exact .inl ⟨h1,h2,by rw[h2]; decide⟩
   ·exact absurd rfl h1
  ·refine .of fun i k c q=>?_
   rcases q with ⟨h1,h2,h3⟩ | ⟨p,d,hp,r,h2,h3⟩
   ·exact .inl ⟨rfl,h1,h2⟩
   ·exact absurd hp (Nat.not_lt_zero _)
 ·rename_i h
  have key:∀v:Int,Eqv (fun i k c=>k=i+1∧c=0∧f v i=true) (fun i k c=>(x.a.1=1∧i=k∧c=0)∨(x.a.1≠1∧k=i+1∧c=0∧f v i=true)):=fun v =>
   ⟨.of fun i k c q=>q.elim (fun q=>absurd q.1 h) fun q=>q.2,.of fun i k c q=>.inr ⟨h,q⟩⟩
  split
  ·exact (one _).trans (key _)
  ·exact (one _).trans (key _)
theorem pos_leaf (f:Int→Nat→Bool) (fn:ByteArray→Int) (x:RexT):Pos (leafR f fn x):=fun i k c q=>by
 rcases q with ⟨_,h1,h2⟩ | ⟨_,h1,h2,_⟩<;>omega
theorem side_den {w:Bool} (f:Int→Nat→Bool) (fn:ByteArray→Int) (M:Nat) (hfn:∀nm,-1≤fn nm∧fn nm<(M:Int)):∀(h:Nat) (x:RexT),h≤5→RexP w h x→Eqv (AccF f (sideS fn h x)) (den f fn h x)
 |0,x,_,p=>by
  rw[sideS_leaf p]
  exact leaf_acc f fn x
 |h+1,x,h6,p=>by
  have hv:∀y,RexP w h y→SdV (sideS fn h y):=fun y hy=>(side_G fn M hfn h y (by omega) hy).sdv (by have:=cB_range h (by omega); omega)
  rcases p with p | ⟨a,p,q,e,hp1,hq1⟩ | ⟨a,p,e,hp1⟩ | ⟨a,b,p,e,hp1⟩ | ⟨a,_,b,p,e,hp1⟩
  ·rw[sideS_leaf p]
   have d1:den f fn (h+1) x=leafR f fn x:=by unfold den; exact if_pos (leaf3 p)
   rw[d1]
   exact leaf_acc f fn x
  ·have g1:=side_den f fn M hfn h p (by omega) hp1
   have g2:=side_den f fn M hfn h q (by omega) hq1
   rcases a with a | a
   ·have s1:sideS fn (h+1) x=catS (sideS fn h p) (sideS fn h q):=by
     conv=>lhs; unfold sideS
     rw[if_neg (by omega),if_pos a,e]
     rfl
    have d1:den f fn (h+1) x=comp (den f fn h p) (den f fn h q):=by
     conv=>lhs; unfold den
     rw[if_neg (by omega),if_pos a,e]
     rfl
    rw[s1,d1]
    exact (acc_cat (hv p hp1) (hv q hq1) f).trans (comp_eqv g1 g2)
   ·have s1:sideS fn (h+1) x=altS (sideS fn h p) (sideS fn h q):=by
     conv=>lhs; unfold sideS
     rw[if_neg (by omega),if_neg (by omega),if_pos a,e]
     rfl
    have d1:den f fn (h+1) x=orR (den f fn h p) (den f fn h q):=by
     conv=>lhs; unfold den
     rw[if_neg (by omega),if_neg (by omega),if_pos a,e]
     rfl
    rw[s1,d1]
    exact (acc_alt (hv p hp1) (hv q hq1) f).trans (orR_eqv g1 g2)
  ·have g1:=side_den f fn M hfn h p (by omega) hp1
   have s1:sideS fn (h+1) x=starS (sideS fn h p):=by
    conv=>lhs; unfold sideS
    rw[if_neg (by omega),if_neg (by omega),if_neg (by omega),if_pos a,e]
    rfl
   have d1:den f fn (h+1) x=starR (den f fn h p):=by
    conv=>lhs; unfold den
    rw[if_neg (by omega),if_neg (by omega),if_neg (by omega),if_pos a,e]
    rfl
   rw[s1,d1]
   refine (acc_star (hv p hp1) f).trans ⟨fun i k c ⟨m,q⟩=>?_,fun i k c ⟨m,q⟩=>?_⟩
   ·obtain ⟨d,h1,h2⟩:=(pw_eqv g1 m).1 i k c q
    exact ⟨d,h1,m,h2⟩
   ·obtain ⟨d,h1,h2⟩:=(pw_eqv g1 m).2 i k c q
    exact ⟨d,h1,m,h2⟩
  ·have g1:=side_den f fn M hfn h p (by omega) hp1
   have hP:=pos_pw (pos_acc (hv p hp1) (rd f (sideS fn h p))) x.a.2.2.1.toNat
   have s1:sideS fn (h+1) x=timS (sideS fn h p) x.a.2.1 x.a.2.2.1.toNat (sd [] [] [] [] 0):=by
    conv=>lhs; unfold sideS
    rw[if_neg (by omega),if_neg (by omega),if_neg (by omega),if_neg (by omega),if_neg (by omega),e]
    rfl
   have d1:den f fn (h+1) x=fun i k c=>∃m:Nat,x.a.2.1≤(m:Int)∧(m:Int)≤x.a.2.2.1∧pw (den f fn h p) m i k c:=by
    conv=>lhs; unfold den
    rw[if_neg (by omega),if_neg (by omega),if_neg (by omega),if_neg (by omega),if_neg (by omega),e]
    rfl
   rw[s1,d1]
   have hn0:SdV (sd [] [] [] [] 0):=(empty_G M 0 (Int.le_refl _)).sdv (by decide)
   have hne:Eqv (AccF f (sd [] [] [] [] 0)) eps:=by
    constructor
    ·exact .of fun i k c q=>.inl ⟨q.1,q.2,by rw[q.2]; decide⟩
    ·refine .of fun i k c q=>?_
     rcases q with ⟨h1,h2,h3⟩ | ⟨p,d,hp,r,h2,h3⟩
     ·exact ⟨h1,h2⟩
     ·exact absurd hp (Nat.not_lt_zero _)
   refine (acc_tim (hv p hp1) x.a.2.1 f _ _ hn0).trans ⟨fun i k c ⟨m,q1,q2,q3⟩=>?_,fun i k c q=>?_⟩
   ·obtain ⟨d,h1,h2⟩:=(pw_eqv g1 m).1 i k c q3
    by_cases hm:m=x.a.2.2.1.toNat
    ·subst hm
     obtain ⟨d2,h3,h4⟩:=((comp_eqv .rfl hne).trans (comp_eps hP)).1 i k d h2
     exact ⟨d2,by omega,.inl h4⟩
    ·exact ⟨d,h1,.inr ⟨m,q1,by omega,h2⟩⟩
   ·rcases q with q | ⟨m,q1,q2,q3⟩
    ·obtain ⟨d2,h3,h4⟩:=((comp_eqv .rfl hne).trans (comp_eps hP)).2 i k c q
     obtain ⟨d,h1,h2⟩:=(pw_eqv g1 _).2 i k d2 h4
     exact ⟨d,by omega,_,by omega,by omega,h2⟩
    ·obtain ⟨d,h1,h2⟩:=(pw_eqv g1 m).2 i k c q3
     exact ⟨d,h1,m,q1,by omega,h2⟩
  ·have g1:=side_den f fn M hfn h p (by omega) hp1
   have s1:sideS fn (h+1) x=wgtS (sideS fn h p) x.a.2.2.2.1:=by
    conv=>lhs; unfold sideS
    rw[if_neg (by omega),if_neg (by omega),if_neg (by omega),if_neg (by omega),if_pos a,e]
    rfl
   have d1:den f fn (h+1) x=wgtR (den f fn h p) x.a.2.2.2.1:=by
    conv=>lhs; unfold den
    rw[if_neg (by omega),if_neg (by omega),if_neg (by omega),if_neg (by omega),if_pos a,e]
    rfl
   rw[s1,d1]
   refine (acc_wgt (hv p hp1) b.1 f).trans ⟨fun i k c ⟨d,h1,h2,h3⟩=>?_,fun i k c ⟨d,h1,h2,h3⟩=>?_⟩
   ·obtain ⟨d2,h4,h5⟩:=g1.1 i k d h1
    exact ⟨d2+x.a.2.2.2.1,by omega,d2,h5,rfl,by omega⟩
   ·obtain ⟨d2,h4,h5⟩:=g1.2 i k d h1
    exact ⟨d2+x.a.2.2.2.1,by omega,d2,h5,rfl,by omega⟩
end Go.Proofs.YtibammoednhnoaaE
set_option linter.unusedSimpArgs false
set_option linter.unusedVariables false
set_option maxRecDepth 20000
namespace Go.Proofs.YtibammoednhnoaaE
section
variable {I:InT} {s s':SideT} {z:List Int} {a b c:List Bool}
theorem trim_fwd (h:TrimR I s s' z a b c) (hs:SdV s) (f:Int→Nat→Bool) {L:Nat} (hO:∀p j,p<s.1.length→j<L→rd f s p j=true→∃x,ofP I s p x=true) {i k p:Nat} {e:Int} (r:Run s (rd f s) i k p e) (hk:k≤L):onB a p∧onB c p:=by
 induction r with
 |first p hp h1 o =>
  obtain ⟨x,hx⟩:=hO p i hp (by omega) o
  have hc:=h.may.may p x hp hx
  exact ⟨h.may.beg p hp hc h1,hc⟩
 |@next k e x hx r h1 o ih =>
  have hb:=hs.arcs x hx
  obtain ⟨g1,g2⟩:=ih (by omega)
  obtain ⟨y,hy⟩:=hO x.2.1.toNat k (by omega) (by omega) o
  have hc:=h.may.may x.2.1.toNat y (by omega) hy
  exact ⟨(h.cl x hx).1 g1 hc,hc⟩
theorem trim_to (h:TrimR I s s' z a b c) (hs:SdV s) (f:Int→Nat→Bool) {L:Nat} (hO:∀p j,p<s.1.length→j<L→rd f s p j=true→∃x,ofP I s p x=true) {i k p:Nat} {e:Int} (r:Run s (rd f s) i k p e):k≤L→onB b p→0≤getD z p 0∧Run s' (rd f s') i k (getD z p 0).toNat e:=by
 induction r with
 |first p hp h1 o =>
  intro hk hb
  obtain ⟨g1,g2⟩:=trim_fwd h hs f hO (.first p hp h1 o) hk
  have hz:=(h.q.dom p hp).2 ⟨g1,hb⟩
  obtain ⟨v1,v2,v3⟩:=h.q.val p hp hz
  have hr:=h.ren.rng p hp
  exact ⟨hz,.firstE (by omega) v2 h1 (by unfold rd; rw[v1]; exact o)⟩
 |@next k e x hx r h1 o ih =>
  intro hk hb
  have hx':=hs.arcs x hx
  obtain ⟨g1,g2⟩:=trim_fwd h hs f hO (.next x hx r h1 o) hk
  obtain ⟨g3,g4⟩:=trim_fwd h hs f hO r (by omega)
  have hz:=(h.q.dom x.2.1.toNat (by omega)).2 ⟨g1,hb⟩
  obtain ⟨v1,v2,v3⟩:=h.q.val x.2.1.toNat (by omega) hz
  obtain ⟨i1,i2⟩:=ih (by omega) ((h.cl x hx).2 hb g4)
  refine ⟨hz,.nextE (renA z x) (h.arc.has x hx i1 hz) rfl rfl i2 h1 (by unfold rd; rw[v1]; exact o)⟩
theorem trim_back (h:TrimR I s s' z a b c) (hs:SdV s) (f:Int→Nat→Bool) {i k q:Nat} {e:Int} (r:Run s' (rd f s') i k q e):∃p,p<s.1.length∧getD z p 0=(q:Int)∧Run s (rd f s) i k p e:=by
 induction r with
 |first q hq h1 o =>
  obtain ⟨p,hp,hz⟩:=h.q.sur q hq
  obtain ⟨v1,v2,v3⟩:=h.q.val p hp (by omega)
  rw[hz,tnI q] at v1 v2
  rw[v2] at h1 ⊢
  unfold rd at o
  rw[v1] at o
  exact ⟨p,hp,hz,.first p hp h1 o⟩
 |@next k e y hy r h1 o ih =>
  obtain ⟨x,hx,rfl,g1,g2⟩:=h.arc.src y hy
  have hx':=hs.arcs x hx
  obtain ⟨p,hp,hz,hr⟩:=ih
  have e1:(renA z x).1=getD z x.1.toNat 0:=rfl
  have e2:(renA z x).2.1=getD z x.2.1.toNat 0:=rfl
  have hpx:p=x.1.toNat:=by
   rcases Nat.lt_trichotomy p x.1.toNat with q | q | q
   ·have:=h.ren.mon p _ q (by omega) (by omega) g1
    omega
   ·exact q
   ·have:=h.ren.mon _ p q hp g1 (by omega)
    omega
  subst hpx
  obtain ⟨v1,v2,v3⟩:=h.q.val x.2.1.toNat (by omega) g2
  unfold rd at o
  rw[e2,v1] at o
  exact ⟨x.2.1.toNat,by omega,by rw[e2]; omega,.next x hx hr h1 o⟩
theorem acc_trim (h:TrimR I s s' z a b c) (hs:SdV s) (f:Int→Nat→Bool) {L:Nat} (hO:∀p j,p<s.1.length→j<L→rd f s p j=true→∃x,ofP I s p x=true) {i k:Nat} {e:Int} (hk:k≤L):AccF f s' i k e↔AccF f s i k e:=by
 constructor
 ·rintro (⟨h1,h2,h3⟩ | ⟨q,d,hq,r,h2,h3⟩)
  ·rw[h.non] at h2
   exact .inl ⟨h1,h2,h3⟩
  ·obtain ⟨p,hp,hz,r'⟩:=trim_back h hs f r
   obtain ⟨v1,v2,v3⟩:=h.q.val p hp (by omega)
   rw[hz,tnI q] at v3
   rw[v3] at h2
   exact .inr ⟨p,d,hp,r',h2,h3⟩
 ·rintro (⟨h1,h2,h3⟩ | ⟨p,d,hp,r,h2,h3⟩)
  ·rw[←h.non] at h2
   exact .inl ⟨h1,h2,h3⟩
  ·have hr:=r.ok hs
   have hE:getD s.2.2.1 p 0<1152921504606846976:=by omega
   obtain ⟨g1,g2⟩:=trim_fwd h hs f hO r hk
   obtain ⟨hz,r'⟩:=trim_to h hs f hO r hk (h.may.fin p hp g2 hE)
   obtain ⟨v1,v2,v3⟩:=h.q.val p hp hz
   have hrg:=h.ren.rng p hp
   exact .inr ⟨_,d,by omega,r',by rw[v3]; exact h2,h3⟩
end
inductive Path (s:SideT) (O:Nat→Nat→Bool):Nat→Nat→Nat→Nat→Prop
 |one (i p:Nat) (o:O p i=true):Path s O i p (i+1) p
 |cons {i k q:Nat} (x:ArcT) (hx:x∈s.2.2.2.1) (o:O x.1.toNat i=true) (r:Path s O (i+1) x.2.1.toNat k q):Path s O i x.1.toNat k q
theorem Path.lt {s:SideT} {O:Nat→Nat→Bool} {i p k q:Nat} (r:Path s O i p k q):i<k:=by
 induction r with
 |one i p o=>omega
 |cons x hx o r ih=>omega
theorem Path.on {s:SideT} {O:Nat→Nat→Bool} {i p k q:Nat} (r:Path s O i p k q):O p i=true:=by
 cases r with
 |one _ _ o=>exact o
 |cons x hx o r=>exact o
theorem Path.snoc {s:SideT} {O:Nat→Nat→Bool} {i p k q:Nat} (r:Path s O i p k q) (x:ArcT) (hx:x∈s.2.2.2.1) (hq:x.1.toNat=q) (o:O x.2.1.toNat k=true):Path s O i p (k+1) x.2.1.toNat:=by
 induction r with
 |one i p o1 =>
  subst hq
  exact .cons x hx o1 (.one _ _ o)
 |cons y hy o1 r ih=>exact .cons y hy o1 (ih hq o)
theorem run_path {s:SideT} {O:Nat→Nat→Bool} {i k q:Nat} {e:Int} (r:Run s O i k q e):∃p,p<s.1.length∧getD s.2.1 p 0<1152921504606846976∧Path s O i p k q:=by
 induction r with
 |first p hp h o=>exact ⟨p,hp,h,.one i p o⟩
 |next x hx r h o ih =>
  obtain ⟨p,h1,h2,h3⟩:=ih
  exact ⟨p,h1,h2,h3.snoc x hx rfl o⟩
theorem path_run {s:SideT} {O:Nat→Nat→Bool} {i0 i p k q:Nat} (hA:∀x∈s.2.2.2.1,0≤x.2.2.1∧x.2.2.1≤20000) (r:Path s O i p k q):k≤1000→∀e,0≤e→e≤20000*(i:Int)+20000→Run s O i0 (i+1) p e→∃d,0≤d∧d≤20000*(k:Int)∧Run s O i0 k q d:=by
 induction r with
 |one i p o=>exact fun hk e h0 h1 r=>⟨e,h0,by omega,r⟩
 |@cons i k q x hx o r ih =>
  intro hk e h0 h1 r'
  have hx':=hA x hx
  have hlt:=r.lt
  have o':=r.on
  exact ih hk (e+x.2.2.1) (by omega) (by omega) (.next x hx r' (by omega) o')
def Liv (s:SideT) (O:Nat→Nat→Bool) (L i p:Nat):Prop:=∃k q,k≤L∧Path s O i p k q∧getD s.2.2.1 q 0<1152921504606846976
theorem liv_step {s:SideT} {O:Nat→Nat→Bool} {L i p:Nat} (hi:i<L):Liv s O L i p↔O p i=true∧(getD s.2.2.1 p 0<1152921504606846976∨∃x∈s.2.2.2.1,x.1.toNat=p∧Liv s O L (i+1) x.2.1.toNat):=by
 constructor
 ·rintro ⟨k,q,hk,r,hE⟩
  cases r with
  |one _ _ o=>exact ⟨o,.inl hE⟩
  |cons x hx o r=>exact ⟨o,.inr ⟨x,hx,rfl,k,q,hk,r,hE⟩⟩
 ·rintro ⟨o,hE | ⟨x,hx,rfl,k,q,hk,r,hE⟩⟩
  ·exact ⟨i+1,p,hi,.one i p o,hE⟩
  ·exact ⟨k,q,hk,.cons x hx o r,hE⟩
theorem arcsR_getD (I:InT) (s:SideT) (a:Nat) (r:List Bool) (p:Nat):∀(xs:List ArcT) (row:List Bool),(∀x∈xs,x.1.toNat<row.length)→(onB (xs.foldl (arcR I s a r) row) p↔onB row p∨∃x∈xs,x.1.toNat=p∧ofP I s p a=true∧onB r x.2.1.toNat)
 | [],row,_=>⟨.inl,fun q=>q.elim id fun ⟨x,hx,_⟩=>by cases hx⟩
 |x::xs,row,h=>by
  have h0:=h x mem_cons_self
  rw[List.foldl_cons,arcsR_getD I s a r p xs _ (fun y hy=>by rw[arcR_len]; exact h y (mem_cons_of_mem _ hy))]
  have key:onB (arcR I s a r row x) p↔onB row p∨(x.1.toNat=p∧ofP I s p a=true∧onB r x.2.1.toNat):=by
   unfold arcR
   by_cases hc:ofP I s x.1.toNat a&&getD r x.2.1.toNat false
   ·rw[if_pos hc]
    simp only[Bool.and_eq_true] at hc
    by_cases e:p=x.1.toNat
    ·subst e
     unfold onB
     rw[getS_eq h0]
     exact ⟨fun _=>.inr ⟨rfl,hc.1,hc.2⟩,fun _=>rfl⟩
    ·unfold onB
     rw[getS_ne e]
     exact ⟨.inl,fun q=>q.elim id fun q=>absurd q.1.symm e⟩
   ·rw[if_neg hc]
    refine ⟨.inl,fun q=>q.elim id fun ⟨q1,q2,q3⟩=>?_⟩
    subst q1
    unfold onB at q3
    rw[q2,q3] at hc
    exact absurd rfl hc
  rw[key]
  constructor
  ·rintro ((q | q) | ⟨y,hy,q⟩)
   ·exact .inl q
   ·exact .inr ⟨x,mem_cons_self,q⟩
   ·exact .inr ⟨y,mem_cons_of_mem _ hy,q⟩
  ·rintro (q | ⟨y,hy,q⟩)
   ·exact .inl (.inl q)
   ·rcases List.mem_cons.1 hy with g | g
    ·subst g; exact .inl (.inr q)
    ·exact .inr ⟨y,g,q⟩
theorem stepS_getD (I:InT) {s:SideT} (hs:SOK s) (a:Nat) (r:List Bool) {p:Nat} (hp:p<s.1.length):onB (stepS I s a r) p↔ofP I s p a=true∧(getD s.2.2.1 p 0<1152921504606846976∨∃x∈s.2.2.2.1,x.1.toNat=p∧onB r x.2.1.toNat):=by
 unfold stepS
 rw[arcsR_getD I s a r p _ _ (fun x hx=>by
  have:=hs.arcs x hx
  simp only[length_map,List.length_range]
  omega)]
 have e:onB ((List.range s.1.length).map (endP I s a)) p↔endP I s a p=true:=by
  unfold onB
  rw[getD_lt _ _ _ (by simpa using hp),getElem_map,List.getElem_range]
 rw[e]
 unfold endP
 simp only[Bool.and_eq_true,decide_eq_true_eq]
 constructor
 ·rintro (⟨h1,h2⟩ | ⟨x,hx,h1,h2,h3⟩)
  ·exact ⟨h2,.inl h1⟩
  ·exact ⟨h2,.inr ⟨x,hx,h1,h3⟩⟩
 ·rintro ⟨h1,h2 | ⟨x,hx,h2,h3⟩⟩
  ·exact .inl ⟨h2,h1⟩
  ·exact .inr ⟨x,hx,h2,h1,h3⟩
abbrev stT (I:InT) (s:SideT) (r:List Bool) (a:Nat):List Bool:=stepS I s a r
theorem row_liv {I:InT} {s:SideT} (hs:SOK s) {O:Nat→Nat→Bool} {x:List Nat} (ho:∀p j (h:j<x.length),p<s.1.length→ofP I s p x[j]=O p j):∀(d i:Nat),i+d=x.length→∀p,p<s.1.length→(onB (stR (stT I s) (replicate s.1.length false) (x.drop i)) p↔Liv s O x.length i p)
 |0,i,hi,p,hp=>by
  rw[drop_eq_nil_of_le (by omega)]
  constructor
  ·intro h
   unfold onB stR at h
   rw[getD_lt _ _ _ (by simpa using hp),getElem_replicate] at h
   cases h
  ·rintro ⟨k,q,hk,r,_⟩
   have:=r.lt
   omega
 |d+1,i,hi,p,hp=>by
  have hlt:i<x.length:=by omega
  rw[drop_eq_getElem_cons hlt]
  show onB (stepS I s x[i] (stR (stT I s) (replicate s.1.length false) (x.drop (i+1)))) p↔_
  rw[stepS_getD I hs _ _ hp,liv_step hlt,ho p i hlt hp]
  have ih:=fun q hq=>row_liv hs ho d (i+1) (by omega) q hq
  constructor
  ·rintro ⟨h1,h2 | ⟨y,hy,h2,h3⟩⟩
   ·exact ⟨h1,.inl h2⟩
   ·exact ⟨h1,.inr ⟨y,hy,h2,(ih _ (by have:=hs.arcs y hy; omega)).1 h3⟩⟩
  ·rintro ⟨h1,h2 | ⟨y,hy,h2,h3⟩⟩
   ·exact ⟨h1,.inl h2⟩
   ·exact ⟨h1,.inr ⟨y,hy,h2,(ih _ (by have:=hs.arcs y hy; omega)).2 h3⟩⟩
structure SmC (s:SideT):Prop where
 cf:∀p,p<s.1.length→0≤getD s.2.1 p 0∧(getD s.2.1 p 0≤20000∨getD s.2.1 p 0=1152921504606846976)
 ce:∀p,p<s.1.length→0≤getD s.2.2.1 p 0∧(getD s.2.2.1 p 0≤20000∨getD s.2.2.1 p 0=1152921504606846976)
 cn:0≤s.2.2.2.2.1
 ca:∀x∈s.2.2.2.1,0≤x.2.2.1∧x.2.2.1≤20000
theorem sideW_sm {I:InT} {N M:Nat} {s:SideT} (h:SideW I N M s):SmC s:=by
 obtain ⟨n,hn,g⟩:=h.g
 have hc:=cB_range 5 (by omega)
 have h1:=g.ls
 have h2:=g.cn
 unfold CB at h2
 refine ⟨fun p hp=>?_,fun p hp=>?_,h2.1,fun x hx=>?_⟩
 ·have:=g.ef (i:=p) (by omega)
  unfold CB at this
  omega
 ·have:=g.ee (i:=p) (by omega)
  unfold CB at this
  omega
 ·have:=g.arcs x hx
  omega
theorem hold_acc {I:InT} {s:SideT} (hs:SOK s) (hc:SmC s) {O:Nat→Nat→Bool} {x:List Nat} (hx:x.length≤1000) (ho:∀p j (h:j<x.length),p<s.1.length→ofP I s p x[j]=O p j) (i:Nat) (hi:i≤x.length):holdS s (stR (stT I s) (replicate s.1.length false) (x.drop i))=true↔∃k e,k≤x.length∧Acc s O i k e:=by
 unfold holdS
 rw[Bool.or_eq_true,decide_eq_true_eq,List.any_eq_true]
 constructor
 ·rintro (h | ⟨p,hp,h⟩)
  ·exact ⟨i,_,hi,.inl ⟨rfl,rfl,h⟩⟩
  ·have hp':p<s.1.length:=List.mem_range.1 hp
   unfold hitP at h
   simp only[Bool.and_eq_true,decide_eq_true_eq] at h
   obtain ⟨k,q,hk,r,hE⟩:=(row_liv hs ho (x.length-i) i (by omega) p hp').1 h.1
   have hF:=hc.cf p hp'
   have hlt:=r.lt
   have o:=r.on
   have h2:getD s.2.1 p 0<1152921504606846976:=h.2
   obtain ⟨d,d0,d1,r'⟩:=path_run (i0:=i) hc.ca r (by omega) (getD s.2.1 p 0) hF.1 (by omega) (.first p hp' h2 o)
   have hq:q<s.1.length:=by
    cases r' with
    |first q hq h o=>exact hq
    |next y hy r h o=>have:=hs.arcs y hy; omega
   have hEq:=hc.ce q hq
   exact ⟨k,d+getD s.2.2.1 q 0,hk,.inr ⟨q,d,hq,r',rfl,by omega⟩⟩
 ·rintro ⟨k,e,hk,⟨h1,h2,h3⟩ | ⟨q,d,hq,r,h2,h3⟩⟩
  ·exact .inl (show _<(1152921504606846976:Int) by omega)
  ·obtain ⟨p,hp,hF,hP⟩:=run_path r
   have hEq:=hc.ce q hq
   have hd:0≤d:=by
    clear h2 h3 hP
    induction r with
    |first p hp h o=>exact (hc.cf p hp).1
    |next y hy r h o ih =>
     have:=hc.ca y hy
     have:=ih (by omega) (by have:=hs.arcs y hy; omega) (hc.ce _ (by have:=hs.arcs y hy; omega))
     omega
   refine .inr ⟨p,List.mem_range.2 hp,?_⟩
   unfold hitP
   simp only[Bool.and_eq_true,decide_eq_true_eq]
   exact ⟨(row_liv hs ho (x.length-i) i (by omega) p hp).2 ⟨k,q,hk,hP,by omega⟩,hF⟩
theorem stepL_get (I:InT) (ss:List SideT) {L:Live} (a i:Nat) (h:i<ss.length) (h2:i<L.length) (h3:i<(stepL I ss L a).length):(stepL I ss L a)[i]=stepS I ss[i] a L[i]:=List.getElem_zipWith ..
theorem stR_side (I:InT) (ss:List SideT) (i:Nat) (h:i<ss.length):∀(t:List Nat),getD (stR (stepL I ss) (zeroL ss) t) i []=stR (stT I ss[i]) (replicate ss[i].1.length false) t
 | []=>by
  show getD (zeroL ss) i []=replicate ss[i].1.length false
  rw[getD_lt _ _ _ (by simpa[zeroL] using h)]
  simp[zeroL]
 |a::t=>by
  have hl:=shp_len (stR_shp (I:=I) (ss:=ss) t)
  have hl2:=shp_len (stR_shp (I:=I) (ss:=ss) (a::t))
  have ih:=stR_side I ss i h t
  rw[getD_lt _ _ _ (by omega)] at ih
  show getD (stepL I ss (stR (stepL I ss) (zeroL ss) t) a) i []=stepS I ss[i] a (stR (stT I ss[i]) (replicate ss[i].1.length false) t)
  have hl3:i<(stepL I ss (stR (stepL I ss) (zeroL ss) t) a).length:=by
   have:(stepL I ss (stR (stepL I ss) (zeroL ss) t) a).length=ss.length:=hl2
   omega
  rw[getD_lt _ _ _ hl3,stepL_get I ss a i h (by omega),ih]
theorem holdL_side (I:InT) (ss:List SideT) (i:Nat) (h:i<ss.length) (t:List Nat):getD (holdL ss (stR (stepL I ss) (zeroL ss) t)) i false=holdS ss[i] (stR (stT I ss[i]) (replicate ss[i].1.length false) t):=by
 have hl:=shp_len (stR_shp (I:=I) (ss:=ss) t)
 have hl2:=holdL_len (stR_shp (I:=I) (ss:=ss) t)
 have e:=stR_side I ss i h t
 rw[getD_lt _ _ _ (by omega)] at e ⊢
 unfold holdL
 rw[List.getElem_zipWith,e]
end Go.Proofs.YtibammoednhnoaaE
set_option linter.unusedSimpArgs false
set_option linter.unusedVariables false
set_option maxRecDepth 20000
namespace Go.Proofs.YtibammoednhnoaaE
abbrev GrT:=List (List Int)
def gg (g:GrT) (i k:Nat):Int:=getD (getD g i []) k 0
def gs (g:GrT) (i k:Nat) (v:Int):GrT:=List.set g i (List.set (getD g i []) k v)
structure GS (n:Nat) (g:GrT):Prop where
 len:g.length=n
 row:∀i,i<n→(getD g i []).length=n
theorem GS.set {n:Nat} {g:GrT} (h:GS n g) (i k:Nat) (v:Int) (hi:i<n):GS n (gs g i k v):=by
 have hl:=h.len
 unfold gs
 refine ⟨by rw[length_set]; exact hl,fun j hj=>?_⟩
 by_cases e:j=i
 ·subst e
  rw[getS_eq (by omega),length_set]
  exact h.row j hj
 ·rw[getS_ne e]
  exact h.row j hj
theorem gg_gs {n:Nat} {g:GrT} (h:GS n g) {i k:Nat} (v:Int) (hi:i<n) (hk:k<n) (i' k':Nat):gg (gs g i k v) i' k'=if i'=i∧k'=k then v else gg g i' k':=by
 have hl:=h.len
 have hr:=h.row i hi
 unfold gg gs
 by_cases e:i'=i
 ·subst e
  rw[getS_eq (by omega)]
  by_cases e2:k'=k
  ·subst e2
   rw[getS_eq (by omega),if_pos ⟨rfl,rfl⟩]
  ·rw[getS_ne e2,if_neg fun q=>e2 q.2]
 ·rw[getS_ne e,if_neg fun q=>e q.1]
theorem mid_get {α:Type} (A B:List α) (r d:α) (i:Nat) (h:A.length=i):getD (A++r::B) i d=r:=by
 have:=getD_r A (r::B) i 0 d h
 rwa [Nat.add_zero] at this
theorem mid_set {α:Type} (A B:List α) (r r':α) (i:Nat) (h:A.length=i):List.set (A++r::B) i r'=A++r'::B:=by
 rw[List.set_append_right _ _ (by omega),show i-A.length=0 by omega,List.set_cons_zero]
theorem F65_0_ok (k:Nat) (n:Nat) (hn:n≤1000000) (A B:GrT) (i:Nat) (hA:A.length=i):∀(d m j:Nat),j+d=n→d<m →
  F65_0 k m (n:Int) (i:Int) (j:Int) (A++(replicate j INF1++replicate d 0)::B)=some (((n:Int),(i:Int),()),(A++replicate n INF1::B,()))
 |0,m,j,hj,hm=>by
  obtain ⟨m,rfl⟩:=pos1 (m:=m) (by omega)
  simp only[F65_0]
  rw[decide_eq_false (by omega),cond_false,replicate_zero,append_nil,show j=n by omega]
 |d+1,m,j,hj,hm=>by
  obtain ⟨m,rfl⟩:=pos1 (m:=m) (by omega)
  have hset:List.set (replicate j INF1++replicate (d+1) 0) j (1152921504606846976:Int)=replicate (j+1) INF1++replicate d 0:=by
   rw[List.set_append_right _ _ (by simp),List.length_replicate,Nat.sub_self,List.replicate_succ,List.set_cons_zero,List.replicate_succ',append_assoc]
   rfl
  have hl:i<(A++(replicate j INF1++replicate (d+1) 0)::B).length:=by rw[length_append,length_cons]; omega
  have hl2:j<(replicate j INF1++replicate (d+1) (0:Int)).length:=by simp
  simp only[F65_0]
  rw[decide_eq_true (by omega),cond_true,if_pos (inR hl),tnI i,mid_get _ _ _ _ _ hA,if_pos (inR hl2),tnI j,hset,mid_set _ _ _ _ _ hA,wsucc j n (by omega) (by omega),F65_0_ok k n hn A B i hA d m (j+1) (by omega) (by omega)]
  rfl
theorem F65_1_ok (k:Nat) (n:Nat) (hk:10000000≤k) (hn:n≤1000000):∀(d m i:Nat),i+d=n→d<m →
  F65_1 k m (n:Int) (i:Int) (replicate i (replicate n INF1)++replicate d [])=some ((),(replicate n (replicate n INF1),()))
 |0,m,i,hi,hm=>by
  obtain ⟨m,rfl⟩:=pos1 (m:=m) (by omega)
  simp only[F65_1]
  rw[decide_eq_false (by omega),cond_false,replicate_zero,append_nil,show i=n by omega]
 |d+1,m,i,hi,hm=>by
  obtain ⟨m,rfl⟩:=pos1 (m:=m) (by omega)
  have hl:i<(replicate i (replicate n INF1)++replicate (d+1) ([]:List Int)).length:=by simp
  have e:=F65_0_ok k n hn (replicate i (replicate n INF1)) (replicate d []) i (by simp) n k 0 (Nat.zero_add _) (by omega)
  rw[show ((0:Nat):Int)=0 from rfl,replicate_zero,nil_append] at e
  have hA:replicate i (replicate n INF1)++replicate n INF1::replicate d []=replicate (i+1) (replicate n INF1)++replicate d []:=by
   rw[List.replicate_succ',append_assoc]
   rfl
  simp only[F65_1]
  rw[decide_eq_true (by omega),cond_true,if_pos (by omega),if_pos (inR hl),tnI i,tnI n,List.replicate_succ,mid_set _ _ _ _ _ (by simp),e,bind_some]
  simp only
  rw[hA,wsucc i n (by omega) (by omega),F65_1_ok k n hk hn d m (i+1) (by omega) (by omega)]
  rfl
abbrev empG (n:Nat):GrT:=replicate n (replicate n INF1)
theorem F65_ok (k:Nat) (n:Nat) (hk:10000000≤k) (hn:n≤1000000):F65 k (n:Int)=some ((empG n,()),()):=by
 have e:=F65_1_ok k n hk hn n k 0 (Nat.zero_add _) (by omega)
 rw[show ((0:Nat):Int)=0 from rfl,replicate_zero,nil_append] at e
 unfold F65
 rw[if_pos (by omega),tnI n]
 simp only
 rw[e,bind_some]
theorem empG_GS (n:Nat):GS n (empG n):=⟨by simp,fun i hi=>by rw[getD_lt _ _ _ (by simpa using hi),getElem_replicate,List.length_replicate]⟩
theorem empG_gg {n i k:Nat} (hi:i<n) (hk:k<n):gg (empG n) i k=1152921504606846976:=by
 unfold gg
 rw[getD_lt (empG n) i [] (by simpa using hi),getElem_replicate,getD_lt _ _ _ (by simpa using hk),getElem_replicate]
structure IsG (n:Nat) (g:GrT) (D:Rel):Prop where
 gs:GS n g
 min:∀i k,i<n→k<n→IsMin (gg g i k) (D i k)
theorem IsMin.cst {V:Int} {S:Int→Prop} (h:IsMin V S) (hS:∀c,S c→0≤c):Cst V:=by
 refine ⟨?_,h.le⟩
 by_cases q:V<1152921504606846976
 ·exact hS V (h.at_ q)
 ·omega
theorem IsG.congr {n:Nat} {g:GrT} {D E:Rel} (h:IsG n g D) (e:∀i k c,i<n→k<n→(D i k c↔E i k c)):IsG n g E:=⟨h.gs,fun i k hi hk=>(h.min i k hi hk).congr fun c=>e i k c hi hk⟩
theorem F64_0_ok (k:Nat) (n:Nat) (hn:n≤1000000):∀(d m i:Nat) (g:GrT),i+d=n→d<m→GS n g→(∀i' k',i'<n→k'<n→gg g i' k'=if i'=k'∧i'<i then 0 else 1152921504606846976) →
  ∃g',F64_0 k m (n:Int) (i:Int) g=some ((),(g',()))∧IsG n g' eps
 |0,m,i,g,hi,hm,hg,hv=>by
  obtain ⟨m,rfl⟩:=pos1 (m:=m) (by omega)
  refine ⟨g,?_,hg,fun a b ha hb=>?_⟩
  ·simp only[F64_0]
   rw[decide_eq_false (by omega),cond_false]
  ·rw[hv a b ha hb]
   split
   ·exact ⟨by decide,fun c hc=>by have:=hc.2; omega,fun _=>⟨by omega,rfl⟩⟩
   ·exact IsMin.inf fun c hc=>by have:=hc.1; omega
 |d+1,m,i,g,hi,hm,hg,hv=>by
  obtain ⟨m,rfl⟩:=pos1 (m:=m) (by omega)
  have hlt:i<n:=by omega
  have hl:=hg.len
  have hr:=hg.row i hlt
  obtain ⟨g',e,h⟩:=F64_0_ok k n hn d m (i+1) (gs g i i 0) (by omega) (by omega) (hg.set i i 0 hlt) (fun i' k' h1 h2=>by
   rw[gg_gs hg 0 hlt hlt,hv i' k' h1 h2]
   by_cases q:i'=i∧k'=i
   ·rw[if_pos q,if_pos (by omega)]
   ·rw[if_neg q]
    by_cases q2:i'=k'∧i'<i
    ·rw[if_pos q2,if_pos (by omega)]
    ·rw[if_neg q2,if_neg (by omega)])
  refine ⟨g',?_,h⟩
  unfold gs at e
  simp only[F64_0]
  rw[decide_eq_true (by omega),cond_true,if_pos (by omega),tnI i,if_pos (by omega),wsucc i n hlt (by omega),e]
  rfl
theorem F64_ok (k:Nat) (n:Nat) (hk:10000000≤k) (hn:n≤1000000):∃g,F64 k (n:Int)=some ((g,()),())∧IsG n g eps:=by
 obtain ⟨g,e,h⟩:=F64_0_ok k n hn n k 0 (empG n) (Nat.zero_add _) (by omega) (empG_GS n) (fun i k hi hk=>by rw[empG_gg hi hk,if_neg (by omega)])
 rw[show ((0:Nat):Int)=0 from rfl] at e
 refine ⟨g,?_,h⟩
 unfold F64
 rw[F65_ok k n hk hn,bind_some]
 simp only
 rw[e,bind_some]
section
variable {n:Nat} {a b:GrT} {D1 D2:Rel}
theorem F67_0_ok (k:Nat) (hn:n≤1000000) (ha:GS n a) (hb:GS n b) (i:Nat) (hi:i<n):∀(d m j:Nat) (e:GrT),j+d=n→d<m→GS n e→(∀i' k',i'<n→k'<n→gg e i' k'=if i'<i∨i'=i∧k'<j then minI (gg a i' k') (gg b i' k') else 1152921504606846976) →
  ∃e',F67_0 k m a b (i:Int) (j:Int) e=some ((a,b,(i:Int),()),(e',()))∧GS n e'∧∀i' k',i'<n→k'<n→gg e' i' k'=if i'<i+1 then minI (gg a i' k') (gg b i' k') else 1152921504606846976
 |0,m,j,e,hj,hm,he,hv=>by
  obtain ⟨m,rfl⟩:=pos1 (m:=m) (by omega)
  have hl:=ha.len
  refine ⟨e,?_,he,fun i' k' h1 h2=>?_⟩
  ·simp only[F67_0]
   rw[decide_eq_false (by omega),cond_false]
  ·rw[hv i' k' h1 h2]
   by_cases q:i'<i+1
   ·rw[if_pos q,if_pos (by omega)]
   ·rw[if_neg q,if_neg (by omega)]
 |d+1,m,j,e,hj,hm,he,hv=>by
  obtain ⟨m,rfl⟩:=pos1 (m:=m) (by omega)
  have hlt:j<n:=by omega
  have l1:=ha.len
  have l2:=hb.len
  have l3:=he.len
  have r1:=ha.row i hi
  have r2:=hb.row i hi
  have r3:=he.row i hi
  obtain ⟨e',eq,h⟩:=F67_0_ok k hn ha hb i hi d m (j+1) (gs e i j (minI (gg a i j) (gg b i j))) (by omega) (by omega) (he.set i j _ hi) (fun i' k' h1 h2=>by
   rw[gg_gs he _ hi hlt,hv i' k' h1 h2]
   by_cases q:i'=i∧k'=j
   ·rw[if_pos q,if_pos (by omega),q.1,q.2]
   ·rw[if_neg q]
    by_cases q2:i'<i∨i'=i∧k'<j
    ·rw[if_pos q2,if_pos (by omega)]
    ·rw[if_neg q2,if_neg (by omega)])
  refine ⟨e',?_,h⟩
  unfold gs gg at eq
  simp only[F67_0]
  rw[decide_eq_true (by omega),cond_true,if_pos (by omega),if_pos (by omega),tnI i,if_pos (by omega),if_pos (by omega),if_pos (by omega),if_pos (by omega),tnI j,wsucc j n hlt (by omega),eq]
  rfl
theorem F67_1_ok (k:Nat) (hk:10000000≤k) (hn:n≤1000000) (ha:GS n a) (hb:GS n b):∀(d m i:Nat) (e:GrT),i+d=n→d<m→GS n e→(∀i' k',i'<n→k'<n→gg e i' k'=if i'<i then minI (gg a i' k') (gg b i' k') else 1152921504606846976) →
  ∃e',F67_1 k m a b (i:Int) e=some ((),(e',()))∧GS n e'∧∀i' k',i'<n→k'<n→gg e' i' k'=minI (gg a i' k') (gg b i' k')
 |0,m,i,e,hi,hm,he,hv=>by
  obtain ⟨m,rfl⟩:=pos1 (m:=m) (by omega)
  have hl:=ha.len
  refine ⟨e,?_,he,fun i' k' h1 h2=>by rw[hv i' k' h1 h2,if_pos (by omega)]⟩
  simp only[F67_1]
  rw[decide_eq_false (by omega),cond_false]
 |d+1,m,i,e,hi,hm,he,hv=>by
  obtain ⟨m,rfl⟩:=pos1 (m:=m) (by omega)
  have hl:=ha.len
  obtain ⟨e1,q1,q2,q3⟩:=F67_0_ok k hn ha hb i (by omega) n k 0 e (Nat.zero_add _) (by omega) he (fun i' k' h1 h2=>by
   rw[hv i' k' h1 h2]
   by_cases q:i'<i
   ·rw[if_pos q,if_pos (by omega)]
   ·rw[if_neg q,if_neg (by omega)])
  rw[show ((0:Nat):Int)=0 from rfl] at q1
  obtain ⟨e',eq,h⟩:=F67_1_ok k hk hn ha hb d m (i+1) e1 (by omega) (by omega) q2 q3
  refine ⟨e',?_,h⟩
  simp only[F67_1]
  rw[decide_eq_true (by omega),cond_true,q1,bind_some]
  simp only
  rw[wsucc i n (by omega) (by omega),eq]
  rfl
theorem F67_ok (k:Nat) (hk:10000000≤k) (hn:n≤1000000) (ha:IsG n a D1) (hb:IsG n b D2):∃g,F67 k a b=some ((g,()),())∧IsG n g (orR D1 D2):=by
 have hl:=ha.gs.len
 obtain ⟨g,e,h1,h2⟩:=F67_1_ok k hk hn ha.gs hb.gs n k 0 (empG n) (Nat.zero_add _) (by omega) (empG_GS n) (fun i k hi hk=>by rw[empG_gg hi hk,if_neg (by omega)])
 rw[show ((0:Nat):Int)=0 from rfl] at e
 refine ⟨g,?_,h1,fun i k hi hk=>by rw[h2 i k hi hk]; exact (ha.min i k hi hk).min (hb.min i k hi hk)⟩
 unfold F67
 rw[hl,F65_ok k n hk hn,bind_some]
 simp only
 rw[e,bind_some]
theorem IsMin.add2 {V W:Int} {S T:Int→Prop} (h:IsMin V S) (g:IsMin W T) (hS:∀c,S c→0≤c) (hT:∀c,T c→0≤c):IsMin (adI V W) (fun c=>∃d e,S d∧T e∧c=d+e∧c<1152921504606846976):=by
 have c1:=h.cst hS
 have c2:=g.cst hT
 unfold Cst at c1 c2
 refine ⟨?_,fun c hc=>?_,fun q=>?_⟩
 ·unfold adI minI; split<;>omega
 ·obtain ⟨d,e,hd,he,rfl,hlt⟩:=hc
  have:=h.lb d hd
  have:=g.lb e he
  unfold adI minI
  split<;>omega
 ·obtain ⟨e1,e2⟩:=adI_lt q
  exact ⟨V,W,h.at_ (by omega),g.at_ (by omega),e1,by omega⟩
def compR (D1 D2:Rel) (i j k:Nat):Rel:=fun i' k' c=>∃j' d e,(i'<i∨i'=i∧(j'<j∨j'=j∧k'<k))∧D1 i' j' d∧D2 j' k' e∧c=d+e∧c<1152921504606846976
theorem F68_0_ok (k:Nat) (hn:n≤1000000) (ha:IsG n a D1) (hb:IsG n b D2) (p1:Pos D1) (p2:Pos D2) (i j:Nat) (hi:i<n) (hj:j<n):∀(d m q:Nat) (e:GrT),q+d=n→d<m→IsG n e (compR D1 D2 i j q) →
  ∃e',F68_0 k m a b (i:Int) (j:Int) (q:Int) e=some ((a,b,(i:Int),(j:Int),()),(e',()))∧IsG n e' (compR D1 D2 i j n)
 |0,m,q,e,hq,hm,he=>by
  obtain ⟨m,rfl⟩:=pos1 (m:=m) (by omega)
  have hl:=ha.gs.len
  obtain rfl:q=n:=by omega
  refine ⟨e,?_,he⟩
  simp only[F68_0]
  rw[decide_eq_false (by omega),cond_false]
 |d+1,m,q,e,hq,hm,he=>by
  obtain ⟨m,rfl⟩:=pos1 (m:=m) (by omega)
  have hlt:q<n:=by omega
  have l1:=ha.gs.len
  have l2:=hb.gs.len
  have l3:=he.gs.len
  have r1:=ha.gs.row i hi
  have r2:=hb.gs.row j hj
  have r3:=he.gs.row i hi
  have m1:=ha.min i j hi hj
  have m2:=hb.min j q hj hlt
  have c1:=m1.cst fun c h=>(p1 _ _ _ h).2.1
  have c2:=m2.cst fun c h=>(p2 _ _ _ h).2.1
  obtain ⟨e',eq,h⟩:=F68_0_ok k hn ha hb p1 p2 i j hi hj d m (q+1) (gs e i q (minI (gg e i q) (adI (gg a i j) (gg b j q)))) (by omega) (by omega) ⟨he.gs.set i q _ hi,fun i' k' h1 h2=>by
   rw[gg_gs he.gs _ hi hlt]
   by_cases g:i'=i∧k'=q
   ·rw[if_pos g,g.1,g.2]
    refine ((he.min i q hi hlt).min (m1.add2 m2 (fun c h=>(p1 _ _ _ h).2.1) (fun c h=>(p2 _ _ _ h).2.1))).congr fun c=>?_
    constructor
    ·rintro (⟨j',d,e,h1,h2⟩ | ⟨d,e,h2⟩)
     ·exact ⟨j',d,e,by omega,h2⟩
     ·exact ⟨j,d,e,by omega,h2⟩
    ·rintro ⟨j',d,e,h1,h2⟩
     by_cases hj':j'=j
     ·subst hj'
      exact .inr ⟨d,e,h2⟩
     ·exact .inl ⟨j',d,e,by omega,h2⟩
   ·rw[if_neg g]
    refine (he.min i' k' h1 h2).congr fun c=>⟨fun ⟨j',d,e,h3,h4⟩=>⟨j',d,e,by omega,h4⟩,fun ⟨j',d,e,h3,h4⟩=>⟨j',d,e,by omega,h4⟩⟩⟩
  refine ⟨e',?_,h⟩
  unfold gs gg at eq
  unfold gg at c1 c2
  simp only[F68_0]
  rw[decide_eq_true (by omega),cond_true,if_pos (by omega),if_pos (by omega),tnI i,if_pos (by omega),if_pos (by omega),if_pos (by omega),if_pos (by omega),tnI j,if_pos (by omega),tnI q,F69_ad k _ _ c1 c2,bind_some]
  simp only
  rw[if_pos (by omega),wsucc q n hlt (by omega),eq]
  rfl
theorem F68_1_ok (k:Nat) (hk:10000000≤k) (hn:n≤1000000) (ha:IsG n a D1) (hb:IsG n b D2) (p1:Pos D1) (p2:Pos D2) (i:Nat) (hi:i<n):∀(d m j:Nat) (e:GrT),j+d=n→d<m→IsG n e (compR D1 D2 i j 0) →
  ∃e',F68_1 k m a b (i:Int) (j:Int) e=some ((a,b,(i:Int),()),(e',()))∧IsG n e' (compR D1 D2 i n 0)
 |0,m,j,e,hj,hm,he=>by
  obtain ⟨m,rfl⟩:=pos1 (m:=m) (by omega)
  have hl:=ha.gs.len
  obtain rfl:j=n:=by omega
  refine ⟨e,?_,he⟩
  simp only[F68_1]
  rw[decide_eq_false (by omega),cond_false]
 |d+1,m,j,e,hj,hm,he=>by
  obtain ⟨m,rfl⟩:=pos1 (m:=m) (by omega)
  have hlt:j<n:=by omega
  have l1:=ha.gs.len
  obtain ⟨e1,q1,q2⟩:=F68_0_ok k hn ha hb p1 p2 i j hi hlt (n-j) k j e (by omega) (by omega) (he.congr fun i' k' c h1 h2=>⟨fun ⟨j',d,e,h3,h4⟩=>⟨j',d,e,by omega,h4⟩,fun ⟨j',d,e,h3,h4,h5,h6⟩=>⟨j',d,e,by have:=p2 _ _ _ h5; omega,h4,h5,h6⟩⟩)
  obtain ⟨e',eq,h⟩:=F68_1_ok k hk hn ha hb p1 p2 i hi d m (j+1) e1 (by omega) (by omega) (q2.congr fun i' k' c h1 h2=>⟨fun ⟨j',d,e,h3,h4⟩=>⟨j',d,e,by omega,h4⟩,fun ⟨j',d,e,h3,h4⟩=>⟨j',d,e,by omega,h4⟩⟩)
  refine ⟨e',?_,h⟩
  simp only[F68_1]
  rw[decide_eq_true (by omega),cond_true,q1,bind_some]
  simp only
  rw[wsucc j n hlt (by omega),eq]
  rfl
theorem F68_2_ok (k:Nat) (hk:10000000≤k) (hn:n≤1000000) (ha:IsG n a D1) (hb:IsG n b D2) (p1:Pos D1) (p2:Pos D2):∀(d m i:Nat) (e:GrT),i+d=n→d<m→IsG n e (compR D1 D2 i 0 0) →
  ∃e',F68_2 k m a b (i:Int) e=some ((),(e',()))∧IsG n e' (comp D1 D2)
 |0,m,i,e,hi,hm,he=>by
  obtain ⟨m,rfl⟩:=pos1 (m:=m) (by omega)
  have hl:=ha.gs.len
  refine ⟨e,?_,he.congr fun i' k' c h1 h2=>⟨fun ⟨j',d,e,h3,h4⟩=>⟨j',d,e,h4⟩,fun ⟨j',d,e,h4⟩=>⟨j',d,e,by omega,h4⟩⟩⟩
  simp only[F68_2]
  rw[decide_eq_false (by omega),cond_false]
 |d+1,m,i,e,hi,hm,he=>by
  obtain ⟨m,rfl⟩:=pos1 (m:=m) (by omega)
  have hlt:i<n:=by omega
  have l1:=ha.gs.len
  obtain ⟨e1,q1,q2⟩:=F68_1_ok k hk hn ha hb p1 p2 i hlt (n-i) k i e (by omega) (by omega) (he.congr fun i' k' c h1 h2=>⟨fun ⟨j',d,e,h3,h4⟩=>⟨j',d,e,by omega,h4⟩,fun ⟨j',d,e,h3,h4,h6⟩=>⟨j',d,e,by have:=p1 _ _ _ h4; omega,h4,h6⟩⟩)
  obtain ⟨e',eq,h⟩:=F68_2_ok k hk hn ha hb p1 p2 d m (i+1) e1 (by omega) (by omega) (q2.congr fun i' k' c h1 h2=>⟨fun ⟨j',d,e,h3,h4⟩=>⟨j',d,e,by omega,h4⟩,fun ⟨j',d,e,h3,h4,h5,h6⟩=>⟨j',d,e,by have:=p2 _ _ _ h5; omega,h4,h5,h6⟩⟩)
  refine ⟨e',?_,h⟩
  simp only[F68_2]
  rw[decide_eq_true (by omega),cond_true,q1,bind_some]
  simp only
  rw[wsucc i n hlt (by omega),eq]
  rfl
theorem F68_ok (k:Nat) (hk:10000000≤k) (hn:n≤1000000) (ha:IsG n a D1) (hb:IsG n b D2) (p1:Pos D1) (p2:Pos D2):∃g,F68 k a b=some ((g,()),())∧IsG n g (comp D1 D2):=by
 have hl:=ha.gs.len
 obtain ⟨g,e,h⟩:=F68_2_ok k hk hn ha hb p1 p2 n k 0 (empG n) (Nat.zero_add _) (by omega) ⟨empG_GS n,fun i k hi hk=>by
  rw[empG_gg hi hk]
  exact IsMin.inf fun c ⟨j',d,e,h3,_⟩=>by omega⟩
 rw[show ((0:Nat):Int)=0 from rfl] at e
 refine ⟨g,?_,h⟩
 unfold F68
 rw[hl,F65_ok k n hk hn,bind_some]
 simp only
 rw[e,bind_some]
end
end Go.Proofs.YtibammoednhnoaaE
set_option linter.unusedSimpArgs false
set_option linter.unusedVariables false
set_option maxRecDepth 20000
namespace Go.Proofs.YtibammoednhnoaaE
def fS (sets:List RgT) (t:List Int) (v:Int) (j:Nat):Bool:=decide (v<0)||has (getD sets v.toNat []) (getD t j 0)
theorem fndI_has (nm:ByteArray):∀(l:List DefT) (i:Nat),(∃d∈l,d.1=nm)→0≤fndI l nm i
 | [],i,⟨d,hd,_⟩=>by cases hd
 |d::l,i,⟨e,he,q⟩=>by
  unfold fndI
  by_cases h:d.1.toList=nm.toList
  ·rw[if_pos h]; omega
  ·rw[if_neg h]
   rcases List.mem_cons.1 he with g | g
   ·rw[←g,q] at h; exact absurd rfl h
   ·exact fndI_has nm l (i+1) ⟨e,g,q⟩
theorem fnd_nam {l t:List DefT} (h:l=defs4++t) {nm:ByteArray} (hn:Nam4 nm):0≤fnd l nm:=by
 refine fndI_has nm l 0 ?_
 have h4:nms.take 4=defs4.map (·.1):=rfl
 unfold Nam4 at hn
 rw[h4] at hn
 obtain ⟨d,hd,e⟩:=List.mem_map.1 hn
 exact ⟨d,by rw[h]; exact List.mem_append_left _ hd,e⟩
abbrev Fun64:=RexT→FileT→List RgT→List Int→Option (((List (List Int))×Unit)×Unit)
theorem F48_0_ok (k:Nat) (f:Fun64) (sets:List RgT) (t:List Int) (n9:Int) (c4:UnfT) (fl:FileT) (Q:RexT→GrT→Prop) (hl:c4.2.2.2.2.2.1.length≤1000) (hf:∀y∈c4.2.2.2.2.2.1,∃g,f y fl sets t=some ((g,()),())∧Q y g):∀(d m i:Nat) (acc:List GrT),i+d=c4.2.2.2.2.2.1.length→d<m→acc.length=i →
  ∃L,F48_0 k f m sets t n9 (i:Int) c4 fl acc=some ((sets,t,n9,()),(c4,fl,acc++L,()))∧L.length=d∧∀j,j<d→∃y g,c4.2.2.2.2.2.1[i+j]? = some y∧L[j]? = some g∧Q y g
 |0,m,i,acc,hi,hm,ha=>by
  obtain ⟨m,rfl⟩:=pos1 (m:=m) (by omega)
  refine ⟨[],?_,rfl,fun j hj=>by omega⟩
  simp only[F48_0]
  rw[decide_eq_false (by omega),cond_false,append_nil]
 |d+1,m,i,acc,hi,hm,ha=>by
  obtain ⟨m,rfl⟩:=pos1 (m:=m) (by omega)
  have hlt:i<c4.2.2.2.2.2.1.length:=by omega
  obtain ⟨g,e,hQ⟩:=hf _ (getElem_mem hlt)
  obtain ⟨L,e2,h1,h2⟩:=F48_0_ok k f sets t n9 c4 fl Q hl hf d m (i+1) (acc++[g]) (by omega) (by omega) (by simp[ha])
  refine ⟨g::L,?_,by simp[h1],fun j hj=>?_⟩
  ·simp only[F48_0]
   rw[dlt hlt,cond_true,if_pos (inR hlt),tnI i,getD_lt _ _ _ hlt,e,bind_some]
   simp only
   rw[if_pos (by rw[length_singleton]; omega),wsucc i _ hlt (by omega),e2,append_assoc]
   rfl
  ·cases j with
   |zero=>exact ⟨_,g,List.getElem?_eq_getElem hlt,rfl,hQ⟩
   |succ j =>
    obtain ⟨y,g',q1,q2,q3⟩:=h2 j (by omega)
    exact ⟨y,g',by rw[show i+(j+1)=i+1+j by omega]; exact q1,by rw[List.getElem?_cons_succ]; exact q2,q3⟩
theorem F48_1_ok (k:Nat) (f:Fun64) (hk:10000000≤k) (fl:FileT) (hfl:fl.1.length≤1000) (sets:List RgT) (hg:RgL sets) (hsl:sets.length=fl.1.length) (t:List Int) (ht:t.length≤100000) (c4:UnfT) (hc:c4.1=3∨c4.1=2∧0≤fnd fl.1 c4.2.2.2.2.1) (v:Int) (hv:v=if c4.1=2 then fnd fl.1 c4.2.2.2.2.1 else -1):∀(d m i:Nat) (g:GrT),i+d=t.length→d<m→GS (t.length+1) g→(∀i' k',i'<t.length+1→k'<t.length+1→gg g i' k'=if i'<i∧k'=i'+1∧fS sets t v i'=true then 0 else 1152921504606846976) →
  ∃g',F48_1 k f m sets t ((t.length+1:Nat):Int) (i:Int) c4 fl g=some ((),(g',()))∧IsG (t.length+1) g' (fun i k c=>k=i+1∧c=0∧fS sets t v i=true)
 |0,m,i,g,hi,hm,hG,hgv=>by
  obtain ⟨m,rfl⟩:=pos1 (m:=m) (by omega)
  refine ⟨g,?_,hG,fun a b ha hb=>?_⟩
  ·simp only[F48_1]
   rw[wsucc i (t.length+1) (by omega) (by omega),decide_eq_false (by omega),cond_false]
  ·rw[hgv a b ha hb]
   split
   ·rename_i q
    exact ⟨by decide,fun c hc=>by have:=hc.2.1; omega,fun _=>⟨q.2.1,rfl,q.2.2⟩⟩
   ·rename_i q
    exact IsMin.inf fun c hc=>q ⟨by have:=hc.1; omega,hc.1,hc.2.2⟩
 |d+1,m,i,g,hi,hm,hG,hgv=>by
  obtain ⟨m,rfl⟩:=pos1 (m:=m) (by omega)
  have hlt:i<t.length:=by omega
  have hl:=hG.len
  have hr:=hG.row i (by omega)
  have hw:IntKind.wrap .i64 ((i:Int)+1)=((i+1:Nat):Int):=wsucc i (t.length+1) (by omega) (by omega)
  have hit:(0:Int)≤((i+1:Nat):Int)∧((i+1:Nat):Int)<(((getD g i []).length:Nat):Int):=by omega
  have hig:(0:Int)≤(i:Int)∧(i:Int)<((g.length:Nat):Int):=by omega
  have yes:fS sets t v i=true→∃g',(F48_1 k f m sets t ((t.length+1:Nat):Int) ((i+1:Nat):Int) c4 fl (List.set g i (List.set (getD g i []) (i+1) 0))).bind some=some ((),(g',()))∧IsG (t.length+1) g' (fun i k c=>k=i+1∧c=0∧fS sets t v i=true):=fun hf=>by
   obtain ⟨g',e,h⟩:=F48_1_ok k f hk fl hfl sets hg hsl t ht c4 hc v hv d m (i+1) (gs g i (i+1) 0) (by omega) (by omega) (hG.set i _ _ (by omega)) (fun i' k' h1 h2=>by
    rw[gg_gs hG _ (by omega) (by omega),hgv i' k' h1 h2]
    by_cases q:i'=i∧k'=i+1
    ·rw[if_pos q,if_pos ⟨by omega,by omega,by rw[q.1]; exact hf⟩]
    ·rw[if_neg q]
     by_cases q2:i'<i∧k'=i'+1∧fS sets t v i'=true
     ·rw[if_pos q2,if_pos ⟨by omega,q2.2⟩]
     ·rw[if_neg q2,if_neg fun q3=>q2 ⟨by omega,q3.2⟩])
   exact ⟨g',by unfold gs at e; rw[e]; rfl,h⟩
  have no:fS sets t v i=false→∃g',(F48_1 k f m sets t ((t.length+1:Nat):Int) ((i+1:Nat):Int) c4 fl g).bind some=some ((),(g',()))∧IsG (t.length+1) g' (fun i k c=>k=i+1∧c=0∧fS sets t v i=true):=fun hf=>by
   obtain ⟨g',e,h⟩:=F48_1_ok k f hk fl hfl sets hg hsl t ht c4 hc v hv d m (i+1) g (by omega) (by omega) hG (fun i' k' h1 h2=>by
    rw[hgv i' k' h1 h2]
    by_cases q2:i'<i∧k'=i'+1∧fS sets t v i'=true
    ·rw[if_pos q2,if_pos ⟨by omega,q2.2⟩]
    ·rw[if_neg q2,if_neg fun q3=>by
      by_cases hi':i'=i
      ·subst hi'
       rw[hf] at q3
       cases q3.2.2
      ·exact q2 ⟨by omega,q3.2⟩])
   exact ⟨g',by rw[e]; rfl,h⟩
  simp only[F48_1]
  rw[hw,decide_eq_true (by omega),cond_true]
  rcases hc with hc | ⟨hc,hc2⟩
  ·have hf:fS sets t v i=true:=by
    rw[hv,if_neg (by omega)]
    rfl
   rw[beq_iff_eq.2 hc,cond_true,if_pos hig,tnI i,if_pos hit,tnI (i+1)]
   exact yes hf
  ·rw[if_pos hc] at hv
   have hr2:=fnd_range fl.1 c4.2.2.2.2.1
   have hb:(0:Int)≤fnd fl.1 c4.2.2.2.2.1∧fnd fl.1 c4.2.2.2.2.1<((sets.length:Nat):Int):=by omega
   have hlr:=rgS_len (rgL_at hg (fnd fl.1 c4.2.2.2.2.1).toNat)
   have hf:fS sets t v i=has (getD sets (fnd fl.1 c4.2.2.2.2.1).toNat []) (getD t i 0):=by
    unfold fS
    rw[hv,decide_eq_false (by omega),Bool.false_or]
   rw[beq_false_of_ne (by omega),cond_false,if_pos (inR hlt),F66_ok k fl _ hfl hk,bind_some]
   simp only
   rw[if_pos hb,F55_ok k _ _ (by omega) hk,bind_some]
   simp only
   rw[tnI i,←hf]
   cases hh:fS sets t v i with
   |true =>
    rw[cond_true,if_pos hig,if_pos hit,tnI (i+1)]
    exact yes hh
   |false =>
    rw[cond_false]
    exact no hh
theorem F48_2_ok (k:Nat) (f:Fun64) {n:Nat} (hn:n≤200000) {g0:GrT} (h0:GS n g0) (hc0:∀i k,i<n→k<n→Cst (gg g0 i k)) (c4:UnfT) (hw:Cst c4.2.2.2.1) (i:Nat) (hi:i<n):∀(d m j:Nat) (g:GrT),i≤j→j+d=n→d<m→GS n g→(∀i' k',i'<n→k'<n→gg g i' k'=if i'≤k'∧(i'<i∨i'=i∧k'<j) then adI (gg g0 i' k') c4.2.2.2.1 else 1152921504606846976) →
  ∃g',F48_2 k f m (n:Int) (i:Int) (j:Int) c4 g [g0]=some (((n:Int),(i:Int),()),(c4,g',[g0],()))∧GS n g'∧∀i' k',i'<n→k'<n→gg g' i' k'=if i'≤k'∧i'<i+1 then adI (gg g0 i' k') c4.2.2.2.1 else 1152921504606846976
 |0,m,j,g,hij,hj,hm,hG,hgv=>by
  obtain ⟨m,rfl⟩:=pos1 (m:=m) (by omega)
  refine ⟨g,?_,hG,fun i' k' h1 h2=>?_⟩
  ·simp only[F48_2]
   rw[decide_eq_false (by omega),cond_false]
  ·rw[hgv i' k' h1 h2]
   by_cases q:i'≤k'∧i'<i+1
   ·rw[if_pos q,if_pos (by omega)]
   ·rw[if_neg q,if_neg (by omega)]
 |d+1,m,j,g,hij,hj,hm,hG,hgv=>by
  obtain ⟨m,rfl⟩:=pos1 (m:=m) (by omega)
  have hlt:j<n:=by omega
  have l0:=h0.len
  have l1:=hG.len
  have r0:=h0.row i hi
  have r1:=hG.row i hi
  have hc:=hc0 i j hi hlt
  obtain ⟨g',e,h⟩:=F48_2_ok k f hn h0 hc0 c4 hw i hi d m (j+1) (gs g i j (adI (gg g0 i j) c4.2.2.2.1)) (by omega) (by omega) (by omega) (hG.set i _ _ hi) (fun i' k' h1 h2=>by
   rw[gg_gs hG _ hi hlt,hgv i' k' h1 h2]
   by_cases q:i'=i∧k'=j
   ·rw[if_pos q,if_pos (by omega),q.1,q.2]
   ·rw[if_neg q]
    by_cases q2:i'≤k'∧(i'<i∨i'=i∧k'<j)
    ·rw[if_pos q2,if_pos (by omega)]
    ·rw[if_neg q2,if_neg (by omega)])
  refine ⟨g',?_,h⟩
  unfold gs gg at e
  unfold gg at hc
  simp only[F48_2]
  rw[decide_eq_true (by omega),cond_true,if_pos (by omega),if_pos (by simp),show getD [g0] (Int.toNat 0) []=g0 from rfl,if_pos (by omega),tnI i,if_pos (by omega),tnI j,F69_ad k _ _ hc hw,bind_some]
  simp only
  rw[if_pos (by omega),wsucc j n hlt (by omega),e]
  rfl
theorem F48_3_ok (k:Nat) (f:Fun64) (hk:10000000≤k) {n:Nat} (hn:n≤200000) {g0:GrT} {D:Rel} (h0:IsG n g0 D) (pD:Pos D) (c4:UnfT) (hw:Cst c4.2.2.2.1):∀(d m i:Nat) (g:GrT),i+d=n→d<m→GS n g→(∀i' k',i'<n→k'<n→gg g i' k'=if i'≤k'∧i'<i then adI (gg g0 i' k') c4.2.2.2.1 else 1152921504606846976) →
  ∃g',F48_3 k f m (n:Int) (i:Int) c4 g [g0]=some ((),(g',()))∧IsG n g' (wgtR D c4.2.2.2.1)
 |0,m,i,g,hi,hm,hG,hgv=>by
  obtain ⟨m,rfl⟩:=pos1 (m:=m) (by omega)
  refine ⟨g,?_,hG,fun i' k' h1 h2=>?_⟩
  ·simp only[F48_3]
   rw[decide_eq_false (by omega),cond_false]
  ·rw[hgv i' k' h1 h2]
   by_cases q:i'≤k'∧i'<i
   ·rw[if_pos q]
    exact (h0.min i' k' h1 h2).add hw.1
   ·rw[if_neg q]
    exact IsMin.inf fun c ⟨d,hd,_⟩=>by
     have:=pD _ _ _ hd
     omega
 |d+1,m,i,g,hi,hm,hG,hgv=>by
  obtain ⟨m,rfl⟩:=pos1 (m:=m) (by omega)
  have hlt:i<n:=by omega
  obtain ⟨g1,q1,q2,q3⟩:=F48_2_ok k f hn h0.gs (fun i k hi hk=>(h0.min i k hi hk).cst fun c h=>(pD _ _ _ h).2.1) c4 hw i hlt (n-i) k i g (Nat.le_refl _) (by omega) (by omega) hG (fun i' k' h1 h2=>by
   rw[hgv i' k' h1 h2]
   by_cases q:i'≤k'∧i'<i
   ·rw[if_pos q,if_pos (by omega)]
   ·rw[if_neg q,if_neg (by omega)])
  obtain ⟨g',e,h⟩:=F48_3_ok k f hk hn h0 pD c4 hw d m (i+1) g1 (by omega) (by omega) q2 q3
  refine ⟨g',?_,h⟩
  simp only[F48_3]
  rw[decide_eq_true (by omega),cond_true,q1,bind_some]
  simp only
  rw[wsucc i n hlt (by omega),e]
  rfl
def bestR (D:Rel) (lo:Int) (q:Nat):Rel:=fun i k c=>∃m:Nat,lo≤(m:Int)∧m<q∧pw D m i k c
theorem F48_4_ok (k:Nat) (f:Fun64) (hk:10000000≤k) {n:Nat} (hn:n≤200000) {g0:GrT} {D:Rel} (h0:IsG n g0 D) (pD:Pos D) (lo:Int) (h:Nat) (hh:h≤1000000):∀(d m q:Nat) (best now:GrT),q+d=h+1→d<m→IsG n best (bestR D lo q)→IsG n now (pw D q) →
  ∃g,F48_4 k f m lo (h:Int) (q:Int) [g0] best now=some ((),(g,()))∧IsG n g (bestR D lo (h+1))
 |0,m,q,best,now,hq,hm,hb,hw=>by
  obtain ⟨m,rfl⟩:=pos1 (m:=m) (by omega)
  obtain rfl:q=h+1:=by omega
  refine ⟨best,?_,hb⟩
  simp only[F48_4]
  rw[decide_eq_false (by omega),cond_false]
 |d+1,m,q,best,now,hq,hm,hb,hw=>by
  obtain ⟨m,rfl⟩:=pos1 (m:=m) (by omega)
  obtain ⟨n2,e2,h2⟩:=F68_ok k hk (by omega) hw h0 (pos_pw pD q) pD
  have hz:(0:Int)≤0∧(0:Int)<(([g0].length:Nat):Int):=by simp
  simp only[F48_4]
  rw[decide_eq_true (by omega),cond_true,show getD [g0] (Int.toNat 0) []=g0 from rfl,wsucc q (h+1) (by omega) (by omega)]
  by_cases hlo:(q:Int)≥lo
  ·obtain ⟨b2,e1,h1⟩:=F67_ok k hk (by omega) hb hw
   obtain ⟨g,e,hg⟩:=F48_4_ok k f hk hn h0 pD lo h hh d m (q+1) b2 n2 (by omega) (by omega) (h1.congr fun i k c _ _=>by
    constructor
    ·rintro (⟨m',w1,w2,w3⟩ | w)
     ·exact ⟨m',w1,by omega,w3⟩
     ·exact ⟨q,hlo,by omega,w⟩
    ·rintro ⟨m',w1,w2,w3⟩
     by_cases hmq:m'=q
     ·subst hmq; exact .inr w3
     ·exact .inl ⟨m',w1,by omega,w3⟩) h2
   refine ⟨g,?_,hg⟩
   rw[decide_eq_true hlo,cond_true,e1,bind_some]
   simp only
   rw[if_pos hz,e2,bind_some]
   simp only
   rw[e]
   rfl
  ·obtain ⟨g,e,hg⟩:=F48_4_ok k f hk hn h0 pD lo h hh d m (q+1) best n2 (by omega) (by omega) (hb.congr fun i k c _ _=>by
    constructor
    ·rintro ⟨m',w1,w2,w3⟩
     exact ⟨m',w1,by omega,w3⟩
    ·rintro ⟨m',w1,w2,w3⟩
     exact ⟨m',w1,by omega,w3⟩) h2
   refine ⟨g,?_,hg⟩
   rw[decide_eq_false hlo,cond_false,if_pos hz,e2,bind_some]
   simp only
   rw[e]
   rfl
theorem pw_short {D:Rel} (pD:Pos D):∀(m i k:Nat) (c:Int),pw D m i k c→∃m' d,m'≤k-i∧d≤c∧pw D m' i k d
 |0,i,k,c,h=>⟨0,c,zero_le _,Int.le_refl _,h⟩
 |m+1,i,k,c,⟨j,d,e,h1,h2,h3,h4⟩=>by
  have p1:=pos_pw pD m _ _ _ h1
  have p2:=pD _ _ _ h2
  obtain ⟨m',d',g1,g2,g3⟩:=pw_short pD m i j d h1
  by_cases hj:j=k
  ·subst hj
   exact ⟨m',d',g1,by omega,g3⟩
  ·exact ⟨m'+1,d'+e,by omega,by omega,j,d',e,g3,h2,rfl,by omega⟩
theorem pos_star {D:Rel} (pD:Pos D):Pos (starR D):=fun i k c ⟨m,h⟩=>pos_pw pD m _ _ _ h
theorem pos_wgt {D:Rel} (pD:Pos D) {w:Int} (hw:0≤w):Pos (wgtR D w):=fun i k c ⟨d,h1,h2,h3⟩=>by
 have:=pD _ _ _ h1
 omega
theorem den_4 {f:Int→Nat→Bool} {fn:ByteArray→Int} {h:Nat} {x p q:RexT} (a:x.a.1=4) (e:x.l=[p,q]):den f fn (h+1) x=comp (den f fn h p) (den f fn h q):=by
 conv=>lhs; unfold den
 rw[if_neg (by omega),if_pos a,e]
 rfl
theorem den_5 {f:Int→Nat→Bool} {fn:ByteArray→Int} {h:Nat} {x p q:RexT} (a:x.a.1=5) (e:x.l=[p,q]):den f fn (h+1) x=orR (den f fn h p) (den f fn h q):=by
 conv=>lhs; unfold den
 rw[if_neg (by omega),if_neg (by omega),if_pos a,e]
 rfl
theorem den_6 {f:Int→Nat→Bool} {fn:ByteArray→Int} {h:Nat} {x p:RexT} (a:x.a.1=6) (e:x.l=[p]):den f fn (h+1) x=starR (den f fn h p):=by
 conv=>lhs; unfold den
 rw[if_neg (by omega),if_neg (by omega),if_neg (by omega),if_pos a,e]
 rfl
theorem den_7 {f:Int→Nat→Bool} {fn:ByteArray→Int} {h:Nat} {x p:RexT} (a:x.a.1=7) (e:x.l=[p]):den f fn (h+1) x=fun i k c=>∃m:Nat,x.a.2.1≤(m:Int)∧(m:Int)≤x.a.2.2.1∧pw (den f fn h p) m i k c:=by
 conv=>lhs; unfold den
 rw[if_neg (by omega),if_neg (by omega),if_neg (by omega),if_neg (by omega),if_neg (by omega),e]
 rfl
theorem den_8 {f:Int→Nat→Bool} {fn:ByteArray→Int} {h:Nat} {x p:RexT} (a:x.a.1=8) (e:x.l=[p]):den f fn (h+1) x=wgtR (den f fn h p) x.a.2.2.2.1:=by
 conv=>lhs; unfold den
 rw[if_neg (by omega),if_neg (by omega),if_neg (by omega),if_neg (by omega),if_pos a,e]
 rfl
theorem den_leaf {f:Int→Nat→Bool} {fn:ByteArray→Int} {h:Nat} {x:RexT} (p:Leaf x):den f fn h x=leafR f fn x:=by
 cases h with
 |zero=>rfl
 |succ h=>unfold den; exact if_pos (leaf3 p)
theorem pos_den {w:Bool} (f:Int→Nat→Bool) (fn:ByteArray→Int):∀(h:Nat) (x:RexT),RexP w h x→Pos (den f fn h x)
 |0,x,p=>by
  rw[den_leaf p]
  exact pos_leaf f fn x
 |h+1,x,p=>by
  rcases p with p | ⟨a,p,q,e,hp1,hq1⟩ | ⟨a,p,e,hp1⟩ | ⟨a,b,p,e,hp1⟩ | ⟨a,_,b,p,e,hp1⟩
  ·rw[den_leaf p]
   exact pos_leaf f fn x
  ·have g1:=pos_den f fn h p hp1
   have g2:=pos_den f fn h q hq1
   rcases a with a | a
   ·rw[den_4 a e]; exact pos_comp g1 g2
   ·rw[den_5 a e]; exact pos_or g1 g2
  ·rw[den_6 a e]; exact pos_star (pos_den f fn h p hp1)
  ·rw[den_7 a e]
   exact fun i k c ⟨m,_,_,h⟩=>pos_pw (pos_den f fn _ p hp1) m _ _ _ h
  ·rw[den_8 a e]; exact pos_wgt (pos_den f fn h p hp1) b.1
theorem R48_ok {w:Bool} (fl:FileT) (hfl:fl.1.length≤1000) (h4:∃t,fl.1=defs4++t) (sets:List RgT) (hsl:sets.length=fl.1.length) (hg:RgL sets) (t:List Int) (ht:t.length≤1000):∀(h k:Nat) (x:RexT),h≤5→RexP w h x→h+10000000<k→∃g,R48 k x fl sets t=some ((g,()),())∧IsG (t.length+1) g (den (fS sets t) (fnd fl.1) h x):=by
 have hw1:IntKind.wrap .i64 (((t.length:Nat):Int)+1)=((t.length+1:Nat):Int):=wsucc t.length (t.length+1) (by omega) (by omega)
 have leaf:∀(h k:Nat) (x:RexT),Leaf x→h+10000000<k→∃g,R48 k x fl sets t=some ((g,()),())∧IsG (t.length+1) g (den (fS sets t) (fnd fl.1) h x):=by
  intro h k x p hk
  obtain ⟨k,rfl⟩:∃k',k=k'+1:=⟨k-1,by omega⟩
  rw[den_leaf p]
  obtain ⟨p,hnil⟩:=p
  obtain ⟨L,e0,hL,_⟩:=F48_0_ok k (R48 k) sets t ((t.length+1:Nat):Int) (x.a.1,(x.a.2.1,(x.a.2.2.1,(x.a.2.2.2.1,(x.a.2.2.2.2.1,(x.l,())))))) fl (fun _ _=>True) (by rw[hnil]; simp) (fun y hy=>by rw[hnil] at hy; cases hy) 0 k 0 [] (by rw[hnil]; rfl) (by omega) rfl
  rw[show ((0:Nat):Int)=0 from rfl] at e0
  show ∃g,B48 k (R48 k) x fl sets t=_∧_
  unfold B48
  simp only
  rw[hw1,e0,bind_some]
  simp only
  rcases p with p | ⟨p,pn⟩ | p
  ·obtain ⟨g,e,hG⟩:=F64_ok k (t.length+1) (by omega) (by omega)
   refine ⟨g,?_,hG.congr fun i k c _ _=>⟨fun q=>.inl ⟨p,q⟩,fun q=>q.elim And.right fun q=>absurd p q.1⟩⟩
   rw[beq_iff_eq.2 p,cond_true,e,bind_some]
  ·obtain ⟨tl,h4⟩:=h4
   obtain ⟨g,e,hG⟩:=F48_1_ok k (R48 k) (by omega) fl hfl sets hg hsl t (by omega) (x.a.1,(x.a.2.1,(x.a.2.2.1,(x.a.2.2.2.1,(x.a.2.2.2.2.1,(x.l,())))))) (.inr ⟨p,fnd_nam h4 pn⟩) _ rfl t.length k 0 (empG (t.length+1)) (Nat.zero_add _) (by omega) (empG_GS _) (fun i k hi hk=>by rw[empG_gg hi hk,if_neg (by omega)])
   rw[show ((0:Nat):Int)=0 from rfl] at e
   refine ⟨g,?_,hG.congr fun i k c _ _=>⟨fun q=>.inr ⟨by omega,q⟩,fun q=>q.elim (fun q=>absurd q.1 (by omega)) And.right⟩⟩
   rw[beq_false_of_ne (by omega),cond_false,beq_iff_eq.2 p,cond_true,F65_ok k _ (by omega) (by omega),bind_some]
   simp only
   rw[e,bind_some]
  ·obtain ⟨g,e,hG⟩:=F48_1_ok k (R48 k) (by omega) fl hfl sets hg hsl t (by omega) (x.a.1,(x.a.2.1,(x.a.2.2.1,(x.a.2.2.2.1,(x.a.2.2.2.2.1,(x.l,())))))) (.inl p) _ rfl t.length k 0 (empG (t.length+1)) (Nat.zero_add _) (by omega) (empG_GS _) (fun i k hi hk=>by rw[empG_gg hi hk,if_neg (by omega)])
   rw[show ((0:Nat):Int)=0 from rfl] at e
   refine ⟨g,?_,hG.congr fun i k c _ _=>⟨fun q=>.inr ⟨by omega,q⟩,fun q=>q.elim (fun q=>absurd q.1 (by omega)) And.right⟩⟩
   rw[beq_false_of_ne (by omega),cond_false,beq_false_of_ne (by omega),cond_false,beq_iff_eq.2 p,cond_true,F65_ok k _ (by omega) (by omega),bind_some]
   simp only
   rw[e,bind_some]
 intro h
 induction h with
 |zero=>intro k x _ p hk; exact leaf 0 k x p hk
 |succ h ih =>
  intro k x h5 p hk
  rcases p with p | p
  ·exact leaf (h+1) k x p hk
  obtain ⟨k,rfl⟩:∃k',k=k'+1:=⟨k-1,by omega⟩
  have hrec:∀y,RexP w h y→∃g,R48 k y fl sets t=some ((g,()),())∧IsG (t.length+1) g (den (fS sets t) (fnd fl.1) h y):=fun y hy=>ih k y (by omega) hy (by omega)
  have hpos:∀y,RexP w h y→Pos (den (fS sets t) (fnd fl.1) h y):=fun y hy=>pos_den _ _ h y hy
  show ∃g,B48 k (R48 k) x fl sets t=_∧_
  have one:∀y,x.l=[y]→RexP w h y→∃g,F48_0 k (R48 k) k sets t ((t.length+1:Nat):Int) 0 (x.a.1,(x.a.2.1,(x.a.2.2.1,(x.a.2.2.2.1,(x.a.2.2.2.2.1,(x.l,())))))) fl []=some ((sets,t,((t.length+1:Nat):Int),()),((x.a.1,(x.a.2.1,(x.a.2.2.1,(x.a.2.2.2.1,(x.a.2.2.2.2.1,(x.l,())))))),fl,[g],()))∧IsG (t.length+1) g (den (fS sets t) (fnd fl.1) h y):=fun y hy hp=>by
   obtain ⟨L,e0,hL,hQ⟩:=F48_0_ok k (R48 k) sets t ((t.length+1:Nat):Int) (x.a.1,(x.a.2.1,(x.a.2.2.1,(x.a.2.2.2.1,(x.a.2.2.2.2.1,(x.l,())))))) fl (fun y g=>IsG (t.length+1) g (den (fS sets t) (fnd fl.1) h y)) (by rw[hy]; simp) (fun z hz=>by
    rw[hy] at hz
    rw[List.mem_singleton.1 hz]
    exact hrec y hp) 1 k 0 [] (by rw[hy]; rfl) (by omega) rfl
   match L,hL with
   | [g],_ =>
    obtain ⟨z,g',q1,q2,q3⟩:=hQ 0 (by omega)
    simp only[hy] at q1
    injection q1 with q1
    injection q2 with q2
    subst q1 q2
    exact ⟨g,e0,q3⟩
  rcases p with ⟨a,p,q,e,hp1,hq1⟩ | ⟨a,p,e,hp1⟩ | ⟨a,b,p,e,hp1⟩ | ⟨a,_,b,p,e,hp1⟩
  ·obtain ⟨L,e0,hL,hQ⟩:=F48_0_ok k (R48 k) sets t ((t.length+1:Nat):Int) (x.a.1,(x.a.2.1,(x.a.2.2.1,(x.a.2.2.2.1,(x.a.2.2.2.2.1,(x.l,())))))) fl (fun y g=>IsG (t.length+1) g (den (fS sets t) (fnd fl.1) h y)) (by rw[e]; simp) (fun z hz=>by
    rw[e] at hz
    rcases List.mem_cons.1 hz with g | g
    ·rw[g]; exact hrec p hp1
    ·rw[List.mem_singleton.1 g]; exact hrec q hq1) 2 k 0 [] (by rw[e]; rfl) (by omega) rfl
   match L,hL with
   | [g1,g2],_ =>
    obtain ⟨z,g',q1,q2,q3⟩:=hQ 0 (by omega)
    obtain ⟨z',g'',r1,r2,r3⟩:=hQ 1 (by omega)
    simp only[e] at q1 r1
    injection q1 with q1
    injection q2 with q2
    injection r1 with r1
    injection r2 with r2
    subst q1 q2 r1 r2
    rw[show ((0:Nat):Int)=0 from rfl,nil_append] at e0
    have i0:(0:Int)≤0∧(0:Int)<((([g1,g2]:List GrT).length:Nat):Int):=by simp only[length_cons,length_nil]; omega
    have i1:(0:Int)≤1∧(1:Int)<((([g1,g2]:List GrT).length:Nat):Int):=by simp only[length_cons,length_nil]; omega
    unfold B48
    simp only
    rw[hw1,e0,bind_some]
    simp only
    rcases a with a | a
    ·obtain ⟨g,eg,hG⟩:=F68_ok k (by omega) (by omega) q3 r3 (hpos _ hp1) (hpos _ hq1)
     refine ⟨g,?_,by rw[den_4 a e]; exact hG⟩
     rw[a,show ((4:Int)==1)=false from rfl,cond_false,show ((4:Int)==2)=false from rfl,cond_false,show ((4:Int)==3)=false from rfl,cond_false,show ((4:Int)==5)=false from rfl,cond_false,show ((4:Int)==4)=true from rfl,cond_true,if_pos i0,if_pos i1]
     simp only[show Int.toNat 0=0 from rfl,show Int.toNat 1=1 from rfl,List.getD_cons_zero,List.getD_cons_succ]
     rw[eg,bind_some]
    ·obtain ⟨g,eg,hG⟩:=F67_ok k (by omega) (by omega) q3 r3
     refine ⟨g,?_,by rw[den_5 a e]; exact hG⟩
     rw[a,show ((5:Int)==1)=false from rfl,cond_false,show ((5:Int)==2)=false from rfl,cond_false,show ((5:Int)==3)=false from rfl,cond_false,show ((5:Int)==5)=true from rfl,cond_true,if_pos i0,if_pos i1]
     simp only[show Int.toNat 0=0 from rfl,show Int.toNat 1=1 from rfl,List.getD_cons_zero,List.getD_cons_succ]
     rw[eg,bind_some]
  ·obtain ⟨g1,e0,hg1⟩:=one p e hp1
   obtain ⟨gu,eu,hu⟩:=F64_ok k (t.length+1) (by omega) (by omega)
   have hP:=hpos _ hp1
   obtain ⟨g,eg,hG⟩:=F48_4_ok k (R48 k) (by omega) (by omega) hg1 hP 0 (t.length+1) (by omega) (t.length+2) k 0 (empG (t.length+1)) gu (by omega) (by omega) ⟨empG_GS _,fun i k hi hk=>by
    rw[empG_gg hi hk]
    exact IsMin.inf fun c ⟨m,_,h,_⟩=>by omega⟩ hu
   rw[show ((0:Nat):Int)=0 from rfl] at eg
   refine ⟨g,?_,?_⟩
   ·unfold B48
    simp only
    rw[hw1,e0,bind_some]
    simp only
    rw[a,show ((6:Int)==1)=false from rfl,cond_false,show ((6:Int)==2)=false from rfl,cond_false,show ((6:Int)==3)=false from rfl,cond_false,show ((6:Int)==5)=false from rfl,cond_false,show ((6:Int)==4)=false from rfl,cond_false,show ((6:Int)==8)=false from rfl,cond_false,show ((6:Int)==6)=true from rfl,cond_true,F65_ok k _ (by omega) (by omega),bind_some,eu,bind_some]
    simp only
    rw[eg,bind_some]
   ·rw[den_6 a e]
    refine ⟨hG.gs,fun i k hi hk=>?_⟩
    have hm:=hG.min i k hi hk
    refine ⟨hm.le,fun c ⟨m,hc⟩=>?_,fun q=>?_⟩
    ·obtain ⟨m',d,w1,w2,w3⟩:=pw_short hP m i k c hc
     have:=hm.lb d ⟨m',by omega,by omega,w3⟩
     omega
    ·obtain ⟨m,_,_,h⟩:=hm.at_ q
     exact ⟨m,h⟩
  ·obtain ⟨g1,e0,hg1⟩:=one p e hp1
   obtain ⟨gu,eu,hu⟩:=F64_ok k (t.length+1) (by omega) (by omega)
   have hP:=hpos _ hp1
   obtain ⟨g,eg,hG⟩:=F48_4_ok k (R48 k) (by omega) (by omega) hg1 hP x.a.2.1 x.a.2.2.1.toNat (by omega) (x.a.2.2.1.toNat+1) k 0 (empG (t.length+1)) gu (by omega) (by omega) ⟨empG_GS _,fun i k hi hk=>by
    rw[empG_gg hi hk]
    exact IsMin.inf fun c ⟨m,_,h,_⟩=>by omega⟩ hu
   rw[show ((0:Nat):Int)=0 from rfl,show ((x.a.2.2.1.toNat:Nat):Int)=x.a.2.2.1 by omega] at eg
   refine ⟨g,?_,?_⟩
   ·unfold B48
    simp only
    rw[hw1,e0,bind_some]
    simp only
    rw[a,show ((7:Int)==1)=false from rfl,cond_false,show ((7:Int)==2)=false from rfl,cond_false,show ((7:Int)==3)=false from rfl,cond_false,show ((7:Int)==5)=false from rfl,cond_false,show ((7:Int)==4)=false from rfl,cond_false,show ((7:Int)==8)=false from rfl,cond_false,show ((7:Int)==6)=false from rfl,cond_false,F65_ok k _ (by omega) (by omega),bind_some,eu,bind_some]
    simp only
    rw[eg,bind_some]
   ·rw[den_7 a e]
    exact hG.congr fun i k c _ _=>⟨fun ⟨m,w1,w2,w3⟩=>⟨m,w1,by omega,w3⟩,fun ⟨m,w1,w2,w3⟩=>⟨m,w1,by omega,w3⟩⟩
  ·obtain ⟨g1,e0,hg1⟩:=one p e hp1
   have hP:=hpos _ hp1
   obtain ⟨g,eg,hG⟩:=F48_3_ok k (R48 k) (by omega) (by omega) hg1 hP (x.a.1,(x.a.2.1,(x.a.2.2.1,(x.a.2.2.2.1,(x.a.2.2.2.2.1,(x.l,())))))) (by unfold Cst; simp only; omega) (t.length+1) k 0 (empG (t.length+1)) (Nat.zero_add _) (by omega) (empG_GS _) (fun i k hi hk=>by rw[empG_gg hi hk,if_neg (by omega)])
   rw[show ((0:Nat):Int)=0 from rfl] at eg
   refine ⟨g,?_,by rw[den_8 a e]; exact hG⟩
   unfold B48
   simp only
   rw[hw1,e0,bind_some]
   simp only
   rw[beq_false_of_ne (by omega),cond_false,beq_false_of_ne (by omega),cond_false,beq_false_of_ne (by omega),cond_false,beq_false_of_ne (by omega),cond_false,beq_false_of_ne (by omega),cond_false,beq_iff_eq.2 a,cond_true,F65_ok k _ (by omega) (by omega),bind_some]
   simp only
   rw[eg,bind_some]
end Go.Proofs.YtibammoednhnoaaE
set_option linter.unusedSimpArgs false
set_option linter.unusedVariables false
set_option maxRecDepth 20000
namespace Go.Proofs.YtibammoednhnoaaE
theorem trm_den {w:Bool} {fl:FileT} {I:InT} {N:Nat} {x:RexT} {s':SideT} (h:TrmS fl I x s') (hx:RexP w 5 x) {sets:List RgT} (hsl:sets.length=fl.1.length) {t:List Int} {xs:List Nat} (hxl:xs.length=t.length) (hlet:∀j (h:j<xs.length) (h2:j<t.length),LetR sets I N t[j] xs[j]) (i k:Nat) (hk:k≤t.length):(∀c,Acc s' (accP sets s' t) i k c→∃d,d≤c∧den (fS sets t) (fnd fl.1) 5 x i k d)∧∀c,den (fS sets t) (fnd fl.1) 5 x i k c→∃d,d≤c∧Acc s' (accP sets s' t) i k d:=by
 obtain ⟨_,z,a,b,c,h⟩:=h
 have hfn:∀nm,-1≤fnd fl.1 nm∧fnd fl.1 nm<((sets.length:Nat):Int):=fun nm=>by have:=fnd_range fl.1 nm; omega
 have hG:=side_G (fnd fl.1) sets.length hfn 5 x (by omega) hx
 have hsv:=hG.sdv (by have:=cB_range 5 (by omega); omega)
 have hE:=side_den (fS sets t) (fnd fl.1) sets.length hfn 5 x (Nat.le_refl _) hx
 have hT:∀e,AccF (fS sets t) s' i k e↔AccF (fS sets t) (sideS (fnd fl.1) 5 x) i k e:=fun e=>acc_trim h hsv (fS sets t) (L:=t.length) (fun p j hp hj ho=>⟨xs[j]'(by omega),by
  rw[acc_of (fun y hy=>(hG.sets y hy).2) hxl hlet p j hp (by omega)]
  exact ho⟩) hk
 constructor
 ·intro c hc
  exact hE.2 i k c ((hT c).1 hc)
 ·intro c hc
  obtain ⟨d,h1,h2⟩:=hE.1 i k c hc
  exact ⟨d,h1,(hT d).2 h2⟩
theorem IsMin.dom {V:Int} {S T:Int→Prop} (h:IsMin V S) (h1:∀c,T c→∃d,d≤c∧S d) (h2:∀c,S c→∃d,d≤c∧T d):IsMin V T:=by
 refine ⟨h.le,fun c hc=>?_,fun q=>?_⟩
 ·obtain ⟨d,g1,g2⟩:=h1 c hc
  have:=h.lb d g2
  omega
 ·obtain ⟨d,g1,g2⟩:=h2 V (h.at_ q)
  obtain ⟨e,g3,g4⟩:=h1 d g2
  have:=h.lb e g4
  rwa [show V=d by omega]
theorem start9s (k:Nat) (hk:20000000≤k) (a0:List RawT) (a1 a2:List Int) (h1:a1.length≤100000000000000):F13 k a0=some ((false,()),())∨F13 k a0=some ((true,()),())∧((∃w,F14 k a0 a1 a2=some ((w,false,()),()))∨∃w N sets,F14 k a0 a1 a2=some ((w,true,()),())∧WS k a0 a1 w N sets):=by
 obtain ⟨b,e14,hb⟩:=F13_ok k a0 (by omega)
 cases b with
 |false=>exact .inl e14
 |true=>exact .inr ⟨e14,F14_s k a0 a1 a2 hk (hb rfl).2 h1⟩
end Go.Proofs.YtibammoednhnoaaE
set_option linter.unusedSimpArgs false
set_option linter.unusedVariables false
set_option maxRecDepth 20000
namespace Go.Proofs.YtibammoednhnoaaE
abbrev MakT:=(((Option (List (ByteArray×Int)))×Unit)×((List SideT)×((List (List Bool))×((List (List Int))×Unit))))
theorem F61_ok (k:Nat) (nm:(Option (List (ByteArray×Int)))×Unit) (ss:List SideT) (I:InT) (u:List (List Int)×Unit) (s:SideT) (p a:Nat) (hp:p<s.1.length):F61 k (some (nm,(ss,(I,u)))) s (p:Int) (a:Int)=some ((ofP I s p a,()),()):=by
 unfold F61 ofP
 rw[if_pos (inR hp),tnI p]
 simp only[getD_some,isSome_some,if_true]
 by_cases h:getD s.1 p 0<0
 ·rw[decide_eq_true h,cond_true,Bool.true_or]
 ·rw[decide_eq_false h,cond_false,Bool.false_or]
  generalize hv:getD s.1 p 0=v at h ⊢
  by_cases h2:v<((length I:Nat):Int)
  ·rw[decide_eq_true h2,cond_true,if_pos ⟨by omega,h2⟩]
   by_cases h3:(a:Int)<((length (getD I v.toNat []):Nat):Int)
   ·rw[decide_eq_true h3,cond_true,if_pos ⟨by omega,h2⟩,if_pos ⟨by omega,h3⟩]
    rfl
   ·rw[decide_eq_false h3,cond_false]
    have:getD (getD I v.toNat []) a false=false:=by
     rw[getD_eq_getElem?_getD,List.getElem?_eq_none (by omega)]; rfl
    rw[this]
  ·rw[decide_eq_false h2,cond_false]
   have:getD I v.toNat []=[]:=by
    rw[getD_eq_getElem?_getD,List.getElem?_eq_none (by omega)]; rfl
   rw[this]
   rfl
theorem F60_ok (k:Nat) (nm:(Option (List (ByteArray×Int)))×Unit) (ss:List SideT) (I:InT) (u:List (List Int)×Unit) (s:SideT) (p a:Nat) (hp:p<s.1.length):F60 k (p:Int) (some (nm,(ss,(I,u)))) s (a:Int)=some ((ofP I s p a,()),(some (nm,(ss,(I,u))),s,(a:Int),())):=by
 unfold F60
 rw[F61_ok k nm ss I u s p a hp,bind_some]
theorem upto_no {n i:Nat} {f:Nat→Bool} (h:f i=false):upto n i f=upto n (i+1) f:=by
 refine List.ext_getElem (by simp[upto]) fun j h1 h2=>?_
 simp only[upto,getElem_map,List.getElem_range]
 by_cases e:j=i
 ·subst e; rw[h]; simp
 ·have:decide (j<i)=decide (j<i+1):=by
   by_cases q:j<i
   ·rw[decide_eq_true q,decide_eq_true (by omega)]
   ·rw[decide_eq_false q,decide_eq_false (by omega)]
  rw[this]
def b2i (b:Bool):Int:=if b then 1 else 0
abbrev bits (r:List Bool):List Int:=r.map b2i
theorem bits_set (r:List Bool) (i:Nat) (b:Bool):List.set (bits r) i (b2i b)=bits (List.set r i b):=by
 unfold bits
 rw[List.map_set]
theorem bits_getD (r:List Bool) (i:Nat):(getD (bits r) i 0==1)=getD r i false:=by
 rw[getD_eq_getElem?_getD,getD_eq_getElem?_getD,getElem?_map]
 cases r[i]? with
 |none=>rfl
 |some b=>cases b<;>rfl
end Go.Proofs.YtibammoednhnoaaE
set_option linter.unusedSimpArgs false
set_option linter.unusedVariables false
set_option maxRecDepth 20000
namespace Go.Proofs.YtibammoednhnoaaE
section
variable (k:Nat) (nm:(Option (List (ByteArray×Int)))×Unit) (ms:List SideT) (I:InT) (u:List (List Int)×Unit) (s:SideT) (a:Nat)
theorem F36_0_ok (hs:SOK s) (b:List Int) (t21:List SideT) (t22 t23:Int) (pre post:List Int) (hb:pre.length+s.1.length≤1000000000000):∀(d m i:Nat),i+d=s.1.length→d<m →
  F36_0 k m b (pre.length:Int) t21 t22 t23 (s.1.length:Int) (i:Int) (some (nm,(ms,(I,u)))) (a:Int) s (pre++(bits (upto s.1.length i (endP I s a))++post)) =
   some ((b,(pre.length:Int),t21,t22,t23,()),(some (nm,(ms,(I,u))),(a:Int),s,pre++(bits ((List.range s.1.length).map (endP I s a))++post),()))
 |0,m,i,hi,hm=>by
  obtain ⟨m,rfl⟩:=pos1 (m:=m) (by omega)
  have:i=s.1.length:=by omega
  subst this
  simp only[F36_0]
  rw[decide_eq_false (by omega),cond_false,upto_n]
 |d+1,m,i,hi,hm=>by
  obtain ⟨m,rfl⟩:=pos1 (m:=m) (by omega)
  have hlt:i<s.1.length:=by omega
  have hle:=hs.le
  have hln:=hs.ln
  have hlt2:i<s.2.2.1.length:=by omega
  have ih:=F36_0_ok hs b t21 t22 t23 pre post hb d m (i+1) (by omega) (by omega)
  simp only[F36_0]
  rw[dlt hlt,cond_true,if_pos (inR hlt2),tnI i,wsucc i _ hlt (by omega)]
  by_cases he:getD s.2.2.1 i 0<INF1
  ·rw[decide_eq_true he,cond_true,F60_ok k nm ms I u s i a hlt,bind_some]
   simp only
   have hend:endP I s a i=ofP I s i a:=by unfold endP; rw[decide_eq_true he,Bool.true_and]
   cases ho:ofP I s i a with
   |false =>
    rw[cond_false,upto_no (hend.trans ho),ih]
    rfl
   |true =>
    rw[cond_true,waddN _ _ (by omega)]
    have hin:0≤((pre.length+i:Nat):Int)∧((pre.length+i:Nat):Int)<((length (pre++(bits (upto s.1.length i (endP I s a))++post)):Nat):Int):=by
     simp only[length_append,length_map,upto_len]
     omega
    rw[if_pos hin,tnI (pre.length+i),set_mid _ _ _ _ _ (by simp[upto_len]; omega)]
    have h1:List.set (bits (upto s.1.length i (endP I s a))) i (1:Int)=bits (upto s.1.length (i+1) (endP I s a)):=by
     rw[show (1:Int)=b2i (endP I s a i) by rw[hend,ho]; rfl,bits_set,upto_set]
    rw[h1,ih]
    rfl
  ·rw[decide_eq_false he,cond_false]
   have hend:endP I s a i=false:=by unfold endP; rw[decide_eq_false he,Bool.false_and]
   rw[upto_no hend,ih]
   rfl
theorem F36_1_ok (hs:SOK s) (r:List Bool) (hr:r.length=s.1.length) (t21:List SideT) (t22 t23:Int) (preB postB pre post:List Int) (hp:preB.length=pre.length) (hb:pre.length+s.1.length≤1000000000000):∀(d m i:Nat) (row:List Bool),i+d=s.2.2.2.1.length→d<m→row.length=s.1.length →
  F36_1 k m (preB++(bits r++postB)) (pre.length:Int) t21 t22 t23 s.2.2.2.1 (s.2.2.2.1.length:Int) (i:Int) (some (nm,(ms,(I,u)))) (a:Int) s (pre++(bits row++post)) =
   some ((preB++(bits r++postB),(pre.length:Int),t21,t22,t23,()),(some (nm,(ms,(I,u))),(a:Int),s,pre++(bits ((s.2.2.2.1.drop i).foldl (arcR I s a r) row)++post),()))
 |0,m,i,row,hi,hm,hrow=>by
  obtain ⟨m,rfl⟩:=pos1 (m:=m) (by omega)
  simp only[F36_1]
  rw[decide_eq_false (by omega),cond_false,drop_eq_nil_of_le (by omega)]
  rfl
 |d+1,m,i,row,hi,hm,hrow=>by
  obtain ⟨m,rfl⟩:=pos1 (m:=m) (by omega)
  have hlt:i<s.2.2.2.1.length:=by omega
  have hla:=hs.la
  have hln:=hs.ln
  obtain ⟨⟨f0,f1⟩,g0,g1⟩:=hs.arcs _ (getElem_mem hlt)
  have ih:=fun row' hrow'=>F36_1_ok hs r hr t21 t22 t23 preB postB pre post hp hb d m (i+1) row' (by omega) (by omega) hrow'
  have hdrop:s.2.2.2.1.drop i=s.2.2.2.1[i]::s.2.2.2.1.drop (i+1):=drop_eq_getElem_cons hlt
  rw[hdrop,List.foldl_cons]
  simp only[F36_1]
  rw[dlt hlt,cond_true,if_pos (inR hlt),tnI i,wsucc i _ hlt (by omega),getD_lt _ _ _ hlt]
  generalize s.2.2.2.1[i]=x at f0 f1 g0 g1 ⊢
  obtain ⟨x1,hx1⟩:∃n:Nat,x.1=(n:Int):=⟨x.1.toNat,by omega⟩
  obtain ⟨x2,hx2⟩:∃n:Nat,x.2.1=(n:Int):=⟨x.2.1.toNat,by omega⟩
  have n1:x1<s.1.length:=by omega
  have n2:x2<s.1.length:=by omega
  rw[hx1,hx2,waddN _ _ (by omega)]
  have hin:0≤((pre.length+x2:Nat):Int)∧((pre.length+x2:Nat):Int)<((length (preB++(bits r++postB)):Nat):Int):=by
   simp only[length_append,length_map]
   omega
  rw[if_pos hin,tnI (pre.length+x2),←hp,getD_mid _ _ _ _ _ (by simp; omega),bits_getD,hp]
  have harc:arcR I s a r row x=if ofP I s x1 a&&getD r x2 false then List.set row x1 true else row:=by
   unfold arcR
   rw[hx1,hx2]
   rfl
  rw[harc]
  cases h2:getD r x2 false with
  |false =>
   rw[cond_false,Bool.and_false,if_neg (by simp),ih row hrow]
   rfl
  |true =>
   rw[cond_true,F60_ok k nm ms I u s x1 a n1,bind_some]
   simp only
   cases ho:ofP I s x1 a with
   |false =>
    rw[cond_false,Bool.false_and,if_neg (by simp),ih row hrow]
    rfl
   |true =>
    rw[cond_true,waddN _ _ (by omega)]
    have hin2:0≤((pre.length+x1:Nat):Int)∧((pre.length+x1:Nat):Int)<((length (pre++(bits row++post)):Nat):Int):=by
     simp only[length_append,length_map]
     omega
    rw[if_pos hin2,tnI (pre.length+x1),set_mid _ _ _ _ _ (by simp; omega),show (1:Int)=b2i true from rfl,bits_set,Bool.true_and,if_pos rfl,ih _ (by rw[length_set]; exact hrow)]
    rfl
end
abbrev flat (L:Live):List Int:=bits L.flatten
theorem flat_len {ss:List SideT} {L:Live} (h:Shp ss L):(flat L).length=tot ss:=by
 unfold flat tot
 rw[length_map,List.length_flatten,h]
theorem flat_app (A B:Live):flat (A++B)=flat A++flat B:=by simp[flat,bits]
theorem flat_cons (r:List Bool) (L:Live):flat (r::L)=bits r++flat L:=by simp[flat,bits]
theorem flat_one (r:List Bool):flat [r]=bits r:=by simp[flat]
theorem F36_2_ok (k:Nat) (nm:(Option (List (ByteArray×Int)))×Unit) (I:InT) (u:List (List Int)×Unit) (ss:List SideT) (a:Nat) (L:Live) (hk:10000000≤k) (hs:∀s∈ss,SOK s) (hL:Shp ss L) (hn:ss.length≤1000000) (ht:tot ss≤100000000):∀(d m i:Nat) (D:Live),i+d=ss.length→d<m→Shp (ss.take i) D →
  F36_2 k m (flat L) ((tot (ss.take i):Nat):Int) ss (ss.length:Int) (i:Int) (some (nm,(ss,(I,u)))) (a:Int) (flat D++replicate (tot (ss.drop i)) 0)=some ((),(flat (D++stepL I (ss.drop i) (L.drop i) a),()))
 |0,m,i,D,hi,hm,hD=>by
  obtain ⟨m,rfl⟩:=pos1 (m:=m) (by omega)
  simp only[F36_2]
  rw[decide_eq_false (by omega),cond_false,drop_eq_nil_of_le (by omega:ss.length≤i)]
  simp[tot,stepL]
 |d+1,m,i,D,hi,hm,hD=>by
  obtain ⟨m,rfl⟩:=pos1 (m:=m) (by omega)
  have hlt:i<ss.length:=by omega
  have hlL:L.length=ss.length:=by have:=congrArg length hL; simpa using this
  have hlt2:i<L.length:=by omega
  have hss:ss.drop i=ss[i]::ss.drop (i+1):=drop_eq_getElem_cons hlt
  have hLL:L.drop i=L[i]::L.drop (i+1):=drop_eq_getElem_cons hlt2
  have hso:=hs _ (getElem_mem hlt)
  have hrl:L[i].length=ss[i].1.length:=by
   have:=congrArg (fun l=>l[i]?) hL
   simpa[getElem?_map,hlt,hlt2] using this
  have htk:tot (ss.take (i+1))=tot (ss.take i)+ss[i].1.length:=by
   rw[List.take_succ_eq_append_getElem hlt,tot_app]
   simp[tot]
  have htd:tot (ss.drop i)=ss[i].1.length+tot (ss.drop (i+1)):=by rw[hss,tot_cons]
  have htot:tot ss=tot (ss.take i)+tot (ss.drop i):=by rw[←tot_app,take_append_drop]
  have hLsplit:flat L=flat (L.take i)++(bits L[i]++flat (L.drop (i+1))):=by
   have h0:L=L.take i++(L[i]::L.drop (i+1)):=by rw[←hLL,take_append_drop]
   calc flat L=flat (L.take i++(L[i]::L.drop (i+1))):=congrArg flat h0
    _=_:=by rw[flat_app,flat_cons]
  have hLt:Shp (ss.take i) (L.take i):=by unfold Shp; rw[map_take,map_take,hL]
  have hpl:(flat (L.take i)).length=tot (ss.take i):=flat_len hLt
  have hDl:(flat D).length=tot (ss.take i):=flat_len hD
  have hrep:replicate (tot (ss.drop i)) (0:Int)=bits (upto ss[i].1.length 0 (endP I ss[i] a))++replicate (tot (ss.drop (i+1))) 0:=by
   rw[htd,upto_0,←List.replicate_append_replicate]
   simp[bits,b2i]
  have hln:=hso.ln
  have hla:=hso.la
  have e0:=F36_0_ok k nm ss I u ss[i] a hso (flat L) ss (ss.length:Int) (i:Int) (flat D) (replicate (tot (ss.drop (i+1))) 0) (by omega) ss[i].1.length k 0 (Nat.zero_add _) (by omega)
  have e1:=F36_1_ok k nm ss I u ss[i] a hso L[i] hrl ss (ss.length:Int) (i:Int) (flat (L.take i)) (flat (L.drop (i+1))) (flat D) (replicate (tot (ss.drop (i+1))) 0) (by omega) (by omega) ss[i].2.2.2.1.length k 0 ((List.range ss[i].1.length).map (endP I ss[i] a)) (Nat.zero_add _) (by omega) (by simp)
  rw[show ((0:Nat):Int)=0 from rfl] at e0 e1
  rw[drop_zero] at e1
  have ih:=F36_2_ok k nm I u ss a L hk hs hL hn ht d m (i+1) (D++[stepS I ss[i] a L[i]]) (by omega) (by omega) (by
   unfold Shp at hD ⊢
   rw[List.take_succ_eq_append_getElem hlt,map_append,map_append,hD]
   simp[stepS_len])
  simp only[F36_2]
  rw[dlt hlt,cond_true,if_pos (inR hlt),tnI i,getD_lt _ _ _ hlt,hrep,←hDl,e0,bind_some]
  simp only
  rw[hLsplit,e1,bind_some]
  simp only
  rw[←hLsplit,hDl,waddN _ _ (by omega),←htk,wsucc i _ hlt (by omega)]
  have hfl:flat D++(bits ((ss[i].2.2.2.1).foldl (arcR I ss[i] a L[i]) ((List.range ss[i].1.length).map (endP I ss[i] a)))++replicate (tot (ss.drop (i+1))) 0)=flat (D++[stepS I ss[i] a L[i]])++replicate (tot (ss.drop (i+1))) 0:=by
   rw[flat_app,flat_one,append_assoc]
   rfl
  have hst:stepL I (ss.drop i) (L.drop i) a=stepS I ss[i] a L[i]::stepL I (ss.drop (i+1)) (L.drop (i+1)) a:=by
   rw[hss,hLL]
   rfl
  rw[hfl,ih,hst,append_assoc]
  rfl
theorem F36_ok (k:Nat) (nm:(Option (List (ByteArray×Int)))×Unit) (I:InT) (u:List (List Int)×Unit) (ss:List SideT) (a:Nat) (L:Live) (hk:10000000≤k) (hs:∀s∈ss,SOK s) (hL:Shp ss L) (hn:ss.length≤1000000) (ht:tot ss≤100000000) :
  F36 k (some (nm,(ss,(I,u)))) (flat L) (a:Int)=some ((flat (stepL I ss L a),()),()):=by
 have hfl:=flat_len hL
 have e:=F36_2_ok k nm I u ss a L hk hs hL hn ht ss.length k 0 [] (Nat.zero_add _) (by omega) rfl
 rw[show ((0:Nat):Int)=0 from rfl,take_zero,drop_zero,drop_zero,nil_append] at e
 have hrep:replicate (Int.toNat ((length (flat L):Nat):Int)) (0:Int)=flat []++replicate (tot ss) 0:=by
  rw[hfl]
  rfl
 rw[←hrep] at e
 unfold F36
 rw[if_pos (by omega)]
 simp only[isSome_some,if_true,getD_some]
 rw[show F36_2 k k (flat L) 0 ss (ss.length:Int) 0 (some (nm,(ss,(I,u)))) (a:Int) (replicate (Int.toNat ((length (flat L):Nat):Int)) (0:Int))=_ from e,bind_some]
end Go.Proofs.YtibammoednhnoaaE
set_option linter.unusedSimpArgs false
set_option linter.unusedVariables false
set_option maxRecDepth 20000
namespace Go.Proofs.YtibammoednhnoaaE
section
variable (k:Nat) (s:SideT)
theorem F37_0_ok (hs:SOK s) (r:List Bool) (hr:r.length=s.1.length) (t15:List SideT) (t16 t17:Int) (pre post:List Int) (acc:List Bool) (hb:pre.length+s.1.length≤1000000000000):∀(d m i:Nat) (is:Bool),i+d=s.1.length→d<m →
  F37_0 k m (pre++(bits r++post)) (pre.length:Int) is t15 t16 t17 s.2.1 (s.2.1.length:Int) (i:Int) s acc=some ((pre++(bits r++post),(pre.length:Int),is||((List.range s.1.length).drop i).any (hitP s r),t15,t16,t17,()),(s,acc,()))
 |0,m,i,is,hi,hm=>by
  obtain ⟨m,rfl⟩:=pos1 (m:=m) (by omega)
  have hf:=hs.lf
  simp only[F37_0]
  rw[decide_eq_false (by omega),cond_false,drop_eq_nil_of_le (by simp; omega)]
  simp
 |d+1,m,i,is,hi,hm=>by
  obtain ⟨m,rfl⟩:=pos1 (m:=m) (by omega)
  have hf:=hs.lf
  have hln:=hs.ln
  have hlt:i<s.1.length:=by omega
  have hlt2:i<s.2.1.length:=by omega
  have ih:=fun is=>F37_0_ok hs r hr t15 t16 t17 pre post acc hb d m (i+1) is (by omega) (by omega)
  rw[range_any_drop _ hlt]
  simp only[F37_0]
  rw[dlt hlt2,cond_true,if_pos (inR hlt2),tnI i,wsucc i _ hlt (by omega)]
  cases is with
  |true =>
   rw[cond_true,ih true]
   simp
  |false =>
   rw[cond_false]
   by_cases h:getD s.2.1 i 0<INF1
   ·have hin:0≤((pre.length+i:Nat):Int)∧((pre.length+i:Nat):Int)<((length (pre++(bits r++post)):Nat):Int):=by
     simp only[length_append,length_map]
     omega
    rw[decide_eq_true h,cond_true,waddN _ _ (by omega),if_pos hin,tnI (pre.length+i),getD_mid _ _ _ _ _ (by simp; omega),bits_getD,ih]
    have:hitP s r i=getD r i false:=by unfold hitP; rw[decide_eq_true h,Bool.and_true]
    rw[this,Bool.false_or]
    rfl
   ·rw[decide_eq_false h,cond_false,ih false]
    have:hitP s r i=false:=by unfold hitP; rw[decide_eq_false h,Bool.and_false]
    rw[this,Bool.false_or,Bool.false_or]
    rfl
end
theorem F62_ok (k:Nat) (l:List Bool) (h:l.length≤1000000):F62 k l=some ((l,()),()):=by
 unfold F62
 cases l with
 |nil=>rfl
 |cons x l =>
  rw[nz (by simp),cond_false,if_pos (by simp at h ⊢; omega)]
  rfl
theorem F37_1_ok (k:Nat) (ss:List SideT) (L:Live) (hk:10000000≤k) (hs:∀s∈ss,SOK s) (hL:Shp ss L) (hn:ss.length≤1000000) (ht:tot ss≤100000000):∀(d m i:Nat) (D:List Bool),i+d=ss.length→d<m→D.length=i →
  F37_1 k m (flat L) ((tot (ss.take i):Nat):Int) ss (ss.length:Int) (i:Int) D=some ((),(D++holdL (ss.drop i) (L.drop i),()))
 |0,m,i,D,hi,hm,hD=>by
  obtain ⟨m,rfl⟩:=pos1 (m:=m) (by omega)
  simp only[F37_1]
  rw[decide_eq_false (by omega),cond_false,drop_eq_nil_of_le (by omega:ss.length≤i)]
  simp[holdL]
 |d+1,m,i,D,hi,hm,hD=>by
  obtain ⟨m,rfl⟩:=pos1 (m:=m) (by omega)
  have hlt:i<ss.length:=by omega
  have hlL:L.length=ss.length:=by have:=congrArg length hL; simpa using this
  have hlt2:i<L.length:=by omega
  have hso:=hs _ (getElem_mem hlt)
  have hrl:L[i].length=ss[i].1.length:=by
   have:=congrArg (fun l=>l[i]?) hL
   simpa[getElem?_map,hlt,hlt2] using this
  have htk:tot (ss.take (i+1))=tot (ss.take i)+ss[i].1.length:=by
   rw[List.take_succ_eq_append_getElem hlt,tot_app]
   simp[tot]
  have htot:tot ss=tot (ss.take i)+tot (ss.drop i):=by rw[←tot_app,take_append_drop]
  have htd:tot (ss.drop i)=ss[i].1.length+tot (ss.drop (i+1)):=by rw[drop_eq_getElem_cons hlt,tot_cons]
  have hLsplit:flat L=flat (L.take i)++(bits L[i]++flat (L.drop (i+1))):=by
   have h0:L=L.take i++(L[i]::L.drop (i+1)):=by rw[←drop_eq_getElem_cons hlt2,take_append_drop]
   calc flat L=flat (L.take i++(L[i]::L.drop (i+1))):=congrArg flat h0
    _=_:=by rw[flat_app,flat_cons]
  have hLt:Shp (ss.take i) (L.take i):=by unfold Shp; rw[map_take,map_take,hL]
  have hpl:(flat (L.take i)).length=tot (ss.take i):=flat_len hLt
  have hln:=hso.ln
  have e0:=F37_0_ok k ss[i] hso L[i] hrl ss (ss.length:Int) (i:Int) (flat (L.take i)) (flat (L.drop (i+1))) D (by omega) ss[i].1.length k 0 (decide (ss[i].2.2.2.2.1<INF1)) (Nat.zero_add _) (by omega)
  rw[show ((0:Nat):Int)=0 from rfl,drop_zero,←hLsplit,hpl] at e0
  have ih:=F37_1_ok k ss L hk hs hL hn ht d m (i+1) (D++[holdS ss[i] L[i]]) (by omega) (by omega) (by simp[hD])
  have hst:holdL (ss.drop i) (L.drop i)=holdS ss[i] L[i]::holdL (ss.drop (i+1)) (L.drop (i+1)):=by
   rw[show ss.drop i=ss[i]::ss.drop (i+1) from drop_eq_getElem_cons hlt,show L.drop i=L[i]::L.drop (i+1) from drop_eq_getElem_cons hlt2]
   rfl
  simp only[F37_1]
  rw[dlt hlt,cond_true,if_pos (inR hlt),tnI i,getD_lt _ _ _ hlt,e0,bind_some]
  simp only
  rw[show List.set (replicate 1 false) 0 (decide (ss[i].2.2.2.2.1<INF1)||(List.range ss[i].1.length).any (hitP ss[i] L[i]))=[holdS ss[i] L[i]] from rfl,if_pos (by rw[length_singleton]; omega),waddN _ _ (by omega),←htk,wsucc i _ hlt (by omega),ih,hst,append_assoc]
  rfl
theorem F37_ok (k:Nat) (nm:(Option (List (ByteArray×Int)))×Unit) (I:InT) (u:List (List Int)×Unit) (ss:List SideT) (L:Live) (hk:10000000≤k) (hs:∀s∈ss,SOK s) (hL:Shp ss L) (hn:ss.length≤1000000) (ht:tot ss≤100000000) :
  F37 k (some (nm,(ss,(I,u)))) (flat L)=some ((holdL ss L,()),()):=by
 have e:=F37_1_ok k ss L hk hs hL hn ht ss.length k 0 [] (Nat.zero_add _) (by omega) rfl
 rw[show ((0:Nat):Int)=0 from rfl,take_zero,drop_zero,drop_zero,nil_append,show ((tot ([]:List SideT):Nat):Int)=0 from rfl] at e
 unfold F37
 simp only[isSome_some,if_true,getD_some]
 rw[e,bind_some]
 simp only
 rw[F62_ok k _ (by rw[holdL_len hL]; exact hn),bind_some]
theorem F39_0_ok (k:Nat) (t8:List (List Bool)) (t9 t10:Int) (l:List Bool) (hl:l.length≤1000000):∀(d m i:Nat) (acc:List Int),i+d=l.length→d<m→acc.length≤1000000+i →
  F39_0 k m t8 t9 t10 l (l.length:Int) (i:Int) acc=some ((t8,t9,t10,()),(acc++bits (l.drop i),()))
 |0,m,i,acc,hi,hm,ha=>by
  obtain ⟨m,rfl⟩:=pos1 (m:=m) (by omega)
  simp only[F39_0]
  rw[decide_eq_false (by omega),cond_false,drop_eq_nil_of_le (by omega)]
  simp[bits]
 |d+1,m,i,acc,hi,hm,ha=>by
  obtain ⟨m,rfl⟩:=pos1 (m:=m) (by omega)
  have hlt:i<l.length:=by omega
  have ih:=fun b=>F39_0_ok k t8 t9 t10 l hl d m (i+1) (acc++[b2i b]) (by omega) (by omega) (by simp; omega)
  rw[drop_eq_getElem_cons hlt]
  simp only[F39_0]
  rw[dlt hlt,cond_true,if_pos (inR hlt),tnI i,getD_lt _ _ _ hlt,wsucc i _ hlt (by omega)]
  cases h:l[i] with
  |true =>
   rw[cond_true,if_pos (by simp; omega),show acc++List.set (replicate 1 (0:Int)) 0 1=acc++[b2i true] from rfl,ih]
   simp[bits]
  |false =>
   rw[cond_false,if_pos (by simp; omega),show acc++List.set (replicate 1 (0:Int)) 0 0=acc++[b2i false] from rfl,ih]
   simp[bits]
theorem F39_ok (k:Nat) (l:List Bool) (hk:10000000≤k) (hl:l.length≤1000000):F39 k [l]=some ((bstr (bits l),()),()):=by
 have e:=F39_0_ok k [l] 1 0 l hl l.length k 0 [] (Nat.zero_add _) (by omega) (by simp)
 rw[show ((0:Nat):Int)=0 from rfl,drop_zero,nil_append] at e
 obtain ⟨k,rfl⟩:∃k',k=k'+1+1:=⟨k-2,by omega⟩
 unfold F39
 simp only[F39_1]
 rw[show (length [l]:Nat)=1 from rfl,show (decide ((0:Int)<((1:Nat):Int)))=true from rfl,cond_true,if_pos (by decide),show getD [l] (Int.toNat 0) []=l from rfl,show ((1:Nat):Int)=1 from rfl,e,bind_some]
 simp only
 rw[show IntKind.wrap .i64 ((0:Int)+1)=1 from by decide,show (decide ((1:Int)<1))=false from rfl,cond_false,bind_some,bind_some]
 simp only
 rw[if_pos (by simp; omega)]
theorem bstr_inj:∀ {a b:List Bool},bstr (bits a)=bstr (bits b)→a=b:=by
 intro a b h
 unfold bstr at h
 have h1:=congrArg (fun x=>x.data.toList) h
 simp only at h1
 have key:∀(a b:List Bool),(bits a).map (fun n=>UInt8.ofNat n.toNat)=(bits b).map (fun n=>UInt8.ofNat n.toNat)→a=b:=by
  intro a
  induction a with
  |nil=>intro b h; cases b with
   |nil=>rfl
   |cons y b=>simp at h
  |cons x a ih=>intro b h; cases b with
   |nil=>simp at h
   |cons y b =>
    simp only[bits,List.map_cons,List.cons.injEq] at h
    have hxy:x=y:=by
     have:=h.1
     cases x<;>cases y<;>first | rfl | (exact absurd this (by decide))
    rw[hxy,ih b h.2]
 exact key a b (by simpa using h1)
theorem flatten_inj:∀ {ss:List SideT} {A B:Live},Shp ss A→Shp ss B→A.flatten=B.flatten→A=B
 | [],[],[],_,_,_=>rfl
 | [],_::_,_,h,_,_=>by simp[Shp] at h
 | [],[],_::_,_,h,_=>by simp[Shp] at h
 |_::_,[],_,h,_,_=>by simp[Shp] at h
 |_::_,_::_,[],_,h,_=>by simp[Shp] at h
 |s::ss,a::A,b::B,h1,h2,h=>by
  simp only[Shp,List.map_cons,List.cons.injEq] at h1 h2
  simp only[List.flatten_cons] at h
  obtain ⟨e1,e2⟩:=List.append_inj h (by omega)
  rw[e1,flatten_inj (ss:=ss) h1.2 h2.2 e2]
theorem key_inj {ss:List SideT} {A B:Live} (h1:Shp ss A) (h2:Shp ss B) (h:bstr (flat A)=bstr (flat B)):A=B:=flatten_inj h1 h2 (bstr_inj h)
end Go.Proofs.YtibammoednhnoaaE
set_option linter.unusedSimpArgs false
set_option linter.unusedVariables false
set_option maxRecDepth 20000
namespace Go.Proofs.YtibammoednhnoaaE
theorem F38_ok (k:Nat) (m:Option (List (ByteArray×Int))) (ks:List ByteArray) (key:ByteArray) (hm:MapI m ks) (hl:ks.length≤1000000000) :
  ∃m',F38 k (m,()) key=some ((((ix ks key:Nat):Int),(!(hasB ks key),())),((m',()),()))∧MapI m' (put1 ks key):=by
 rcases hm with ⟨rfl,rfl⟩ | rfl
 ·refine ⟨some [(key,0)],rfl,.inr ?_⟩
  simp[put1,mapK]
 ·unfold F38
  simp only[isSome_some,Bool.not_true,cond_false,getD_some]
  by_cases h:key∈ks
  ·refine ⟨some (mapK 0 ks),?_,.inr (by unfold put1; rw[if_pos h])⟩
   rw[find_mem h,hasB_t h]
   rfl
  ·refine ⟨some (mapK 0 (ks++[key])),?_,.inr (by unfold put1; rw[if_neg h])⟩
   rw[find_no h,hasB_f h,ix_no h,mapK_len]
   simp only[Bool.not_false,cond_true,if_true]
   rw[if_pos (by omega)]
   have:=mapK_put key ks 0 h
   rw[Nat.zero_add] at this
   rw[this]
theorem F1038_ok (k:Nat) (m:Option (List (ByteArray×Int))) (R:(List SideT)×((List (List Bool))×((List (List Int))×Unit))) (ks:List ByteArray) (key:ByteArray) (hm:MapI m ks) (hl:ks.length≤1000000000) :
  ∃m',F1038 k ((m,()),R) key=some ((((ix ks key:Nat):Int),(!(hasB ks key),())),(((m',()),R),()))∧MapI m' (put1 ks key):=by
 rcases hm with ⟨rfl,rfl⟩ | rfl
 ·refine ⟨some [(key,0)],rfl,.inr ?_⟩
  simp[put1,mapK]
 ·unfold F1038
  simp only[isSome_some,Bool.not_true,cond_false,getD_some]
  by_cases h:key∈ks
  ·refine ⟨some (mapK 0 ks),?_,.inr (by unfold put1; rw[if_pos h])⟩
   rw[find_mem h,hasB_t h]
   rfl
  ·refine ⟨some (mapK 0 (ks++[key])),?_,.inr (by unfold put1; rw[if_neg h])⟩
   rw[find_no h,hasB_f h,ix_no h,mapK_len]
   simp only[Bool.not_false,cond_true,if_true]
   rw[if_pos (by omega)]
   have:=mapK_put key ks 0 h
   rw[Nat.zero_add] at this
   rw[this]
def keyL (L:Live):ByteArray:=bstr (flat L)
theorem F35_ok (k:Nat) (m:Option (List (ByteArray×Int))) (ss:List SideT) (I:InT) (sts:List Live) (x:Live) (hm:MapI m (sts.map keyL)) (hl:sts.length≤1000000000) (hs:∀y∈sts,Shp ss y) (hx:Shp ss x) (ht:tot ss≤100000000) :
  ∃m',F35 k ((m,()),(ss,(I,(sts.map flat,())))) (flat x)=some ((((ix sts x:Nat):Int),()),(((m',()),(ss,(I,((put1 sts x).map flat,())))),()))∧MapI m' ((put1 sts x).map keyL):=by
 have hinj:∀y∈sts,keyL y=keyL x→y=x:=fun y hy e=>key_inj (hs y hy) hx e
 have hfl:=flat_len hx
 obtain ⟨m',e,h⟩:=F1038_ok k m (ss,(I,(sts.map flat,()))) (sts.map keyL) (keyL x) hm (by simpa using hl)
 rw[ix_map keyL sts x hinj] at e
 rw[←put1_map keyL sts x hinj] at h
 refine ⟨m',?_,h⟩
 have hmem:keyL x∈sts.map keyL↔x∈sts:=by
  constructor
  ·intro hm
   obtain ⟨y,hy,e⟩:=List.mem_map.1 hm
   rw[←hinj y hy e]
   exact hy
  ·exact fun hm=>List.mem_map.2 ⟨x,hm,rfl⟩
 unfold F35 F59
 rw[if_pos (by rw[hfl]; omega),bind_some]
 simp only
 rw[show bstr (flat x)=keyL x from rfl,e,bind_some]
 simp only
 by_cases hx':x∈sts
 ·rw[hasB_t (hmem.2 hx'),Bool.not_true,cond_false]
  unfold put1
  rw[if_pos hx']
 ·rw[hasB_f fun q=>hx' (hmem.1 q),Bool.not_false,cond_true,if_pos (by simp; omega)]
  unfold put1
  rw[if_neg hx',map_append]
  rfl
end Go.Proofs.YtibammoednhnoaaE
set_option linter.unusedSimpArgs false
set_option linter.unusedVariables false
set_option maxRecDepth 20000
namespace Go.Proofs.YtibammoednhnoaaE
theorem F16_0_ok (k:Nat) (ss:List SideT) (I:InT) (t2 t3:Int) (c:BackT) (hs:∀s∈ss,SOK s) (hn:ss.length≤1000000) (ht:tot ss≤100000000):∀(d m i:Nat),i+d=ss.length→d<m →
  F16_0 k m ss I t2 t3 ((tot (ss.take i):Nat):Int) ss (ss.length:Int) (i:Int) c=some ((ss,I,t2,t3,((tot ss:Nat):Int),()),(c,()))
 |0,m,i,hi,hm=>by
  obtain ⟨m,rfl⟩:=pos1 (m:=m) (by omega)
  simp only[F16_0]
  rw[decide_eq_false (by omega),cond_false,List.take_of_length_le (by omega)]
 |d+1,m,i,hi,hm=>by
  obtain ⟨m,rfl⟩:=pos1 (m:=m) (by omega)
  have hlt:i<ss.length:=by omega
  have htk:tot (ss.take (i+1))=tot (ss.take i)+ss[i].1.length:=by
   rw[List.take_succ_eq_append_getElem hlt,tot_app]
   simp[tot]
  have htot:tot ss=tot (ss.take (i+1))+tot (ss.drop (i+1)):=by rw[←tot_app,take_append_drop]
  simp only[F16_0]
  rw[dlt hlt,cond_true,if_pos (inR hlt),tnI i,getD_lt _ _ _ hlt,waddN _ _ (by omega),←htk,wsucc i _ hlt (by omega),F16_0_ok k ss I t2 t3 c hs hn ht d m (i+1) (by omega) (by omega)]
  rfl
theorem F42_ok (k:Nat) (l:List (List Bool)) (h:l.length≤100000000):F42 k l=some ((l,()),()):=by
 unfold F42
 cases l with
 |nil=>rfl
 |cons x l =>
  rw[nz (by simp),cond_false,if_pos (by simp at h ⊢; omega)]
  rfl
abbrev mkr (mp:Option (List (ByteArray×Int))) (ss:List SideT) (I:InT) (l:List Live):MakT:=((mp,()),(ss,(I,(l.map flat,()))))
theorem zeroL_flat:∀(ss:List SideT),flat (zeroL ss)=replicate (tot ss) 0
 | []=>rfl
 |s::ss=>by
  rw[tot_cons,←List.replicate_append_replicate,←zeroL_flat ss]
  show flat (replicate s.1.length false::zeroL ss)=_
  rw[flat_cons]
  simp[bits,b2i]
section
variable (k:Nat) (ss:List SideT) (I:InT) (N:Nat) (B:Int)
theorem F16_1_ok (hk:10000000≤k) (hs:∀s∈ss,SOK s) (hn:ss.length≤1000000) (ht:tot ss≤100000000) (hN:N≤5000000) (hB:B≤100000) (t2:Int) (j:Nat) (s:Live) (c8:BackT) (c45:(Option (List (ByteArray×Int)))×Unit) (se:List (List Bool)):∀(d m i:Nat) (l:List Live) (mp:Option (List (ByteArray×Int))) (r:List Int),i+d=N→d<m→MapI mp (l.map keyL)→(∀y∈l,Shp ss y)→j<l.length→getD l j []=s→(l.length:Int)≤B→r.length=i →
  ∃mp',MapI mp' ((rowA (stepL I ss) s (range' i d) l).1.map keyL)∧F16_1 k m t2 B (j:Int) (N:Int) (i:Int) c8 (mkr mp ss I l) c45 se r =
   if ((rowA (stepL I ss) s (range' i d) l).1.length:Int)≤B then some (.inl ((t2,B,(j:Int),()),(c8,mkr mp' ss I (rowA (stepL I ss) s (range' i d) l).1,c45,se,r++(rowA (stepL I ss) s (range' i d) l).2,()))) else some (.inr none4)
 |0,m,i,l,mp,r,hi,hm,hmp,hl,hj,hsj,hlB,hr=>by
  obtain ⟨m,rfl⟩:=pos1 (m:=m) (by omega)
  refine ⟨mp,hmp,?_⟩
  simp only[List.range'_zero,rowA]
  rw[if_pos hlB,append_nil]
  simp only[F16_1]
  rw[decide_eq_false (by omega),cond_false]
 |d+1,m,i,l,mp,r,hi,hm,hmp,hl,hj,hsj,hlB,hr=>by
  obtain ⟨m,rfl⟩:=pos1 (m:=m) (by omega)
  have hlt:i<N:=by omega
  have hsS:Shp ss s:=by
   rw[←hsj,getD_lt _ _ _ hj]
   exact hl _ (getElem_mem hj)
  have hxS:Shp ss (stepL I ss s i):=stepL_shp hsS
  obtain ⟨mp1,e1,h1⟩:=F35_ok k mp ss I l (stepL I ss s i) hmp (by omega) hl hxS (by omega)
  have hle:=put1_le l (stepL I ss s i)
  have hj2:j<(l.map flat).length:=by simpa using hj
  have hgf:getD (l.map flat) j []=flat s:=by
   rw[getD_lt _ _ _ hj2,getElem_map,←hsj,getD_lt _ _ _ hj]
  have e36:=F36_ok k (mp,()) I (l.map flat,()) ss i s hk hs hsS hn ht
  rw[List.range'_succ,rowA_1,rowA_2]
  have hap:(length r+length [((ix l (stepL I ss s i):Nat):Int)])*(8*2)≤281474976710656∧length r+length [((ix l (stepL I ss s i):Nat):Int)]≤9223372036854775807:=by rw[length_singleton]; omega
  have hstep:F16_1 k (m+1) t2 B (j:Int) (N:Int) (i:Int) c8 (mkr mp ss I l) c45 se r=if ((put1 l (stepL I ss s i)).length:Int)≤B then F16_1 k m t2 B (j:Int) (N:Int) ((i+1:Nat):Int) c8 (mkr mp1 ss I (put1 l (stepL I ss s i))) c45 se (r++[((ix l (stepL I ss s i):Nat):Int)]) else some (.inr none4):=by
   simp only[F16_1]
   rw[dlt hlt,cond_true,if_pos (inR hj2),tnI j,hgf,e36,bind_some]
   simp only
   rw[e1,bind_some]
   simp only
   rw[show List.set (replicate 1 (0:Int)) 0 ((ix l (stepL I ss s i):Nat):Int)=[((ix l (stepL I ss s i):Nat):Int)] from rfl,if_pos hap,length_map,wsucc i _ hlt (by omega)]
   by_cases hc:((put1 l (stepL I ss s i)).length:Int)≤B
   ·rw[if_pos hc,decide_eq_false (by omega),cond_false]
    cases F16_1 k m t2 B (j:Int) (N:Int) ((i+1:Nat):Int) c8 (mkr mp1 ss I (put1 l (stepL I ss s i))) c45 se (r++[((ix l (stepL I ss s i):Nat):Int)])<;>rfl
   ·rw[if_neg hc,decide_eq_true (by omega),cond_true]
  rw[hstep]
  by_cases hc:((put1 l (stepL I ss s i)).length:Int)≤B
  ·obtain ⟨tl,htl⟩:=put1_pre l (stepL I ss s i)
   obtain ⟨mp2,h2,e2⟩:=F16_1_ok hk hs hn ht hN hB t2 j s c8 c45 se d m (i+1) (put1 l (stepL I ss s i)) mp1 (r++[((ix l (stepL I ss s i):Nat):Int)]) (by omega) (by omega) h1 (put1_shp hl hxS) (by omega) (by rw[getD_pre htl hj]; exact hsj) hc (by simp[hr])
   refine ⟨mp2,h2,?_⟩
   rw[if_pos hc,e2,append_assoc]
   rfl
  ·refine ⟨some (mapK 0 ((rowA (stepL I ss) s (range' (i+1) d) (put1 l (stepL I ss s i))).1.map keyL)),.inr rfl,?_⟩
   have h3:=rowA_le (stepL I ss) s (range' (i+1) d) (put1 l (stepL I ss s i))
   rw[if_neg hc,if_neg (by omega)]
theorem F16_2_ok (hk:10000000≤k) (hs:∀s∈ss,SOK s) (hn:ss.length≤1000000) (ht:tot ss≤100000000) (hN:N≤5000000) (hB:B≤100000) (t2:Int) (ht2:maxI t2 0=(N:Int)):∀(f m i:Nat) (l:List Live) (mp mo:Option (List (ByteArray×Int))) (nx:List (List Int)) (ou:List Int) (se:List (List Bool)),B.toNat+2≤i+f→B.toNat+2≤i+m→i≤B.toNat→i≤l.length→MapI mp (l.map keyL)→MapI mo (se.map fun h=>bstr (bits h))→(∀y∈l,Shp ss y)→nx.length=i→ou.length=i→se.length≤i →
  F16_2 k m t2 B (i:Int) (nx,(ou,())) (mkr mp ss I l) (mo,()) se=match mkA (stepL I ss) (holdL ss) [] B N f i l nx ou se with
   |none=>some (.inr none4)
   |some q=>some (.inl ((),((q.2.1,(q.2.2.1,())),q.2.2.2,())))
 |0,m,i,l,mp,mo,nx,ou,se,hf,hm,hi,hil,hmp,hmo,hl,hnx,hou,hse=>by omega
 |f+1,m,i,l,mp,mo,nx,ou,se,hf,hm,hi,hil,hmp,hmo,hl,hnx,hou,hse=>by
  obtain ⟨m,rfl⟩:=pos1 (m:=m) (by omega)
  simp only[F16_2,mkA]
  rw[length_map]
  by_cases hlt:i<l.length
  ·rw[if_pos hlt,decide_eq_true (by omega),cond_true]
   by_cases hlB:(l.length:Int)>B
   ·rw[if_pos hlB,decide_eq_true hlB,cond_true]
   ·rw[if_neg hlB,decide_eq_false hlB,cond_false,ht2,if_pos (by omega)]
    have hBi:(l.length:Int)≤B:=by omega
    obtain ⟨mp1,h1,e1⟩:=F16_1_ok k ss I N B hk hs hn ht hN hB t2 i (l.getD i []) (nx,(ou,())) (mo,()) se N k 0 l mp [] (Nat.zero_add _) (by omega) hmp hl hlt rfl hBi rfl
    rw[←List.range_eq_range',nil_append] at e1
    rw[←List.range_eq_range'] at h1
    have hstp:=fun y hy=>rowA_shp (ss:=ss) (I:=I) (s:=l.getD i []) (by rw[getD_lt _ _ _ hlt]; exact hl _ (getElem_mem hlt)) (List.range N) l hl y hy
    obtain ⟨tl,htl⟩:=rowA_pre (stepL I ss) (l.getD i []) (List.range N) l
    have hle:=rowA_le (stepL I ss) (l.getD i []) (List.range N) l
    have hrw:=rowA_row (stepL I ss) (l.getD i []) (List.range N) l
    rw[List.length_range] at hrw
    have hsi:Shp ss (l.getD i []):=by rw[getD_lt _ _ _ hlt]; exact hl _ (getElem_mem hlt)
    generalize hq:rowA (stepL I ss) (l.getD i []) (List.range N) l=q at *
    obtain ⟨l',r'⟩:=q
    simp only at *
    rw[show replicate (Int.toNat 0) (0:Int)=[] from rfl,show ((0:Nat):Int)=0 from rfl] at *
    rw[e1]
    by_cases hc:((l'.length:Nat):Int)≤B
    ·rw[if_pos hc,bind_some]
     simp only
     have hlt':i<(l'.map flat).length:=by rw[length_map]; omega
     have hg:getD (l'.map flat) i []=flat (l.getD i []):=by
      have:i<l'.length:=by omega
      rw[getD_lt _ _ _ hlt',getElem_map,←getD_lt l' i [] this,getD_pre htl hlt]
     have hh:=holdL_len hsi
     obtain ⟨mo',e38,h38⟩:=F38_ok k mo (se.map fun h=>bstr (bits h)) (bstr (bits (holdL ss (l.getD i [])))) hmo (by simp; omega)
     rw[ix_map (fun h=>bstr (bits h)) se (holdL ss (l.getD i [])) (fun y _ e=>bstr_inj e)] at e38
     rw[←put1_map (fun h=>bstr (bits h)) se (holdL ss (l.getD i [])) (fun y _ e=>bstr_inj e)] at h38
     have hput:=put1_le se (holdL ss (l.getD i []))
     have ih:=F16_2_ok hk hs hn ht hN hB t2 ht2 f m (i+1) l' mp1 mo' (nx++[r']) (ou++[((ix se (holdL ss (l.getD i [])):Nat):Int)]) (put1 se (holdL ss (l.getD i []))) (by omega) (by omega) (by omega) (by omega) h1 h38 hstp (by simp[hnx]) (by simp[hou]) (by omega)
     rw[if_pos (inR hlt'),tnI i,hg,F37_ok k (mp1,()) I (l'.map flat,()) ss _ hk hs hsi hn ht,bind_some]
     simp only
     rw[F39_ok k _ hk (by omega),bind_some]
     simp only
     rw[e38,bind_some]
     simp only
     rw[F40_ok k r' (by omega)]
     have ha1:(length nx+length [r'])*(24*2)≤281474976710656∧length nx+length [r']≤9223372036854775807:=by rw[length_singleton]; omega
     have ha2:(length ou+length [((ix se (holdL ss (l.getD i [])):Nat):Int)])*(8*2)≤281474976710656∧length ou+length [((ix se (holdL ss (l.getD i [])):Nat):Int)]≤9223372036854775807:=by rw[length_singleton]; omega
     have ha3:(length se+length [holdL ss (l.getD i [])])*(24*2)≤281474976710656∧length se+length [holdL ss (l.getD i [])]≤9223372036854775807:=by rw[length_singleton]; omega
     have hiw:IntKind.wrap .i64 ((i:Int)+1)=((i+1:Nat):Int):=wsucc i l.length hlt (by omega)
     have hmem:hasB (se.map fun h=>bstr (bits h)) (bstr (bits (holdL ss (l.getD i []))))=hasB se (holdL ss (l.getD i [])):=by
      unfold hasB
      refine decide_eq_decide.2 ⟨fun q=>?_,fun q=>List.mem_map.2 ⟨_,q,rfl⟩⟩
      obtain ⟨y,hy,e⟩:=List.mem_map.1 q
      rw[←bstr_inj e]
      exact hy
     rw[hmem]
     cases hb:hasB se (holdL ss (l.getD i [])) with
     |true =>
      have hin:holdL ss (l.getD i [])∈se:=hasB_mem hb
      have hpe:put1 se (holdL ss (l.getD i []))=se:=put1_in hin
      rw[hpe] at ih
      rw[hpe,Bool.not_true,cond_false,bind_some]
      simp only
      rw[if_pos ha1,show List.set (replicate 1 (0:Int)) 0 ((ix se (holdL ss (l.getD i [])):Nat):Int)=[((ix se (holdL ss (l.getD i [])):Nat):Int)] from rfl,if_pos ha2,hiw,ih]
      cases mkA (stepL I ss) (holdL ss) [] B N f (i+1) l' (nx++[r']) (ou++[((ix se (holdL ss (l.getD i [])):Nat):Int)]) se<;>rfl
     |false =>
      have hin:holdL ss (l.getD i [])∉se:=hasB_not hb
      have hpe:put1 se (holdL ss (l.getD i []))=se++[holdL ss (l.getD i [])]:=put1_no hin
      rw[hpe] at ih
      rw[hpe,Bool.not_false,cond_true,show getD [holdL ss (l.getD i [])] 0 []=holdL ss (l.getD i []) from rfl,if_pos ha3,bind_some]
      simp only
      rw[if_pos ha1,show List.set (replicate 1 (0:Int)) 0 ((ix se (holdL ss (l.getD i [])):Nat):Int)=[((ix se (holdL ss (l.getD i [])):Nat):Int)] from rfl,if_pos ha2,hiw,ih]
      cases mkA (stepL I ss) (holdL ss) [] B N f (i+1) l' (nx++[r']) (ou++[((ix se (holdL ss (l.getD i [])):Nat):Int)]) (se++[holdL ss (l.getD i [])])<;>rfl
    ·rw[if_neg hc,bind_some]
     simp only
     obtain ⟨f,rfl⟩:∃f',f=f'+1:=⟨f-1,by omega⟩
     simp only[mkA]
     rw[if_pos (by omega),if_pos (by omega)]
  ·rw[if_neg hlt,decide_eq_false (by omega),cond_false]
theorem F16_ok (hk:10000000≤k) (hs:∀s∈ss,SOK s) (hn:ss.length≤1000000) (ht:tot ss≤100000000) (hN:N≤5000000) (t2:Int) (ht2:maxI t2 0=(N:Int)) (b:Int) :
  F16 k ss I t2 b=some (outA (mkA (stepL I ss) (holdL ss) [] (minI b 100000) N ((minI b 100000).toNat+2) 0 [zeroL ss] [] [] []),()):=by
 have hB:minI b 100000≤100000:=by unfold minI; split<;>omega
 unfold F16
 generalize minI b 100000=B at hB ⊢
 have e0:=F16_0_ok k ss I t2 B (([]:(List (List Int))),(([]:(List Int)),())) hs hn ht ss.length k 0 (Nat.zero_add _) (by omega)
 rw[show ((0:Nat):Int)=0 from rfl,take_zero,show ((tot ([]:List SideT):Nat):Int)=0 from rfl] at e0
 obtain ⟨mp,e1,h1⟩:=F35_ok k none ss I [] (zeroL ss) (.inl ⟨rfl,rfl⟩) (zero_le _) (fun y hy=>by cases hy) (zeroL_shp ss) ht
 have hp0:put1 [] (zeroL ss)=[zeroL ss]:=rfl
 rw[hp0] at e1 h1
 rw[zeroL_flat] at e1
 have e2:=F16_2_ok k ss I N B hk hs hn ht hN hB t2 ht2 (B.toNat+2) k 0 [zeroL ss] mp none [] [] [] (by omega) (by omega) (by omega) (zero_le _) h1 (.inl ⟨rfl,rfl⟩) (fun y hy=>by rw[List.mem_singleton.1 hy]; exact zeroL_shp ss) rfl rfl (Nat.le_refl _)
 rw[show ((0:Nat):Int)=0 from rfl] at e2
 rw[e0,bind_some]
 simp only
 rw[if_pos (by omega),tnI (tot ss),show F35 k ((none,()),(ss,(I,([],())))) (replicate (tot ss) 0)=_ from e1,bind_some]
 simp only
 rw[show F16_2 k k t2 B 0 ([],([],())) ((mp,()),(ss,(I,(List.map flat [zeroL ss],())))) (none,()) []=_ from e2]
 cases hq:mkA (stepL I ss) (holdL ss) [] B N (B.toNat+2) 0 [zeroL ss] [] [] [] with
 |none=>rfl
 |some q =>
  obtain ⟨l1,l2,l3⟩:=mkA_len _ _ _ _ _ _ hq
  simp only[length_nil] at l1 l2 l3
  simp only
  rw[bind_some]
  simp only
  rw[F41_ok k _ (by omega),bind_some]
  simp only
  rw[F40_ok k _ (by omega),bind_some]
  simp only
  rw[F42_ok k _ (by omega),bind_some]
  rfl
end
end Go.Proofs.YtibammoednhnoaaE
set_option linter.unusedSimpArgs false
set_option linter.unusedVariables false
set_option maxRecDepth 20000
namespace Go.Proofs.YtibammoednhnoaaE
theorem F12_known (k:Nat) (hk:200≤k):F12 k=some ((true,()),()):=by
 obtain ⟨k,rfl⟩:∃k',k=k'+200:=⟨k-200,by omega⟩
 kernel_rfl
end Go.Proofs.YtibammoednhnoaaE
set_option linter.unusedSimpArgs false
set_option linter.unusedVariables false
set_option maxRecDepth 20000
namespace Go.Proofs.YtibammoednhnoaaE
section
variable {σ:Type} {step:σ→Nat→σ} {hold:σ→List Bool} {N:Nat} {l:List σ} {nx:List (List Int)} {ou:List Int} {se:List (List Bool)} {z:σ}
theorem outL_len (x:List Nat):(outL step hold se z x).length=x.length+1:=by simp[outL]
theorem F22_0_ok (k:Nat) (m:Mach step hold N l.length l nx ou se) (hl:l.length≤1000000) (x:List Nat) (hx:∀a∈x,a<N) (hxl:x.length≤1000000):∀(i mm t:Nat),i<mm→i≤x.length→l[t]? = some (stR step z (x.drop i)) →
  F22_0 k mm (x.map fun n:Nat=>(n:Int)) (t:Int) (i:Int) (nx,(ou,())) (fromL (outV step hold se z x) (x.length+1) (i+1))=some ((),(outL step hold se z x,()))
 |i,mm,t,hm,hi,ht=>by
  obtain ⟨mm,rfl⟩:∃m',mm=m'+1:=⟨mm-1,by omega⟩
  have htl:t<l.length:=(List.getElem?_eq_some_iff.1 ht).1
  obtain ⟨o,e1,e2⟩:=m.outs t _ htl ht
  obtain ⟨r,e3,e4,e5⟩:=m.rows t _ htl ht
  have hol:=m.ol
  have hnl:=m.nl
  have ho:getD ou t 0=(o:Int):=by rw[getD_eq_getElem?_getD,e1]; rfl
  have hov:((o:Nat):Int)=outV step hold se z x i:=by
   unfold outV
   rw[ix_of_get m.sd e2]
  have hto:t<ou.length:=by omega
  have htn:t<nx.length:=by omega
  have hc:i<(fromL (outV step hold se z x) (x.length+1) (i+1)).length:=by rw[fromL_len]; omega
  simp only[F22_0]
  rw[decide_eq_true (show (t:Int)≥0 by omega),cond_true,dlt hto,cond_true,if_pos (inR hto),if_pos (inR hc),tnI i,tnI t,ho,hov,fromL_set]
  cases i with
  |zero =>
   rw[show (((0:Nat):Int)==0)=true from rfl,cond_true,fromL_0]
   rfl
  |succ i =>
   have hlt:i<x.length:=by omega
   have hlt':i<(x.map fun n:Nat=>(n:Int)).length:=by simpa using hlt
   have ha:x[i]<N:=hx _ (getElem_mem hlt)
   obtain ⟨u,e6,e7⟩:=e5 x[i] ha
   have har:x[i]<r.length:=by omega
   have hw:IntKind.wrap .i64 (((i+1:Nat):Int)-1)=(i:Int):=by rw[w64 _ (by omega) (by omega)]; omega
   have hnr:getD nx t []=r:=by rw[getD_eq_getElem?_getD,e3]; rfl
   have hru:getD r x[i] 0=(u:Int):=by rw[getD_eq_getElem?_getD,e6]; rfl
   have hst:l[u]? = some (stR step z (x.drop i)):=by
    rw[e7,drop_eq_getElem_cons hlt]
    rfl
   have ih:=F22_0_ok k m hl x hx hxl i mm u (by omega) (by omega) hst
   rw[show (((i+1:Nat):Int)==0)=false from beq_false_of_ne (by omega),cond_false]
   rw[dlt htn,cond_true,hw,if_pos (inR hlt'),tnI i,getDN hlt,decide_eq_true (show ((x[i]:Nat):Int)≥0 by omega),cond_true,if_pos (inR hlt'),if_pos (inR htn),hnr,dlt har,cond_true,if_pos (inR htn),if_pos (inR hlt'),if_pos (inR har),tnI (x[i]),hru,ih]
   rfl
theorem F22_ok (k:Nat) (hk:10000000≤k) (m:Mach step hold N l.length l nx ou se) (hl:l.length≤1000000) (hz:l[0]? = some z) (x:List Nat) (hx:∀a∈x,a<N) (hxl:x.length≤1000000):F22 k (nx,(ou,())) (x.map fun n:Nat=>(n:Int))=some ((outL step hold se z x,()),()):=by
 have e:=F22_0_ok k m hl x hx hxl x.length k 0 (by omega) (Nat.le_refl _) (by rw[List.drop_length]; exact hz)
 rw[fromL_n,show ((0:Nat):Int)=0 from rfl] at e
 unfold F22
 have hw:IntKind.wrap .i64 (((length (x.map fun n:Nat=>(n:Int)):Nat):Int)+1)=((x.length+1:Nat):Int):=by rw[w64 _ (by simp; omega) (by simp; omega)]; simp
 rw[hw,if_pos (by omega),length_map,tnI (x.length+1),e,bind_some]
end
end Go.Proofs.YtibammoednhnoaaE
set_option linter.unusedSimpArgs false
set_option linter.unusedVariables false
set_option maxRecDepth 20000
namespace Go.Proofs.YtibammoednhnoaaE
theorem F16_mk (k:Nat) (I:InT) (N M:Nat) (ss:List SideT) (hk:20000000≤k) (hs:∀s∈ss,SideW I N M s) (hn:ss.length≤100) (hN:N≤2000000) (b:Int):F16 k ss I (N:Int) b=some (outA (mkM I ss N b),()):=by
 have:=tot_le fun s h=>(hs s h).ok.ln
 exact F16_ok k ss I N (by omega) (fun s h=>(hs s h).ok) (by omega) (by omega) (by omega) (N:Int) (maxI_nat N) b
end Go.Proofs.YtibammoednhnoaaE

