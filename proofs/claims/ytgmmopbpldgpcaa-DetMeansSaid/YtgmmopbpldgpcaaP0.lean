/- Plain laws. Conditions: none. -/
import Derived.Test.YtgmmopbpldgpcaaG1
set_option linter.unusedSimpArgs false
set_option linter.unusedVariables false
open List (append_assoc append_nil drop drop_eq_getElem_cons drop_eq_nil_of_le drop_length drop_replicate drop_zero ext_getElem foldl_cons getD getD_cons_succ getD_cons_zero getD_eq_getElem?_getD getElem_mem length_append length_cons length_drop length_map length_nil length_replicate length_set length_singleton length_take map_cons map_nil mem_append_left mem_append_right mem_cons mem_cons_of_mem mem_cons_self mem_of_mem_take mem_singleton nil_append not_mem_nil pairwise_singleton replicate replicate_zero sum_cons sum_nil take_append_drop take_length take_of_length_le take_succ_eq_append_getElem take_zero)
open Option (bind_fun_some bind_some)
open Nat (add_mul mul_le_mul sub_zero zero_le)
open Int (emod_lt_of_pos emod_nonneg mul_nonneg tdiv tmod)
namespace Go.Proofs.YtgmmopbpldgpcaaE
theorem aq {m:Nat} (h:0<m):∃m',m=m'+1:=⟨m-1,by omega⟩
theorem tnI (n:Nat):Int.toNat (n:Int)=n:=rfl
theorem w64 (x:Int) (h:-9223372036854775808≤x) (h2:x≤9223372036854775807):IntKind.wrap .i64 x=x:=by
 simp only[IntKind.wrap,IntKind.signed,IntKind.bits,Bool.true_and]
 split
 ·rename_i hc
  have hc':=of_decide_eq_true hc
  omega
 ·rename_i hc
  have hc':¬_:=fun h=>hc (decide_eq_true h)
  omega
theorem wu8 (x:Int):IntKind.wrap .u8 x=x%256:=by
 simp only[IntKind.wrap,IntKind.signed,IntKind.bits]
 simp
theorem ak {α:Type} (l:List α) (i:Nat) (d:α) (h:i<l.length):getD l i d=l[i]:=by
 simp[getD_eq_getElem?_getD,List.getElem?_eq_getElem h]
theorem inR {i n:Nat} (h:i<n):(0:Int)≤(i:Int)∧(i:Int)<((n:Nat):Int):=by omega
theorem dlt {i n:Nat} (h:i<n):decide ((i:Int)<((n:Nat):Int))=true:=by simpa using h
theorem dx (n:Nat):decide ((n:Int)<((n:Nat):Int))=false:=by simp
theorem aM (i n:Nat) (h:i<n) (hn:n≤9223372036854775807):IntKind.wrap .i64 ((i:Int)+1)=((i+1:Nat):Int):=by
 rw[w64 _ (by omega) (by omega)]; omega
def be8 (n:Int):List Int:=[n/72057594037927936%256,n/281474976710656%256,n/1099511627776%256,n/4294967296%256,n/16777216%256,n/65536%256,n/256%256,n%256]
def a4k (l:List Int):Int:=l.foldl (fun n c=>IntKind.wrap .i64 (n*256+c)) 0
def IsB (l:List Int):Prop:=∀x∈l,0≤x∧x≤255
def I64 (n:Int):Prop:=-9223372036854775808≤n∧n≤9223372036854775807
theorem tY (n:Int):(be8 n).length=8:=rfl
theorem Wh (n:Int):IsB (be8 n):=by
 intro x hx
 simp only[be8,mem_cons,not_mem_nil,or_false] at hx
 omega
theorem Wi {x y:Int} (h:x%18446744073709551616=y%18446744073709551616):IntKind.wrap .i64 x=IntKind.wrap .i64 y:=by
 simp only[IntKind.wrap]
 have:(2:Int)^IntKind.bits .i64=18446744073709551616:=rfl
 simp only[this,h]
theorem G6 (n:Int) (h:I64 n):a4k (be8 n)=n:=by
 unfold I64 at h
 simp only[a4k,be8,foldl_cons,List.foldl_nil]
 rw[w64 (0*256+_) (by omega) (by omega)]
 rw[w64 ((0*256+n/72057594037927936%256)*256+n/281474976710656%256) (by omega) (by omega)]
 rw[show ((0*256+n/72057594037927936%256)*256+n/281474976710656%256)=n/281474976710656%65536 by omega]
 rw[w64 (n/281474976710656%65536*256+n/1099511627776%256) (by omega) (by omega)]
 rw[show (n/281474976710656%65536*256+n/1099511627776%256)=n/1099511627776%16777216 by omega]
 rw[w64 (n/1099511627776%16777216*256+n/4294967296%256) (by omega) (by omega)]
 rw[show (n/1099511627776%16777216*256+n/4294967296%256)=n/4294967296%4294967296 by omega]
 rw[w64 (n/4294967296%4294967296*256+n/16777216%256) (by omega) (by omega)]
 rw[show (n/4294967296%4294967296*256+n/16777216%256)=n/16777216%1099511627776 by omega]
 rw[w64 (n/16777216%1099511627776*256+n/65536%256) (by omega) (by omega)]
 rw[show (n/16777216%1099511627776*256+n/65536%256)=n/65536%281474976710656 by omega]
 rw[w64 (n/65536%281474976710656*256+n/256%256) (by omega) (by omega)]
 rw[show (n/65536%281474976710656*256+n/256%256)=n/256%72057594037927936 by omega]
 rw[Wi (y:=n) (by omega),w64 n h.1 h.2]
theorem fc {α:Type} {P:α→Prop} {l:List α} {a:α} (h:∀x∈l,P x) (ha:P a):∀x∈l++[a],P x:=fun x hx=>by
 rcases List.mem_append.1 hx with hx | hx
 ·exact h x hx
 ·rw[List.mem_singleton.1 hx]
  exact ha
theorem nz {n:Nat} (h:0<n):(((n:Nat):Int)==0)=false:=beq_false_of_ne (by omega)
end Go.Proofs.YtgmmopbpldgpcaaE
set_option linter.unusedSimpArgs false
set_option linter.unusedVariables false
set_option maxRecDepth 20000
namespace Go.Proofs.YtgmmopbpldgpcaaE
theorem bD {α:Type} (d x:α):List.set (replicate 1 d) 0 x=[x]:=(rfl:List.set [d] 0 x=[x]).trans rfl
theorem cK {α:Type} {l:List α} {i:Nat} {d:α} (h:i<l.length):getD l i d∈l:=by
 rw[ak _ _ _ h]
 exact getElem_mem h
theorem dS {α:Type} {l:List α} {i:Nat} {v d:α} (h:i<l.length):getD (List.set l i v) i d=v:=by
 rw[getD_eq_getElem?_getD,List.getElem?_set_self h]
 rfl
theorem getD_set_ne {α:Type} {l:List α} {i j:Nat} {v d:α} (h:i≠j):getD (List.set l i v) j d=getD l j d:=by
 rw[getD_eq_getElem?_getD,getD_eq_getElem?_getD,List.getElem?_set_ne h]
abbrev aF:=Int×(Int×(Int×Unit))
abbrev ag:=List Int×(List Int×(List Int×(List aF×(Int×Unit))))
def DI (n:Nat) (l:List aF):Prop:=∀a∈l,(0≤a.1∧a.1<(n:Int))∧0≤a.2.1∧a.2.1<(n:Int)
def Ed (l:List aF) (u v:Nat):Prop:=∃a∈l,a.1=(u:Int)∧a.2.1=(v:Int)
def Rch (l:List aF) (u v:Nat):Prop:=∀S:Nat→Prop,S u→(∀x y,S x→Ed l x y→S y)→S v
theorem Rch.refl (l:List aF) (u:Nat):Rch l u u:=fun S h _=>h
theorem Rch.trans {l:List aF} {u v w:Nat} (h:Rch l u v) (h':Rch l v w):Rch l u w:=fun S hu hs=>h' S (h S hu hs) hs
theorem Rch.ed {l:List aF} {u v:Nat} (h:Ed l u v):Rch l u v:=fun S hu hs=>hs u v hu h
def tb (M:List (List Bool)) (i j:Nat):Bool:=getD (getD M i []) j false
def vl (M:List (List Bool)) (i j:Nat) (b:Bool):List (List Bool):=List.set M i (List.set (getD M i []) j b)
def Sq (n:Nat) (M:List (List Bool)):Prop:=M.length=n∧∀i,i<n→(getD M i []).length=n
theorem Qy {n:Nat} {M:List (List Bool)} (h:Sq n M) {i:Nat} (hi:i<n) (j:Nat) (b:Bool):Sq n (vl M i j b):=by
 refine ⟨by unfold vl; rw[length_set]; exact h.1,fun k hk=>?_⟩
 unfold vl
 by_cases e:i=k
 ·subst e
  rw[dS (by rw[h.1]; exact hi),length_set]
  exact h.2 i hi
 ·rw[getD_set_ne e]
  exact h.2 k hk
theorem Qz {n:Nat} {M:List (List Bool)} (h:Sq n M) {i j:Nat} (hi:i<n) (hj:j<n) (b:Bool) (a c:Nat):tb (vl M i j b) a c=if a=i∧c=j then b else tb M a c:=by
 unfold tb vl
 by_cases e:i=a
 ·subst e
  rw[dS (by rw[h.1]; exact hi)]
  by_cases e2:j=c
  ·subst e2
   rw[dS (by rw[h.2 i hi]; exact hj),if_pos ⟨rfl,rfl⟩]
  ·rw[getD_set_ne e2,if_neg (fun x=>e2 x.2.symm)]
 ·rw[getD_set_ne e,if_neg (fun x=>e x.1.symm)]
def nxt (T:Nat→Nat→Bool) (k a b:Nat):Bool:=T a b||(T a k&&T k b)
theorem Wj (T:Nat→Nat→Bool) (k b:Nat):nxt T k k b=T k b:=by unfold nxt; cases T k b<;>simp
theorem Wk (T:Nat→Nat→Bool) (k a:Nat):nxt T k a k=T a k:=by unfold nxt; cases T a k<;>simp
def Inv (n:Nat) (T:Nat→Nat→Bool) (k:Nat) (M:List (List Bool)) (i j:Nat):Prop:=Sq n M∧∀a b,a<n→b<n→tb M a b=if a<i∨(a=i∧b<j) then nxt T k a b else T a b
theorem Wl {n:Nat} {T:Nat→Nat→Bool} {k:Nat} {M:List (List Bool)} {i j:Nat} (h:Inv n T k M i j) (hk:k<n) {a:Nat} (ha:a<n):tb M a k=T a k:=by
 rw[h.2 a k ha hk]
 split
 ·exact Wk T k a
 ·rfl
theorem Wm {n:Nat} {T:Nat→Nat→Bool} {k:Nat} {M:List (List Bool)} {i j:Nat} (h:Inv n T k M i j) (hk:k<n) {b:Nat} (hb:b<n):tb M k b=T k b:=by
 rw[h.2 k b hk hb]
 split
 ·exact Wj T k b
 ·rfl
theorem TW {n:Nat} {T:Nat→Nat→Bool} {k:Nat} {M:List (List Bool)} {i j:Nat} (h:Inv n T k M i j) (hk:k<n) (hi:i<n) (hj:j<n):Inv n T k (vl M i j (tb M i j||(tb M i k&&tb M k j))) i (j+1):=by
 refine ⟨Qy h.1 hi j _,fun a b ha hb=>?_⟩
 rw[Qz h.1 hi hj]
 by_cases e:a=i∧b=j
 ·obtain ⟨rfl,rfl⟩:=e
  rw[if_pos ⟨rfl,rfl⟩,if_pos (by omega),Wl h hk ha,Wm h hk hb,h.2 a b ha hb,if_neg (by omega)]
  rfl
 ·rw[if_neg e,h.2 a b ha hb]
  by_cases e2:a<i∨(a=i∧b<j)
  ·rw[if_pos e2,if_pos (by omega)]
  ·rw[if_neg e2,if_neg (by omega)]
theorem G7 (k n kk i:Nat) (s:ag) (T:Nat→Nat→Bool) (hk:kk<n) (hi:i<n) (hn:n≤100000):∀(d m j:Nat) (M:List (List Bool)),j+d=n→d<m→Inv n T kk M i j →
  ∃M',kY k m (n:Int) (kk:Int) (i:Int) (j:Int) s M=some (((n:Int),(kk:Int),(i:Int),()),(s,M',()))∧Inv n T kk M' i n
 |0,m,j,M,hj,hm,h=>by
  obtain ⟨m,rfl⟩:=aq (m:=m) (by omega)
  obtain rfl:j=n:=by omega
  refine ⟨M,?_,h⟩
  simp only[kY]
  rw[decide_eq_false (by omega),cond_false]
 |d+1,m,j,M,hj,hm,h=>by
  obtain ⟨m,rfl⟩:=aq (m:=m) (by omega)
  have hjn:j<n:=by omega
  obtain ⟨M',e,hh⟩:=G7 k n kk i s T hk hi hn d m (j+1) _ (by omega) (by omega) (TW h hk hi hjn)
  refine ⟨M',?_,hh⟩
  have hM:=h.1.1
  have hri:=h.1.2 i hi
  have hrk:=h.1.2 kk hk
  have hw:IntKind.wrap .i64 ((j:Int)+1)=((j+1:Nat):Int):=by rw[w64 _ (by omega) (by omega)]; omega
  have ti:Int.toNat (i:Int)=i:=rfl
  have tj:Int.toNat (j:Int)=j:=rfl
  have tk:Int.toNat (kk:Int)=kk:=rfl
  have c1:0≤(i:Int)∧(i:Int)<((M.length:Nat):Int):=by omega
  have c2:0≤(j:Int)∧(j:Int)<(((getD M i []).length:Nat):Int):=by omega
  have c3:0≤(kk:Int)∧(kk:Int)<(((getD M i []).length:Nat):Int):=by omega
  have c4:0≤(kk:Int)∧(kk:Int)<((M.length:Nat):Int):=by omega
  have c5:0≤(j:Int)∧(j:Int)<(((getD M kk []).length:Nat):Int):=by omega
  simp only[kY,hw]
  rw[decide_eq_true (show (j:Int)<(n:Int) by omega),cond_true,if_pos c1,if_pos c1,ti,tj,tk,if_pos c2]
  cases h1:getD (getD M i []) j false with
  |true =>
   have e1:tb M i j=true:=h1
   rw[e1,Bool.true_or] at e
   rw[cond_true,if_pos c2]
   exact (congrArg (fun z=>Option.bind z some) e).trans rfl
  |false =>
   have e1:tb M i j=false:=h1
   rw[e1,Bool.false_or] at e
   rw[cond_false,if_pos c1,if_pos c3]
   cases h2:getD (getD M i []) kk false with
   |true =>
    have e2:tb M i kk=true:=h2
    rw[e2,Bool.true_and] at e
    rw[cond_true,if_pos c4,if_pos c5,if_pos c2]
    exact (congrArg (fun z=>Option.bind z some) e).trans rfl
   |false =>
    have e2:tb M i kk=false:=h2
    rw[e2,Bool.false_and] at e
    rw[cond_false,if_pos c2]
    exact (congrArg (fun z=>Option.bind z some) e).trans rfl
theorem TX {n:Nat} {T:Nat→Nat→Bool} {k:Nat} {M:List (List Bool)} {i:Nat} (h:Inv n T k M i n):Inv n T k M (i+1) 0:=⟨h.1,fun a b ha hb=>by
 rw[h.2 a b ha hb]
 by_cases e:a<i∨(a=i∧b<n)
 ·rw[if_pos e,if_pos (by omega)]
 ·rw[if_neg e,if_neg (by omega)]⟩
theorem G8 (k n kk:Nat) (s:ag) (T:Nat→Nat→Bool) (hk:kk<n) (hn:n≤100000) (hf:10000000≤k):∀(d m i:Nat) (M:List (List Bool)),i+d=n→d<m→Inv n T kk M i 0 →
  ∃M',tu k m (n:Int) (kk:Int) (i:Int) s M=some (((n:Int),(kk:Int),()),(s,M',()))∧Inv n T kk M' n 0
 |0,m,i,M,hi,hm,h=>by
  obtain ⟨m,rfl⟩:=aq (m:=m) (by omega)
  obtain rfl:i=n:=by omega
  refine ⟨M,?_,h⟩
  simp only[tu]
  rw[decide_eq_false (by omega),cond_false]
 |d+1,m,i,M,hi,hm,h=>by
  obtain ⟨m,rfl⟩:=aq (m:=m) (by omega)
  obtain ⟨M1,e1,h1⟩:=G7 k n kk i s T hk (by omega) hn n k 0 M (by omega) (by omega) h
  obtain ⟨M2,e2,h2⟩:=G8 k n kk s T hk hn hf d m (i+1) M1 (by omega) (by omega) (TX h1)
  refine ⟨M2,?_,h2⟩
  have hw:IntKind.wrap .i64 ((i:Int)+1)=((i+1:Nat):Int):=by rw[w64 _ (by omega) (by omega)]; omega
  rw[show ((0:Nat):Int)=0 from rfl] at e1
  simp only[tu]
  rw[decide_eq_true (show (i:Int)<(n:Int) by omega),cond_true,e1,bind_some]
  simp only[hw]
  rw[e2,bind_some]
def WP (n:Nat) (l:List aF) (k:Nat) (T:Nat→Nat→Bool):Prop :=
 (∀m a b,m<k→a<n→b<n→T a m=true→T m b=true→T a b=true)∧(∀a,a<n→T a a=true)∧(∀a b,a<n→b<n→Ed l a b→T a b=true)∧∀a b,a<n→b<n→T a b=true→Rch l a b
theorem Wn {n:Nat} {l:List aF} {k:Nat} {T:Nat→Nat→Bool} (h:WP n l k T) (hk:k<n):WP n l (k+1) (nxt T k):=by
 obtain ⟨h1,h2,h3,h4⟩:=h
 have ex:∀a b,nxt T k a b=true↔T a b=true∨(T a k=true∧T k b=true):=fun a b=>by unfold nxt; rw[Bool.or_eq_true,Bool.and_eq_true]
 refine ⟨fun m a b hm ha hb x y=>?_,fun a ha=>(ex a a).2 (Or.inl (h2 a ha)),fun a b ha hb he=>(ex a b).2 (Or.inl (h3 a b ha hb he)),fun a b ha hb x=>?_⟩
 ·rw[ex] at x y ⊢
  by_cases e:m=k
  ·subst e
   right
   constructor
   ·rcases x with x | x
    ·exact x
    ·exact x.1
   ·rcases y with y | y
    ·exact y
    ·exact y.2
  ·have hmk:m<k:=by omega
   rcases x with x | ⟨x1,x2⟩
   ·rcases y with y | ⟨y1,y2⟩
    ·exact Or.inl (h1 m a b hmk ha hb x y)
    ·exact Or.inr ⟨h1 m a k hmk ha hk x y1,y2⟩
   ·rcases y with y | ⟨y1,y2⟩
    ·exact Or.inr ⟨x1,h1 m k b hmk hk hb x2 y⟩
    ·exact Or.inr ⟨x1,y2⟩
 ·rw[ex] at x
  rcases x with x | ⟨x1,x2⟩
  ·exact h4 a b ha hb x
  ·exact (h4 a k ha hk x1).trans (h4 k b hk hb x2)
theorem a5k {n:Nat} {l:List aF} {T:Nat→Nat→Bool} (h:WP n l n T) (hl:DI n l) {u v:Nat} (hu:u<n) (hv:v<n):T u v=true↔Rch l u v:=by
 obtain ⟨h1,h2,h3,h4⟩:=h
 refine ⟨h4 u v hu hv,fun x=>?_⟩
 have:=x (fun w=>w<n∧T u w=true) ⟨hu,h2 u hu⟩ (fun a b ⟨ha,hab⟩ he=>by
  have hb:b<n:=by
   obtain ⟨c,hc,_,c2⟩:=he
   have:=(hl c hc).2
   omega
  exact ⟨hb,h1 a u b ha hu hb hab (h3 a b ha hb he)⟩)
 exact this.2
theorem TY {n:Nat} {l:List aF} {k:Nat} {T T':Nat→Nat→Bool} (hk:k≤n) (e:∀a b,a<n→b<n→T a b=T' a b) (h:WP n l k T):WP n l k T':=by
 obtain ⟨h1,h2,h3,h4⟩:=h
 refine ⟨fun m a b hm ha hb x y=>?_,fun a ha=>by rw[←e a a ha ha]; exact h2 a ha,fun a b ha hb he=>by rw[←e a b ha hb]; exact h3 a b ha hb he,fun a b ha hb x=>h4 a b ha hb (by rw[e a b ha hb]; exact x)⟩
 rw[←e a m ha (by omega)] at x
 rw[←e m b (by omega) hb] at y
 rw[←e a b ha hb]
 exact h1 m a b hm ha hb x y
theorem G9 (k n:Nat) (s:ag) (l:List aF) (hn:n≤100000) (hf:10000000≤k):∀(d m kk:Nat) (M:List (List Bool)),kk+d=n→d<m→Sq n M→WP n l kk (tb M) →
  ∃M',tv k m (n:Int) (kk:Int) s M=some ((),(s,M',()))∧Sq n M'∧WP n l n (tb M')
 |0,m,kk,M,hi,hm,hq,h=>by
  obtain ⟨m,rfl⟩:=aq (m:=m) (by omega)
  obtain rfl:kk=n:=by omega
  refine ⟨M,?_,hq,h⟩
  simp only[tv]
  rw[decide_eq_false (by omega),cond_false]
 |d+1,m,kk,M,hi,hm,hq,h=>by
  obtain ⟨m,rfl⟩:=aq (m:=m) (by omega)
  obtain ⟨M1,e1,h1⟩:=G8 k n kk s (tb M) (by omega) hn hf n k 0 M (by omega) (by omega) ⟨hq,fun a b ha hb=>by rw[if_neg (by omega)]⟩
  obtain ⟨M2,e2,h2⟩:=G9 k n s l hn hf d m (kk+1) M1 (by omega) (by omega) h1.1 (TY (by omega) (fun a b ha hb=>by rw[h1.2 a b ha hb,if_pos (by omega)]) (Wn h (by omega)))
  refine ⟨M2,?_,h2⟩
  have hw:IntKind.wrap .i64 ((kk:Int)+1)=((kk+1:Nat):Int):=by rw[w64 _ (by omega) (by omega)]; omega
  rw[show ((0:Nat):Int)=0 from rfl] at e1
  simp only[tv]
  rw[decide_eq_true (show (kk:Int)<(n:Int) by omega),cond_true,e1,bind_some]
  simp only[hw]
  rw[e2,bind_some]
theorem Ha (k n:Nat) (s:ag) (hn:n≤100000):∀(d m i:Nat) (M:List (List Bool)),i+d=n→d<m→M.length=n→(∀a,a<i→(getD M a []).length=n∧∀b,b<n→tb M a b=decide (a=b)) →
  ∃M',tq k m (n:Int) (i:Int) s M=some (((n:Int),()),(s,M',()))∧Sq n M'∧∀a b,a<n→b<n→tb M' a b=decide (a=b)
 |0,m,i,M,hi,hm,hl,h=>by
  obtain ⟨m,rfl⟩:=aq (m:=m) (by omega)
  obtain rfl:i=n:=by omega
  refine ⟨M,?_,⟨hl,fun a ha=>(h a ha).1⟩,fun a b ha hb=>(h a ha).2 b hb⟩
  simp only[tq]
  rw[decide_eq_false (by omega),cond_false]
 |d+1,m,i,M,hi,hm,hl,h=>by
  obtain ⟨m,rfl⟩:=aq (m:=m) (by omega)
  have hin:i<n:=by omega
  have hx:(List.set M i (replicate n false)).length=n:=by rw[length_set]; exact hl
  have hrow:getD (List.set M i (replicate n false)) i []=replicate n false:=dS (by omega)
  obtain ⟨M',e,hh⟩:=Ha k n s hn d m (i+1) (List.set (List.set M i (replicate n false)) i (List.set (replicate n false) i true)) (by omega) (by omega) (by rw[length_set]; exact hx) (fun a ha=>by
   by_cases e:i=a
   ·subst e
    have hr:getD (List.set (List.set M i (replicate n false)) i (List.set (replicate n false) i true)) i []=List.set (replicate n false) i true:=dS (by omega)
    refine ⟨by rw[hr]; simp,fun b hb=>?_⟩
    unfold tb
    rw[hr]
    by_cases e2:i=b
    ·subst e2
     rw[dS (by simpa using hin),decide_eq_true rfl]
    ·rw[getD_set_ne e2,ak _ _ _ (by simpa using hb),List.getElem_replicate,decide_eq_false e2]
   ·have hr:getD (List.set (List.set M i (replicate n false)) i (List.set (replicate n false) i true)) a []=getD M a []:=by rw[getD_set_ne e,getD_set_ne e]
    obtain ⟨g1,g2⟩:=h a (by omega)
    refine ⟨by rw[hr]; exact g1,fun b hb=>?_⟩
    unfold tb
    rw[hr]
    exact g2 b hb)
  refine ⟨M',?_,hh⟩
  have hw:IntKind.wrap .i64 ((i:Int)+1)=((i+1:Nat):Int):=by rw[w64 _ (by omega) (by omega)]; omega
  simp only[tq,hw]
  rw[decide_eq_true (show (i:Int)<(n:Int) by omega),cond_true,if_pos (by omega),if_pos (by omega),tnI i,tnI n,hrow,if_pos (by rw[hx]; omega),if_pos (by rw[length_replicate]; omega),e,bind_some]
theorem Hb (k n:Nat) (s:ag) (hl:DI n s.2.2.2.1) (hs:s.2.2.2.1.length≤100000):∀(d m i:Nat) (M:List (List Bool)),i+d=s.2.2.2.1.length→d<m→Sq n M→(∀a b,a<n→b<n→(tb M a b=true↔a=b∨Ed (s.2.2.2.1.take i) a b)) →
  ∃M',tr k m (n:Int) (i:Int) s M=some (((n:Int),()),(s,M',()))∧Sq n M'∧∀a b,a<n→b<n→(tb M' a b=true↔a=b∨Ed s.2.2.2.1 a b)
 |0,m,i,M,hi,hm,hq,h=>by
  obtain ⟨m,rfl⟩:=aq (m:=m) (by omega)
  obtain rfl:i=s.2.2.2.1.length:=by omega
  rw[take_length] at h
  refine ⟨M,?_,hq,h⟩
  simp only[tr]
  rw[dx,cond_false]
 |d+1,m,i,M,hi,hm,hq,h=>by
  obtain ⟨m,rfl⟩:=aq (m:=m) (by omega)
  have hlt:i<s.2.2.2.1.length:=by omega
  obtain ⟨⟨p1,p2⟩,p3,p4⟩:=hl _ (getElem_mem hlt)
  obtain ⟨u,hu⟩:=Int.eq_ofNat_of_zero_le p1
  obtain ⟨v,hv⟩:=Int.eq_ofNat_of_zero_le p3
  have hun:u<n:=by omega
  have hvn:v<n:=by omega
  have hM:=hq.1
  have hr:=hq.2 u hun
  obtain ⟨M',e,hh⟩:=Hb k n s hl hs d m (i+1) (vl M u v true) (by omega) (by omega) (Qy hq hun v true) (fun a b ha hb=>by
   rw[Qz hq hun hvn]
   have hE:Ed (s.2.2.2.1.take (i+1)) a b↔Ed (s.2.2.2.1.take i) a b∨(a=u∧b=v):=by
    unfold Ed
    rw[List.take_add_one,List.getElem?_eq_getElem hlt]
    constructor
    ·rintro ⟨x,hx,x1,x2⟩
     rcases List.mem_append.1 hx with hx | hx
     ·exact Or.inl ⟨x,hx,x1,x2⟩
     ·right
      have:x=s.2.2.2.1[i]:=by simpa using hx
      subst this
      exact ⟨by omega,by omega⟩
    ·rintro (⟨x,hx,x1,x2⟩ | ⟨rfl,rfl⟩)
     ·exact ⟨x,mem_append_left _ hx,x1,x2⟩
     ·exact ⟨s.2.2.2.1[i],mem_append_right _ (by rw[Option.toList_some]; exact List.mem_singleton.2 rfl),hu,hv⟩
   rw[hE]
   by_cases e:a=u∧b=v
   ·rw[if_pos e]
    exact ⟨fun _=>Or.inr (Or.inr e),fun _=>rfl⟩
   ·rw[if_neg e,h a b ha hb]
    constructor
    ·rintro (x | x)
     ·exact Or.inl x
     ·exact Or.inr (Or.inl x)
    ·rintro (x | x | x)
     ·exact Or.inl x
     ·exact Or.inr x
     ·exact absurd x e)
  refine ⟨M',?_,hh⟩
  have hw:IntKind.wrap .i64 ((i:Int)+1)=((i+1:Nat):Int):=by rw[w64 _ (by omega) (by omega)]; omega
  simp only[tr,hw]
  rw[dlt hlt,cond_true,if_pos (inR hlt),tnI i,ak _ _ _ hlt,hu,hv,if_pos (by omega),if_pos (inR hlt),tnI u,if_pos (by omega),tnI v]
  exact (congrArg (fun z=>Option.bind z some) e).trans rfl
def a1B (s:ag):Prop:=∃a∈s.2.2.2.1,a.2.2.1>0∧Rch s.2.2.2.1 (Int.toNat a.2.1) (Int.toNat a.1)
theorem Hc (k n:Nat) (s:ag) (M:List (List Bool)) (hl:DI n s.2.2.2.1) (hs:s.2.2.2.1.length≤100000) (hq:Sq n M) (hw:WP n s.2.2.2.1 n (tb M)):∀(d m i:Nat),i+d=s.2.2.2.1.length→d<m →
  ((∃a∈s.2.2.2.1.drop i,a.2.2.1>0∧Rch s.2.2.2.1 (Int.toNat a.2.1) (Int.toNat a.1))∧kZ k m (i:Int) s M=some (.inr ((true,()),())))∨(¬(∃a∈s.2.2.2.1.drop i,a.2.2.1>0∧Rch s.2.2.2.1 (Int.toNat a.2.1) (Int.toNat a.1))∧kZ k m (i:Int) s M=some (.inl ((),())))
 |0,m,i,hi,hm=>by
  obtain ⟨m,rfl⟩:=aq (m:=m) (by omega)
  obtain rfl:i=s.2.2.2.1.length:=by omega
  right
  refine ⟨(fun ⟨a,ha,_⟩=>by rw[drop_eq_nil_of_le (Nat.le_refl _)] at ha; cases ha),?_⟩
  simp only[kZ]
  rw[dx,cond_false]
 |d+1,m,i,hi,hm=>by
  obtain ⟨m,rfl⟩:=aq (m:=m) (by omega)
  have hlt:i<s.2.2.2.1.length:=by omega
  obtain ⟨⟨p1,p2⟩,p3,p4⟩:=hl _ (getElem_mem hlt)
  obtain ⟨u,hu⟩:=Int.eq_ofNat_of_zero_le p1
  obtain ⟨v,hv⟩:=Int.eq_ofNat_of_zero_le p3
  have hun:u<n:=by omega
  have hvn:v<n:=by omega
  have hM:=hq.1
  have hr:=hq.2 v hvn
  have hend:=a5k hw hl hvn hun
  have hww:IntKind.wrap .i64 ((i:Int)+1)=((i+1:Nat):Int):=by rw[w64 _ (by omega) (by omega)]; omega
  have ih:=Hc k n s M hl hs hq hw d m (i+1) (by omega) (by omega)
  have hdrop:=drop_eq_getElem_cons hlt
  have hno:∀h:¬(s.2.2.2.1[i].2.2.1>0∧Rch s.2.2.2.1 (Int.toNat s.2.2.2.1[i].2.1) (Int.toNat s.2.2.2.1[i].1)),((∃a∈s.2.2.2.1.drop i,a.2.2.1>0∧Rch s.2.2.2.1 (Int.toNat a.2.1) (Int.toNat a.1))↔∃a∈s.2.2.2.1.drop (i+1),a.2.2.1>0∧Rch s.2.2.2.1 (Int.toNat a.2.1) (Int.toNat a.1)):=fun h=>by
   rw[hdrop]
   constructor
   ·rintro ⟨a,ha,x⟩
    rcases List.mem_cons.1 ha with rfl | ha
    ·exact absurd x h
    ·exact ⟨a,ha,x⟩
   ·rintro ⟨a,ha,x⟩
    exact ⟨a,mem_cons_of_mem _ ha,x⟩
  simp only[kZ,hww]
  rw[dlt hlt,cond_true,if_pos (inR hlt),tnI i,ak _ _ _ hlt]
  by_cases hp:s.2.2.2.1[i].2.2.1>0
  ·rw[decide_eq_true hp,cond_true,if_pos (by omega),hv,tnI v,if_pos (by omega),hu,tnI u]
   cases ht:getD (getD M v []) u false with
   |true =>
    left
    refine ⟨⟨s.2.2.2.1[i],hdrop▸mem_cons_self,hp,by rw[hu,hv]; exact hend.1 ht⟩,?_⟩
    rw[cond_true]
   |false =>
    have hn:¬(s.2.2.2.1[i].2.2.1>0∧Rch s.2.2.2.1 (Int.toNat s.2.2.2.1[i].2.1) (Int.toNat s.2.2.2.1[i].1)):=fun x=>by
     have h2:=x.2
     rw[hu,hv] at h2
     have:=hend.2 h2
     unfold tb at this
     rw[ht] at this
     cases this
    rw[hno hn,cond_false,bind_fun_some]
    exact ih
  ·rw[decide_eq_false hp,cond_false,hno (fun x=>hp x.1),bind_fun_some]
   exact ih
theorem a6k (k n:Nat) (s:ag) (hn:s.1.length=n) (hn2:n≤20000) (hl:DI n s.2.2.2.1) (hs:s.2.2.2.1.length≤20000) (hf:10000000≤k):∃b,F43 k s=some ((b,()),())∧(b=true↔a1B s):=by
 obtain ⟨M0,e0,q0,h0⟩:=Ha k n s (by omega) n k 0 (replicate n []) (by omega) (by omega) (by simp) (fun a ha=>by omega)
 obtain ⟨M1,e1,q1,h1⟩:=Hb k n s hl (by omega) s.2.2.2.1.length k 0 M0 (by omega) (by omega) q0 (fun a b ha hb=>by
  rw[h0 a b ha hb,decide_eq_true_eq]
  constructor
  ·exact Or.inl
  ·rintro (x | ⟨c,hc,_⟩)
   ·exact x
   ·cases hc)
 have w0:WP n s.2.2.2.1 0 (tb M1):=⟨fun m a b hm=>by omega,fun a ha=>(h1 a a ha ha).2 (Or.inl rfl),fun a b ha hb he=>(h1 a b ha hb).2 (Or.inr he),fun a b ha hb x=>by
  rcases (h1 a b ha hb).1 x with rfl | x
  ·exact Rch.refl _ _
  ·exact Rch.ed x⟩
 obtain ⟨M2,e2,q2,w2⟩:=G9 k n s s.2.2.2.1 (by omega) hf n k 0 M1 (by omega) (by omega) q1 w0
 have e5:=Hc k n s M2 hl (by omega) q2 w2 s.2.2.2.1.length k 0 (by omega) (by omega)
 rw[show ((0:Nat):Int)=0 from rfl,drop_zero] at e5
 rw[show ((0:Nat):Int)=0 from rfl] at e0 e1 e2
 unfold F43
 rw[hn,if_pos (by omega),tnI n]
 simp only
 rw[e0,bind_some]
 simp only
 rw[e1,bind_some]
 simp only
 rw[e2,bind_some]
 simp only
 rcases e5 with ⟨x,e⟩ | ⟨x,e⟩
 ·rw[e,bind_some]
  exact ⟨true,rfl,fun _=>x,fun _=>rfl⟩
 ·rw[e,bind_some]
  exact ⟨false,rfl,(fun h=>by cases h),fun h=>absurd h x⟩
theorem dh (k:Nat) (a n:Int) (h0:0<n) (h1:n≤4611686018427387904):F67 k a n=some ((a%n,()),()):=by
 have hm:tmod a n=a-n*tdiv a n:=by have:=Int.tmod_add_mul_tdiv a n; omega
 have hlt:tmod a n<n:=Int.tmod_lt_of_pos a h0
 have hgt:-n<tmod a n:=Int.lt_tmod_of_pos a h0
 unfold F67
 rw[if_pos (by omega)]
 by_cases h:tmod a n<0
 ·rw[decide_eq_true h,cond_true,w64 _ (by omega) (by omega)]
  have:a%n=tmod a n+n:=by
   have e:tmod a n+n=(tmod a n+n)%n:=(Int.emod_eq_of_lt (by omega) (by omega)).symm
   rw[e,Int.add_emod_right,hm,Int.sub_mul_emod_self_left]
  rw[this]
 ·rw[decide_eq_false h,cond_false]
  have:a%n=tmod a n:=by
   have e:tmod a n=(tmod a n)%n:=(Int.emod_eq_of_lt (by omega) (by omega)).symm
   rw[e,hm,Int.sub_mul_emod_self_left]
  rw[this]
def cst (l:List aF) (u v:Int):Option Int:=(l.find? fun a=>a.1==u&&a.2.1==v).map fun a=>a.2.2.1
def cw (l:List aF) (p:List Int) (i:Nat):Int:=(cst l (getD p i 0) (getD p ((i+1)%p.length) 0)).getD 0
def Pls (l:List aF) (u v:Nat):Prop:=∃x,Ed l u x∧Rch l x v
theorem Pls.trans {l:List aF} {u v w:Nat} (h:Pls l u v) (h':Pls l v w):Pls l u w:=by
 obtain ⟨x,x1,x2⟩:=h
 obtain ⟨y,y1,y2⟩:=h'
 exact ⟨x,x1,(x2.trans (Rch.ed y1)).trans y2⟩
def adI (a b:Int):Int:=aK (a+b) 1152921504606846976
def Cst (a:Int):Prop:=0≤a∧a≤1152921504606846976
theorem gn (k:Nat) (a b:Int) (ha:Cst a) (hb:Cst b):F34 k a b=some ((adI a b,()),()):=by
 unfold Cst at *
 unfold F34 adI
 simp only
 rw[w64 _ (by omega) (by omega)]
def Lt (b a:aF):Prop:=b.1<a.1∨b.1=a.1∧b.2.1<a.2.1
instance (b a:aF):Decidable (Lt b a):=inferInstanceAs (Decidable (_∨_))
def Srt (l:List aF):Prop:=l.Pairwise Lt
def eA (a:aF):List aF→Nat
 | []=>0
 |b::l=>if Lt b a then eA a l+1 else 0
theorem JO (a:aF):∀l:List aF,eA a l≤l.length
 | []=>Nat.le_refl _
 |b::l=>by
  unfold eA
  split
  ·have:=JO a l
   simp only[length_cons]
   omega
  ·exact zero_le _
def fq (a:aF):List aF→List aF
 | []=>[a]
 |b::l=>if Lt b a then b::fq a l else if b.1=a.1∧b.2.1=a.2.1 then (b.1,(b.2.1,(aK b.2.2.1 a.2.2.1,())))::l else a::b::l
theorem JP (a:aF):∀l:List aF,fq a l=(if eA a l<l.length∧(getD l (eA a l) (0,(0,(0,())))).1=a.1∧(getD l (eA a l) (0,(0,(0,())))).2.1=a.2.1 then
   List.set l (eA a l) ((getD l (eA a l) (0,(0,(0,())))).1,((getD l (eA a l) (0,(0,(0,())))).2.1,(aK (getD l (eA a l) (0,(0,(0,())))).2.2.1 a.2.2.1,()))) else l.take (eA a l)++[a]++l.drop (eA a l))
 | []=>rfl
 |b::l=>by
  unfold fq eA
  by_cases hb:Lt b a
  ·rw[if_pos hb,if_pos hb,JP a l]
   simp only[length_cons,Nat.add_lt_add_iff_right,getD_cons_succ,List.set_cons_succ,List.take_succ_cons,List.drop_succ_cons,List.cons_append]
   split<;>rfl
  ·rw[if_neg hb,if_neg hb]
   simp only[length_cons,getD_cons_zero,Nat.zero_lt_succ,true_and,List.set_cons_zero,take_zero,drop_zero,nil_append]
   split
   ·rfl
   ·rfl
theorem Hd (a:aF):∀l:List aF,(fq a l).length≤l.length+1∧l.length≤(fq a l).length
 | []=>⟨Nat.le_refl _,zero_le _⟩
 |b::l=>by
  unfold fq
  have:=Hd a l
  split
  ·simp only[length_cons]; omega
  ·split<;>(simp only[length_cons]; omega)
theorem Ct (k:Nat) (l:List aF) (a:aF) (hl:l.length≤1000000):∀(d m i:Nat),i+d=l.length→d<m→ku k m (i:Int) l a=some ((((i+eA a (l.drop i):Nat):Int),()),(l,(a,())))
 |0,m,i,hi,hm=>by
  obtain ⟨m,rfl⟩:=aq (m:=m) (by omega)
  obtain rfl:i=l.length:=by omega
  simp only[ku]
  rw[dx,cond_false,drop_length]
  rfl
 |d+1,m,i,hi,hm=>by
  obtain ⟨m,rfl⟩:=aq (m:=m) (by omega)
  have hlt:i<l.length:=by omega
  have ih:=Ct k l a hl d m (i+1) (by omega) (by omega)
  have hg:getD l i (0,(0,(0,())))=l[i]:=ak l i _ hlt
  rw[drop_eq_getElem_cons hlt]
  simp only[ku]
  rw[dlt hlt,cond_true,if_pos (inR hlt),tnI i,hg,aM i _ hlt (by omega),if_pos (inR hlt),if_pos (inR hlt),ih]
  have e:i+1+eA a (drop (i+1) l)=i+(eA a (drop (i+1) l)+1):=by omega
  by_cases h1:l[i].1<a.1
  ·rw[decide_eq_true h1,cond_true,eA,if_pos (.inl h1),e]
   rfl
  ·rw[decide_eq_false h1,cond_false]
   by_cases h2:l[i].1=a.1
   ·rw[show (l[i].1==a.1)=true from beq_iff_eq.2 h2,cond_true]
    by_cases h3:l[i].2.1<a.2.1
    ·rw[decide_eq_true h3,cond_true,eA,if_pos (.inr ⟨h2,h3⟩),e]
     rfl
    ·rw[decide_eq_false h3,cond_false,eA,if_neg (by rintro (q | q); exact h1 q; exact h3 q.2)]
     rfl
   ·rw[beq_false_of_ne h2,cond_false,eA,if_neg (by rintro (q | q); exact h1 q; exact h2 q.1)]
    rfl
theorem Wo (k:Nat) (l:List aF) (a:aF) (hl:l.length≤1000000) (hk:10000000≤k):Br k l a=some (((if a.2.2.1≥1152921504606846976 then l else fq a l),()),()):=by
 unfold Br
 simp only[replicate_zero,nil_append,length_nil]
 by_cases hw:a.2.2.1≥1152921504606846976
 ·rw[decide_eq_true hw,cond_true,if_pos hw]
 ·have e:=Ct k l a hl l.length k 0 (by omega) (by omega)
  rw[show ((0:Nat):Int)=0 from rfl,drop_zero,Nat.zero_add] at e
  have hc:=JO a l
  rw[decide_eq_false hw,cond_false,if_neg hw,e,bind_some,JP]
  simp only
  generalize hp:eA a l=p at *
  rw[tnI p,tnI (l.length),show Int.toNat 0=0 from rfl,sub_zero,drop_zero]
  have ht:(l.drop p).take (l.length-p)=l.drop p:=take_of_length_le (by rw[length_drop]; omega)
  have hone:List.set (replicate 1 ((0:Int),((0:Int),((0:Int),())))) 0 a=[a]:=bD _ _
  have hlen:(l.take p).length=p:=by rw[length_take]; omega
  have h0:(0+l.length)*(24*2)≤281474976710656∧0+l.length≤9223372036854775807:=by omega
  have h1:(0+(l.take p).length)*(24*2)≤281474976710656∧0+(l.take p).length≤9223372036854775807:=by omega
  have h2:((l.take p).length+[a].length)*(24*2)≤281474976710656∧(l.take p).length+[a].length≤9223372036854775807:=by rw[length_singleton]; omega
  have h3:((l.take p++[a]).length+(l.drop p).length)*(24*2)≤281474976710656∧(l.take p++[a]).length+(l.drop p).length≤9223372036854775807:=by rw[length_append,length_singleton,length_drop]; omega
  by_cases hlt:p<l.length
  ·have w1:(0:Int)≤0∧(0:Int)≤(p:Int)∧(p:Int)≤((l.length:Nat):Int):=by omega
   have w2:(0:Int)≤(p:Int)∧(p:Int)≤((l.length:Nat):Int)∧((l.length:Nat):Int)≤((l.length:Nat):Int):=by omega
   have hi:=inR hlt
   simp only[dlt hlt,cond_true,if_pos hi]
   by_cases g1:(getD l p ((0:Int),((0:Int),((0:Int),())))).1=a.1
   ·rw[show ((getD l p ((0:Int),((0:Int),((0:Int),())))).1==a.1)=true from beq_iff_eq.2 g1,cond_true]
    by_cases g2:(getD l p ((0:Int),((0:Int),((0:Int),())))).2.1=a.2.1
    ·rw[show ((getD l p ((0:Int),((0:Int),((0:Int),())))).2.1==a.2.1)=true from beq_iff_eq.2 g2,cond_true,if_pos h0,if_pos (⟨hlt,g1,g2⟩:_∧_∧_)]
    ·rw[beq_false_of_ne g2,cond_false,if_pos w1,if_pos w2,ht,hone,if_pos h1,if_pos h2,if_pos h3,if_neg (show ¬(p<l.length∧(getD l p ((0:Int),((0:Int),((0:Int),())))).1=a.1∧(getD l p ((0:Int),((0:Int),((0:Int),())))).2.1=a.2.1) from fun q=>g2 q.2.2)]
   ·rw[beq_false_of_ne g1,cond_false,if_pos w1,if_pos w2,ht,hone,if_pos h1,if_pos h2,if_pos h3,if_neg (show ¬(p<l.length∧(getD l p ((0:Int),((0:Int),((0:Int),())))).1=a.1∧(getD l p ((0:Int),((0:Int),((0:Int),())))).2.1=a.2.1) from fun q=>g1 q.2.1)]
  ·have hpe:p=l.length:=by omega
   rw[decide_eq_false (by omega),cond_false,if_pos (by omega),if_pos (by omega),ht,hone,if_pos h1,if_pos h2,if_pos h3,if_neg (show ¬(p<l.length∧(getD l p ((0:Int),((0:Int),((0:Int),())))).1=a.1∧(getD l p ((0:Int),((0:Int),((0:Int),())))).2.1=a.2.1) from fun q=>hlt q.1)]
theorem QA {a b c d:aF} (h1:a.1=c.1) (h2:a.2.1=c.2.1) (h3:b.1=d.1) (h4:b.2.1=d.2.1) (h:Lt a b):Lt c d:=by
 unfold Lt at *
 omega
theorem TZ {a b c:aF} (h:Lt a b) (h':Lt b c):Lt a c:=by
 unfold Lt at *
 omega
theorem vm (a:aF):∀(l:List aF) (x:aF),x∈fq a l→x∈l∨x.1=a.1∧x.2.1=a.2.1∧(x.2.2.1=a.2.2.1∨∃y∈l,x.2.2.1=aK y.2.2.1 a.2.2.1)
 | [],x,h=>by
  rw[fq,mem_singleton] at h
  subst h
  exact .inr ⟨rfl,rfl,.inl rfl⟩
 |b::l,x,h=>by
  unfold fq at h
  split at h
  ·rcases List.mem_cons.1 h with e | e
   ·subst e; exact .inl mem_cons_self
   ·rcases vm a l x e with q | ⟨q1,q2,q3⟩
    ·exact .inl (mem_cons_of_mem _ q)
    ·refine .inr ⟨q1,q2,q3.imp id fun ⟨y,hy,e⟩=>⟨y,mem_cons_of_mem _ hy,e⟩⟩
  ·split at h
   ·rename_i hk
    rcases List.mem_cons.1 h with e | e
    ·subst e; exact .inr ⟨hk.1,hk.2,.inr ⟨b,mem_cons_self,rfl⟩⟩
    ·exact .inl (mem_cons_of_mem _ e)
   ·rcases List.mem_cons.1 h with e | e
    ·subst e; exact .inr ⟨rfl,rfl,.inl rfl⟩
    ·exact .inl e
theorem He (a:aF):∀l:List aF,Srt l→Srt (fq a l)
 | [],_=>pairwise_singleton _ _
 |b::l,hs=>by
  obtain ⟨h1,h2⟩:=List.pairwise_cons.1 hs
  unfold fq
  split
  ·rename_i hb
   refine List.pairwise_cons.2 ⟨fun x hx=>?_,He a l h2⟩
   rcases vm a l x hx with q | ⟨q1,q2,_⟩
   ·exact h1 x q
   ·exact QA rfl rfl q1.symm q2.symm hb
  ·rename_i hb
   split
   ·rename_i hk
    exact List.pairwise_cons.2 ⟨fun x hx=>QA rfl rfl rfl rfl (h1 x hx),h2⟩
   ·rename_i hk
    have hab:Lt a b:=by
     unfold Lt at hb ⊢
     omega
    refine List.pairwise_cons.2 ⟨fun x hx=>?_,hs⟩
    rcases List.mem_cons.1 hx with e | e
    ·subst e; exact hab
    ·exact TZ hab (h1 x e)
def cZ (n:Nat) (B:Int) (l:List aF):Prop:=∀x∈l,(0≤x.1∧x.1<(n:Int))∧(0≤x.2.1∧x.2.1<(n:Int))∧0≤x.2.2.1∧x.2.2.1≤B
theorem QB {n:Nat} {B:Int} {a:aF} {l:List aF} (h:cZ n B l) (ha:cZ n B [a]):cZ n B (fq a l):=fun x hx=>by
 have h2:=ha a mem_cons_self
 rcases vm a l x hx with q | ⟨q1,q2,q3⟩
 ·exact h x q
 ·rw[q1,q2]
  refine ⟨h2.1,h2.2.1,?_⟩
  rcases q3 with q | ⟨y,hy,q⟩
  ·rw[q]; exact h2.2.2
  ·have:=h y hy
   rw[q]
   unfold aK
   split<;>omega
theorem eN {n:Nat} {B:Int} {l:List aF} (hs:Srt l) (h:cZ n B l):l.length≤n*n:=by
 have key:∀(l:List aF) (c:Nat),Srt l→cZ n B l→(∀x∈l,(c:Int)≤x.1*n+x.2.1)→c+l.length≤n*n∨l=[]:=by
  intro l
  induction l with
  |nil=>intro c _ _ _; exact .inr rfl
  |cons a l ih =>
   intro c hs h hc
   obtain ⟨h1,h2⟩:=List.pairwise_cons.1 hs
   have ga:=h a mem_cons_self
   have ha:=hc a mem_cons_self
   left
   have lt1:a.1*(n:Int)+a.2.1<(n:Int)*n:=by
    have:(a.1+1)*(n:Int)≤n*n:=Int.mul_le_mul_of_nonneg_right (by omega) (by omega)
    rw[Int.add_mul,Int.one_mul] at this
    omega
   have up:∀x∈l,a.1*(n:Int)+a.2.1+1≤x.1*n+x.2.1:=fun x hx=>by
    have gx:=h x (mem_cons_of_mem _ hx)
    have:=h1 x hx
    unfold Lt at this
    rcases this with q | ⟨q1,q2⟩
    ·have:(a.1+1)*(n:Int)≤x.1*n:=Int.mul_le_mul_of_nonneg_right (by omega) (by omega)
     rw[Int.add_mul,Int.one_mul] at this
     omega
    ·rw[q1]; omega
   have hn:((c+1:Nat):Int)≤(n:Int)*n:=by omega
   rcases ih (c+1) h2 (fun x hx=>h x (mem_cons_of_mem _ hx)) (fun x hx=>by have:=up x hx; omega) with q | q
   ·simp only[length_cons]; omega
   ·subst q
    simp only[length_cons,length_nil]
    have:((n*n:Nat):Int)=(n:Int)*n:=by simp
    omega
 rcases key l 0 hs h (fun x hx=>by have:=h x hx; have:0≤x.1*(n:Int):=mul_nonneg (by omega) (by omega); omega) with q | q
 ·omega
 ·subst q; exact zero_le _
abbrev sd (a b c:List Int) (d:List aF) (e:Int):ag:=(a,(b,(c,(d,(e,())))))
theorem iQ {α:Type} (A rest:List α) (i:Nat) (d:α) (h1:i<A.length) (h2:i<rest.length):List.set (A.take i++rest.drop i) i (getD A i d)=A.take (i+1)++rest.drop (i+1):=by
 rw[drop_eq_getElem_cons h2,List.set_append_right i _ (by rw[length_take]; omega),show i-(A.take i).length=0 by rw[length_take]; omega,List.set_cons_zero,ak A i d h1,take_succ_eq_append_getElem h1,append_assoc]
 rfl
theorem mi {α:Type} (P A rest:List α) (n i:Nat) (d:α) (hP:P.length=n) (h1:i<A.length) (h2:i<rest.length):List.set (P++(A.take i++rest.drop i)) (n+i) (getD A i d)=P++(A.take (i+1)++rest.drop (i+1)):=by
 rw[List.set_append_right (n+i) _ (by omega),show n+i-P.length=i by omega,iQ A rest i d h1 h2]
theorem dU {α:Type} (A rest:List α) (i:Nat) (h1:i≤A.length) (h2:i≤rest.length):(A.take i++rest.drop i).length=rest.length:=by
 rw[length_append,length_take,length_drop]
 omega
theorem vn {α:Type} (a:α) (n m:Nat):(replicate (n+m) a).drop n=replicate m a:=by
 rw[drop_replicate]
 congr 1
 omega
theorem ff {α:Type} (A:List α) (n:Nat) (h:A.length=n):A.take n=A:=by rw[←h]; exact take_length
theorem BR (i j:Nat) (h:i+j≤1000000000):IntKind.wrap .i64 ((i:Int)+(j:Int))=((i+j:Nat):Int):=by
 rw[w64 _ (by omega) (by omega)]
 omega
theorem Hf (k n:Nat) (c2:ag) (l:List aF) (w:Int) (hn:n≤100000):∀(d m i:Nat),i+d=n→d<m →
  m8 k m (n:Int) (i:Int) c2 (sd (replicate i 0) (replicate i 1152921504606846976) (replicate i 1152921504606846976) l w)=some ((),(c2,(sd (replicate n 0) (replicate n 1152921504606846976) (replicate n 1152921504606846976) l w,())))
 |0,m,i,hi,hm=>by
  obtain ⟨m,rfl⟩:=aq (m:=m) (by omega)
  obtain rfl:i=n:=by omega
  simp only[m8]
  rw[dx,cond_false]
 |d+1,m,i,hi,hm=>by
  obtain ⟨m,rfl⟩:=aq (m:=m) (by omega)
  have hlt:i<n:=by omega
  have ih:=Hf k n c2 l w hn d m (i+1) (by omega) (by omega)
  have hc:∀x y:Int,((replicate i x).length+[y].length)*(8*2)≤281474976710656∧(replicate i x).length+[y].length≤9223372036854775807:=fun x y=>by
   rw[length_replicate,length_singleton]; omega
  simp only[m8,bD]
  rw[dlt hlt,cond_true,if_pos (hc _ _),if_pos (hc _ _),if_pos (hc _ _),aM i n hlt (by omega)]
  rw[←List.replicate_succ',←List.replicate_succ']
  rw[ih]
  rfl
theorem Hg (k n:Nat) (hn:n≤100000) (hk:10000000≤k):F96 k (n:Int)=some ((sd (replicate n 0) (replicate n 1152921504606846976) (replicate n 1152921504606846976) [] 1152921504606846976,()),()):=by
 have h:=Hf k n (sd [] [] [] [] 0) [] 1152921504606846976 hn n k 0 (by omega) (by omega)
 unfold F96
 have h':m8 k k (n:Int) 0 ([],([],([],([],(0,()))))) ([],([],([],([],((1152921504606846976:Int),())))))=_:=h
 rw[h',bind_some]
theorem QC (k:Nat) (hk:10000000≤k):F95 k=some ((sd [] [] [] [] 0,()),()):=by
 have h:=Hg k 0 (by omega) hk
 unfold F95
 rw[show (0:Int)=((0:Nat):Int) from rfl,h,bind_some]
 rfl
def shA (n:Nat) (x:aF):aF:=(x.1+n,(x.2.1+n,(x.2.2.1,())))
theorem Cu (k:Nat) (a b c4:ag) (rest:List Int) (f e:List Int) (l:List aF) (w:Int) (ha:a.1.length≤100000) (hr:a.1.length≤rest.length):∀(d m i:Nat),i+d=a.1.length→d<m →
  l9 k m ((a.1.length:Nat):Int) (i:Int) a b c4 (sd (a.1.take i++rest.drop i) f e l w)=some ((((a.1.length:Nat):Int),()),(a,(b,(c4,(sd (a.1++rest.drop a.1.length) f e l w,())))))
 |0,m,i,hi,hm=>by
  obtain ⟨m,rfl⟩:=aq (m:=m) (by omega)
  obtain rfl:i=a.1.length:=by omega
  simp only[l9]
  rw[dx,cond_false,take_length]
 |d+1,m,i,hi,hm=>by
  obtain ⟨m,rfl⟩:=aq (m:=m) (by omega)
  have hlt:i<a.1.length:=by omega
  have ih:=Cu k a b c4 rest f e l w ha hr d m (i+1) (by omega) (by omega)
  simp only[l9]
  rw[dlt hlt,cond_true,if_pos (inR hlt),dU a.1 rest i (by omega) (by omega),if_pos (inR (show i<rest.length by omega)),tnI i,iQ a.1 rest i 0 hlt (by omega),aM i _ hlt (by omega),ih]
  rfl
theorem Cv (k:Nat) (a b c4:ag) (n:Nat) (P rest:List Int) (f e:List Int) (l:List aF) (w:Int) (hn:n≤100000) (hP:P.length=n) (hb:b.1.length≤100000) (hr:b.1.length≤rest.length):∀(d m i:Nat),i+d=b.1.length→d<m →
  mb k m (n:Int) (i:Int) a b c4 (sd (P++(b.1.take i++rest.drop i)) f e l w)=some (((n:Int),()),(a,(b,(c4,(sd (P++(b.1++rest.drop b.1.length)) f e l w,())))))
 |0,m,i,hi,hm=>by
  obtain ⟨m,rfl⟩:=aq (m:=m) (by omega)
  obtain rfl:i=b.1.length:=by omega
  simp only[mb]
  rw[dx,cond_false,take_length]
 |d+1,m,i,hi,hm=>by
  obtain ⟨m,rfl⟩:=aq (m:=m) (by omega)
  have hlt:i<b.1.length:=by omega
  have ih:=Cv k a b c4 n P rest f e l w hn hP hb hr d m (i+1) (by omega) (by omega)
  have hlen:n+i<(P++(b.1.take i++rest.drop i)).length:=by rw[length_append,dU b.1 rest i (by omega) (by omega)]; omega
  simp only[mb]
  rw[dlt hlt,cond_true,if_pos (inR hlt),BR n i (by omega),if_pos (inR hlen),tnI (n+i),tnI i,mi P b.1 rest n i 0 hP hlt (by omega),aM i _ hlt (by omega),ih]
  rfl
theorem Cw (k:Nat) (b c4:ag) (n:Nat) (A:List aF) (g f e:List Int) (w:Int) (hn:n≤100000) (hA:A.length≤1000000) (hb:b.2.2.2.1.length≤1000000) (hr:cZ 100000 1000000000000 b.2.2.2.1):∀(d m i:Nat),i+d=b.2.2.2.1.length→d<m →
  mf k m (n:Int) (i:Int) b c4 (sd g f e (A++(b.2.2.2.1.take i).map (shA n)) w)=some ((),(c4,(sd g f e (A++b.2.2.2.1.map (shA n)) w,())))
 |0,m,i,hi,hm=>by
  obtain ⟨m,rfl⟩:=aq (m:=m) (by omega)
  obtain rfl:i=b.2.2.2.1.length:=by omega
  simp only[mf]
  rw[dx,cond_false,take_length]
 |d+1,m,i,hi,hm=>by
  obtain ⟨m,rfl⟩:=aq (m:=m) (by omega)
  have hlt:i<b.2.2.2.1.length:=by omega
  have ih:=Cw k b c4 n A g f e w hn hA hb hr d m (i+1) (by omega) (by omega)
  have hx:=hr _ (getElem_mem hlt)
  have hg:getD b.2.2.2.1 i ((0:Int),((0:Int),((0:Int),())))=b.2.2.2.1[i]:=ak _ i _ hlt
  have w1:IntKind.wrap .i64 (b.2.2.2.1[i].1+(n:Int))=b.2.2.2.1[i].1+n:=w64 _ (by omega) (by omega)
  have w2:IntKind.wrap .i64 (b.2.2.2.1[i].2.1+(n:Int))=b.2.2.2.1[i].2.1+n:=w64 _ (by omega) (by omega)
  have hone:List.set (replicate 1 ((0:Int),((0:Int),((0:Int),())))) 0 (b.2.2.2.1[i].1+n,(b.2.2.2.1[i].2.1+n,(b.2.2.2.1[i].2.2.1,())))=[shA n b.2.2.2.1[i]]:=bD _ _
  have hc:((A++(b.2.2.2.1.take i).map (shA n)).length+[shA n b.2.2.2.1[i]].length)*(24*2)≤281474976710656∧(A++(b.2.2.2.1.take i).map (shA n)).length+[shA n b.2.2.2.1[i]].length≤9223372036854775807:=by
   rw[length_append,length_map,length_take,length_singleton]; omega
  simp only[mf]
  rw[dlt hlt,cond_true,if_pos (inR hlt),if_pos (inR hlt),if_pos (inR hlt),tnI i,hg,w1,w2,hone,if_pos hc,aM i _ hlt (by omega),append_assoc,show (b.2.2.2.1.take i).map (shA n)++[shA n b.2.2.2.1[i]]=(b.2.2.2.1.take (i+1)).map (shA n) by rw[take_succ_eq_append_getElem hlt,List.map_append]; rfl,ih]
  rfl
theorem JQ (k:Nat) (a b:ag) (ha:a.1.length≤10000) (hb:b.1.length≤10000) (hA:a.2.2.2.1.length≤1000000) (hB:b.2.2.2.1.length≤1000000) (hr:cZ 100000 1000000000000 b.2.2.2.1) (hk:10000000≤k) :
  FT k a b=some ((sd (a.1++b.1) (replicate (a.1.length+b.1.length) 1152921504606846976) (replicate (a.1.length+b.1.length) 1152921504606846976) (a.2.2.2.1++b.2.2.2.1.map (shA a.1.length)) 1152921504606846976,()),()):=by
 have e0:=Cu k a b (sd [] [] [] [] 0) (replicate (a.1.length+b.1.length) 0) (replicate (a.1.length+b.1.length) 1152921504606846976) (replicate (a.1.length+b.1.length) 1152921504606846976) [] 1152921504606846976 (by omega) (by rw[length_replicate]; omega) a.1.length k 0 (by omega) (by omega)
 rw[vn,take_zero,drop_zero,nil_append,show ((0:Nat):Int)=0 from rfl] at e0
 have e1:=Cv k a b (sd [] [] [] [] 0) a.1.length a.1 (replicate b.1.length 0) (replicate (a.1.length+b.1.length) 1152921504606846976) (replicate (a.1.length+b.1.length) 1152921504606846976) [] 1152921504606846976 (by omega) rfl (by omega) (by rw[length_replicate]; omega) b.1.length k 0 (by omega) (by omega)
 rw[take_zero,drop_zero,nil_append,show (replicate b.1.length (0:Int)).drop b.1.length=[] by rw[drop_replicate,Nat.sub_self]; rfl,append_nil,show ((0:Nat):Int)=0 from rfl] at e1
 have e2:=Cw k b (sd [] [] [] [] 0) a.1.length a.2.2.2.1 (a.1++b.1) (replicate (a.1.length+b.1.length) 1152921504606846976) (replicate (a.1.length+b.1.length) 1152921504606846976) 1152921504606846976 (by omega) hA hB hr b.2.2.2.1.length k 0 (by omega) (by omega)
 rw[take_zero,map_nil,append_nil,show ((0:Nat):Int)=0 from rfl] at e2
 have hc:(0+a.2.2.2.1.length)*(24*2)≤281474976710656∧0+a.2.2.2.1.length≤9223372036854775807:=by omega
 unfold FT
 simp only
 rw[BR a.1.length b.1.length (by omega),Hg k _ (by omega) hk,bind_some,e0,bind_some]
 simp only
 rw[e1,bind_some]
 simp only[length_nil]
 rw[if_pos hc,nil_append,e2,bind_some]
def iR (l:List aF) (a:aF):List aF:=if a.2.2.1≥1152921504606846976 then l else fq a l
def cL (g:Nat→aF):Nat→List aF→List aF
 |0,l=>l
 |m+1,l=>iR (cL g m l) (g m)
def co (g:Nat→Nat→aF) (m:Nat):Nat→List aF→List aF
 |0,l=>l
 |n+1,l=>cL (g n) m (co g m n l)
theorem T0 (l:List aF) (a:aF):(iR l a).length≤l.length+1:=by
 unfold iR
 split
 ·omega
 ·exact (Hd a l).1
theorem lh (g:Nat→aF):∀(m:Nat) (l:List aF),(cL g m l).length≤l.length+m
 |0,l=>Nat.le_refl _
 |m+1,l=>by
  have h1:=T0 (cL g m l) (g m)
  have h2:=lh g m l
  rw[cL]
  omega
theorem ry (g:Nat→Nat→aF) (m:Nat):∀(n:Nat) (l:List aF),(co g m n l).length≤l.length+n*m
 |0,l=>by simp[co]
 |n+1,l=>by
  have h1:=lh (g n) m (co g m n l)
  have h2:=ry g m n l
  rw[co,add_mul]
  omega
theorem Hh (k:Nat) (l:List aF) (a:aF) (hl:l.length≤1000000) (hk:10000000≤k):Br k l a=some ((iR l a,()),()):=Wo k l a hl hk
theorem vo {α β:Type} (f:α→β) (A:List α) (i:Nat) (d:β) (d':α) (h:i<A.length):getD (A.map f) i d=f (getD A i d'):=by
 rw[ak _ i d (by rw[length_map]; exact h),ak A i d' h,List.getElem_map]
def bN (l:List Int):Prop:=∀x∈l,Cst x
theorem bN.at_ {l:List Int} (h:bN l) {i:Nat} (hi:i<l.length):Cst (getD l i 0):=h _ (cK hi)
structure SdP (s:ag):Prop where
 n:s.1.length≤500
 lf:s.2.1.length=s.1.length
 le:s.2.2.1.length=s.1.length
 cf:bN s.2.1
 ce:bN s.2.2.1
 cn:Cst s.2.2.2.2.1
 la:s.2.2.2.1.length≤400000
 ra:cZ 100000 1000000000000 s.2.2.2.1
section
variable (k:Nat) (a b c4:ag)
def fg (a b:ag) (i j:Nat):aF:=((i:Int),(((a.1.length+j:Nat):Int),(adI (getD a.2.2.1 i 0) (getD b.2.1 j 0),())))
theorem Hi (hk:10000000≤k) (ha:SdP a) (hb:SdP b) (i:Nat) (hi:i<a.1.length) (g f e:List Int) (l:List aF) (w:Int) (hl:l.length≤900000):∀(d m j:Nat),j+d=b.1.length→d<m →
  s8 k m ((a.1.length:Nat):Int) (i:Int) (j:Int) a b c4 (sd g f e (cL (fg a b i) j l) w)=some ((((a.1.length:Nat):Int),((i:Int),())),(a,(b,(c4,(sd g f e (cL (fg a b i) b.1.length l) w,())))))
 |0,m,j,hj,hm=>by
  obtain ⟨m,rfl⟩:=aq (m:=m) (by omega)
  obtain rfl:j=b.1.length:=by omega
  simp only[s8]
  rw[dx,cond_false]
 |d+1,m,j,hj,hm=>by
  obtain ⟨m,rfl⟩:=aq (m:=m) (by omega)
  have hlt:j<b.1.length:=by omega
  have ih:=Hi hk ha hb i hi g f e l w hl d m (j+1) (by omega) (by omega)
  have h1:=ha.n
  have h2:=hb.n
  have h3:=ha.le
  have h4:=hb.lf
  have hlen:=lh (fg a b i) j l
  simp only[s8]
  rw[dlt hlt,cond_true,if_pos (inR (show i<a.2.2.1.length by omega)),if_pos (inR (show j<b.2.1.length by omega)),tnI i,tnI j,gn k _ _ (ha.ce.at_ (by omega)) (hb.cf.at_ (by omega)),bind_some]
  simp only
  rw[BR a.1.length j (by omega),Hh k _ _ (by omega) hk,bind_some,aM j _ hlt (by omega)]
  simp only
  have e1:iR (cL (fg a b i) j l) ((i:Int),(((a.1.length+j:Nat):Int),(adI (getD a.2.2.1 i 0) (getD b.2.1 j 0),())))=cL (fg a b i) (j+1) l:=rfl
  rw[e1,ih]
  rfl
theorem Hj (hk:10000000≤k) (ha:SdP a) (hb:SdP b) (g rf re:List Int) (l:List aF) (w:Int) (hl:l.length≤600000) (hrf:a.1.length≤rf.length) (hre:a.1.length≤re.length):∀(d m i:Nat),i+d=a.1.length→d<m →
  s9 k m ((a.1.length:Nat):Int) (i:Int) a b c4 (sd g (a.2.1.take i++rf.drop i) ((a.2.2.1.map fun x=>adI x b.2.2.2.2.1).take i++re.drop i) (co (fg a b) b.1.length i l) w) =
   some ((((a.1.length:Nat):Int),()),(a,(b,(c4,(sd g (a.2.1++rf.drop a.1.length) ((a.2.2.1.map fun x=>adI x b.2.2.2.2.1)++re.drop a.1.length) (co (fg a b) b.1.length a.1.length l) w,())))))
 |0,m,i,hi,hm=>by
  obtain ⟨m,rfl⟩:=aq (m:=m) (by omega)
  obtain rfl:i=a.1.length:=by omega
  simp only[s9]
  rw[dx,cond_false,ff a.2.1 _ ha.lf,ff (a.2.2.1.map _) _ (by rw[length_map]; exact ha.le)]
 |d+1,m,i,hi,hm=>by
  obtain ⟨m,rfl⟩:=aq (m:=m) (by omega)
  have hlt:i<a.1.length:=by omega
  have ih:=Hj hk ha hb g rf re l w hl hrf hre d m (i+1) (by omega) (by omega)
  have h1:=ha.n
  have h2:=hb.n
  have h3:=ha.lf
  have h4:=ha.le
  have hlen:=ry (fg a b) b.1.length i l
  have hmul:i*b.1.length≤500*500:=mul_le_mul (by omega) h2
  have hme:(a.2.2.1.map fun x=>adI x b.2.2.2.2.1).length=a.1.length:=by rw[length_map]; exact h4
  have ge:adI (getD a.2.2.1 i 0) b.2.2.2.2.1=getD (a.2.2.1.map fun x=>adI x b.2.2.2.2.1) i 0:=(vo (fun x=>adI x b.2.2.2.2.1) _ i 0 0 (by omega)).symm
  have e0:=Hi k a b c4 hk ha hb i hlt g (a.2.1.take (i+1)++rf.drop (i+1)) ((a.2.2.1.map fun x=>adI x b.2.2.2.2.1).take (i+1)++re.drop (i+1)) (co (fg a b) b.1.length i l) w (by omega) b.1.length k 0 (by omega) (by omega)
  rw[show ((0:Nat):Int)=0 from rfl,cL] at e0
  simp only[s9]
  rw[dlt hlt,cond_true,if_pos (inR (show i<a.2.1.length by omega)),if_pos (inR (show i<a.2.2.1.length by omega)),tnI i,gn k _ _ (ha.ce.at_ (by omega)) hb.cn,bind_some]
  simp only
  rw[dU a.2.1 rf i (by omega) (by omega),dU (a.2.2.1.map _) re i (by omega) (by omega),if_pos (inR (show i<rf.length by omega)),if_pos (inR (show i<re.length by omega)),iQ a.2.1 rf i 0 (by omega) (by omega),ge,iQ (a.2.2.1.map _) re i 0 (by omega) (by omega),e0,bind_some]
  simp only
  rw[aM i _ hlt (by omega)]
  have e1:cL (fg a b i) b.1.length (co (fg a b) b.1.length i l)=co (fg a b) b.1.length (i+1) l:=rfl
  rw[e1,ih]
  rfl
theorem Hk (hk:10000000≤k) (ha:SdP a) (hb:SdP b) (n:Nat) (hn:n≤10000) (g P Q rf re:List Int) (hP:P.length=n) (hQ:Q.length=n) (l:List aF) (w:Int) (hrf:b.1.length≤rf.length) (hre:b.1.length≤re.length):∀(d m i:Nat),i+d=b.1.length→d<m →
  ta k m (n:Int) (i:Int) a b c4 (sd g (P++((b.2.1.map fun x=>adI a.2.2.2.2.1 x).take i++rf.drop i)) (Q++(b.2.2.1.take i++re.drop i)) l w) =
   some ((),(c4,(sd g (P++((b.2.1.map fun x=>adI a.2.2.2.2.1 x)++rf.drop b.1.length)) (Q++(b.2.2.1++re.drop b.1.length)) l w,())))
 |0,m,i,hi,hm=>by
  obtain ⟨m,rfl⟩:=aq (m:=m) (by omega)
  obtain rfl:i=b.1.length:=by omega
  simp only[ta]
  rw[dx,cond_false,ff b.2.2.1 _ hb.le,ff (b.2.1.map _) _ (by rw[length_map]; exact hb.lf)]
 |d+1,m,i,hi,hm=>by
  obtain ⟨m,rfl⟩:=aq (m:=m) (by omega)
  have hlt:i<b.1.length:=by omega
  have ih:=Hk hk ha hb n hn g P Q rf re hP hQ l w hrf hre d m (i+1) (by omega) (by omega)
  have h1:=ha.n
  have h2:=hb.n
  have h3:=hb.lf
  have h4:=hb.le
  have hme:(b.2.1.map fun x=>adI a.2.2.2.2.1 x).length=b.1.length:=by rw[length_map]; exact h3
  have ge:adI a.2.2.2.2.1 (getD b.2.1 i 0)=getD (b.2.1.map fun x=>adI a.2.2.2.2.1 x) i 0:=(vo (fun x=>adI a.2.2.2.2.1 x) _ i 0 0 (by omega)).symm
  have l1:n+i<(P++((b.2.1.map fun x=>adI a.2.2.2.2.1 x).take i++rf.drop i)).length:=by rw[length_append,dU _ rf i (by omega) (by omega)]; omega
  have l2:n+i<(Q++(b.2.2.1.take i++re.drop i)).length:=by rw[length_append,dU _ re i (by omega) (by omega)]; omega
  simp only[ta]
  rw[dlt hlt,cond_true,if_pos (inR (show i<b.2.1.length by omega)),if_pos (inR (show i<b.2.2.1.length by omega)),tnI i,gn k _ _ ha.cn (hb.cf.at_ (by omega)),bind_some]
  simp only
  rw[BR n i (by omega),if_pos (inR l1),if_pos (inR l2),tnI (n+i),ge,mi P (b.2.1.map _) rf n i 0 hP (by omega) (by omega),mi Q b.2.2.1 re n i 0 hQ (by omega) (by omega),aM i _ hlt (by omega),ih]
  rfl
def bm (a b:ag):ag:=sd (a.1++b.1) (a.2.1++b.2.1.map fun x=>adI a.2.2.2.2.1 x) ((a.2.2.1.map fun x=>adI x b.2.2.2.2.1)++b.2.2.1) (co (fg a b) b.1.length a.1.length (a.2.2.2.1++b.2.2.2.1.map (shA a.1.length))) (adI a.2.2.2.2.1 b.2.2.2.2.1)
theorem QD (hk:10000000≤k) (ha:SdP a) (hb:SdP b) (hl:a.2.2.2.1.length+b.2.2.2.1.length≤600000):F97 k a b=some ((bm a b,()),()):=by
 have h1:=ha.n
 have h2:=hb.n
 have h3:=ha.lf
 have h4:=ha.le
 have h5:=hb.lf
 have h6:=hb.le
 have h7:=ha.la
 have h8:=hb.la
 have e1:=Hj k a b (sd [] [] [] [] 0) hk ha hb (a.1++b.1) (replicate (a.1.length+b.1.length) 1152921504606846976) (replicate (a.1.length+b.1.length) 1152921504606846976) (a.2.2.2.1++b.2.2.2.1.map (shA a.1.length)) (adI a.2.2.2.2.1 b.2.2.2.2.1) (by rw[length_append,length_map]; omega) (by rw[length_replicate]; omega) (by rw[length_replicate]; omega) a.1.length k 0 (by omega) (by omega)
 rw[vn,take_zero,take_zero,drop_zero,nil_append,show ((0:Nat):Int)=0 from rfl,co] at e1
 have e2:=Hk k a b (sd [] [] [] [] 0) hk ha hb a.1.length (by omega) (a.1++b.1) a.2.1 (a.2.2.1.map fun x=>adI x b.2.2.2.2.1) (replicate b.1.length 1152921504606846976) (replicate b.1.length 1152921504606846976) h3 (by rw[length_map]; exact h4) (co (fg a b) b.1.length a.1.length (a.2.2.2.1++b.2.2.2.1.map (shA a.1.length))) (adI a.2.2.2.2.1 b.2.2.2.2.1) (by rw[length_replicate]; omega) (by rw[length_replicate]; omega) b.1.length k 0 (by omega) (by omega)
 have hnil:(replicate b.1.length (1152921504606846976:Int)).drop b.1.length=[]:=by rw[drop_replicate,Nat.sub_self]; rfl
 rw[hnil,append_nil,append_nil,take_zero,take_zero,drop_zero,nil_append,show ((0:Nat):Int)=0 from rfl] at e2
 unfold F97
 rw[JQ k a b (by omega) (by omega) (by omega) (by omega) hb.ra hk,bind_some,gn k _ _ ha.cn hb.cn,bind_some]
 simp only
 rw[e1,bind_some]
 simp only
 rw[e2,bind_some]
 rfl
theorem Hl (ha:SdP a) (g rf re:List Int) (l:List aF) (w:Int) (hrf:a.1.length≤rf.length) (hre:a.1.length≤re.length):∀(d m i:Nat),i+d=a.1.length→d<m →
  tc k m ((a.1.length:Nat):Int) (i:Int) a b c4 (sd g (a.2.1.take i++rf.drop i) (a.2.2.1.take i++re.drop i) l w) =
   some ((((a.1.length:Nat):Int),()),(b,(c4,(sd g (a.2.1++rf.drop a.1.length) (a.2.2.1++re.drop a.1.length) l w,()))))
 |0,m,i,hi,hm=>by
  obtain ⟨m,rfl⟩:=aq (m:=m) (by omega)
  obtain rfl:i=a.1.length:=by omega
  simp only[tc]
  rw[dx,cond_false,ff a.2.1 _ ha.lf,ff a.2.2.1 _ ha.le]
 |d+1,m,i,hi,hm=>by
  obtain ⟨m,rfl⟩:=aq (m:=m) (by omega)
  have hlt:i<a.1.length:=by omega
  have ih:=Hl ha g rf re l w hrf hre d m (i+1) (by omega) (by omega)
  have h1:=ha.n
  have h3:=ha.lf
  have h4:=ha.le
  simp only[tc]
  rw[dlt hlt,cond_true,if_pos (inR (show i<a.2.1.length by omega)),if_pos (inR (show i<a.2.2.1.length by omega)),dU a.2.1 rf i (by omega) (by omega),dU a.2.2.1 re i (by omega) (by omega),if_pos (inR (show i<rf.length by omega)),if_pos (inR (show i<re.length by omega)),tnI i,iQ a.2.1 rf i 0 (by omega) (by omega),iQ a.2.2.1 re i 0 (by omega) (by omega),aM i _ hlt (by omega),ih]
  rfl
theorem Hm (hb:SdP b) (n:Nat) (hn:n≤10000) (g P Q rf re:List Int) (hP:P.length=n) (hQ:Q.length=n) (l:List aF) (w:Int) (hrf:b.1.length≤rf.length) (hre:b.1.length≤re.length):∀(d m i:Nat),i+d=b.1.length→d<m →
  td k m (n:Int) (i:Int) b c4 (sd g (P++(b.2.1.take i++rf.drop i)) (Q++(b.2.2.1.take i++re.drop i)) l w) =
   some ((),(c4,(sd g (P++(b.2.1++rf.drop b.1.length)) (Q++(b.2.2.1++re.drop b.1.length)) l w,())))
 |0,m,i,hi,hm=>by
  obtain ⟨m,rfl⟩:=aq (m:=m) (by omega)
  obtain rfl:i=b.1.length:=by omega
  simp only[td]
  rw[dx,cond_false,ff b.2.2.1 _ hb.le,ff b.2.1 _ hb.lf]
 |d+1,m,i,hi,hm=>by
  obtain ⟨m,rfl⟩:=aq (m:=m) (by omega)
  have hlt:i<b.1.length:=by omega
  have ih:=Hm hb n hn g P Q rf re hP hQ l w hrf hre d m (i+1) (by omega) (by omega)
  have h2:=hb.n
  have h3:=hb.lf
  have h4:=hb.le
  have l1:n+i<(P++(b.2.1.take i++rf.drop i)).length:=by rw[length_append,dU _ rf i (by omega) (by omega)]; omega
  have l2:n+i<(Q++(b.2.2.1.take i++re.drop i)).length:=by rw[length_append,dU _ re i (by omega) (by omega)]; omega
  simp only[td]
  rw[dlt hlt,cond_true,if_pos (inR (show i<b.2.1.length by omega)),if_pos (inR (show i<b.2.2.1.length by omega)),tnI i,BR n i (by omega),if_pos (inR l1),if_pos (inR l2),tnI (n+i),mi P b.2.1 rf n i 0 hP (by omega) (by omega),mi Q b.2.2.1 re n i 0 hQ (by omega) (by omega),aM i _ hlt (by omega),ih]
  rfl
def cC (a b:ag):ag:=sd (a.1++b.1) (a.2.1++b.2.1) (a.2.2.1++b.2.2.1) (a.2.2.2.1++b.2.2.2.1.map (shA a.1.length)) (aK a.2.2.2.2.1 b.2.2.2.2.1)
theorem a7k (hk:10000000≤k) (ha:SdP a) (hb:SdP b):F98 k a b=some ((cC a b,()),()):=by
 have h1:=ha.n
 have h2:=hb.n
 have h3:=ha.lf
 have h4:=ha.le
 have h7:=ha.la
 have h8:=hb.la
 have e1:=Hl k a b (sd [] [] [] [] 0) ha (a.1++b.1) (replicate (a.1.length+b.1.length) 1152921504606846976) (replicate (a.1.length+b.1.length) 1152921504606846976) (a.2.2.2.1++b.2.2.2.1.map (shA a.1.length)) (aK a.2.2.2.2.1 b.2.2.2.2.1) (by rw[length_replicate]; omega) (by rw[length_replicate]; omega) a.1.length k 0 (by omega) (by omega)
 rw[vn,take_zero,take_zero,drop_zero,nil_append,show ((0:Nat):Int)=0 from rfl] at e1
 have e2:=Hm k b (sd [] [] [] [] 0) hb a.1.length (by omega) (a.1++b.1) a.2.1 a.2.2.1 (replicate b.1.length 1152921504606846976) (replicate b.1.length 1152921504606846976) h3 h4 (a.2.2.2.1++b.2.2.2.1.map (shA a.1.length)) (aK a.2.2.2.2.1 b.2.2.2.2.1) (by rw[length_replicate]; omega) (by rw[length_replicate]; omega) b.1.length k 0 (by omega) (by omega)
 have hnil:(replicate b.1.length (1152921504606846976:Int)).drop b.1.length=[]:=by rw[drop_replicate,Nat.sub_self]; rfl
 rw[hnil,append_nil,append_nil,take_zero,take_zero,drop_zero,nil_append,show ((0:Nat):Int)=0 from rfl] at e2
 unfold F98
 rw[JQ k a b (by omega) (by omega) (by omega) (by omega) hb.ra hk,bind_some]
 simp only
 rw[e1,bind_some]
 simp only
 rw[e2,bind_some]
 rfl
def ek (a:ag) (i j:Nat):aF:=((i:Int),((j:Int),(adI (getD a.2.2.1 i 0) (getD a.2.1 j 0),())))
theorem Hn (hk:10000000≤k) (ha:SdP a) (i:Nat) (hi:i<a.1.length) (l:List aF) (hl:l.length≤900000):∀(d m j:Nat),j+d=a.1.length→d<m →
  tg k m (i:Int) (j:Int) a c4 (cL (ek a i) j l)=some (((i:Int),()),(a,(c4,(cL (ek a i) a.1.length l,()))))
 |0,m,j,hj,hm=>by
  obtain ⟨m,rfl⟩:=aq (m:=m) (by omega)
  obtain rfl:j=a.1.length:=by omega
  simp only[tg]
  rw[dx,cond_false]
 |d+1,m,j,hj,hm=>by
  obtain ⟨m,rfl⟩:=aq (m:=m) (by omega)
  have hlt:j<a.1.length:=by omega
  have ih:=Hn hk ha i hi l hl d m (j+1) (by omega) (by omega)
  have h1:=ha.n
  have h3:=ha.le
  have h4:=ha.lf
  have hlen:=lh (ek a i) j l
  simp only[tg]
  rw[dlt hlt,cond_true,if_pos (inR (show i<a.2.2.1.length by omega)),if_pos (inR (show j<a.2.1.length by omega)),tnI i,tnI j,gn k _ _ (ha.ce.at_ (by omega)) (ha.cf.at_ (by omega)),bind_some]
  simp only
  rw[Hh k _ _ (by omega) hk,bind_some,aM j _ hlt (by omega)]
  simp only
  have e1:iR (cL (ek a i) j l) ((i:Int),((j:Int),(adI (getD a.2.2.1 i 0) (getD a.2.1 j 0),())))=cL (ek a i) (j+1) l:=rfl
  rw[e1,ih]
  rfl
theorem Ho (hk:10000000≤k) (ha:SdP a) (l:List aF) (hl:l.length≤600000):∀(d m i:Nat),i+d=a.1.length→d<m →
  ng k m (i:Int) a c4 (co (ek a) a.1.length i l)=some ((),(a,(c4,(co (ek a) a.1.length a.1.length l,()))))
 |0,m,i,hi,hm=>by
  obtain ⟨m,rfl⟩:=aq (m:=m) (by omega)
  obtain rfl:i=a.1.length:=by omega
  simp only[ng]
  rw[dx,cond_false]
 |d+1,m,i,hi,hm=>by
  obtain ⟨m,rfl⟩:=aq (m:=m) (by omega)
  have hlt:i<a.1.length:=by omega
  have ih:=Ho hk ha l hl d m (i+1) (by omega) (by omega)
  have h1:=ha.n
  have hlen:=ry (ek a) a.1.length i l
  have hmul:i*a.1.length≤500*500:=mul_le_mul (by omega) h1
  have e0:=Hn k a c4 hk ha i hlt (co (ek a) a.1.length i l) (by omega) a.1.length k 0 (by omega) (by omega)
  rw[show ((0:Nat):Int)=0 from rfl,cL] at e0
  simp only[ng]
  rw[dlt hlt,cond_true,e0,bind_some]
  simp only
  rw[aM i _ hlt (by omega)]
  have e1:cL (ek a i) a.1.length (co (ek a) a.1.length i l)=co (ek a) a.1.length (i+1) l:=rfl
  rw[e1,ih]
  rfl
def cU (a:ag):ag:=sd a.1 a.2.1 a.2.2.1 (co (ek a) a.1.length a.1.length a.2.2.2.1) 0
theorem a8k (hk:10000000≤k) (ha:SdP a):F99 k a=some ((cU a,()),()):=by
 have h7:=ha.la
 have ha':SdP (sd a.1 a.2.1 a.2.2.1 a.2.2.2.1 0):=⟨ha.n,ha.lf,ha.le,ha.cf,ha.ce,⟨Int.le_refl _,(by decide:(0:Int)≤1152921504606846976)⟩,ha.la,ha.ra⟩
 have e:=Ho k (sd a.1 a.2.1 a.2.2.1 a.2.2.2.1 0) (sd [] [] [] [] 0) hk ha' a.2.2.2.1 (by omega) a.1.length k 0 (Nat.zero_add _) (by have:=ha.n; omega)
 rw[show ((0:Nat):Int)=0 from rfl,co] at e
 have hc:(0+a.2.2.2.1.length)*(24*2)≤281474976710656∧0+a.2.2.2.1.length≤9223372036854775807:=by omega
 unfold F99
 simp only[replicate_zero,length_nil,nil_append]
 rw[if_pos hc]
 have e':ng k k 0 (a.1,(a.2.1,(a.2.2.1,(a.2.2.2.1,((0:Int),a.2.2.2.2.2))))) ([],([],([],([],((0:Int),()))))) a.2.2.2.1=_:=e
 rw[e',bind_some]
 rfl
end
abbrev eB:=ae (Int×(Int×Unit))
abbrev bn:=ae (Int×(Int×(Int×(Int×(ByteArray×Unit)))))
def iq:Nat→eB→Prop
 |0,_=>False
 |h+1,r=>∀c∈r.l,iq h c
theorem T1 (k:Nat) (f:List eB→Int→Option ((Int×Unit)×Unit)) (l:List eB) (d B:Nat) (Pc:List eB→Prop) (hd:d≤5) (hB:B≤100000) (hf:∀c,∃n:Nat,f c ((d+1:Nat):Int)=some (((n:Int),()),())∧n≤B∧(n≤30→Pc c)):∀(m i n:Nat),31≤n+m→n≤31+B→i≤l.length→i≤n→(n≤30→∀j,j<i→Pc (getD l j (ae.mk (0,(0,())) [])).l) →
  ∃q:Nat,mW k f (m+1) l (d:Int) (n:Int) (i:Int)=some (((q:Int),()),())∧q≤31+B∧(q≤30→l.length≤q∧∀j,j<l.length→Pc (getD l j (ae.mk (0,(0,())) [])).l):=by
 intro m
 induction m with
 |zero =>
  intro i n h1 h2 hi hin hJ
  simp only[mW]
  by_cases hlt:i<l.length
  ·rw[dlt hlt,cond_true,decide_eq_false (by omega),cond_false]
   exact ⟨n,rfl,h2,fun q=>by omega⟩
  ·rw[decide_eq_false (by omega),cond_false]
   exact ⟨n,rfl,h2,fun q=>by omega⟩
 |succ m ih =>
  intro i n h1 h2 hi hin hJ
  rw[mW]
  simp only
  by_cases hlt:i<l.length
  ·rw[dlt hlt,cond_true]
   by_cases hn:n≤30
   ·rw[decide_eq_true (by omega),cond_true,if_pos (inR hlt),tnI i]
    obtain ⟨x,e,hx,hxs⟩:=hf (ae.l (getD l i (ae.mk (0,(0,())) [])))
    rw[show IntKind.wrap .i64 ((d:Int)+1)=((d+1:Nat):Int) by rw[w64 _ (by omega) (by omega)]; omega,e,bind_some]
    simp only
    rw[show IntKind.wrap .i64 (IntKind.wrap .i64 ((n:Int)+1)+(x:Int))=((n+1+x:Nat):Int) by rw[w64 ((n:Int)+1) (by omega) (by omega),w64 _ (by omega) (by omega)]; omega,show IntKind.wrap .i64 ((i:Int)+1)=((i+1:Nat):Int) by rw[w64 _ (by omega) (by omega)]; omega,bind_fun_some]
    refine ih (i+1) (n+1+x) (by omega) (by omega) hlt (by omega) fun hq j hj=>?_
    by_cases hji:j=i
    ·subst hji
     exact hxs (by omega)
    ·exact hJ hn j (by omega)
   ·rw[decide_eq_false (by omega),cond_false]
    exact ⟨n,rfl,h2,fun q=>by omega⟩
  ·rw[decide_eq_false (by omega),cond_false]
   refine ⟨n,rfl,h2,fun q=>⟨by omega,fun j hj=>hJ q j (by omega)⟩⟩
theorem Hp (k d B h:Nat) (l:List eB) (hd:d≤5) (hB:B≤100000) (hk:100≤k) (hf:∀c,∃n:Nat,R35 k c ((d+1:Nat):Int)=some (((n:Int),()),())∧n≤B∧(n≤30→∀r:eB,r.l=c→iq h r)) :
  ∃n:Nat,R35 (k+1) l (d:Int)=some (((n:Int),()),())∧n≤31+B∧(n≤30→l.length≤n∧∀r∈l,iq h r):=by
 obtain ⟨k',hk'⟩:∃k',k=k'+1:=⟨k-1,by omega⟩
 obtain ⟨q,h1,h2,h3⟩:=T1 k (R35 k) l d B (fun c=>∀r:eB,r.l=c→iq h r) hd hB hf k' 0 0 (by omega) (by omega) (zero_le _) (Nat.le_refl _) (fun _ j hj=>by omega)
 refine ⟨q,?_,by omega,fun hq=>⟨(h3 hq).1,fun r hr=>?_⟩⟩
 ·rw[R35,B35,decide_eq_false (by omega),cond_false]
  have h1':mW k (R35 k) k l (d:Int) 0 0=some (((q:Int),()),()):=by
   rw[←hk'] at h1; exact h1
  rw[h1',bind_some]
 ·obtain ⟨j,hj,rfl⟩:=List.getElem_of_mem hr
  have:=(h3 hq).2 j hj
  rw[ak l j _ hj] at this
  exact this _ rfl
theorem QE:∀(e d k:Nat) (l:List eB),d+e=5→e+200≤k→∃n:Nat,R35 k l (d:Int)=some (((n:Int),()),())∧n≤1031+31*e∧(n≤30→l.length≤n∧∀r∈l,iq e r)
 |0,d,k,l,hd,hk=>by
  obtain ⟨k,rfl⟩:∃k',k=k'+1:=⟨k-1,by omega⟩
  obtain ⟨n,h1,h2,h3⟩:=Hp k d 1000 0 l (by omega) (by omega) (by omega) (fun c=>by
   obtain ⟨k,rfl⟩:∃k',k=k'+1:=⟨k-1,by omega⟩
   refine ⟨1000,?_,Nat.le_refl _,fun q=>by omega⟩
   rw[R35,B35,decide_eq_true (by omega),cond_true]
   rfl)
  exact ⟨n,h1,by omega,h3⟩
 |e+1,d,k,l,hd,hk=>by
  obtain ⟨k,rfl⟩:∃k',k=k'+1:=⟨k-1,by omega⟩
  obtain ⟨n,h1,h2,h3⟩:=Hp k d (1031+31*e) (e+1) l (by omega) (by omega) (by omega) (fun c=>by
   obtain ⟨n,h1,h2,h3⟩:=QE e (d+1) k c (by omega) (by omega)
   exact ⟨n,h1,h2,fun q r hr=>by
    intro x hx
    rw[hr] at hx
    exact (h3 q).2 x hx⟩)
  exact ⟨n,h1,by omega,h3⟩
theorem a9k (k:Nat) (l:List eB) (hk:1000≤k):∃b,F14 k l=some ((b,()),())∧(b=true→l.length≤30∧∀r∈l,iq 5 r):=by
 obtain ⟨n,h1,_,h3⟩:=QE 5 0 k l rfl (by omega)
 refine ⟨decide ((n:Int)≤30),?_,fun hb=>?_⟩
 ·unfold F14 F35
  have h1':R35 k l 0=some (((n:Int),()),()):=h1
  rw[h1',bind_some]
 ·have:=of_decide_eq_true hb
  exact ⟨by have:=(h3 (by omega)).1; omega,(h3 (by omega)).2⟩

def nms:List ByteArray:=[⟨#[97]⟩,⟨#[118]⟩,⟨#[100]⟩,⟨#[115]⟩,⟨#[119,49]⟩,⟨#[111,116,104,101,114]⟩]
def Hq (nm:ByteArray):Prop:=nm∈nms.take 4
theorem T2 {n:Int} (h0:0≤n) (h4:n<4):Hq (getD nms n.toNat ByteArray.empty):=by
 have h:n.toNat=0∨n.toNat=1∨n.toNat=2∨n.toNat=3:=by omega
 unfold Hq nms
 rcases h with h | h | h | h<;>rw[h]<;>simp
def lI (x:bn):Prop:=(x.a.1=1∨(x.a.1=2∧Hq x.a.2.2.2.2.1)∨x.a.1=3)∧x.l=[]
theorem li {x:bn} (p:lI x):x.a.1=1∨x.a.1=2∨x.a.1=3:=p.1.imp id fun q=>q.imp And.left id
def cr (w:Bool):Nat→bn→Prop
 |0,x=>lI x
 |h+1,x=>lI x∨((x.a.1=4∨x.a.1=5)∧∃p q,x.l=[p,q]∧cr w h p∧cr w h q)∨(x.a.1=6∧∃p,x.l=[p]∧cr w h p) ∨
   (x.a.1=7∧(0≤x.a.2.1∧x.a.2.1≤2∧x.a.2.1≤x.a.2.2.1∧x.a.2.2.1≤x.a.2.1+2)∧∃p,x.l=[p]∧cr w h p)∨(x.a.1=8∧w=true∧(0≤x.a.2.2.2.1∧x.a.2.2.2.1≤6)∧∃p,x.l=[p]∧cr w h p)
theorem cr.up {w:Bool}:∀ {h:Nat} {x:bn},cr w h x→cr w (h+1) x
 |0,x,p=>.inl p
 |h+1,x,p=>by
  rcases p with p | ⟨a,p,q,e,hp,hq⟩ | ⟨a,p,e,hp⟩ | ⟨a,b,p,e,hp⟩ | ⟨a,b,c,p,e,hp⟩
  ·exact .inl p
  ·exact .inr (.inl ⟨a,p,q,e,hp.up,hq.up⟩)
  ·exact .inr (.inr (.inl ⟨a,p,e,hp.up⟩))
  ·exact .inr (.inr (.inr (.inl ⟨a,b,p,e,hp.up⟩)))
  ·exact .inr (.inr (.inr (.inr ⟨a,b,c,p,e,hp.up⟩)))
theorem Ab (k:Nat):F87 k=some ((nms,()),()):=by
 unfold F87 nms
 rfl
theorem Wp (r:eB):ae.mk ((ae.a r).1,((ae.a r).2.1,())) (ae.l r)=r:=by
 cases r
 rfl
theorem Hr {α:Type} (d x y:α):List.set (List.set (replicate 2 d) 0 x) 1 y=[x,y]:=(rfl:List.set (List.set [d,d] 0 x) 1 y=[x,y]).trans rfl
theorem a0l (b:Bool):∀(h k:Nat),2*h≤k→(∀r,iq h r→∃x,(R68 k).1 r b=some ((x,()),())∧cr (!b) h x)∧(∀(r:eB) (i:Int),(i=0∨i=1)→iq (h+1) r→∃x,(R68 (k+1)).2 r i b=some ((x,()),())∧cr (!b) h x):=by
 intro h
 induction h with
 |zero =>
  intro k hk
  have one:∀r,iq 0 r→∃x,(R68 k).1 r b=some ((x,()),())∧cr (!b) 0 x:=fun r hr=>hr.elim
  refine ⟨one,fun r i hi hr=>?_⟩
  have hnil:r.l=[]:=by
   cases hl:r.l with
   |nil=>rfl
   |cons c l=>exact (hr c (by rw[hl]; exact mem_cons_self)).elim
  show ∃x,B89 k (R68 k).1 (R68 k).2 r i b=some ((x,()),())∧_
  unfold B89
  simp only
  rw[hnil,decide_eq_false (by simp only[length_nil]; omega),cond_false,Ab,bind_some,dh k _ 4 (by omega) (by omega),bind_some]
  simp only
  rw[if_pos (by simp only[nms,length_cons,length_nil]; omega)]
  exact ⟨_,rfl,.inr (.inl ⟨rfl,T2 (emod_nonneg _ (by decide)) (emod_lt_of_pos _ (by decide))⟩),rfl⟩
 |succ h ih =>
  intro k hk
  obtain ⟨k,rfl⟩:∃k',k=k'+1:=⟨k-1,by omega⟩
  obtain ⟨k,rfl⟩:∃k',k=k'+1:=⟨k-1,by omega⟩
  obtain ⟨ih1,ih2⟩:=ih k (by omega)
  have one:∀r,iq (h+1) r→∃x,(R68 (k+1+1)).1 r b=some ((x,()),())∧cr (!b) (h+1) x:=by
   intro r hr
   obtain ⟨p,ep,hp⟩:=ih2 r 0 (.inl rfl) hr
   obtain ⟨q,eq,hq⟩:=ih2 r 1 (.inr rfl) hr
   have em:=emod_nonneg (ae.a r).1 (show (20:Int)≠0 by omega)
   show ∃x,B68 (k+1) (R68 (k+1)).1 (R68 (k+1)).2 r b=some ((x,()),())∧_
   unfold B68
   rw[dh _ _ 20 (by omega) (by omega),bind_some]
   simp only[Wp,Hr,bD]
   rw[ep,eq,Ab,dh _ _ 4 (by omega) (by omega),dh _ _ 3 (by omega) (by omega),dh _ _ 7 (by omega) (by omega)]
   simp only[bind_some]
   rw[dh _ _ 3 (by omega) (by omega)]
   simp only[bind_some]
   by_cases c1:(ae.a r).1%20<1
   ·rw[decide_eq_true c1,cond_true]
    exact ⟨_,rfl,.inl ⟨.inl rfl,rfl⟩⟩
   rw[decide_eq_false c1,cond_false]
   by_cases c2:(ae.a r).1%20<6
   ·rw[decide_eq_true c2,cond_true,if_pos (by simp only[nms,length_cons,length_nil]; omega)]
    exact ⟨_,rfl,.inl ⟨.inr (.inl ⟨rfl,T2 (emod_nonneg _ (by decide)) (emod_lt_of_pos _ (by decide))⟩),rfl⟩⟩
   rw[decide_eq_false c2,cond_false]
   by_cases c3:(ae.a r).1%20<8
   ·rw[decide_eq_true c3,cond_true]
    exact ⟨_,rfl,.inl ⟨.inr (.inr rfl),rfl⟩⟩
   rw[decide_eq_false c3,cond_false]
   by_cases c4:(ae.a r).1%20<13
   ·rw[decide_eq_true c4,cond_true]
    exact ⟨_,rfl,.inr (.inl ⟨.inl rfl,p,q,rfl,hp,hq⟩)⟩
   rw[decide_eq_false c4,cond_false]
   by_cases c5:(ae.a r).1%20<15
   ·rw[decide_eq_true c5,cond_true]
    exact ⟨_,rfl,.inr (.inl ⟨.inr rfl,p,q,rfl,hp,hq⟩)⟩
   rw[decide_eq_false c5,cond_false]
   by_cases c6:(ae.a r).1%20<16
   ·rw[decide_eq_true c6,cond_true]
    exact ⟨_,rfl,.inr (.inr (.inl ⟨rfl,p,rfl,hp⟩))⟩
   rw[decide_eq_false c6,cond_false]
   by_cases c7:(ae.a r).1%20<18
   ·rw[decide_eq_true c7,cond_true]
    refine ⟨_,rfl,.inr (.inr (.inr (.inl ⟨rfl,?_,p,rfl,hp⟩)))⟩
    simp only[ae.a]
    have m1:=emod_nonneg (ae.a r).2.1 (show (3:Int)≠0 by omega)
    have m2:=emod_lt_of_pos (ae.a r).2.1 (show (0:Int)<3 by omega)
    have m3:=emod_nonneg (IntKind.wrap .i64 (tdiv (ae.a r).2.1 3)) (show (3:Int)≠0 by omega)
    have m4:=emod_lt_of_pos (IntKind.wrap .i64 (tdiv (ae.a r).2.1 3)) (show (0:Int)<3 by omega)
    rw[w64 (_+_) (by omega) (by omega)]
    omega
   rw[decide_eq_false c7,cond_false]
   cases b with
   |true =>
    rw[cond_true]
    exact ⟨_,rfl,hp.up⟩
   |false =>
    rw[cond_false]
    refine ⟨_,rfl,.inr (.inr (.inr (.inr ⟨rfl,rfl,?_,p,rfl,hp⟩)))⟩
    simp only[ae.a]
    omega
  refine ⟨one,fun r i hi hr=>?_⟩
  show ∃x,B89 (k+1+1) (R68 (k+1+1)).1 (R68 (k+1+1)).2 r i b=some ((x,()),())∧_
  unfold B89
  simp only
  by_cases hlt:i<((r.l.length:Nat):Int)
  ·rw[decide_eq_true hlt,cond_true,if_pos ⟨by omega,hlt⟩]
   obtain ⟨x,e,hx⟩:=one (getD r.l i.toNat (ae.mk (0,(0,())) [])) (hr _ (cK (by omega)))
   rw[e,bind_some]
   exact ⟨x,rfl,hx⟩
  ·rw[decide_eq_false hlt,cond_false,Ab,bind_some,dh _ _ 4 (by omega) (by omega),bind_some]
   simp only
   rw[if_pos (by simp only[nms,length_cons,length_nil]; omega)]
   exact ⟨_,rfl,.inl ⟨.inr (.inl ⟨rfl,T2 (emod_nonneg _ (by decide)) (emod_lt_of_pos _ (by decide))⟩),rfl⟩⟩
theorem QF (k:Nat) (r:eB) (b:Bool) (h:Nat) (hr:iq h r) (hk:2*h≤k):∃x,F68 k r b=some ((x,()),())∧cr (!b) h x:=(a0l b h k hk).1 r hr
def CB (C x:Int):Prop:=0≤x∧(x≤C∨x=1152921504606846976)
theorem CB.up {C D x:Int} (h:CB C x) (hD:C≤D):CB D x:=by
 unfold CB at *
 omega
theorem CB.cst {C x:Int} (h:CB C x) (hC:C≤1000000000):Cst x:=by
 unfold CB at h
 unfold Cst
 omega
theorem kw {C D x y:Int} (hx:CB C x) (hy:CB D y) (hC:C≤1000000000) (hD:D≤1000000000):CB (C+D) (adI x y):=by
 unfold CB at *
 unfold adI aK
 split<;>omega
theorem Wq {C x y:Int} (hx:CB C x) (hy:CB C y):CB C (aK x y):=by
 unfold aK
 split<;>assumption
structure bq (n:Nat) (C:Int) (M:Nat) (s:ag):Prop where
 ls:s.1.length=n
 lf:s.2.1.length=n
 le:s.2.2.1.length=n
 cf:∀x∈s.2.1,CB C x
 ce:∀x∈s.2.2.1,CB C x
 cn:CB C s.2.2.2.2.1
 srt:Srt s.2.2.2.1
 arcs:cZ n (2*C) s.2.2.2.1
 sets:∀x∈s.1,-1≤x∧x<(M:Int)
theorem cZ.up {n m:Nat} {B D:Int} {l:List aF} (h:cZ n B l) (hn:n≤m) (hB:B≤D):cZ m D l:=fun x hx=>by
 have:=h x hx
 omega
theorem bq.up {n M:Nat} {C D:Int} {s:ag} (h:bq n C M s) (hD:C≤D):bq n D M s :=
 ⟨h.ls,h.lf,h.le,fun x hx=>(h.cf x hx).up hD,fun x hx=>(h.ce x hx).up hD,h.cn.up hD,h.srt,h.arcs.up (Nat.le_refl _) (by omega),h.sets⟩
theorem bq.sd {n M:Nat} {C:Int} {s:ag} (h:bq n C M s) (hn:n≤500) (hC:C≤1000000000):SdP s:=by
 have hl:=eN h.srt h.arcs
 have:n*n≤500*500:=mul_le_mul hn hn
 exact ⟨by rw[h.ls]; exact hn,by rw[h.lf,h.ls],by rw[h.le,h.ls],fun x hx=>(h.cf x hx).cst hC,fun x hx=>(h.ce x hx).cst hC,h.cn.cst hC,by omega,h.arcs.up (by omega) (by omega)⟩
theorem a1l {n:Nat} {B:Int} {l:List aF} {a:aF} (hs:Srt l) (h:cZ n B l) (ha:(0≤a.1∧a.1<(n:Int))∧(0≤a.2.1∧a.2.1<(n:Int))∧0≤a.2.2.1∧(a.2.2.1≤B∨a.2.2.1≥1152921504606846976)):Srt (iR l a)∧cZ n B (iR l a):=by
 unfold iR
 split
 ·exact ⟨hs,h⟩
 ·refine ⟨He a l hs,QB h fun x hx=>?_⟩
  rw[mem_singleton] at hx
  subst hx
  exact ⟨ha.1,ha.2.1,ha.2.2.1,ha.2.2.2.resolve_right (by assumption)⟩
theorem JR {n:Nat} {B:Int} (g:Nat→aF):∀(m:Nat) (l:List aF),(∀j,j<m→(0≤(g j).1∧(g j).1<(n:Int))∧(0≤(g j).2.1∧(g j).2.1<(n:Int))∧0≤(g j).2.2.1∧((g j).2.2.1≤B∨(g j).2.2.1≥1152921504606846976))→Srt l→cZ n B l→Srt (cL g m l)∧cZ n B (cL g m l)
 |0,l,_,hs,h=>⟨hs,h⟩
 |m+1,l,hg,hs,h=>by
  obtain ⟨h1,h2⟩:=JR g m l (fun j hj=>hg j (by omega)) hs h
  exact a1l h1 h2 (hg m (by omega))
theorem BS {n:Nat} {B:Int} (g:Nat→Nat→aF) (m:Nat):∀(q:Nat) (l:List aF),(∀i j,i<q→j<m→(0≤(g i j).1∧(g i j).1<(n:Int))∧(0≤(g i j).2.1∧(g i j).2.1<(n:Int))∧0≤(g i j).2.2.1∧((g i j).2.2.1≤B∨(g i j).2.2.1≥1152921504606846976))→Srt l→cZ n B l→Srt (co g m q l)∧cZ n B (co g m q l)
 |0,l,_,hs,h=>⟨hs,h⟩
 |q+1,l,hg,hs,h=>by
  obtain ⟨h1,h2⟩:=BS g m q l (fun i j hi hj=>hg i j (by omega) hj) hs h
  exact JR (g q) m _ (fun j hj=>hg q j (by omega) hj) h1 h2
theorem Wr (n:Nat) {l:List aF} (h:Srt l):Srt (l.map (shA n)):=by
 rw[Srt,List.pairwise_map]
 exact h.imp fun q=>by
  unfold Lt shA at *
  simp only
  omega
theorem Hs {n m:Nat} {B:Int} {l:List aF} (h:cZ m B l):∀x∈l.map (shA n),((n:Int)≤x.1∧x.1<((n+m:Nat):Int))∧((n:Int)≤x.2.1∧x.2.1<((n+m:Nat):Int))∧0≤x.2.2.1∧x.2.2.1≤B:=fun x hx=>by
 obtain ⟨y,hy,rfl⟩:=List.mem_map.1 hx
 have:=h y hy
 unfold shA
 simp only
 omega
theorem QG {n m:Nat} {B:Int} {l q:List aF} (h1:Srt l) (h2:cZ n B l) (h3:Srt q) (h4:cZ m B q):Srt (l++q.map (shA n))∧cZ (n+m) B (l++q.map (shA n)):=by
 constructor
 ·refine List.pairwise_append.2 ⟨h1,Wr n h3,fun a ha b hb=>?_⟩
  have:=h2 a ha
  have:=Hs (n:=n) h4 b hb
  exact .inl (by omega)
 ·intro x hx
  rcases List.mem_append.1 hx with e | e
  ·have:=h2 x e; omega
  ·have:=Hs (n:=n) h4 x e; omega
theorem fj {α:Type} {P:α→Prop} {l q:List α} (h1:∀x∈l,P x) (h2:∀x∈q,P x):∀x∈l++q,P x:=fun x hx=>(List.mem_append.1 hx).elim (h1 x) (h2 x)
theorem bq.ef {n M:Nat} {C:Int} {s:ag} (h:bq n C M s) {i:Nat} (hi:i<n):CB C (getD s.2.1 i 0):=h.cf _ (cK (by rw[h.lf]; exact hi))
theorem bq.ee {n M:Nat} {C:Int} {s:ag} (h:bq n C M s) {i:Nat} (hi:i<n):CB C (getD s.2.2.1 i 0):=h.ce _ (cK (by rw[h.le]; exact hi))
theorem Mb {n m M:Nat} {C D:Int} {a b:ag} (ha:bq n C M a) (hb:bq m D M b) (hC:0≤C∧C≤100000000) (hD:0≤D∧D≤100000000):bq (n+m) (C+D) M (bm a b):=by
 obtain ⟨j1,j2⟩:=QG (B:=2*(C+D)) ha.srt (ha.arcs.up (Nat.le_refl _) (by omega)) hb.srt (hb.arcs.up (Nat.le_refl _) (by omega))
 rw[←ha.ls] at j1 j2
 obtain ⟨f1,f2⟩:=BS (fg a b) b.1.length a.1.length (a.2.2.2.1++b.2.2.2.1.map (shA a.1.length)) (n:=a.1.length+m) (B:=2*(C+D)) (fun i j hi hj=>by
  have q:=kw (ha.ee (ha.ls▸hi)) (hb.ef (hb.ls▸hj)) (by omega) (by omega)
  rw[hb.ls] at hj
  unfold CB at q
  unfold fg
  simp only
  omega) j1 j2
 refine ⟨by simp only[bm,sd,length_append,ha.ls,hb.ls],by simp only[bm,sd,length_append,length_map,ha.lf,hb.lf],by simp only[bm,sd,length_append,length_map,ha.le,hb.le],?_,?_,kw ha.cn hb.cn (by omega) (by omega),f1,ha.ls▸f2,fj ha.sets hb.sets⟩
 ·refine fj (fun x hx=>(ha.cf x hx).up (by omega)) fun x hx=>?_
  obtain ⟨y,hy,rfl⟩:=List.mem_map.1 hx
  exact kw ha.cn (hb.cf y hy) (by omega) (by omega)
 ·refine fj (fun x hx=>?_) fun x hx=>(hb.ce x hx).up (by omega)
  obtain ⟨y,hy,rfl⟩:=List.mem_map.1 hx
  exact kw (ha.ce y hy) hb.cn (by omega) (by omega)
theorem a5r {n m M:Nat} {C:Int} {a b:ag} (ha:bq n C M a) (hb:bq m C M b):bq (n+m) C M (cC a b):=by
 obtain ⟨j1,j2⟩:=QG (B:=2*C) ha.srt ha.arcs hb.srt hb.arcs
 rw[←ha.ls] at j1 j2
 exact ⟨by simp only[cC,sd,length_append,ha.ls,hb.ls],by simp only[cC,sd,length_append,ha.lf,hb.lf],by simp only[cC,sd,length_append,ha.le,hb.le],fj ha.cf hb.cf,fj ha.ce hb.ce,Wq ha.cn hb.cn,j1,ha.ls▸j2,fj ha.sets hb.sets⟩
theorem a2l {n M:Nat} {C:Int} {a:ag} (ha:bq n C M a) (hC:0≤C∧C≤100000000):bq n C M (cU a):=by
 obtain ⟨f1,f2⟩:=BS (ek a) a.1.length a.1.length a.2.2.2.1 (n:=n) (B:=2*C) (fun i j hi hj=>by
  rw[ha.ls] at hi hj
  have q:=kw (ha.ee hi) (ha.ef hj) (by omega) (by omega)
  unfold CB at q
  unfold ek
  simp only
  omega) ha.srt ha.arcs
 exact ⟨ha.ls,ha.lf,ha.le,ha.cf,ha.ce,⟨Int.le_refl _,.inl hC.1⟩,f1,f2,ha.sets⟩
def iv (a:ag) (w:Int):ag:=sd a.1 (a.2.1.map fun x=>adI x w) a.2.2.1 a.2.2.2.1 (adI a.2.2.2.2.1 w)
theorem a6r {n M:Nat} {C w:Int} {a:ag} (ha:bq n C M a) (hC:0≤C∧C≤100000000) (hw:0≤w∧w≤6):bq n (C+6) M (iv a w):=by
 have cw:CB 6 w:=⟨hw.1,.inl hw.2⟩
 refine ⟨ha.ls,by simp only[iv,sd,length_map,ha.lf],ha.le,fun x hx=>?_,fun x hx=>(ha.ce x hx).up (by omega),kw ha.cn cw (by omega) (by omega),ha.srt,ha.arcs.up (Nat.le_refl _) (by omega),ha.sets⟩
 obtain ⟨y,hy,rfl⟩:=List.mem_map.1 hx
 exact kw (ha.cf y hy) cw (by omega) (by omega)
theorem QH {n M:Nat} {C:Int} {a:ag} (ha:bq n C M a) (hC:0≤C):bq n C M (sd a.1 a.2.1 a.2.2.1 a.2.2.2.1 0) :=
 ⟨ha.ls,ha.lf,ha.le,ha.cf,ha.ce,⟨Int.le_refl _,.inl hC⟩,ha.srt,ha.arcs,ha.sets⟩
def kx (a:ag) (lo:Int):Nat→ag→ag
 |0,s=>s
 |k+1,s=>kx a lo k (if ((k+1:Nat):Int)>lo then sd (bm a s).1 (bm a s).2.1 (bm a s).2.2.1 (bm a s).2.2.2.1 0 else bm a s)
theorem Vz {n M:Nat} {C lo:Int} {a:ag} (ha:bq n C M a) (hC:0≤C∧C≤1000000):∀(k m:Nat) (q:Nat) (s:ag),q+k≤20→bq m ((q:Int)*C) M s→bq (k*n+m) (((q+k:Nat):Int)*C) M (kx a lo k s)
 |0,m,q,s,hq,hs=>by simpa[kx] using hs
 |k+1,m,q,s,hq,hs=>by
  have hqc:0≤(q:Int)*C∧(q:Int)*C≤20000000:=⟨mul_nonneg (by omega) hC.1,by
   have:(q:Int)*C≤20*1000000:=Int.mul_le_mul (by omega) hC.2 hC.1 (by omega)
   omega⟩
  have h:=Mb ha hs (by omega) (by omega)
  have e1:C+(q:Int)*C=((q+1:Nat):Int)*C:=by
   rw[show ((q+1:Nat):Int)=(q:Int)+1 by omega,Int.add_mul,Int.one_mul,Int.add_comm]
  rw[e1] at h
  have h':bq (n+m) (((q+1:Nat):Int)*C) M (if ((k+1:Nat):Int)>lo then sd (bm a s).1 (bm a s).2.1 (bm a s).2.2.1 (bm a s).2.2.2.1 0 else bm a s):=by
   split
   ·exact QH h (mul_nonneg (by omega) hC.1)
   ·exact h
  have:=Vz (lo:=lo) ha hC k (n+m) (q+1) _ (by omega) h'
  rw[kx,show (k+1)*n+m=k*n+(n+m) by rw[add_mul]; omega,show q+(k+1)=q+1+k by omega]
  exact this
abbrev ky:=ae (Int×(Int×(Int×(ByteArray×Unit))))
abbrev eO:=ByteArray×(ky×Unit)
abbrev a7r:=Int×(Int×(bn×(bn×Unit)))
abbrev b7:=List eO×(List a7r×Unit)
def br:Nat→bn→Nat
 |0,x=>if x.a.1=1 then 0 else 1
 |h+1,x=>if x.a.1=1 then 0 else if x.a.1=2∨x.a.1=3 then 1 else if x.a.1=7 then (x.l.map (br h)).sum*x.a.2.2.1.toNat else (x.l.map (br h)).sum
theorem eC {w:Bool}:∀(h:Nat) (x:bn),cr w h x→br h x≤4^h
 |0,x,_=>by unfold br; split<;>simp
 |h+1,x,p=>by
  have hp:1≤4^h:=Nat.one_le_pow _ _ (by omega)
  have e4:4^(h+1)=4^h*4:=Nat.pow_succ 4 h
  unfold br
  split
  ·omega
  ·split
   ·omega
   ·rename_i h1 h2
    rcases p with p | ⟨a,p,q,e,hp1,hq1⟩ | ⟨a,p,e,hp1⟩ | ⟨a,b,p,e,hp1⟩ | ⟨a,_,b,p,e,hp1⟩
    ·have p:=li p; omega
    ·have g1:=eC h p hp1
     have g2:=eC h q hq1
     rw[e,if_neg (by omega)]
     simp only[map_cons,map_nil,sum_cons,sum_nil]
     omega
    ·have g1:=eC h p hp1
     rw[e,if_neg (by omega)]
     simp only[map_cons,map_nil,sum_cons,sum_nil]
     omega
    ·have g1:=eC h p hp1
     rw[e,if_pos a]
     simp only[map_cons,map_nil,sum_cons,sum_nil,Nat.add_zero]
     rw[e4]
     exact mul_le_mul g1 (by omega)
    ·have g1:=eC h p hp1
     rw[e,if_neg (by omega)]
     simp only[map_cons,map_nil,sum_cons,sum_nil]
     omega
abbrev vp:=Int×(Int×(Int×(Int×(ByteArray×(List bn×Unit)))))
theorem Ht (k:Nat) (f:bn→Option ((Int×Unit)×Unit)) (sz:bn→Nat) (c:vp) (hf:∀p∈c.2.2.2.2.2.1,f p=some (((sz p:Int),()),())) (hl:c.2.2.2.2.2.1.length≤1000) (hs:(c.2.2.2.2.2.1.map sz).sum≤100000000):∀(d m i t:Nat),i+d=c.2.2.2.2.2.1.length→d<m→t+((c.2.2.2.2.2.1.drop i).map sz).sum=(c.2.2.2.2.2.1.map sz).sum →
  m7 k f m (t:Int) (i:Int) c=some (((((c.2.2.2.2.2.1.map sz).sum:Nat):Int),()),(c,()))
 |0,m,i,t,hi,hm,ht=>by
  obtain ⟨m,rfl⟩:=aq (m:=m) (by omega)
  obtain rfl:i=c.2.2.2.2.2.1.length:=by omega
  rw[drop_length,map_nil,sum_nil,Nat.add_zero] at ht
  simp only[m7]
  rw[dx,cond_false,ht]
 |d+1,m,i,t,hi,hm,ht=>by
  obtain ⟨m,rfl⟩:=aq (m:=m) (by omega)
  have hlt:i<c.2.2.2.2.2.1.length:=by omega
  rw[drop_eq_getElem_cons hlt,map_cons,sum_cons] at ht
  have ih:=Ht k f sz c hf hl hs d m (i+1) (t+sz c.2.2.2.2.2.1[i]) (by omega) (by omega) (by omega)
  have hmin:aK (((t+sz c.2.2.2.2.2.1[i]:Nat):Int)) 1000000000=((t+sz c.2.2.2.2.2.1[i]:Nat):Int):=by
   unfold aK
   rw[if_neg (by omega)]
  simp only[m7]
  rw[dlt hlt,cond_true,if_pos (inR hlt),tnI i,ak _ i _ hlt,hf _ (getElem_mem hlt),bind_some]
  simp only
  rw[BR t _ (by omega),hmin,aM i _ hlt (by omega),ih]
  rfl
theorem QI {w:Bool}:∀(h k:Nat) (x:bn),h≤8→cr w h x→h+100≤k→R73 k x=some (((br h x:Int),()),())
 |0,k,x,h8,p,hk=>by
  obtain ⟨k,rfl⟩:∃k',k=k'+1:=⟨k-1,by omega⟩
  rw[R73,B73]
  unfold br
  rcases li p with p | p | p<;>rw[p]<;>rfl
 |h+1,k,x,h8,p,hk=>by
  obtain ⟨k,rfl⟩:∃k',k=k'+1:=⟨k-1,by omega⟩
  have hle:=eC (h+1) x p
  have hpow:4^(h+1)≤4^8:=Nat.pow_le_pow_right (by omega) h8
  have h48:(4:Nat)^8=65536:=by decide
  have h1p:1≤4^h:=Nat.one_le_pow _ _ (by omega)
  have hpow2:4^h≤4^8:=Nat.pow_le_pow_right (by omega) (by omega)
  rw[R73,B73]
  by_cases c1:x.a.1=1
  ·rw[beq_iff_eq.2 c1,cond_true]
   unfold br
   rw[if_pos c1]
   rfl
  rw[beq_false_of_ne c1,cond_false]
  by_cases c2:x.a.1=2
  ·rw[beq_iff_eq.2 c2,cond_true]
   unfold br
   rw[if_neg c1,if_pos (.inl c2)]
   rfl
  rw[beq_false_of_ne c2,cond_false]
  by_cases c3:x.a.1=3
  ·rw[beq_iff_eq.2 c3,cond_true]
   unfold br
   rw[if_neg c1,if_pos (.inr c3)]
   rfl
  rw[beq_false_of_ne c3,cond_false]
  have loop:∀(hl:x.l.length≤2) (hP:∀p∈x.l,cr w h p),m7 k (R73 k) k 0 0 (x.a.1,(x.a.2.1,(x.a.2.2.1,(x.a.2.2.2.1,(x.a.2.2.2.2.1,(x.l,()))))))=some (((((x.l.map (br h)).sum:Nat):Int),()),((x.a.1,(x.a.2.1,(x.a.2.2.1,(x.a.2.2.2.1,(x.a.2.2.2.2.1,(x.l,())))))),()))∧(x.l.map (br h)).sum≤2*65536:=fun hl hP=>by
   have hsum:(x.l.map (br h)).sum≤2*65536:=by
    match hx:x.l,hl with
    | [],_=>simp
    | [p],_=>have:=eC h p (hP p (by rw[hx]; simp)); simp only[map_cons,map_nil,sum_cons,sum_nil]; omega
    | [p,q],_ =>
     have:=eC h p (hP p (by rw[hx]; simp))
     have:=eC h q (hP q (by rw[hx]; simp))
     simp only[map_cons,map_nil,sum_cons,sum_nil]; omega
   refine ⟨Ht k (R73 k) (br h) (x.a.1,(x.a.2.1,(x.a.2.2.1,(x.a.2.2.2.1,(x.a.2.2.2.2.1,(x.l,())))))) (fun p hp=>QI h k p (by omega) (hP p hp) (by omega)) (show x.l.length≤1000 by omega) (show (x.l.map (br h)).sum≤100000000 by omega) x.l.length k 0 0 (Nat.zero_add _) (by omega) ?_,hsum⟩
   rw[drop_zero,Nat.zero_add]
  have hshape:x.l.length≤2∧(∀p∈x.l,cr w h p)∧(x.a.1=7→0≤x.a.2.2.1∧x.a.2.2.1≤4):=by
   rcases p with p | ⟨a,p,q,e,hp1,hq1⟩ | ⟨a,p,e,hp1⟩ | ⟨a,b,p,e,hp1⟩ | ⟨a,_,b,p,e,hp1⟩
   ·have p:=li p; omega
   ·rw[e]
    refine ⟨by simp,fun y hy=>?_,fun q=>by omega⟩
    simp only[mem_cons,not_mem_nil,or_false] at hy
    rcases hy with rfl | rfl<;>assumption
   ·rw[e]
    refine ⟨by simp,fun y hy=>?_,fun q=>by omega⟩
    rw[mem_singleton] at hy
    subst hy; exact hp1
   ·rw[e]
    refine ⟨by simp,fun y hy=>?_,fun q=>by omega⟩
    rw[mem_singleton] at hy
    subst hy; exact hp1
   ·rw[e]
    refine ⟨by simp,fun y hy=>?_,fun q=>by omega⟩
    rw[mem_singleton] at hy
    subst hy; exact hp1
  obtain ⟨g1,g2,g3⟩:=hshape
  obtain ⟨e,hsum⟩:=loop g1 g2
  rw[e,bind_some]
  simp only
  unfold br
  rw[if_neg c1,if_neg (by omega)]
  by_cases c7:x.a.1=7
  ·obtain ⟨g4,g5⟩:=g3 c7
   rw[beq_iff_eq.2 c7,cond_true,if_pos c7]
   have hmul:(((x.l.map (br h)).sum:Nat):Int)*x.a.2.2.1=(((x.l.map (br h)).sum*x.a.2.2.1.toNat:Nat):Int):=by
    rw[Int.natCast_mul,Int.toNat_of_nonneg g4]
   have hb:(x.l.map (br h)).sum*x.a.2.2.1.toNat≤2*65536*4:=mul_le_mul hsum (by omega)
   rw[hmul,w64 _ (by omega) (by omega)]
   unfold aK
   rw[if_neg (by omega)]
  ·rw[beq_false_of_ne c7,cond_false,if_neg c7]

def fY:List eO→ByteArray→Nat→Int
 | [],_,_=>-1
 |d::l,nm,i=>if d.1.toList=nm.toList then (i:Int) else fY l nm (i+1)
def fnd (l:List eO) (nm:ByteArray):Int:=fY l nm 0
theorem Ac (nm:ByteArray):∀(l:List eO) (i:Nat),-1≤fY l nm i∧fY l nm i<((i+l.length:Nat):Int)∨fY l nm i = -1
 | [],i=>.inr rfl
 |d::l,i=>by
  unfold fY
  split
  ·left
   simp only[length_cons]
   omega
  ·rcases Ac nm l (i+1) with h | h
   ·left
    simp only[length_cons]
    omega
   ·exact .inr h
theorem jp (l:List eO) (nm:ByteArray):-1≤fnd l nm∧fnd l nm<((l.length:Nat):Int):=by
 have:=Ac nm l 0
 unfold fnd
 omega
theorem Hu (k:Nat) (nm:ByteArray) (c:b7) (hl:c.1.length≤1000):∀(d m i:Nat),i+d=c.1.length→d<m →
  sG k m nm (i:Int) c=some (if fY (c.1.drop i) nm i = -1 then .inl ((),()) else .inr ((fY (c.1.drop i) nm i,()),()))
 |0,m,i,hi,hm=>by
  obtain ⟨m,rfl⟩:=aq (m:=m) (by omega)
  obtain rfl:i=c.1.length:=by omega
  simp only[sG]
  rw[dx,cond_false,drop_length,fY,if_pos rfl]
 |d+1,m,i,hi,hm=>by
  obtain ⟨m,rfl⟩:=aq (m:=m) (by omega)
  have hlt:i<c.1.length:=by omega
  have ih:=Hu k nm c hl d m (i+1) (by omega) (by omega)
  rw[drop_eq_getElem_cons hlt,fY]
  simp only[sG]
  rw[dlt hlt,cond_true,if_pos (inR hlt),tnI i,ak _ i _ hlt]
  by_cases he:c.1[i].1.toList=nm.toList
  ·rw[beq_iff_eq.2 he,cond_true,if_pos he,if_neg (by omega)]
  ·rw[beq_false_of_ne he,cond_false,if_neg he,aM i _ hlt (by omega),ih]
   rfl
theorem Hv (k:Nat) (c:b7) (nm:ByteArray) (hl:c.1.length≤1000) (hk:10000000≤k):F83 k c nm=some ((fnd c.1 nm,()),()):=by
 have h:=Hu k nm c hl c.1.length k 0 (by omega) (by omega)
 rw[drop_zero,show ((0:Nat):Int)=0 from rfl] at h
 unfold F83
 rw[h,bind_some]
 by_cases hc:fY c.1 nm 0 = -1
 ·rw[if_pos hc]
  unfold fnd
  rw[hc]
 ·rw[if_neg hc]
  rfl

def jQ (fn:ByteArray→Int) (x:bn):ag:=if x.a.1=1 then sd [] [] [] [] 0 else if x.a.1=2 then sd [fn x.a.2.2.2.2.1] [0] [0] [] 1152921504606846976 else sd [-1] [0] [0] [] 1152921504606846976
def eD:bn:=ae.mk (0,(0,(0,(0,(ByteArray.empty,()))))) []
def aX (fn:ByteArray→Int):Nat→bn→ag
 |0,x=>jQ fn x
 |h+1,x=>if x.a.1=1∨x.a.1=2∨x.a.1=3 then jQ fn x
  else if x.a.1=4 then bm (aX fn h (getD x.l 0 eD)) (aX fn h (getD x.l 1 eD))
  else if x.a.1=5 then cC (aX fn h (getD x.l 0 eD)) (aX fn h (getD x.l 1 eD))
  else if x.a.1=6 then cU (aX fn h (getD x.l 0 eD))
  else if x.a.1=8 then iv (aX fn h (getD x.l 0 eD)) x.a.2.2.2.1
  else kx (aX fn h (getD x.l 0 eD)) x.a.2.1 x.a.2.2.1.toNat (sd [] [] [] [] 0)
def cB:Nat→Int
 |0=>0
 |h+1=>4*cB h+6
theorem iS:∀h:Nat,h≤6→0≤cB h∧cB h≤9000
 |0,_=>by decide
 |1,_=>by decide
 |2,_=>by decide
 |3,_=>by decide
 |4,_=>by decide
 |5,_=>by decide
 |6,_=>by decide
 |h+7,q=>by omega
theorem QJ (fn:ByteArray→Int) (M:Nat) (hfn:∀nm,-1≤fn nm∧fn nm<(M:Int)) (x:bn) (p:lI x) (C:Int) (hC:0≤C):bq (if x.a.1=1 then 0 else 1) C M (jQ fn x):=by
 have c0:CB C 0:=⟨Int.le_refl _,.inl hC⟩
 have cI:CB C 1152921504606846976:=⟨by decide,.inr rfl⟩
 unfold jQ
 split
 ·exact ⟨rfl,rfl,rfl,fun x hx=>(by cases hx),fun x hx=>(by cases hx),c0,List.Pairwise.nil,fun x hx=>(by cases hx),fun x hx=>(by cases hx)⟩
 ·split
  ·exact ⟨rfl,rfl,rfl,fun x hx=>(by rw[List.mem_singleton.1 hx]; exact c0),fun x hx=>(by rw[List.mem_singleton.1 hx]; exact c0),cI,List.Pairwise.nil,fun x hx=>(by cases hx),fun x hx=>(by rw[List.mem_singleton.1 hx]; exact hfn _)⟩
  ·exact ⟨rfl,rfl,rfl,fun x hx=>(by rw[List.mem_singleton.1 hx]; exact c0),fun x hx=>(by rw[List.mem_singleton.1 hx]; exact c0),cI,List.Pairwise.nil,fun x hx=>(by cases hx),fun x hx=>(by rw[List.mem_singleton.1 hx]; omega)⟩
theorem Ad {h:Nat} {x:bn} (p:lI x):br h x=if x.a.1=1 then 0 else 1:=by
 cases h with
 |zero=>rfl
 |succ h =>
  unfold br
  have p:=li p
  split
  ·rfl
  ·rw[if_pos (by omega)]
theorem iw {fn:ByteArray→Int} {h:Nat} {x:bn} (p:lI x):aX fn h x=jQ fn x:=by
 cases h with
 |zero=>rfl
 |succ h=>unfold aX; exact if_pos (li p)
theorem BT (M:Nat) (C:Int) (hC:0≤C):bq 0 C M (sd [] [] [] [] 0) :=
 ⟨rfl,rfl,rfl,fun x hx=>(by cases hx),fun x hx=>(by cases hx),⟨Int.le_refl _,.inl hC⟩,List.Pairwise.nil,fun x hx=>(by cases hx),fun x hx=>(by cases hx)⟩
theorem gp {w:Bool} (fn:ByteArray→Int) (M:Nat) (hfn:∀nm,-1≤fn nm∧fn nm<(M:Int)):∀(h:Nat) (x:bn),h≤6→cr w h x→bq (br h x) (cB h) M (aX fn h x)
 |0,x,_,p=>by
  rw[Ad p,iw p]
  exact QJ fn M hfn x p _ (by decide)
 |h+1,x,h6,p=>by
  have hc:=iS h (by omega)
  have hc2:cB (h+1)=4*cB h+6:=rfl
  rcases p with p | ⟨a,p,q,e,hp1,hq1⟩ | ⟨a,p,e,hp1⟩ | ⟨a,b,p,e,hp1⟩ | ⟨a,_,b,p,e,hp1⟩
  ·rw[Ad p,iw p]
   exact QJ fn M hfn x p _ (by omega)
  ·have g1:=gp fn M hfn h p (by omega) hp1
   have g2:=gp fn M hfn h q (by omega) hq1
   unfold br aX
   rw[if_neg (by omega),if_neg (by omega),if_neg (by omega),if_neg (by omega),e]
   simp only[map_cons,map_nil,sum_cons,sum_nil,Nat.add_zero,getD_cons_zero,getD_cons_succ]
   rcases a with a | a
   ·rw[if_pos a]
    exact (Mb g1 g2 (by omega) (by omega)).up (by omega)
   ·rw[if_neg (by omega),if_pos a]
    exact (a5r g1 g2).up (by omega)
  ·have g1:=gp fn M hfn h p (by omega) hp1
   unfold br aX
   rw[if_neg (by omega),if_neg (by omega),if_neg (by omega),if_neg (by omega),if_neg (by omega),if_neg (by omega),if_pos a,e]
   simp only[map_cons,map_nil,sum_cons,sum_nil,Nat.add_zero,getD_cons_zero]
   exact (a2l g1 (by omega)).up (by omega)
  ·have g1:=gp fn M hfn h p (by omega) hp1
   unfold br aX
   rw[if_neg (by omega),if_neg (by omega),if_pos a,if_neg (by omega),if_neg (by omega),if_neg (by omega),if_neg (by omega),if_neg (by omega),e]
   simp only[map_cons,map_nil,sum_cons,sum_nil,Nat.add_zero,getD_cons_zero]
   have:=Vz (lo:=x.a.2.1) g1 (by omega) x.a.2.2.1.toNat 0 0 (sd [] [] [] [] 0) (by omega) (by rw[show ((0:Nat):Int)*cB h=0 by simp]; exact BT M 0 (Int.le_refl _))
   rw[Nat.add_zero,Nat.mul_comm,Nat.zero_add] at this
   refine this.up ?_
   have:((x.a.2.2.1.toNat:Nat):Int)*cB h≤4*cB h:=Int.mul_le_mul_of_nonneg_right (by omega) hc.1
   omega
  ·have g1:=gp fn M hfn h p (by omega) hp1
   unfold br aX
   rw[if_neg (by omega),if_neg (by omega),if_neg (by omega),if_neg (by omega),if_neg (by omega),if_neg (by omega),if_neg (by omega),if_pos a,e]
   simp only[map_cons,map_nil,sum_cons,sum_nil,Nat.add_zero,getD_cons_zero]
   exact (a6r g1 (by omega) b).up (by omega)
theorem Ws {α:Type} (A rest:List α) (i:Nat) (d:α) (h1:i<A.length) (h2:i<rest.length):getD (A.take i++rest.drop i) i d=getD rest i d:=by
 rw[drop_eq_getElem_cons h2,getD_eq_getElem?_getD,List.getElem?_append_right (by rw[length_take]; omega),show i-(A.take i).length=0 by rw[length_take]; omega,ak rest i d h2]
 rfl
theorem Hw (k:Nat) (f:bn→b7→Option ((ag×Unit)×Unit)) (c2:vp) (c4:ag) (g F e:List Int) (l:List aF) (w':Int) (hF:bN F) (hw:Cst c2.2.2.2.1) (hl:F.length≤1000):∀(d m i:Nat),i+d=F.length→d<m →
  nh k f m (i:Int) c2 c4 (sd g ((F.map fun x=>adI x c2.2.2.2.1).take i++F.drop i) e l w')=some ((),(c4,(sd g (F.map fun x=>adI x c2.2.2.2.1) e l w',())))
 |0,m,i,hi,hm=>by
  obtain ⟨m,rfl⟩:=aq (m:=m) (by omega)
  obtain rfl:i=F.length:=by omega
  simp only[nh]
  rw[dU _ F F.length (by rw[length_map]; omega) (by omega),dx,cond_false,drop_length,append_nil,ff _ _ (length_map _)]
 |d+1,m,i,hi,hm=>by
  obtain ⟨m,rfl⟩:=aq (m:=m) (by omega)
  have hlt:i<F.length:=by omega
  have hml:i<(F.map fun x=>adI x c2.2.2.2.1).length:=by rw[length_map]; exact hlt
  have ih:=Hw k f c2 c4 g F e l w' hF hw hl d m (i+1) (by omega) (by omega)
  have ge:adI (getD F i 0) c2.2.2.2.1=getD (F.map fun x=>adI x c2.2.2.2.1) i 0:=(vo (fun x=>adI x c2.2.2.2.1) _ i 0 0 hlt).symm
  simp only[nh]
  rw[dU _ F i (by omega) (by omega),dlt hlt,cond_true,if_pos (inR hlt),tnI i,Ws _ F i 0 hml hlt,gn k _ _ (hF.at_ hlt) hw,bind_some]
  simp only
  rw[if_pos (inR hlt),ge,iQ _ F i 0 hml hlt,aM i _ hlt (by omega),ih]
  rfl
theorem vq (k:Nat) (f:bn→b7→Option ((ag×Unit)×Unit)) (c2:vp) (c4 a:ag) (n M:Nat) (C:Int) (hk:10000000≤k) (ha:bq n C M a) (hC:0≤C∧C≤1000000):∀(j m p q:Nat) (s:ag),j<m→q+j≤20→j*n+p≤500→bq p ((q:Int)*C) M s →
  jO k f m (j:Int) c2 c4 s a=some ((),(c4,(kx a c2.2.1 j s,())))
 |0,m,p,q,s,hm,hq,hn,hs=>by
  obtain ⟨m,rfl⟩:=aq (m:=m) (by omega)
  simp only[jO]
  rw[decide_eq_false (by omega),cond_false]
  rfl
 |j+1,m,p,q,s,hm,hq,hn,hs=>by
  obtain ⟨m,rfl⟩:=aq (m:=m) (by omega)
  have hqc:0≤(q:Int)*C∧(q:Int)*C≤20000000:=⟨mul_nonneg (by omega) hC.1,by
   have:(q:Int)*C≤20*1000000:=Int.mul_le_mul (by omega) hC.2 hC.1 (by omega)
   omega⟩
  have hn':(j+1)*n+p=j*n+(n+p):=by rw[add_mul]; omega
  have hnp:n+p≤500:=by omega
  have sa:=ha.sd (by omega) (by omega)
  have ss:=hs.sd (by omega) (by omega)
  have h:=Mb ha hs (by omega) (by omega)
  have e1:C+(q:Int)*C=((q+1:Nat):Int)*C:=by
   rw[show ((q+1:Nat):Int)=(q:Int)+1 by omega,Int.add_mul,Int.one_mul,Int.add_comm]
  rw[e1] at h
  have la:=eN ha.srt ha.arcs
  have ls:=eN hs.srt hs.arcs
  have m1:n*n≤500*500:=mul_le_mul (by omega) (by omega)
  have m2:p*p≤500*500:=mul_le_mul (by omega) (by omega)
  have e56:=QD k a s hk sa ss (by omega)
  have hj:IntKind.wrap .i64 (((j+1:Nat):Int)-1)=(j:Int):=by rw[w64 _ (by omega) (by omega)]; omega
  simp only[jO]
  rw[decide_eq_true (by omega),cond_true,e56,bind_some]
  simp only
  rw[hj,kx]
  by_cases hgt:((j+1:Nat):Int)>c2.2.1
  ·rw[decide_eq_true hgt,cond_true,if_pos hgt]
   have ih:=vq k f c2 c4 a n M C hk ha hC j m (n+p) (q+1) (sd (bm a s).1 (bm a s).2.1 (bm a s).2.2.1 (bm a s).2.2.2.1 0) (by omega) (by omega) (by omega) (QH h (mul_nonneg (by omega) hC.1))
   have ih':jO k f m (j:Int) c2 c4 ((bm a s).1,((bm a s).2.1,((bm a s).2.2.1,((bm a s).2.2.2.1,((0:Int),(bm a s).2.2.2.2.2))))) a=_:=ih
   rw[ih',bind_some]
  ·rw[decide_eq_false hgt,cond_false,if_neg hgt]
   have ih:=vq k f c2 c4 a n M C hk ha hC j m (n+p) (q+1) (bm a s) (by omega) (by omega) (by omega) h
   rw[ih,bind_some]
end Go.Proofs.YtgmmopbpldgpcaaE
set_option linter.unusedSimpArgs false
set_option linter.unusedVariables false
set_option maxRecDepth 20000
namespace Go.Proofs.YtgmmopbpldgpcaaE
theorem a3l {w:Bool} (fl:b7) (hfl:fl.1.length≤1000):∀(h k:Nat) (x:bn),h≤5→cr w h x→br h x≤500→h+10000000<k→R74 k x fl=some ((aX (fnd fl.1) h x,()),()):=by
 have leaf:∀(h k:Nat) (x:bn),lI x→h+10000000<k→R74 k x fl=some ((aX (fnd fl.1) h x,()),()):=by
  intro h k x p hk
  obtain ⟨k,rfl⟩:∃k',k=k'+1:=⟨k-1,by omega⟩
  have e54:=Hg k 1 (by omega) (by omega)
  rw[show ((1:Nat):Int)=1 from rfl] at e54
  rw[iw p]
  have hS:jQ (fnd fl.1) x=(if x.a.1=1 then sd [] [] [] [] 0 else if x.a.1=2 then sd [fnd fl.1 x.a.2.2.2.2.1] [0] [0] [] 1152921504606846976 else sd [-1] [0] [0] [] 1152921504606846976):=rfl
  generalize jQ (fnd fl.1) x=S at hS
  show B74 k (R74 k) x fl=_
  unfold B74
  rcases p.1 with p | p | p
  ·rw[if_pos p] at hS
   rw[hS,p,QC k (by omega)]
   rfl
  ·rw[if_neg (by omega),if_pos p.1] at hS
   rw[hS,p.1,e54,Hv k fl _ hfl (by omega)]
   rfl
  ·rw[if_neg (by omega),if_neg (by omega)] at hS
   rw[hS,p,e54]
   rfl
 intro h
 induction h with
 |zero=>intro k x _ p _ hk; exact leaf 0 k x p hk
 |succ h ih =>
  intro k x h5 p hsz hk
  have hL:lI x∨¬(x.a.1=1∨x.a.1=2∨x.a.1=3):=by
   rcases p with p | ⟨a,_⟩ | ⟨a,_⟩ | ⟨a,_⟩ | ⟨a,_⟩
   ·exact .inl p
   all_goals right; omega
  rcases hL with hp | hx
  ·exact leaf (h+1) k x hp hk
  obtain ⟨k,rfl⟩:∃k',k=k'+1:=⟨k-1,by omega⟩
  have hc:=iS h (by omega)
  have hpow:∀y,cr w h y→br h y≤500:=fun y hy=>by
   have:=eC h y hy
   have h2:4^h≤4^4:=Nat.pow_le_pow_right (by omega) (by omega)
   have h3:(4:Nat)^4=256:=by decide
   omega
  have hrec:∀y,cr w h y→R74 k y fl=some ((aX (fnd fl.1) h y,()),())∧bq (br h y) (cB h) fl.1.length (aX (fnd fl.1) h y):=fun y hy=>⟨ih k y (by omega) hy (hpow y hy) (by omega),gp (fnd fl.1) fl.1.length (jp fl.1) h y (by omega) hy⟩
  have hS:aX (fnd fl.1) (h+1) x=(if x.a.1=4 then bm (aX (fnd fl.1) h (getD x.l 0 eD)) (aX (fnd fl.1) h (getD x.l 1 eD))
   else if x.a.1=5 then cC (aX (fnd fl.1) h (getD x.l 0 eD)) (aX (fnd fl.1) h (getD x.l 1 eD))
   else if x.a.1=6 then cU (aX (fnd fl.1) h (getD x.l 0 eD))
   else if x.a.1=8 then iv (aX (fnd fl.1) h (getD x.l 0 eD)) x.a.2.2.2.1
   else kx (aX (fnd fl.1) h (getD x.l 0 eD)) x.a.2.1 x.a.2.2.1.toNat (sd [] [] [] [] 0)):=by
   conv=>lhs; unfold aX
   exact if_neg hx
  generalize aX (fnd fl.1) (h+1) x=S at hS
  show B74 k (R74 k) x fl=_
  unfold B74
  rw[beq_false_of_ne (show ¬x.a.1=1 by omega),beq_false_of_ne (show ¬x.a.1=2 by omega),beq_false_of_ne (show ¬x.a.1=3 by omega),cond_false,cond_false,cond_false]
  rcases p with p | ⟨a,p,q,e,hp1,hq1⟩ | ⟨a,p,e,hp1⟩ | ⟨a,b,p,e,hp1⟩ | ⟨a,_,b,p,e,hp1⟩
  ·exact absurd (li p) hx
  ·obtain ⟨e1,g1⟩:=hrec p hp1
   obtain ⟨e2,g2⟩:=hrec q hq1
   have n1:=hpow p hp1
   have n2:=hpow q hq1
   have s1:=g1.sd n1 (by omega)
   have s2:=g2.sd n2 (by omega)
   have m1:br h p*br h p≤500*500:=mul_le_mul n1 n1
   have m2:br h q*br h q≤500*500:=mul_le_mul n2 n2
   have l1:=eN g1.srt g1.arcs
   have l2:=eN g2.srt g2.arcs
   have i0:(0:Int)≤0∧(0:Int)<((([p,q]:List bn).length:Nat):Int):=by simp only[length_cons,length_nil]; omega
   have i1:(0:Int)≤1∧(1:Int)<((([p,q]:List bn).length:Nat):Int):=by simp only[length_cons,length_nil]; omega
   rw[e] at hS ⊢
   rcases a with a | a
   ·rw[if_pos a] at hS
    rw[hS,a,show ((4:Int)==4)=true from rfl,cond_true,if_pos i0,if_pos i1]
    simp only[show Int.toNat 0=0 from rfl,show Int.toNat 1=1 from rfl,getD_cons_zero,getD_cons_succ]
    rw[e1,bind_some,e2,bind_some]
    simp only
    rw[QD k _ _ (by omega) s1 s2 (by omega),bind_some]
   ·rw[if_neg (by omega),if_pos a] at hS
    rw[hS,a,show ((5:Int)==4)=false from rfl,cond_false,show ((5:Int)==5)=true from rfl,cond_true,if_pos i0,if_pos i1]
    simp only[show Int.toNat 0=0 from rfl,show Int.toNat 1=1 from rfl,getD_cons_zero,getD_cons_succ]
    rw[e1,bind_some,e2,bind_some]
    simp only
    rw[a7k k _ _ (by omega) s1 s2,bind_some]
  ·obtain ⟨e1,g1⟩:=hrec p hp1
   have s1:=g1.sd (hpow p hp1) (by omega)
   have i0:(0:Int)≤0∧(0:Int)<((([p]:List bn).length:Nat):Int):=by simp only[length_cons,length_nil]; omega
   rw[if_neg (by omega),if_neg (by omega),if_pos a,e] at hS
   rw[hS,e,a,show ((6:Int)==4)=false from rfl,cond_false,show ((6:Int)==5)=false from rfl,cond_false,show ((6:Int)==6)=true from rfl,cond_true,if_pos i0]
   simp only[show Int.toNat 0=0 from rfl,getD_cons_zero]
   rw[e1,bind_some]
   simp only
   rw[a8k k _ (by omega) s1,bind_some]
  ·obtain ⟨e1,g1⟩:=hrec p hp1
   have s1:=g1.sd (hpow p hp1) (by omega)
   have i0:(0:Int)≤0∧(0:Int)<((([p]:List bn).length:Nat):Int):=by simp only[length_cons,length_nil]; omega
   have hszp:br h p*x.a.2.2.1.toNat≤500:=by
    unfold br at hsz
    rw[if_neg (by omega),if_neg (by omega),if_pos a,e] at hsz
    simpa only[map_cons,map_nil,sum_cons,sum_nil,Nat.add_zero] using hsz
   have hi:x.a.2.2.1=((x.a.2.2.1.toNat:Nat):Int):=by omega
   have e44:=vq k (R74 k) (x.a.1,(x.a.2.1,(x.a.2.2.1,(x.a.2.2.2.1,(x.a.2.2.2.2.1,(x.l,())))))) (sd [] [] [] [] 0) (aX (fnd fl.1) h p) (br h p) fl.1.length (cB h) (by omega) g1 (by omega) x.a.2.2.1.toNat k 0 0 (sd [] [] [] [] 0) (by omega) (by omega) (by rw[Nat.add_zero,Nat.mul_comm]; exact hszp) (by rw[show ((0:Nat):Int)*cB h=0 by simp]; exact BT _ 0 (Int.le_refl _))
   rw[←hi,e,a] at e44
   have e44':jO k (R74 k) k x.a.2.2.1 ((7:Int),(x.a.2.1,(x.a.2.2.1,(x.a.2.2.2.1,(x.a.2.2.2.2.1,([p],())))))) ([],([],([],([],((0:Int),()))))) (sd [] [] [] [] 0) (aX (fnd fl.1) h p)=_:=e44
   rw[if_neg (by omega),if_neg (by omega),if_neg (by omega),if_neg (by omega),e] at hS
   rw[hS,e,a,show ((7:Int)==4)=false from rfl,cond_false,show ((7:Int)==5)=false from rfl,cond_false,show ((7:Int)==6)=false from rfl,cond_false,show ((7:Int)==8)=false from rfl,cond_false,if_pos i0]
   simp only[show Int.toNat 0=0 from rfl,getD_cons_zero]
   rw[QC k (by omega),bind_some,e1,bind_some]
   simp only
   rw[e44',bind_some]
  ·obtain ⟨e1,g1⟩:=hrec p hp1
   have s1:=g1.sd (hpow p hp1) (by omega)
   have i0:(0:Int)≤0∧(0:Int)<((([p]:List bn).length:Nat):Int):=by simp only[length_cons,length_nil]; omega
   have hw:Cst x.a.2.2.2.1:=by unfold Cst; omega
   have e44:=Hw k (R74 k) (x.a.1,(x.a.2.1,(x.a.2.2.1,(x.a.2.2.2.1,(x.a.2.2.2.2.1,(x.l,())))))) (sd [] [] [] [] 0) (aX (fnd fl.1) h p).1 (aX (fnd fl.1) h p).2.1 (aX (fnd fl.1) h p).2.2.1 (aX (fnd fl.1) h p).2.2.2.1 (adI (aX (fnd fl.1) h p).2.2.2.2.1 x.a.2.2.2.1) s1.cf hw (by have:=s1.lf; have:=s1.n; omega) (aX (fnd fl.1) h p).2.1.length k 0 (Nat.zero_add _) (by have:=s1.lf; have:=s1.n; omega)
   rw[take_zero,drop_zero,nil_append,e,a,show ((0:Nat):Int)=0 from rfl] at e44
   have e44':nh k (R74 k) k 0 ((8:Int),(x.a.2.1,(x.a.2.2.1,(x.a.2.2.2.1,(x.a.2.2.2.2.1,([p],())))))) ([],([],([],([],((0:Int),()))))) ((aX (fnd fl.1) h p).1,((aX (fnd fl.1) h p).2.1,((aX (fnd fl.1) h p).2.2.1,((aX (fnd fl.1) h p).2.2.2.1,(adI (aX (fnd fl.1) h p).2.2.2.2.1 x.a.2.2.2.1,(aX (fnd fl.1) h p).2.2.2.2.2)))))=_:=e44
   rw[if_neg (by omega),if_neg (by omega),if_neg (by omega),if_pos a,e] at hS
   rw[hS,e,a,show ((8:Int)==4)=false from rfl,cond_false,show ((8:Int)==5)=false from rfl,cond_false,show ((8:Int)==6)=false from rfl,cond_false,show ((8:Int)==8)=true from rfl,cond_true,if_pos i0]
   simp only[show Int.toNat 0=0 from rfl,getD_cons_zero]
   rw[e1,bind_some]
   simp only
   rw[gn k _ _ s1.cn hw,bind_some]
   simp only
   rw[e44',bind_some]
   rfl
theorem Wt (x:bn):ae.mk ((ae.a x).1,((ae.a x).2.1,((ae.a x).2.2.1,((ae.a x).2.2.2.1,((ae.a x).2.2.2.2.1,()))))) (ae.l x)=x:=by
 cases x
 rfl
theorem QK {w:Bool} (k:Nat) (x:bn) (fl:b7) (hfl:fl.1.length≤1000) (hx:cr w 5 x) (hk:20000000≤k) :
  F41 k x fl=some ((if br 5 x>120 then (sd [] [] [] [] 0,(false,())) else (aX (fnd fl.1) 5 x,(true,()))),()):=by
 unfold F41
 simp only[Wt]
 have e43:F73 k x=some (((br 5 x:Int),()),()):=QI 5 k x (by omega) hx (by omega)
 rw[e43,bind_some]
 simp only
 by_cases hs:br 5 x>120
 ·rw[decide_eq_true (by omega),cond_true,if_pos hs]
 ·have e44:F74 k x fl=some ((aX (fnd fl.1) 5 x,()),()):=a3l fl hfl 5 k x (Nat.le_refl _) hx (by omega) (by omega)
  rw[decide_eq_false (by omega),cond_false,if_neg hs,e44,bind_some]
def vr (P:ByteArray→Prop) (x:ky):Prop:=x.l=[]∧(x.a.1=1∨(x.a.1=2∧P x.a.2.2.2.1)∨x.a.1=3)
def kz (P:ByteArray→Prop):Nat→ky→Prop
 |0,x=>vr P x
 |h+1,x=>vr P x∨(x.a.1=4∧∃p,x.l=[p]∧kz P h p)∨((x.a.1=5∨x.a.1=6∨x.a.1=7)∧∃p q,x.l=[p,q]∧kz P h p∧kz P h q)
theorem vr.mono {P Q:ByteArray→Prop} (hPQ:∀nm,P nm→Q nm) {x:ky} (h:vr P x):vr Q x:=⟨h.1,h.2.imp id fun q=>q.imp (fun r=>⟨r.1,hPQ _ r.2⟩) id⟩
theorem kz.mono {P Q:ByteArray→Prop} (hPQ:∀nm,P nm→Q nm):∀ {h:Nat} {x:ky},kz P h x→kz Q h x
 |0,x,p=>vr.mono hPQ p
 |h+1,x,p=>by
  rcases p with p | ⟨a,p,e,hp⟩ | ⟨a,p,q,e,hp,hq⟩
  ·exact .inl (p.mono hPQ)
  ·exact .inr (.inl ⟨a,p,e,hp.mono hPQ⟩)
  ·exact .inr (.inr ⟨a,p,q,e,hp.mono hPQ,hq.mono hPQ⟩)
def Hx:eO:=(ByteArray.empty,(ae.mk (0,(0,(0,(ByteArray.empty,())))) [],()))
theorem a4l (ahead:List eO) (h0:0<ahead.length) (h1:ahead.length≤1000):∀(e d k:Nat) (n:Int),d+e=4→e<k→0≤n→n≤1099511627776→∃x,R88 k n ahead (d:Int)=some ((x,()),(ahead,()))∧kz (fun nm=>∃y∈ahead,y.1=nm) e x:=by
 intro e
 induction e with
 |zero =>
  intro d k n hd hk hn hn2
  obtain ⟨k,rfl⟩:∃k',k=k'+1:=⟨k-1,by omega⟩
  show ∃x,B88 k (R88 k) n ahead (d:Int)=some ((x,()),(ahead,()))∧_
  unfold B88
  rw[dh k n 16 (by omega) (by omega),bind_some]
  simp only
  rw[dh k _ 50 (by omega) (by omega),bind_some,decide_eq_true (show (d:Int)>3 by omega),cond_true]
  cases decide (n%16<5) with
  |true=>rw[cond_true]; exact ⟨_,rfl,rfl,.inl rfl⟩
  |false=>rw[cond_false]; exact ⟨_,rfl,rfl,.inl rfl⟩
 |succ e ih =>
  intro d k n hd hk hn hn2
  obtain ⟨k,rfl⟩:∃k',k=k'+1:=⟨k-1,by omega⟩
  have hm:IntKind.wrap .i64 (tdiv n 16)=n/16:=by rw[Int.tdiv_eq_ediv_of_nonneg hn,w64 _ (by omega) (by omega)]
  have hm3:IntKind.wrap .i64 (tdiv (n/16) 3)=n/16/3:=by rw[Int.tdiv_eq_ediv_of_nonneg (by omega),w64 _ (by omega) (by omega)]
  have hm48:IntKind.wrap .i64 (tdiv (n/16) 48)=n/16/48:=by rw[Int.tdiv_eq_ediv_of_nonneg (by omega),w64 _ (by omega) (by omega)]
  have hd1:IntKind.wrap .i64 ((d:Int)+1)=((d+1:Nat):Int):=by rw[w64 _ (by omega) (by omega)]; omega
  have ht:tmod (n/16) 3=n/16%3:=Int.tmod_eq_emod_of_nonneg (by omega)
  have hk5:IntKind.wrap .i64 (5+n/16%3)=5+n/16%3:=w64 _ (by omega) (by omega)
  obtain ⟨p1,e1,q1⟩:=ih (d+1) k (n/16) (by omega) (by omega) (by omega) (by omega)
  obtain ⟨p2,e2,q2⟩:=ih (d+1) k (n/16/3) (by omega) (by omega) (by omega) (by omega)
  obtain ⟨p3,e3,q3⟩:=ih (d+1) k (n/16/48) (by omega) (by omega) (by omega) (by omega)
  have el:=dh k (n/16) ((ahead.length:Nat):Int) (by omega) (by omega)
  have hml:=emod_nonneg (n/16) (show ((ahead.length:Nat):Int)≠0 by omega)
  have hml2:=emod_lt_of_pos (n/16) (show 0<((ahead.length:Nat):Int) by omega)
  show ∃x,B88 k (R88 k) n ahead (d:Int)=some ((x,()),(ahead,()))∧_
  unfold B88
  simp only[hm,hm3,hm48,hd1,ht,hk5,Hr,bD]
  rw[dh k n 16 (by omega) (by omega),bind_some,decide_eq_false (show ¬(d:Int)>3 by omega),cond_false,dh k (n/16) 50 (by omega) (by omega),dh k (n/16) 1114112 (by omega) (by omega)]
  simp only[bind_some]
  rw[el,e1,e2]
  simp only[bind_some]
  rw[e3]
  simp only[bind_some]
  by_cases c1:n%16<5
  ·rw[decide_eq_true c1,cond_true]
   exact ⟨_,rfl,.inl ⟨rfl,.inl rfl⟩⟩
  rw[decide_eq_false c1,cond_false]
  by_cases c2:n%16<6
  ·rw[decide_eq_true c2,cond_true]
   exact ⟨_,rfl,.inl ⟨rfl,.inl rfl⟩⟩
  rw[decide_eq_false c2,cond_false,decide_eq_true (show ((ahead.length:Nat):Int)>0 by omega),cond_true]
  by_cases c3:n%16<8
  ·rw[decide_eq_true c3,cond_true,if_pos ⟨hml,hml2⟩]
   refine ⟨_,rfl,.inl ⟨rfl,.inr (.inl ⟨rfl,_,cK (d:=Hx) (show (n/16%((ahead.length:Nat):Int)).toNat<ahead.length by omega),rfl⟩)⟩⟩
  rw[decide_eq_false c3,cond_false]
  by_cases c4:n%16<9
  ·rw[decide_eq_true c4,cond_true]
   exact ⟨_,rfl,.inl ⟨rfl,.inr (.inr rfl)⟩⟩
  rw[decide_eq_false c4,cond_false]
  by_cases c5:n%16<10
  ·rw[decide_eq_true c5,cond_true]
   exact ⟨_,rfl,.inr (.inl ⟨rfl,p1,rfl,q1⟩)⟩
  rw[decide_eq_false c5,cond_false]
  refine ⟨_,rfl,.inr (.inr ⟨?_,p2,p3,rfl,q2,q3⟩)⟩
  simp only[ae.a]
  omega
def jR (l:List eO):Prop:=∀j,j<l.length→kz (fun nm=>∃i,i<j∧(getD l i Hx).1=nm) 4 (getD l j Hx).2.1
theorem gS {α:Type} (l q:List α) (i:Nat) (d:α) (h:i<l.length):getD (l++q) i d=getD l i d:=by
 simp[getD_eq_getElem?_getD,List.getElem?_append_left h]
theorem QL {α:Type} (l:List α) (x d:α):getD (l++[x]) l.length d=x:=by
 simp[getD_eq_getElem?_getD]
theorem T3 {l:List eO} (h:jR l) {nm:ByteArray} {c:ky} (hc:kz (fun nm=>∃y∈l,y.1=nm) 4 c):jR (l++[(nm,(c,()))]):=fun j hj=>by
 rw[length_append,length_singleton] at hj
 by_cases hlt:j<l.length
 ·rw[gS _ _ _ _ hlt]
  exact (h j hlt).mono fun nm ⟨i,hi,e⟩=>⟨i,hi,by rw[gS _ _ _ _ (by omega)]; exact e⟩
 ·obtain rfl:j=l.length:=by omega
  rw[QL]
  exact hc.mono fun nm ⟨y,hy,e⟩=>by
   obtain ⟨i,hi,rfl⟩:=List.getElem_of_mem hy
   exact ⟨i,hi,by rw[gS _ _ _ _ hi,ak l i _ hi]; exact e⟩
theorem Hy (k:Nat) (ds:List Int) (hk:10000000≤k):∀(d m i:Nat) (l:List eO),i+d=2→d<m→l.length=4+i→jR l→∃l',jL k m ds (i:Int) l=some ((),(l',()))∧4≤l'.length∧l'.length≤6∧jR l'∧∃t,l'=l++t
 |0,m,i,l,hi,hm,hl,h=>by
  obtain ⟨m,rfl⟩:=aq (m:=m) (by omega)
  refine ⟨l,?_,by omega,by omega,h,[],(append_nil l).symm⟩
  simp only[jL]
  by_cases hlt:i<ds.length
  ·rw[dlt hlt,cond_true,decide_eq_false (by omega),cond_false]
  ·rw[decide_eq_false (by omega),cond_false]
 |d+1,m,i,l,hi,hm,hl,h=>by
  obtain ⟨m,rfl⟩:=aq (m:=m) (by omega)
  by_cases hlt:i<ds.length
  ·have m1:=emod_nonneg (getD ds i 0) (show (1099511627776:Int)≠0 by omega)
   have m2:=emod_lt_of_pos (getD ds i 0) (show (0:Int)<1099511627776 by omega)
   obtain ⟨x,e41,hx⟩:=a4l l (by omega) (by omega) 4 0 k (getD ds i 0%1099511627776) rfl (by omega) m1 (by omega)
   have e41':F88 k (getD ds i 0%1099511627776) l 0=some ((x,()),(l,())):=e41
   obtain ⟨l',e,hl1,hl2,hl3,tl,hl4⟩:=Hy k ds hk d m (i+1) (l++[(getD nms (4+i) ByteArray.empty,(x,()))]) (by omega) (by omega) (by rw[length_append,length_singleton]; omega) (T3 h hx)
   refine ⟨l',?_,hl1,hl2,hl3,_::tl,by rw[hl4,append_assoc]; rfl⟩
   have h4:IntKind.wrap .i64 (4+(i:Int))=((4+i:Nat):Int):=by rw[w64 _ (by omega) (by omega)]; omega
   have hn:(0:Int)≤((4+i:Nat):Int)∧((4+i:Nat):Int)<((nms.length:Nat):Int):=by simp only[nms,length_cons,length_nil]; omega
   have hc:(l.length+[(getD nms (4+i) ByteArray.empty,(x,()))].length)*(80*2)≤281474976710656∧l.length+[(getD nms (4+i) ByteArray.empty,(x,()))].length≤9223372036854775807:=by rw[length_singleton]; omega
   simp only[jL,bD]
   rw[dlt hlt,cond_true,decide_eq_true (by omega),cond_true,if_pos (inR hlt),Ab,bind_some,h4]
   simp only
   rw[if_pos hn,tnI i,tnI (4+i),dh k _ _ (by omega) (by omega),bind_some]
   simp only
   rw[e41',bind_some]
   simp only
   rw[if_pos hc,show IntKind.wrap .i64 ((i:Int)+1)=((i+1:Nat):Int) by rw[w64 _ (by omega) (by omega)]; omega,e,bind_some]
  ·refine ⟨l,?_,by omega,by omega,h,[],(append_nil l).symm⟩
   simp only[jL]
   rw[decide_eq_false (by omega),cond_false]
def Hz (lo hi:Int):ky:=ae.mk (1,(lo,(hi,(ByteArray.empty,())))) []
def gy:List eO:=[(⟨#[97]⟩,(Hz 97 97,())),(⟨#[118]⟩,(Hz 97 99,())),(⟨#[100]⟩,(ae.mk (5,(0,(0,(ByteArray.empty,())))) [Hz 48 57,Hz 19968 20223],())),
 (⟨#[115]⟩,(ae.mk (7,(0,(0,(ByteArray.empty,())))) [ae.mk (3,(0,(0,(ByteArray.empty,())))) [],ae.mk (2,(0,(0,(⟨#[118]⟩,())))) []],()))]
theorem T4:jR gy:=fun j hj=>by
 match j,hj with
 |0,_=>exact .inl ⟨rfl,.inl rfl⟩
 |1,_=>exact .inl ⟨rfl,.inl rfl⟩
 |2,_=>exact .inr (.inr ⟨.inl rfl,_,_,rfl,.inl ⟨rfl,.inl rfl⟩,.inl ⟨rfl,.inl rfl⟩⟩)
 |3,_=>exact .inr (.inr ⟨.inr (.inr rfl),_,_,rfl,.inl ⟨rfl,.inr (.inr rfl)⟩,.inl ⟨rfl,.inr (.inl ⟨rfl,1,by omega,rfl⟩)⟩⟩)
 |j+4,h=>simp only[gy,length_cons,length_nil] at h; omega
theorem a5l (k:Nat) (a b:Int):F86 k a b=some ((Hz a b,()),()):=rfl
theorem a6l (k:Nat) (ds:List Int) (hk:10000000≤k):∃l,F66 k ds=some ((l,()),())∧4≤l.length∧l.length≤6∧jR l∧∃t,l=gy++t:=by
 obtain ⟨l,e,h1,h2,h3⟩:=Hy k ds hk 2 k 0 gy rfl (by omega) rfl T4
 refine ⟨l,?_,h1,h2,h3⟩
 unfold F66
 simp only[a5l,bind_some]
 have e':jL k k ds 0 gy=some ((),(l,())):=e
 show (jL k k ds 0 gy).bind _=_
 rw[e',bind_some]
abbrev RgE:=Int×(Int×Unit)
abbrev RgT:=List RgE
def RgP (r:RgE):Prop:=0≤r.1∧r.1≤r.2.1∧r.2.1≤1114111
def LoS (l:RgT):Prop:=l.Pairwise (fun a b=>a.1≤b.1)∧∀r∈l,RgP r
def RgS (l:RgT):Prop:=l.Pairwise (fun a b=>a.2.1+2≤b.1)∧∀r∈l,RgP r
theorem eP {l:RgT} (h:RgS l):l.length≤1114112:=by
 have key:∀(l:RgT) (c:Nat),RgS l→(∀r∈l,(c:Int)≤r.1)→c+l.length≤1114112∨l=[]:=by
  intro l
  induction l with
  |nil=>intro c _ _; exact .inr rfl
  |cons a l ih =>
   intro c hs hc
   obtain ⟨h1,h2⟩:=List.pairwise_cons.1 hs.1
   have ga:=hs.2 a mem_cons_self
   have ha:=hc a mem_cons_self
   unfold RgP at ga
   left
   rcases ih (c+1) ⟨h2,fun r hr=>hs.2 r (mem_cons_of_mem _ hr)⟩ (fun r hr=>by have:=h1 r hr; omega) with q | q
   ·simp only[length_cons]; omega
   ·subst q
    simp only[length_cons,length_nil]
    omega
 rcases key l 0 h (fun r hr=>by have:=h.2 r hr; unfold RgP at this; omega) with q | q
 ·omega
 ·subst q; simp
def a7l (x:Int) (l:RgT) (p:Nat):Prop:=p≤l.length∧(∀r∈l.take p,r.1≤x)∧∀r∈l.drop p,x<r.1
theorem Cx (k:Nat) (t0:RgT) (t4:Int) (x:RgE) (l:RgT) (hl:LoS l) (hn:l.length≤100000000):∀(p m:Nat),p<m→p≤l.length→(∀r∈l.drop p,x.1<r.1)→∃q:Nat,lY k m t0 t4 (p:Int) x l=some ((t0,(t4,((q:Int),()))),(x,(l,())))∧a7l x.1 l q
 |0,m,hm,hp,hd=>by
  obtain ⟨m,rfl⟩:=aq (m:=m) (by omega)
  refine ⟨0,?_,zero_le _,(fun r hr=>by simp at hr),hd⟩
  simp only[lY]
  rw[decide_eq_false (by omega),cond_false]
 |p+1,m,hm,hp,hd=>by
  obtain ⟨m,rfl⟩:=aq (m:=m) (by omega)
  have hlt:p<l.length:=by omega
  have hw:IntKind.wrap .i64 (((p+1:Nat):Int)-1)=(p:Int):=by rw[w64 _ (by omega) (by omega)]; omega
  simp only[lY,hw]
  rw[decide_eq_true (by omega),cond_true,if_pos (inR hlt),tnI p,ak l p _ hlt]
  by_cases hx:x.1<l[p].1
  ·rw[decide_eq_true hx,cond_true,bind_fun_some]
   refine Cx k t0 t4 x l hl hn p m (by omega) (by omega) fun r hr=>?_
   rw[drop_eq_getElem_cons hlt] at hr
   rcases List.mem_cons.1 hr with e | e
   ·rw[e]; exact hx
   ·exact hd r e
  ·rw[decide_eq_false hx,cond_false]
   refine ⟨p+1,rfl,hp,fun r hr=>?_,hd⟩
   rw[take_succ_eq_append_getElem hlt] at hr
   rcases List.mem_append.1 hr with e | e
   ·have h2:=hl.1
    rw[←take_append_drop p l,drop_eq_getElem_cons hlt] at h2
    have:=(List.pairwise_append.1 h2).2.2 r e l[p] mem_cons_self
    omega
   ·rw[mem_singleton] at e
    rw[e]; omega
theorem Wu {x:RgE} {l:RgT} {p:Nat} (hl:LoS l) (hx:RgP x) (hp:a7l x.1 l p):LoS (l.take p++[x]++l.drop p):=by
 obtain ⟨h1,h2,h3⟩:=hp
 have hs:=hl.1
 rw[←take_append_drop p l] at hs
 obtain ⟨g1,g2,g3⟩:=List.pairwise_append.1 hs
 constructor
 ·refine List.pairwise_append.2 ⟨List.pairwise_append.2 ⟨g1,pairwise_singleton _ _,fun a ha b hb=>?_⟩,g2,fun a ha b hb=>?_⟩
  ·rw[List.mem_singleton.1 hb]; exact h2 a ha
  ·rcases List.mem_append.1 ha with e | e
   ·exact g3 a e b hb
   ·rw[List.mem_singleton.1 e]
    have:=h3 b hb
    omega
 ·intro r hr
  rcases List.mem_append.1 hr with e | e
  ·rcases List.mem_append.1 e with e | e
   ·exact hl.2 r (mem_of_mem_take e)
   ·rw[List.mem_singleton.1 e]; exact hx
  ·exact hl.2 r (List.mem_of_mem_drop e)
theorem rA (k:Nat) (t0:RgT) (hn:t0.length≤5000000) (hk:10000000≤k):∀(d m i:Nat) (l:RgT),i+d=t0.length→d<m→LoS l→l.length≤i→∃l',jn k m t0 (i:Int) l=some ((),(l',()))∧LoS l'∧l'.length≤t0.length
 |0,m,i,l,hi,hm,hl,hli=>by
  obtain ⟨m,rfl⟩:=aq (m:=m) (by omega)
  obtain rfl:i=t0.length:=by omega
  refine ⟨l,?_,hl,hli⟩
  simp only[jn]
  rw[dx,cond_false]
 |d+1,m,i,l,hi,hm,hl,hli=>by
  obtain ⟨m,rfl⟩:=aq (m:=m) (by omega)
  have hlt:i<t0.length:=by omega
  simp only[jn]
  rw[dlt hlt,cond_true,if_pos (inR hlt),if_pos (inR hlt),tnI i,ak t0 i _ hlt,aM i _ hlt (by omega)]
  by_cases hx:bZ t0[i].1 0>aK t0[i].2.1 1114111
  ·rw[decide_eq_true hx,cond_true,bind_fun_some]
   exact rA k t0 hn hk d m (i+1) l (by omega) (by omega) hl (by omega)
  ·have hxp:RgP (bZ t0[i].1 0,(aK t0[i].2.1 1114111,())):=by
    have m1:0≤bZ t0[i].1 0:=by unfold bZ; split<;>omega
    have m2:aK t0[i].2.1 1114111≤1114111:=by unfold aK; split<;>omega
    exact ⟨m1,by simp only; omega,m2⟩
   obtain ⟨q,e,hq⟩:=Cx k t0 (i:Int) (bZ t0[i].1 0,(aK t0[i].2.1 1114111,())) l hl (by omega) l.length k (by omega) (Nat.le_refl _) (fun r hr=>by rw[drop_length] at hr; cases hr)
   have hql:=hq.1
   have ht:(l.drop q).take (l.length-q)=l.drop q:=take_of_length_le (by rw[length_drop]; omega)
   have h1:(0+(l.take q).length)*(16*2)≤281474976710656∧0+(l.take q).length≤9223372036854775807:=by rw[length_take]; omega
   have h2:((l.take q).length+[(bZ t0[i].1 0,(aK t0[i].2.1 1114111,()))].length)*(16*2)≤281474976710656∧(l.take q).length+[(bZ t0[i].1 0,(aK t0[i].2.1 1114111,()))].length≤9223372036854775807:=by rw[length_take,length_singleton]; omega
   have h3:((l.take q++[(bZ t0[i].1 0,(aK t0[i].2.1 1114111,()))]).length+(l.drop q).length)*(16*2)≤281474976710656∧(l.take q++[(bZ t0[i].1 0,(aK t0[i].2.1 1114111,()))]).length+(l.drop q).length≤9223372036854775807:=by rw[length_append,length_take,length_singleton,length_drop]; omega
   obtain ⟨l',e2,hl'⟩:=rA k t0 hn hk d m (i+1) (l.take q++[(bZ t0[i].1 0,(aK t0[i].2.1 1114111,()))]++l.drop q) (by omega) (by omega) (Wu hl hxp hq) (by rw[length_append,length_append,length_take,length_singleton,length_drop]; omega)
   refine ⟨l',?_,hl'⟩
   rw[decide_eq_false hx,cond_false,e,bind_some]
   simp only[replicate_zero,nil_append,length_nil,bD]
   rw[if_pos (by omega),if_pos (by omega),tnI q,tnI (l.length),show Int.toNat 0=0 from rfl,sub_zero,drop_zero,ht,if_pos h1,if_pos h2,if_pos h3,aM i _ hlt (by omega),e2,bind_some]
theorem Wv (k:Nat) (l:RgT) (hn:l.length≤5000000) (hk:10000000≤k):∃l',LF k l=some ((l',()),())∧LoS l'∧l'.length≤l.length:=by
 obtain ⟨l',e,h⟩:=rA k l hn hk l.length k 0 [] (Nat.zero_add _) (by omega) ⟨List.Pairwise.nil,fun r hr=>by cases hr⟩ (Nat.le_refl _)
 refine ⟨l',?_,h⟩
 have e':jn k k l 0 []=some ((),(l',())):=e
 unfold LF
 rw[e',bind_some]
theorem nH (k:Nat) (t:RgT) (hn:t.length≤5000000) (ht:LoS t):∀(d m i:Nat) (out:RgT),i+d=t.length→d<m→RgS out→out.length≤i→(∀o∈out,∀r∈t.drop i,o.1≤r.1)→∃out',jN k m (i:Int) t out=some ((),(out',()))∧RgS out'
 |0,m,i,out,hi,hm,ho,hol,hlo=>by
  obtain ⟨m,rfl⟩:=aq (m:=m) (by omega)
  obtain rfl:i=t.length:=by omega
  refine ⟨out,?_,ho⟩
  simp only[jN]
  rw[dx,cond_false]
 |d+1,m,i,out,hi,hm,ho,hol,hlo=>by
  obtain ⟨m,rfl⟩:=aq (m:=m) (by omega)
  have hlt:i<t.length:=by omega
  have hx:=ht.2 _ (getElem_mem hlt)
  have hd:t.drop i=t[i]::t.drop (i+1):=drop_eq_getElem_cons hlt
  have hup:∀r∈t.drop (i+1),t[i].1≤r.1:=by
   have h2:=ht.1
   rw[←take_append_drop i t,hd] at h2
   exact (List.pairwise_cons.1 (List.pairwise_append.1 h2).2.1).1
  have hone:List.set (replicate 1 ((0:Int),((0:Int),()))) 0 t[i]=[t[i]]:=bD _ _
  have hc:(out.length+[t[i]].length)*(16*2)≤281474976710656∧out.length+[t[i]].length≤9223372036854775807:=by rw[length_singleton]; omega
  simp only[jN]
  rw[dlt hlt,cond_true,if_pos (inR hlt),tnI i,ak t i _ hlt,aM i _ hlt (by omega),hone]
  rcases Nat.eq_zero_or_pos out.length with h0 | h0
  ·have hnil:out=[]:=List.eq_nil_of_length_eq_zero h0
   subst hnil
   rw[decide_eq_false (by rw[w64 _ (by simp) (by simp)]; simp),cond_false,if_pos (inR hlt),if_pos hc]
   obtain ⟨out',e,h⟩:=nH k t hn ht d m (i+1) [t[i]] (by omega) (by omega) ⟨pairwise_singleton _ _,fun r hr=>by rw[List.mem_singleton.1 hr]; exact hx⟩ (by simp) (fun o ho r hr=>by rw[List.mem_singleton.1 ho]; exact hup r hr)
   exact ⟨out',by rw[nil_append,e]; rfl,h⟩
  ·obtain ⟨n,hn'⟩:∃n,out.length=n+1:=⟨out.length-1,by omega⟩
   have hw:IntKind.wrap .i64 (((out.length:Nat):Int)-1)=(n:Int):=by rw[w64 _ (by omega) (by omega)]; omega
   have hnl:n<out.length:=by omega
   have hspl:out=out.take n++[out[n]]:=by
    conv=>lhs; rw[←take_append_drop n out,drop_eq_getElem_cons hnl,drop_eq_nil_of_le (show out.length≤n+1 by omega)]
   have hon:=ho.2 _ (getElem_mem hnl)
   have hlo':=hlo _ (getElem_mem hnl) t[i] (by rw[hd]; exact mem_cons_self)
   unfold RgP at hx hon
   rw[hw,decide_eq_true (by omega),cond_true,if_pos (inR hlt),if_pos (inR hnl),tnI n,ak out n _ hnl,w64 (out[n].2.1+1) (by omega) (by omega)]
   by_cases hm':t[i].1≤out[n].2.1+1
   ·rw[decide_eq_true hm',cond_true,if_pos (inR hnl)]
    have hset:out.set n (out[n].1,(bZ out[n].2.1 t[i].2.1,out[n].2.2))=out.take n++[(out[n].1,(bZ out[n].2.1 t[i].2.1,()))]:=by
     rw[List.set_eq_take_append_cons_drop,if_pos hnl,drop_eq_nil_of_le (show out.length≤n+1 by omega)]
    have hmx:out[n].2.1≤bZ out[n].2.1 t[i].2.1∧bZ out[n].2.1 t[i].2.1≤1114111:=by unfold bZ; split<;>omega
    have hs:=ho.1
    rw[hspl] at hs
    obtain ⟨g1,g2,g3⟩:=List.pairwise_append.1 hs
    have hS:RgS (out.take n++[(out[n].1,(bZ out[n].2.1 t[i].2.1,()))]):=by
     refine ⟨List.pairwise_append.2 ⟨g1,pairwise_singleton _ _,fun a ha b hb=>?_⟩,fun r hr=>?_⟩
     ·rw[List.mem_singleton.1 hb]
      exact g3 a ha out[n] (List.mem_singleton.2 rfl)
     ·rcases List.mem_append.1 hr with e | e
      ·exact ho.2 r (mem_of_mem_take e)
      ·rw[List.mem_singleton.1 e]
       exact ⟨hon.1,by simp only; omega,hmx.2⟩
    obtain ⟨out',e,h⟩:=nH k t hn ht d m (i+1) (out.take n++[(out[n].1,(bZ out[n].2.1 t[i].2.1,()))]) (by omega) (by omega) hS (by rw[length_append,length_take,length_singleton]; omega) (fun o ho' r hr=>by
     have hr':r∈t.drop i:=by rw[hd]; exact mem_cons_of_mem _ hr
     rcases List.mem_append.1 ho' with e | e
     ·exact hlo o (mem_of_mem_take e) r hr'
     ·rw[List.mem_singleton.1 e]
      exact hlo _ (getElem_mem hnl) r hr')
    exact ⟨out',by rw[if_pos (inR hnl),hset,e]; rfl,h⟩
   ·rw[decide_eq_false hm',cond_false,if_pos (inR hlt),if_pos hc]
    have hs:=ho.1
    have hS:RgS (out++[t[i]]):=by
     refine ⟨List.pairwise_append.2 ⟨hs,pairwise_singleton _ _,fun a ha b hb=>?_⟩,fun r hr=>?_⟩
     ·rw[List.mem_singleton.1 hb]
      rw[hspl] at ha hs
      obtain ⟨g1,g2,g3⟩:=List.pairwise_append.1 hs
      rcases List.mem_append.1 ha with e | e
      ·have:=g3 a e _ (List.mem_singleton.2 rfl)
       omega
      ·rw[List.mem_singleton.1 e]; omega
     ·rcases List.mem_append.1 hr with e | e
      ·exact ho.2 r e
      ·rw[List.mem_singleton.1 e]; exact hx
    obtain ⟨out',e,h⟩:=nH k t hn ht d m (i+1) (out++[t[i]]) (by omega) (by omega) hS (by rw[length_append,length_singleton]; omega) (fun o ho' r hr=>by
     have hr':r∈t.drop i:=by rw[hd]; exact mem_cons_of_mem _ hr
     rcases List.mem_append.1 ho' with e | e
     ·exact hlo o e r hr'
     ·rw[List.mem_singleton.1 e]; exact hup r hr)
    exact ⟨out',by rw[e]; rfl,h⟩
theorem HA (k:Nat) (l:RgT) (hn:l.length≤5000000) (hk:10000000≤k):∃l',F90 k l=some ((l',()),())∧RgS l':=by
 obtain ⟨t,e1,ht,htl⟩:=Wv k l hn hk
 obtain ⟨l',e,h⟩:=nH k t (by omega) ht t.length k 0 [] (Nat.zero_add _) (by omega) ⟨List.Pairwise.nil,fun r hr=>by cases hr⟩ (Nat.le_refl _) (fun o ho=>by cases ho)
 refine ⟨l',?_,h⟩
 have e':jN k k 0 t []=some ((),(l',())):=e
 unfold F90
 rw[e1,bind_some]
 simp only
 rw[e',bind_some]
theorem HB (k:Nat) (t:RgT) (hn:t.length≤4000000):∀(d m i:Nat) (x:Int) (l:RgT),i+d=t.length→d<m→l.length=i→∃(y:Int) (l':RgT),mX k m t x (i:Int) l=some ((y,()),(l',()))∧l'.length=t.length
 |0,m,i,x,l,hi,hm,hl=>by
  obtain ⟨m,rfl⟩:=aq (m:=m) (by omega)
  obtain rfl:i=t.length:=by omega
  refine ⟨x,l,?_,hl⟩
  simp only[mX]
  rw[dx,cond_false]
 |d+1,m,i,x,l,hi,hm,hl=>by
  obtain ⟨m,rfl⟩:=aq (m:=m) (by omega)
  have hlt:i<t.length:=by omega
  obtain ⟨y,l',e,h⟩:=HB k t hn d m (i+1) (IntKind.wrap .i64 (t[i].2.1+1)) (l++[(x,(IntKind.wrap .i64 (t[i].1-1),()))]) (by omega) (by omega) (by rw[length_append,length_singleton]; omega)
  refine ⟨y,l',?_,h⟩
  have hc:(l.length+[(x,(IntKind.wrap .i64 (t[i].1-1),()))].length)*(16*2)≤281474976710656∧l.length+[(x,(IntKind.wrap .i64 (t[i].1-1),()))].length≤9223372036854775807:=by rw[length_singleton]; omega
  simp only[mX,bD]
  rw[dlt hlt,cond_true,if_pos (inR hlt),tnI i,ak t i _ hlt,if_pos hc,if_pos (inR hlt),aM i _ hlt (by omega),e]
  rfl
theorem mj (k:Nat) (t:RgT) (hn:t.length≤4000000) (hk:10000000≤k):∃l',F91 k t=some ((l',()),())∧RgS l':=by
 obtain ⟨y,l,e,hl⟩:=HB k t hn t.length k 0 0 [] (Nat.zero_add _) (by omega) rfl
 obtain ⟨l',e2,h⟩:=HA k (l++[(y,(1114111,()))]) (by rw[length_append,length_singleton]; omega) hk
 refine ⟨l',?_,h⟩
 have e':mX k k t 0 0 []=some ((y,()),(l,())):=e
 have hc:(l.length+[(y,((1114111:Int),()))].length)*(16*2)≤281474976710656∧l.length+[(y,((1114111:Int),()))].length≤9223372036854775807:=by rw[length_singleton]; omega
 unfold F91
 rw[e',bind_some]
 simp only[bD]
 rw[if_pos hc,e2,bind_some]
theorem QM (k:Nat) (a b:RgT) (ha:a.length≤1200000) (hb:b.length≤1200000) (hk:10000000≤k):∃l',F92 k a b=some ((l',()),())∧RgS l':=by
 obtain ⟨l',e2,h⟩:=HA k (a++b) (by rw[length_append]; omega) hk
 refine ⟨l',?_,h⟩
 unfold F92
 simp only[replicate_zero,nil_append,length_nil]
 rw[if_pos (by omega),if_pos (by omega),e2,bind_some]
theorem QN (k:Nat) (a b:RgT) (ha:a.length≤1200000) (hb:b.length≤1200000) (hk:10000000≤k):∃l',F93 k a b=some ((l',()),())∧RgS l':=by
 obtain ⟨x,e1,h1⟩:=mj k a (by omega) hk
 obtain ⟨y,e2,h2⟩:=mj k b (by omega) hk
 have l1:=eP h1
 have l2:=eP h2
 obtain ⟨z,e3,h3⟩:=QM k x y (by omega) (by omega) hk
 have l3:=eP h3
 obtain ⟨l',e4,h⟩:=mj k z (by omega) hk
 refine ⟨l',?_,h⟩
 unfold F93
 rw[e1,bind_some,e2,bind_some]
 simp only
 rw[e3,bind_some]
 simp only
 rw[e4,bind_some]
theorem a8l (k:Nat) (a b:RgT) (ha:a.length≤1200000) (hb:b.length≤1200000) (hk:10000000≤k):∃l',F94 k a b=some ((l',()),())∧RgS l':=by
 obtain ⟨y,e2,h2⟩:=mj k b (by omega) hk
 have l2:=eP h2
 obtain ⟨l',e4,h⟩:=QN k a y ha (by omega) hk
 refine ⟨l',?_,h⟩
 unfold F94
 rw[e2,bind_some]
 simp only
 rw[e4,bind_some]
abbrev a2B:=Int×(Int×(Int×(ByteArray×(List ky×Unit))))
def RgL (l:List RgT):Prop:=∀s∈l,RgS s
theorem ml {l:List RgT} (h:RgL l) (i:Nat):RgS (getD l i []):=by
 by_cases hi:i<l.length
 ·exact h _ (cK hi)
 ·rw[getD_eq_getElem?_getD,List.getElem?_eq_none (by omega)]
  exact ⟨List.Pairwise.nil,fun r hr=>by cases hr⟩
theorem vt (k:Nat) (f:ky→b7→List RgT→Option ((RgT×Unit)×(List RgT×Unit))) (c:a2B) (fl:b7) (sets:List RgT) (hn:c.2.2.2.2.1.length≤1000) (hf:∀p∈c.2.2.2.2.1,∃o,f p fl sets=some ((o,()),(sets,()))∧RgS o):∀(d m i:Nat) (acc:List RgT),i+d=c.2.2.2.2.1.length→d<m→acc.length=i→RgL acc →
  ∃outs,sH k f m (i:Int) sets c fl acc=some ((),(sets,(c,(fl,(outs,())))))∧outs.length=c.2.2.2.2.1.length∧RgL outs
 |0,m,i,acc,hi,hm,hl,h=>by
  obtain ⟨m,rfl⟩:=aq (m:=m) (by omega)
  obtain rfl:i=c.2.2.2.2.1.length:=by omega
  refine ⟨acc,?_,hl,h⟩
  simp only[sH]
  rw[dx,cond_false]
 |d+1,m,i,acc,hi,hm,hl,h=>by
  obtain ⟨m,rfl⟩:=aq (m:=m) (by omega)
  have hlt:i<c.2.2.2.2.1.length:=by omega
  obtain ⟨o,e,ho⟩:=hf _ (getElem_mem hlt)
  obtain ⟨outs,e2,h2⟩:=vt k f c fl sets hn hf d m (i+1) (acc++[o]) (by omega) (by omega) (by rw[length_append,length_singleton]; omega) (fj h fun s hs=>by rw[List.mem_singleton.1 hs]; exact ho)
  refine ⟨outs,?_,h2⟩
  have hc:(acc.length+[o].length)*(24*2)≤281474976710656∧acc.length+[o].length≤9223372036854775807:=by rw[length_singleton]; omega
  simp only[sH,bD]
  rw[dlt hlt,cond_true,if_pos (inR hlt),tnI i,ak _ i _ hlt,e,bind_some]
  simp only
  rw[if_pos hc,aM i _ hlt (by omega),e2]
  rfl
theorem a9l (P:ByteArray→Prop) (fl:b7) (hfl:fl.1.length≤1000) (sets:List RgT) (hP:∀nm,P nm→0≤fnd fl.1 nm∧fnd fl.1 nm<((sets.length:Nat):Int)) (hs:RgL sets):∀(h k:Nat) (c:ky),h≤10→kz P h c→h+10000000<k→∃o,R69 k c fl sets=some ((o,()),(sets,()))∧RgS o:=by
 have leaf:∀(k:Nat) (c:ky),vr P c→10000000<k→∃o,R69 k c fl sets=some ((o,()),(sets,()))∧RgS o:=by
  intro k c hc hk
  obtain ⟨k,rfl⟩:∃k',k=k'+1:=⟨k-1,by omega⟩
  obtain ⟨hl,hc⟩:=hc
  obtain ⟨outs,e,_⟩:=vt k (R69 k) (c.a.1,(c.a.2.1,(c.a.2.2.1,(c.a.2.2.2.1,(c.l,()))))) fl sets (show c.l.length≤1000 by rw[hl]; simp) (fun p hp=>by
   have hp':p∈c.l:=hp
   rw[hl] at hp'; cases hp') c.l.length k 0 [] (Nat.zero_add _) (by rw[hl]; simp only[length_nil]; omega) rfl (fun s hs=>by cases hs)
  rw[show ((0:Nat):Int)=0 from rfl] at e
  show ∃o,B69 k (R69 k) c fl sets=some ((o,()),(sets,()))∧RgS o
  unfold B69
  rw[e,bind_some]
  simp only
  rcases hc with a | ⟨a,hn⟩ | a
  ·obtain ⟨o,e1,h1⟩:=HA k [(c.a.2.1,(c.a.2.2.1,()))] (by simp) (by omega)
   rw[a,show ((1:Int)==1)=true from rfl,cond_true,bD,e1,bind_some]
   exact ⟨o,rfl,h1⟩
  ·obtain ⟨g1,g2⟩:=hP _ hn
   rw[a,show ((2:Int)==1)=false from rfl,cond_false,show ((2:Int)==2)=true from rfl,cond_true,Hv k fl _ hfl (by omega),bind_some]
   simp only
   rw[if_pos ⟨g1,g2⟩]
   exact ⟨_,rfl,ml hs _⟩
  ·obtain ⟨o,e1,h1⟩:=mj k [] (by simp) (by omega)
   rw[a,show ((3:Int)==1)=false from rfl,cond_false,show ((3:Int)==2)=false from rfl,cond_false,show ((3:Int)==3)=true from rfl,cond_true,e1,bind_some]
   exact ⟨o,rfl,h1⟩
 intro h
 induction h with
 |zero=>intro k c _ hc hk; exact leaf k c hc (by omega)
 |succ h ih =>
  intro k c h10 hc hk
  rcases hc with hc | hc
  ·exact leaf k c hc (by omega)
  obtain ⟨k,rfl⟩:∃k',k=k'+1:=⟨k-1,by omega⟩
  have hall:∀p∈c.l,kz P h p:=by
   rcases hc with ⟨a,p,e,hp⟩ | ⟨a,p,q,e,hp,hq⟩
   ·rw[e]
    intro y hy
    rw[List.mem_singleton.1 hy]; exact hp
   ·rw[e]
    intro y hy
    simp only[mem_cons,not_mem_nil,or_false] at hy
    rcases hy with rfl | rfl<;>assumption
  have hlen:c.l.length≤2:=by
   rcases hc with ⟨a,p,e,hp⟩ | ⟨a,p,q,e,hp,hq⟩<;>rw[e]<;>simp
  obtain ⟨outs,e,ho,hr⟩:=vt k (R69 k) (c.a.1,(c.a.2.1,(c.a.2.2.1,(c.a.2.2.2.1,(c.l,()))))) fl sets (show c.l.length≤1000 by omega) (fun p hp=>ih k p (by omega) (hall p hp) (by omega)) c.l.length k 0 [] (Nat.zero_add _) (by omega) rfl (fun s hs=>by cases hs)
  rw[show ((0:Nat):Int)=0 from rfl] at e
  have ho':outs.length=c.l.length:=ho
  have r0:=ml hr 0
  have r1:=ml hr 1
  have l0:=eP r0
  have l1:=eP r1
  show ∃o,B69 k (R69 k) c fl sets=some ((o,()),(sets,()))∧RgS o
  unfold B69
  rw[e,bind_some]
  simp only[show Int.toNat 0=0 from rfl,show Int.toNat 1=1 from rfl]
  rcases hc with ⟨a,p,ep,hp⟩ | ⟨a,p,q,ep,hp,hq⟩
  ·rw[ep] at ho'
   have i0:(0:Int)≤0∧(0:Int)<((outs.length:Nat):Int):=by rw[ho']; simp
   obtain ⟨o,e1,h1⟩:=mj k (getD outs 0 []) (by omega) (by omega)
   rw[a,show ((4:Int)==1)=false from rfl,cond_false,show ((4:Int)==2)=false from rfl,cond_false,show ((4:Int)==3)=false from rfl,cond_false,show ((4:Int)==4)=true from rfl,cond_true,if_pos i0,e1,bind_some]
   exact ⟨o,rfl,h1⟩
  ·rw[ep] at ho'
   have i0:(0:Int)≤0∧(0:Int)<((outs.length:Nat):Int):=by rw[ho']; simp
   have i1:(0:Int)≤1∧(1:Int)<((outs.length:Nat):Int):=by rw[ho']; simp
   rw[beq_false_of_ne (show ¬c.a.1=1 by omega),cond_false,beq_false_of_ne (show ¬c.a.1=2 by omega),cond_false,beq_false_of_ne (show ¬c.a.1=3 by omega),cond_false,beq_false_of_ne (show ¬c.a.1=4 by omega),cond_false,if_pos i0,if_pos i1]
   rcases a with a | a | a
   ·obtain ⟨o,e1,h1⟩:=QM k (getD outs 0 []) (getD outs 1 []) (by omega) (by omega) (by omega)
    rw[a,show ((5:Int)==5)=true from rfl,cond_true,e1,bind_some]
    exact ⟨o,rfl,h1⟩
   ·obtain ⟨o,e1,h1⟩:=QN k (getD outs 0 []) (getD outs 1 []) (by omega) (by omega) (by omega)
    rw[a,show ((6:Int)==5)=false from rfl,cond_false,show ((6:Int)==6)=true from rfl,cond_true,if_pos i0,if_pos i1,e1,bind_some]
    exact ⟨o,rfl,h1⟩
   ·obtain ⟨o,e1,h1⟩:=a8l k (getD outs 0 []) (getD outs 1 []) (by omega) (by omega) (by omega)
    rw[a,show ((7:Int)==5)=false from rfl,cond_false,show ((7:Int)==6)=false from rfl,cond_false,if_pos i0,if_pos i1,e1,bind_some]
    exact ⟨o,rfl,h1⟩
theorem JS (nm:ByteArray):∀(l:List eO) (j i:Nat),j<l.length→(getD l j Hx).1=nm→(i:Int)≤fY l nm i∧fY l nm i≤((i+j:Nat):Int)
 | [],j,i,h,_=>by simp at h
 |d::l,j,i,h,e=>by
  unfold fY
  by_cases hd:d.1.toList=nm.toList
  ·rw[if_pos hd]; omega
  ·rw[if_neg hd]
   cases j with
   |zero=>exact absurd (by rw[getD_cons_zero] at e; rw[e]) hd
   |succ j =>
    have:=JS nm l j (i+1) (by simpa using h) (by simpa using e)
    omega
theorem HC (k:Nat) (fl:b7) (hfl:fl.1.length≤1000) (hd:jR fl.1) (hk:20000000≤k):∀(d m i:Nat) (acc:List RgT),i+d=fl.1.length→d<m→acc.length=i→RgL acc →
  ∃outs,mY k m (i:Int) fl acc=some ((),(outs,()))∧outs.length=fl.1.length∧RgL outs
 |0,m,i,acc,hi,hm,hl,h=>by
  obtain ⟨m,rfl⟩:=aq (m:=m) (by omega)
  obtain rfl:i=fl.1.length:=by omega
  refine ⟨acc,?_,hl,h⟩
  simp only[mY]
  rw[dx,cond_false]
 |d+1,m,i,acc,hi,hm,hl,h=>by
  obtain ⟨m,rfl⟩:=aq (m:=m) (by omega)
  have hlt:i<fl.1.length:=by omega
  obtain ⟨o,e,ho⟩:=a9l _ fl hfl acc (fun nm ⟨j,hj,en⟩=>by
   have:=JS nm fl.1 j 0 (by omega) en
   unfold fnd
   omega) h 4 k _ (by omega) (hd i hlt) (by omega)
  have e':F69 k (getD fl.1 i Hx).2.1 fl acc=some ((o,()),(acc,())):=e
  obtain ⟨outs,e2,h2⟩:=HC k fl hfl hd hk d m (i+1) (acc++[o]) (by omega) (by omega) (by rw[length_append,length_singleton]; omega) (fj h fun s hs=>by rw[List.mem_singleton.1 hs]; exact ho)
  refine ⟨outs,?_,h2⟩
  have hc:(acc.length+[o].length)*(24*2)≤281474976710656∧acc.length+[o].length≤9223372036854775807:=by rw[length_singleton]; omega
  have e'':F69 k (getD fl.1 i (ByteArray.empty,((ae.mk ((0:Int),((0:Int),((0:Int),(ByteArray.empty,())))) []),()))).2.1 fl acc=some ((o,()),(acc,())):=e'
  simp only[mY,bD]
  rw[dlt hlt,cond_true,if_pos (inR hlt),tnI i,e'',bind_some]
  simp only
  rw[if_pos hc,aM i _ hlt (by omega),e2]
  rfl
theorem a0m (k:Nat) (fl:b7) (hfl:fl.1.length≤1000) (hd:jR fl.1) (hk:20000000≤k):∃sets,F37 k fl=some ((sets,()),())∧sets.length=fl.1.length∧RgL sets:=by
 obtain ⟨outs,e,h⟩:=HC k fl hfl hd hk fl.1.length k 0 [] (Nat.zero_add _) (by omega) rfl (fun s hs=>by cases hs)
 refine ⟨outs,?_,h⟩
 have e':mY k k 0 fl []=some ((),(outs,())):=e
 unfold F37
 rw[e',bind_some]
def has (l:RgT) (n:Int):Bool:=l.any fun r=>decide (n≥r.1)&&decide (n≤r.2.1)
theorem HD (k:Nat) (l:RgT) (x:Int) (hl:l.length≤5000000):∀(d m i:Nat),i+d=l.length→d<m→m5 k m l x (i:Int)=some (if has (l.drop i) x=true then .inr ((true,()),()) else .inl ((),()))
 |0,m,i,hi,hm=>by
  obtain ⟨m,rfl⟩:=aq (m:=m) (by omega)
  obtain rfl:i=l.length:=by omega
  simp only[m5]
  rw[dx,cond_false,drop_length]
  rfl
 |d+1,m,i,hi,hm=>by
  obtain ⟨m,rfl⟩:=aq (m:=m) (by omega)
  have hlt:i<l.length:=by omega
  have ih:=HD k l x hl d m (i+1) (by omega) (by omega)
  have e:has (l.drop i) x=(decide (x≥l[i].1)&&decide (x≤l[i].2.1)||has (l.drop (i+1)) x):=by
   rw[drop_eq_getElem_cons hlt]
   rfl
  simp only[m5]
  rw[dlt hlt,cond_true,if_pos (inR hlt),tnI i,ak l i _ hlt,if_pos (inR hlt),aM i _ hlt (by omega),ih,e]
  cases decide (x≥l[i].1) with
  |false=>rfl
  |true =>
   cases decide (x≤l[i].2.1) with
   |false=>rfl
   |true=>rfl
theorem HE (k:Nat) (l:RgT) (x:Int) (hl:l.length≤5000000) (hk:10000000≤k):F72 k l x=some ((has l x,()),()):=by
 have e:=HD k l x hl l.length k 0 (Nat.zero_add _) (by omega)
 rw[drop_zero,show ((0:Nat):Int)=0 from rfl] at e
 unfold F72
 rw[e,bind_some]
 cases h:has l x with
 |true=>rfl
 |false=>rfl
def bM (x:Int):List RgT→Int→Int
 | [],t=>t
 |s::l,t=>bM x l (2*t+(if has s x then 1 else 0))
theorem Ae (x:Int):∀(l:List RgT) (t:Int),0≤t→0≤bM x l t
 | [],t,h=>h
 |s::l,t,h=>by
  unfold bM
  apply Ae
  split<;>omega
theorem vu (k:Nat) (l:List RgT) (x:Int) (hk:10000000≤k) (hl:l.length≤40) (hr:RgL l):∀(d m i:Nat) (t:Int),i+d=l.length→d<m→0≤t→t<2^i→m6 k m l x t (i:Int)=some ((bM x (l.drop i) t,()),())
 |0,m,i,t,hi,hm,h0,h1=>by
  obtain ⟨m,rfl⟩:=aq (m:=m) (by omega)
  obtain rfl:i=l.length:=by omega
  simp only[m6]
  rw[dx,cond_false,drop_length]
  rfl
 |d+1,m,i,t,hi,hm,h0,h1=>by
  obtain ⟨m,rfl⟩:=aq (m:=m) (by omega)
  have hlt:i<l.length:=by omega
  have hp:(2:Int)^i≤2^40:=by
   have:(2:Nat)^i≤2^40:=Nat.pow_le_pow_right (by omega) (by omega)
   exact_mod_cast this
  have hp40:(2:Int)^40=1099511627776:=by decide
  have hps:(2:Int)^(i+1)=2^i*2:=Int.pow_succ 2 i
  have hlen:=eP (hr _ (getElem_mem hlt))
  rw[drop_eq_getElem_cons hlt,bM]
  simp only[m6]
  rw[dlt hlt,cond_true,if_pos (inR hlt),tnI i,ak l i _ hlt,HE k _ x (by omega) hk,bind_some]
  simp only
  rw[aM i _ hlt (by omega),w64 (2*t) (by omega) (by omega),w64 (2*t+1) (by omega) (by omega)]
  cases has l[i] x with
  |true =>
   rw[cond_true,if_pos rfl,vu k l x hk hl hr d m (i+1) (2*t+1) (by omega) (by omega) (by omega) (by omega),bind_some]
  |false =>
   rw[cond_false,if_neg (by simp),Int.add_zero,vu k l x hk hl hr d m (i+1) (2*t) (by omega) (by omega) (by omega) (by omega),bind_some]
theorem a1m (k:Nat) (l:List RgT) (x:Int) (hk:10000000≤k) (hl:l.length≤40) (hr:RgL l):F71 k l x=some ((bM x l 0,()),()):=by
 have e:=vu k l x hk hl hr l.length k 0 0 (Nat.zero_add _) (by omega) (Int.le_refl _) (by decide)
 rw[drop_zero,show ((0:Nat):Int)=0 from rfl] at e
 unfold F71
 rw[e,bind_some]
def fZ (l:List Int):Prop:=l.Pairwise (· < ·)∧∀x∈l,0≤x∧x≤1114111
theorem vv {l:List Int} (h:fZ l):l.length≤1114112:=by
 have key:∀(l:List Int) (c:Nat),fZ l→(∀r∈l,(c:Int)≤r)→c+l.length≤1114112∨l=[]:=by
  intro l
  induction l with
  |nil=>intro c _ _; exact .inr rfl
  |cons a l ih =>
   intro c hs hc
   obtain ⟨h1,h2⟩:=List.pairwise_cons.1 hs.1
   have ga:=hs.2 a mem_cons_self
   have ha:=hc a mem_cons_self
   left
   rcases ih (c+1) ⟨h2,fun r hr=>hs.2 r (mem_cons_of_mem _ hr)⟩ (fun r hr=>by have:=h1 r hr; omega) with q | q
   ·simp only[length_cons]; omega
   ·subst q
    simp only[length_cons,length_nil]
    omega
 rcases key l 0 h (fun r hr=>by have:=h.2 r hr; omega) with q | q
 ·omega
 ·subst q; simp
def Mc (x:Int) (l:List Int) (p:Nat):List Int:=l.take p++[x]++l.drop p
def a2m (x:Int) (l:List Int) (p:Nat):Prop:=p≤l.length∧(∀r∈l.take p,r≤x)∧∀r∈l.drop p,x<r
theorem HG (k:Nat) (t0:List RgT) (t4 t5:Int) (q:Nat) (c l:List Int) (hl:fZ l) (hq:q<c.length):∀(p m:Nat),p<m→p≤l.length→(∀r∈l.drop p,getD c q 0<r)→∃z:Nat,sI k m t0 t4 t5 (q:Int) (p:Int) c l=some ((t0,(t4,(t5,((q:Int),((z:Int),()))))),(c,(l,())))∧a2m (getD c q 0) l z
 |0,m,hm,hp,hd=>by
  obtain ⟨m,rfl⟩:=aq (m:=m) (by omega)
  refine ⟨0,?_,zero_le _,(fun r hr=>by simp at hr),hd⟩
  simp only[sI]
  rw[decide_eq_false (by omega),cond_false]
 |p+1,m,hm,hp,hd=>by
  obtain ⟨m,rfl⟩:=aq (m:=m) (by omega)
  have hlt:p<l.length:=by omega
  have hlen:=vv hl
  have hw:IntKind.wrap .i64 (((p+1:Nat):Int)-1)=(p:Int):=by rw[w64 _ (by omega) (by omega)]; omega
  simp only[sI,hw]
  rw[decide_eq_true (by omega),cond_true,if_pos (inR hq),if_pos (inR hlt),tnI p,tnI q,ak l p _ hlt]
  by_cases hx:getD c q 0<l[p]
  ·rw[decide_eq_true hx,cond_true,bind_fun_some]
   refine HG k t0 t4 t5 q c l hl hq p m (by omega) (by omega) fun r hr=>?_
   rw[drop_eq_getElem_cons hlt] at hr
   rcases List.mem_cons.1 hr with e | e
   ·rw[e]; exact hx
   ·exact hd r e
  ·rw[decide_eq_false hx,cond_false]
   refine ⟨p+1,rfl,hp,fun r hr=>?_,hd⟩
   rw[take_succ_eq_append_getElem hlt] at hr
   rcases List.mem_append.1 hr with e | e
   ·have h2:=hl.1
    rw[←take_append_drop p l,drop_eq_getElem_cons hlt] at h2
    have:=(List.pairwise_append.1 h2).2.2 r e l[p] mem_cons_self
    omega
   ·rw[mem_singleton] at e
    rw[e]; omega
theorem T5 {x:Int} {l:List Int} {p:Nat} (hl:fZ l) (h0:0≤x) (h1:x≤1114111) (hp:a2m x l p) (hne:p=0∨getD l (p-1) 0≠x):fZ (Mc x l p):=by
 obtain ⟨g0,g1,g2⟩:=hp
 have hs:=hl.1
 rw[←take_append_drop p l] at hs
 obtain ⟨q1,q2,q3⟩:=List.pairwise_append.1 hs
 have hlt:∀r∈l.take p,r<x:=fun r hr=>by
  have h:=g1 r hr
  rcases hne with e | e
  ·subst e; simp at hr
  ·have hp0:p≠0:=fun q=>by subst q; simp at hr
   have hp1:p-1<l.length:=by omega
   rw[ak l _ _ hp1] at e
   have hlast:l[p-1]≤x:=g1 _ (by
    have:p-1<(l.take p).length:=by rw[length_take]; omega
    have e2:=getElem_mem this
    rwa [List.getElem_take] at e2)
   obtain ⟨j,hj,rfl⟩:=List.getElem_of_mem hr
   rw[length_take] at hj
   rw[List.getElem_take]
   by_cases hjp:j=p-1
   ·subst hjp; omega
   ·have:=List.pairwise_iff_getElem.1 hl.1 j (p-1) (by omega) hp1 (by omega)
    omega
 constructor
 ·refine List.pairwise_append.2 ⟨List.pairwise_append.2 ⟨q1,pairwise_singleton _ _,fun a ha b hb=>?_⟩,q2,fun a ha b hb=>?_⟩
  ·rw[List.mem_singleton.1 hb]; exact hlt a ha
  ·rcases List.mem_append.1 ha with e | e
   ·exact q3 a e b hb
   ·rw[List.mem_singleton.1 e]; exact g2 b hb
 ·intro r hr
  rcases List.mem_append.1 hr with e | e
  ·rcases List.mem_append.1 e with e | e
   ·exact hl.2 r (mem_of_mem_take e)
   ·rw[List.mem_singleton.1 e]; exact ⟨h0,h1⟩
  ·exact hl.2 r (List.mem_of_mem_drop e)
theorem vx (k:Nat) (t0:List RgT) (t4 t5:Int) (c:List Int) (hk:10000000≤k) (hc:c.length=2) (h0:∀x∈c,0≤x):∀(d m q:Nat) (l:List Int),q+d=2→d<m→fZ l→∃l',fR k m t0 t4 t5 (q:Int) c l=some ((t0,(t4,(t5,()))),(l',()))∧fZ l'∧(∀x∈l,x∈l')∧∀x∈c.drop q,x≤1114111→x∈l'
 |0,m,q,l,hq,hm,hl=>by
  obtain ⟨m,rfl⟩:=aq (m:=m) (by omega)
  obtain rfl:q=2:=by omega
  refine ⟨l,?_,hl,fun x hx=>hx,fun x hx=>?_⟩
  ·simp only[fR]
   rw[decide_eq_false (by omega),cond_false]
  ·rw[drop_eq_nil_of_le (by omega)] at hx; cases hx
 |d+1,m,q,l,hq,hm,hl=>by
  obtain ⟨m,rfl⟩:=aq (m:=m) (by omega)
  have hlt:q<c.length:=by omega
  have hlen:=vv hl
  obtain ⟨z,e,hz⟩:=HG k t0 t4 t5 q c l hl hlt l.length k (by omega) (Nat.le_refl _) (fun r hr=>by rw[drop_length] at hr; cases hr)
  have hzl:=hz.1
  have hcq:getD c q 0=c[q]:=ak c q 0 hlt
  have hq0:=h0 _ (getElem_mem hlt)
  have hdq:c.drop q=c[q]::c.drop (q+1):=drop_eq_getElem_cons hlt
  rw[hcq] at hz
  have hwq:IntKind.wrap .i64 ((q:Int)+1)=((q+1:Nat):Int):=by rw[w64 _ (by omega) (by omega)]; omega
  have stay:(c[q]≤1114111→c[q]∈l)→∃l',(fR k m t0 t4 t5 ((q+1:Nat):Int) c l).bind some=some ((t0,(t4,(t5,()))),(l',()))∧fZ l'∧(∀x∈l,x∈l')∧∀x∈c.drop q,x≤1114111→x∈l':=fun hin=>by
   obtain ⟨l',e2,h2,h3,h4⟩:=vx k t0 t4 t5 c hk hc h0 d m (q+1) l (by omega) (by omega) hl
   refine ⟨l',by rw[e2]; rfl,h2,h3,fun x hx hx2=>?_⟩
   rw[hdq] at hx
   rcases List.mem_cons.1 hx with g | g
   ·subst g; exact h3 _ (hin hx2)
   ·exact h4 x g hx2
  have put:c[q]≤1114111→(z=0∨getD l (z-1) 0≠c[q])→∃l',(fR k m t0 t4 t5 ((q+1:Nat):Int) c (l.take z++[c[q]]++l.drop z)).bind some=some ((t0,(t4,(t5,()))),(l',()))∧fZ l'∧(∀x∈l,x∈l')∧∀x∈c.drop q,x≤1114111→x∈l':=fun hle hne=>by
   have hr:=T5 hl hq0 hle hz hne
   have hin:∀x∈l,x∈Mc c[q] l z:=fun x hx=>by
    unfold Mc
    rw[←take_append_drop z l] at hx
    rcases List.mem_append.1 hx with g | g
    ·exact mem_append_left _ (mem_append_left _ g)
    ·exact mem_append_right _ g
   obtain ⟨l',e2,h2,h3,h4⟩:=vx k t0 t4 t5 c hk hc h0 d m (q+1) (Mc c[q] l z) (by omega) (by omega) hr
   refine ⟨l',by
    have e3:fR k m t0 t4 t5 ((q+1:Nat):Int) c (l.take z++[c[q]]++l.drop z)=_:=e2
    rw[e3]; rfl,h2,fun x hx=>h3 x (hin x hx),fun x hx hx2=>?_⟩
   rw[hdq] at hx
   rcases List.mem_cons.1 hx with g | g
   ·subst g
    exact h3 _ (mem_append_left _ (mem_append_right _ (List.mem_singleton.2 rfl)))
   ·exact h4 x g hx2
  have w1:(0:Int)≤0∧(0:Int)≤(z:Int)∧(z:Int)≤((l.length:Nat):Int):=by omega
  have w2:(0:Int)≤(z:Int)∧(z:Int)≤((l.length:Nat):Int)∧((l.length:Nat):Int)≤((l.length:Nat):Int):=by omega
  have ht:(l.drop z).take (l.length-z)=l.drop z:=take_of_length_le (by rw[length_drop]; omega)
  have k1:(0+(l.take z).length)*(8*2)≤281474976710656∧0+(l.take z).length≤9223372036854775807:=by rw[length_take]; omega
  have k2:((l.take z).length+[c[q]].length)*(8*2)≤281474976710656∧(l.take z).length+[c[q]].length≤9223372036854775807:=by rw[length_take,length_singleton]; omega
  have k3:((l.take z++[c[q]]).length+(l.drop z).length)*(8*2)≤281474976710656∧(l.take z++[c[q]]).length+(l.drop z).length≤9223372036854775807:=by rw[length_append,length_take,length_singleton,length_drop]; omega
  simp only[fR]
  rw[decide_eq_true (show (q:Int)<2 by omega),cond_true,e,bind_some]
  simp only[replicate_zero,nil_append,length_nil,bD]
  rw[if_pos (inR hlt),tnI q,tnI z,tnI (l.length),show Int.toNat 0=0 from rfl,sub_zero,drop_zero,hcq,hwq,ht]
  by_cases hle:c[q]≤1114111
  ·rw[decide_eq_true hle,cond_true]
   by_cases hz0:z=0
   ·rw[show ((z:Int)==0)=true by rw[hz0]; rfl,cond_true,if_pos w1,if_pos (inR hlt),if_pos w2,if_pos k1,if_pos k2,if_pos k3]
    exact put hle (.inl hz0)
   ·have hz1:z-1<l.length:=by omega
    have hw:IntKind.wrap .i64 ((z:Int)-1)=((z-1:Nat):Int):=by rw[w64 _ (by omega) (by omega)]; omega
    rw[beq_false_of_ne (show ¬(z:Int)=0 by omega),cond_false,hw,if_pos (inR hz1),if_pos (inR hlt),tnI (z-1)]
    by_cases he:getD l (z-1) 0=c[q]
    ·rw[show (getD l (z-1) 0 != c[q])=false by rw[he]; simp,cond_false]
     refine stay fun _=>?_
     rw[←he]
     exact cK hz1
    ·rw[show (getD l (z-1) 0 != c[q])=true by simpa using he,cond_true,if_pos w1,if_pos (inR hlt),if_pos w2,if_pos k1,if_pos k2,if_pos k3]
     exact put hle (.inr he)
  ·rw[decide_eq_false hle,cond_false]
   exact stay fun h=>absurd h hle
theorem a3m {t:RgT} (h:RgS t) {i:Nat} (hi:i<t.length):RgP (t[i]):=h.2 _ (getElem_mem hi)
def BU (n:Nat) (l:List Int):Prop:=∀x∈l,0≤x∧x<(n:Int)
theorem BU.add {n:Nat} {l:List Int} (h:BU n l) {j m:Nat} (hj:j<m) (hm:n≤m):BU m (l++[(j:Int)]):=fun x hx=>by
 rcases List.mem_append.1 hx with g | g
 ·have:=h x g
  omega
 ·rw[List.mem_singleton.1 g]; omega
theorem HH (k:Nat) (l:List Int) (hl:l.length≤5000000) (hL:BU 2000000 l):∀(d m i:Nat) (t:Int),i+d=l.length→d<m→0≤t→t≤2000000→(∀x∈l.take i,x<t)→∃c,sO k m l t (i:Int)=some ((c,()),())∧0≤c∧c≤2000000∧∀x∈l,x<c
 |0,m,i,t,hi,hm,h0,h1,hx=>by
  obtain ⟨m,rfl⟩:=aq (m:=m) (by omega)
  refine ⟨t,?_,h0,h1,fun x h=>hx x ?_⟩
  ·simp only[sO]
   rw[decide_eq_false (by omega),cond_false]
  ·rw[take_of_length_le (by omega)]; exact h
 |d+1,m,i,t,hi,hm,h0,h1,hx=>by
  obtain ⟨m,rfl⟩:=aq (m:=m) (by omega)
  have hlt:i<l.length:=by omega
  have hx2:=hL _ (getElem_mem hlt)
  have hm2:bZ t (l[i]+1)=t∧l[i]+1≤t∨bZ t (l[i]+1)=l[i]+1∧t≤l[i]+1:=by
   unfold bZ
   split<;>omega
  obtain ⟨c,e,h⟩:=HH k l hl hL d m (i+1) (bZ t (l[i]+1)) (by omega) (by omega) (by omega) (by omega) (fun x h=>by
   rw[take_succ_eq_append_getElem hlt] at h
   rcases List.mem_append.1 h with g | g
   ·have:=hx x g; omega
   ·rw[List.mem_singleton.1 g]; omega)
  refine ⟨c,?_,h⟩
  simp only[sO]
  rw[dlt hlt,cond_true,if_pos (inR hlt),tnI i,ak l i _ hlt,aM i _ hlt (by omega),w64 (l[i]+1) (by omega) (by omega),e]
  rfl
theorem a4m (k:Nat) (l:List Int) (hk:10000000≤k) (hl:l.length≤5000000) (hL:BU 2000000 l):∃c,F40 k l=some ((c,()),())∧0≤c∧c≤2000000∧∀x∈l,x<c:=by
 obtain ⟨c,e,h⟩:=HH k l hl hL l.length k 0 0 (Nat.zero_add _) (by omega) (Int.le_refl _) (by omega) (fun x h=>by rw[take_zero] at h; cases h)
 rw[show ((0:Nat):Int)=0 from rfl] at e
 exact ⟨c,by
  unfold F40
  rw[e,bind_some],h⟩
abbrev InT:=List (List Bool)
def ofP (I:InT) (s:ag) (p a:Nat):Bool:=decide (getD s.1 p 0<0)||getD (getD I (getD s.1 p 0).toNat []) a false
theorem HI (k:Nat) (M:List (List Bool)) (u v:Nat) (s:ag) (hu:u<s.1.length) (hv:getD s.1 u 0=(v:Int)) (hM:v<M.length) (hr:(getD M v []).length≤5000000):∀(d m i:Nat),i+d=(getD M v []).length→d<m→(ni k m M (u:Int) (i:Int) s=some (.inl ((),()))∧∀x,i≤x→getD (getD M v []) x false=false)∨ni k m M (u:Int) (i:Int) s=some (.inr ((true,()),()))
 |0,m,i,hi,hm=>by
  obtain ⟨m,rfl⟩:=aq (m:=m) (by omega)
  left
  refine ⟨?_,fun x hx=>?_⟩
  ·simp only[ni]
   rw[if_pos (inR hu),tnI u,hv,if_pos (inR hM),tnI v,decide_eq_false (by omega),cond_false]
  ·rw[getD_eq_getElem?_getD,List.getElem?_eq_none (by omega)]
   rfl
 |d+1,m,i,hi,hm=>by
  obtain ⟨m,rfl⟩:=aq (m:=m) (by omega)
  have hlt:i<(getD M v []).length:=by omega
  have ih:=HI k M u v s hu hv hM hr d m (i+1) (by omega) (by omega)
  simp only[ni]
  rw[if_pos (inR hu),tnI u,hv,if_pos (inR hM),tnI v,dlt hlt,cond_true,if_pos (inR hu),if_pos (inR hM),if_pos (inR hlt),aM i _ hlt (by omega),tnI i]
  cases hb:getD (getD M v []) i false with
  |true=>right; rw[cond_true]
  |false =>
   rw[cond_false]
   rcases ih with ⟨e,h⟩ | e
   ·refine .inl ⟨by rw[e]; rfl,fun x hx=>?_⟩
    by_cases hxi:x=i
    ·rw[hxi]; exact hb
    ·exact h x (by omega)
   ·right; rw[e]; rfl
theorem a5m (k:Nat) (M:List (List Bool)) (u:Nat) (s:ag) (hk:10000000≤k) (hu:u<s.1.length) (hv:getD s.1 u 0<((M.length:Nat):Int)) (hr:∀r∈M,r.length≤2000000):∃b,F75 k s M (u:Int)=some ((b,()),())∧(b=false→∀x,ofP M s u x=false):=by
 unfold F75
 rw[if_pos (inR hu),tnI u]
 by_cases h:getD s.1 u 0<0
 ·exact ⟨true,by rw[decide_eq_true h]; rfl,fun q=>by cases q⟩
 ·obtain ⟨v,hv'⟩:∃v:Nat,getD s.1 u 0=(v:Int):=⟨(getD s.1 u 0).toNat,by omega⟩
  have hM:v<M.length:=by omega
  have h2:=hr _ (cK (d:=[]) hM)
  rw[decide_eq_false h]
  simp only[cond_false]
  rcases HI k M u v s hu hv' hM (by omega) (getD M v []).length k 0 (Nat.zero_add _) (by omega) with ⟨e,hx⟩ | e
  ·rw[show ((0:Nat):Int)=0 from rfl] at e
   refine ⟨false,by rw[e]; rfl,fun _ x=>?_⟩
   unfold ofP
   rw[decide_eq_false h,Bool.false_or,hv',tnI v]
   exact hx x (zero_le _)
  ·rw[show ((0:Nat):Int)=0 from rfl] at e
   exact ⟨true,by rw[e]; rfl,fun q=>by cases q⟩
abbrev sd0:ag:=(([]:(List Int)),(([]:(List Int)),(([]:(List Int)),(([]:(List (Int×(Int×(Int×Unit))))),((0:Int),())))))
def dG:List Bool→Nat
 | []=>0
 |b::l=>(if b then 0 else 1)+dG l
theorem BV:∀l:List Bool,dG l≤l.length
 | []=>Nat.le_refl _
 |b::l=>by
  have:=BV l
  unfold dG
  simp only[length_cons]
  split<;>omega
theorem HJ:∀(l:List Bool) (i:Nat),i<l.length→dG (List.set l i true)+(if getD l i false then 0 else 1)=dG l
 | [],i,h=>by simp at h
 |b::l,0,h=>by
  cases b<;>simp[dG]
  omega
 |b::l,i+1,h=>by
  have:=HJ l i (by simpa using h)
  simp only[List.set_cons_succ,dG,getD_cons_succ]
  omega
theorem bL {α:Type} {l:List α} {i x:Nat} {v d:α} (h:x≠i):getD (List.set l i v) x d=getD l x d:=by
 rw[getD_eq_getElem?_getD,getD_eq_getElem?_getD,List.getElem?_set_ne (fun q=>h q.symm)]
theorem cS {α:Type} {l:List α} {i:Nat} {v d:α} (h:i<l.length):getD (List.set l i v) i d=v:=by
 rw[getD_eq_getElem?_getD,List.getElem?_set_self h]
 rfl
abbrev onB (l:List Bool) (i:Nat):Prop:=getD l i false=true
structure Md (M:InT) (s:ag) (i:Nat) (a b c:List Bool):Prop where
 may:∀p x,p<i→ofP M s p x=true→onB c p
 beg:∀p,p<i→onB c p→getD s.2.1 p 0<1152921504606846976→onB a p
 fin:∀p,p<i→onB c p→getD s.2.2.1 p 0<1152921504606846976→onB b p
theorem HK {n M0:Nat} {C:Int} (k:Nat) (M:List (List Bool)) (s c4:ag) (hk:10000000≤k) (hn:n≤500) (hs:bq n C M0 s) (hM:M0≤M.length) (hr:∀r∈M,r.length≤2000000):∀(d m i:Nat) (a b c:List Bool),i+d=n→d<m→a.length=n→b.length=n→c.length=n→Md M s i a b c →
  ∃a' b' c',jd k m M (n:Int) (i:Int) s c4 a b c=some (((n:Int),()),(s,(c4,(a',(b',(c',()))))))∧a'.length=n∧b'.length=n∧c'.length=n∧Md M s n a' b' c'
 |0,m,i,a,b,c,hi,hm,ha,hb,hc,hP=>by
  obtain ⟨m,rfl⟩:=aq (m:=m) (by omega)
  obtain rfl:i=n:=by omega
  refine ⟨a,b,c,?_,ha,hb,hc,hP⟩
  simp only[jd]
  rw[decide_eq_false (by omega),cond_false]
 |d+1,m,i,a,b,c,hi,hm,ha,hb,hc,hP=>by
  obtain ⟨m,rfl⟩:=aq (m:=m) (by omega)
  have hls:=hs.ls
  have hlf:=hs.lf
  have hle:=hs.le
  have hx:=hs.sets (getD s.1 i 0) (cK (by omega))
  obtain ⟨v,e,hv⟩:=a5m k M i s hk (by omega) (by omega) hr
  have hset:∀(l:List Bool) (w:Bool),l.length=n→(List.set l i w).length=n∧onB (List.set l i w) i=(w=true)∧∀p,p≠i→(onB (List.set l i w) p↔onB l p):=fun l w hl=>⟨by rw[length_set]; exact hl,by unfold onB; rw[cS (by omega)],fun p hp=>by unfold onB; rw[bL hp]⟩
  have key:∀(wa wb:Bool),(v=true→getD s.2.1 i 0<1152921504606846976→wa=true)→(v=true→getD s.2.2.1 i 0<1152921504606846976→wb=true)→∃a2 b2 c2,(jd k m M (n:Int) ((i+1:Nat):Int) s c4 (List.set a i wa) (List.set b i wb) (List.set c i v)).bind some=some (((n:Int),()),(s,(c4,(a2,(b2,(c2,()))))))∧a2.length=n∧b2.length=n∧c2.length=n∧Md M s n a2 b2 c2:=fun wa wb hwa hwb=>by
   obtain ⟨a1,a2,a3⟩:=hset a wa ha
   obtain ⟨b1,b2,b3⟩:=hset b wb hb
   obtain ⟨c1,c2,c3⟩:=hset c v hc
   obtain ⟨a',b',c',e,h⟩:=HK k M s c4 hk hn hs hM hr d m (i+1) _ _ _ (by omega) (by omega) a1 b1 c1 ⟨fun p x hp ho=>by
    by_cases hpi:p=i
    ·subst hpi
     rw[c2]
     cases v with
     |true=>rfl
     |false=>rw[hv rfl x] at ho; cases ho
    ·exact (c3 p hpi).2 (hP.may p x (by omega) ho),fun p hp ho hF=>by
    by_cases hpi:p=i
    ·subst hpi
     rw[c2] at ho
     rw[a2]
     exact hwa ho hF
    ·exact (a3 p hpi).2 (hP.beg p (by omega) ((c3 p hpi).1 ho) hF),fun p hp ho hF=>by
    by_cases hpi:p=i
    ·subst hpi
     rw[c2] at ho
     rw[b2]
     exact hwb ho hF
    ·exact (b3 p hpi).2 (hP.fin p (by omega) ((c3 p hpi).1 ho) hF)⟩
   exact ⟨a',b',c',by rw[e]; rfl,h⟩
  have wi:IntKind.wrap .i64 ((i:Int)+1)=((i+1:Nat):Int):=by rw[w64 _ (by omega) (by omega)]; omega
  have q1:(0:Int)≤(i:Int)∧(i:Int)<((c.length:Nat):Int):=by omega
  have q2:(0:Int)≤(i:Int)∧(i:Int)<(((List.set c i v).length:Nat):Int):=by rw[length_set]; omega
  have q3:(0:Int)≤(i:Int)∧(i:Int)<((s.2.1.length:Nat):Int):=by omega
  have q4:(0:Int)≤(i:Int)∧(i:Int)<((s.2.2.1.length:Nat):Int):=by omega
  have q5:(0:Int)≤(i:Int)∧(i:Int)<((a.length:Nat):Int):=by omega
  have q6:(0:Int)≤(i:Int)∧(i:Int)<((b.length:Nat):Int):=by omega
  simp only[jd]
  rw[decide_eq_true (by omega),cond_true,e,bind_some]
  simp only
  rw[if_pos q1,tnI i,if_pos q2,wi,cS (by omega:i<c.length)]
  cases v with
  |true =>
   rw[cond_true,if_pos q3,if_pos q2,cond_true,if_pos q4,if_pos q5,if_pos q6]
   exact key _ _ (fun _ h=>decide_eq_true h) (fun _ h=>decide_eq_true h)
  |false =>
   rw[cond_false,if_pos q2,cond_false,if_pos q5,if_pos q6]
   exact key _ _ (fun q=>by cases q) (fun q=>by cases q)
def HL (a b c:List Bool) (x:aF):Prop:=(onB a x.1.toNat→onB c x.2.1.toNat→onB a x.2.1.toNat)∧(onB b x.2.1.toNat→onB c x.1.toNat→onB b x.1.toNat)
def UpB (a a':List Bool):Prop:=∀p,onB a p→onB a' p
theorem Ww (a:List Bool) (i:Nat):UpB a (List.set a i true):=fun p h=>by
 unfold onB at *
 by_cases e:p=i
 ·subst e
  by_cases hl:p<a.length
  ·rw[cS hl]
  ·rw[getD_eq_getElem?_getD,List.getElem?_eq_none (by omega)] at h
   cases h
 ·rw[bL e]; exact h
def stA (a c:List Bool) (p q:Nat):List Bool:=if getD a p false&&getD c q false&&!(getD a q false) then List.set a q true else a
def chA (a c:List Bool) (p q:Nat):Bool:=getD a p false&&getD c q false&&!(getD a q false)
theorem JT (a c:List Bool) (p q:Nat):(stA a c p q).length=a.length:=by unfold stA; split<;>simp
theorem QO (a c:List Bool) (p q:Nat):UpB a (stA a c p q):=by
 unfold stA
 split
 ·exact Ww a q
 ·exact fun _ h=>h
theorem QP {a c:List Bool} {p q:Nat} (h:chA a c p q=false):stA a c p q=a∧(onB a p→onB c q→onB a q):=by
 unfold chA at h
 unfold stA
 rw[h]
 refine ⟨rfl,fun h1 h2=>?_⟩
 unfold onB at *
 rw[h1,h2] at h
 simpa using h
theorem HM {a c:List Bool} {p q:Nat} (hq:q<a.length):dG (stA a c p q)≤dG a∧(chA a c p q=true→dG (stA a c p q)<dG a):=by
 have:=HJ a q hq
 unfold stA chA
 split
 ·rename_i h
  have h2:getD a q false=false:=by
   simp only[Bool.and_eq_true,Bool.not_eq_true'] at h
   exact h.2
  rw[h2] at this
  simp only[Bool.false_eq_true,if_false] at this
  omega
 ·rename_i h
  exact ⟨Nat.le_refl _,fun g=>absurd g h⟩
theorem HN {n M0:Nat} {C:Int} (k:Nat) (s c4:ag) (c:List Bool) (hn:n≤500) (hs:bq n C M0 s) (hc:c.length=n):∀(d m i:Nat) (t:Bool) (a b:List Bool),i+d=s.2.2.2.1.length→d<m→a.length=n→b.length=n →
  ∃t' a' b',cJ k m (n:Int) t (i:Int) s c4 a b c=some (((n:Int),(t',())),(s,(c4,(a',(b',(c,()))))))∧a'.length=n∧b'.length=n∧dG a'+dG b'≤dG a+dG b∧(t'=true→t=true∨dG a'+dG b'<dG a+dG b)∧UpB a a'∧UpB b b'∧(t'=false→t=false∧a'=a∧b'=b∧∀x∈s.2.2.2.1.drop i,HL a b c x)
 |0,m,i,t,a,b,hi,hm,ha,hb=>by
  obtain ⟨m,rfl⟩:=aq (m:=m) (by omega)
  refine ⟨t,a,b,?_,ha,hb,Nat.le_refl _,fun h=>.inl h,fun _ h=>h,fun _ h=>h,fun h=>⟨h,rfl,rfl,fun x hx=>?_⟩⟩
  ·simp only[cJ]
   rw[decide_eq_false (by omega),cond_false]
  ·rw[drop_eq_nil_of_le (by omega)] at hx
   cases hx
 |d+1,m,i,t,a,b,hi,hm,ha,hb=>by
  obtain ⟨m,rfl⟩:=aq (m:=m) (by omega)
  have hlt:i<s.2.2.2.1.length:=by omega
  have hlen:=eN hs.srt hs.arcs
  have hnn:n*n≤500*500:=mul_le_mul hn hn
  have hx:=hs.arcs _ (getElem_mem hlt)
  have hdr:=drop_eq_getElem_cons hlt
  have hget:=ak s.2.2.2.1 i ((0:Int),((0:Int),((0:Int),()))) hlt
  generalize s.2.2.2.1[i]=x at hx hdr hget
  obtain ⟨⟨x1,x2⟩,⟨x3,x4⟩,_⟩:=hx
  have q1:(0:Int)≤x.1∧x.1<((a.length:Nat):Int):=by omega
  have q2:(0:Int)≤x.2.1∧x.2.1<((a.length:Nat):Int):=by omega
  have q3:(0:Int)≤x.1∧x.1<((b.length:Nat):Int):=by omega
  have q4:(0:Int)≤x.2.1∧x.2.1<((b.length:Nat):Int):=by omega
  have q5:(0:Int)≤x.1∧x.1<((c.length:Nat):Int):=by omega
  have q6:(0:Int)≤x.2.1∧x.2.1<((c.length:Nat):Int):=by omega
  have step:cJ k (m+1) (n:Int) t (i:Int) s c4 a b c=(cJ k m (n:Int) (t||chA a c x.1.toNat x.2.1.toNat||chA b c x.2.1.toNat x.1.toNat) ((i+1:Nat):Int) s c4 (stA a c x.1.toNat x.2.1.toNat) (stA b c x.2.1.toNat x.1.toNat) c).bind some:=by
   simp only[cJ]
   rw[dlt hlt,cond_true,if_pos (inR hlt),tnI i,hget,aM i _ hlt (by omega)]
   simp only[if_pos q1,if_pos q2,if_pos q3,if_pos q4,if_pos q5,if_pos q6]
   unfold stA chA
   generalize getD a x.1.toNat false=u1
   generalize getD c x.2.1.toNat false=u2
   generalize getD a x.2.1.toNat false=u3
   generalize getD b x.2.1.toNat false=u4
   generalize getD c x.1.toNat false=u5
   generalize getD b x.1.toNat false=u6
   cases u1<;>cases u2<;>cases u3<;>cases u4<;>cases u5<;>cases u6<;>simp only[cond_true,cond_false,Bool.not_true,Bool.not_false,Bool.and_true,Bool.and_false,Bool.true_and,Bool.false_and,Bool.or_false,Bool.or_true,Bool.false_eq_true,if_true,if_false]
  have oa:=HM (a:=a) (c:=c) (p:=x.1.toNat) (q:=x.2.1.toNat) (by omega)
  have ob:=HM (a:=b) (c:=c) (p:=x.2.1.toNat) (q:=x.1.toNat) (by omega)
  obtain ⟨t',a',b',e,h1,h2,h3,h4,h5,h6,h7⟩:=HN k s c4 c hn hs hc d m (i+1) (t||chA a c x.1.toNat x.2.1.toNat||chA b c x.2.1.toNat x.1.toNat) (stA a c x.1.toNat x.2.1.toNat) (stA b c x.2.1.toNat x.1.toNat) (by omega) (by omega) (by rw[JT]; exact ha) (by rw[JT]; exact hb)
  refine ⟨t',a',b',by rw[step,e]; rfl,h1,h2,by omega,fun q=>?_,fun p hp=>h5 p (QO a c _ _ p hp),fun p hp=>h6 p (QO b c _ _ p hp),fun q=>?_⟩
  ·rcases h4 q with r | r
   ·simp only[Bool.or_eq_true] at r
    rcases r with (r | r) | r
    ·exact .inl r
    ·have:=oa.2 r
     exact .inr (by omega)
    ·have:=ob.2 r
     exact .inr (by omega)
   ·exact .inr (by omega)
  ·obtain ⟨g1,g2,g3,g4⟩:=h7 q
   simp only[Bool.or_eq_false_iff] at g1
   obtain ⟨na1,na2⟩:=QP g1.1.2
   obtain ⟨nb1,nb2⟩:=QP g1.2
   rw[na1] at g2 g4
   rw[nb1] at g3 g4
   refine ⟨g1.1.1,g2,g3,fun y hy=>?_⟩
   rw[hdr] at hy
   rcases List.mem_cons.1 hy with r | r
   ·rw[r]; exact ⟨na2,nb2⟩
   ·exact g4 y r
theorem HO {n M0:Nat} {C:Int} (k:Nat) (s c4:ag) (c:List Bool) (hk:10000000≤k) (hn:n≤500) (hs:bq n C M0 s) (hc:c.length=n):∀(d m:Nat) (t:Bool) (a b:List Bool),dG a+dG b<d→d<m→a.length=n→b.length=n→(t=false→∀x∈s.2.2.2.1,HL a b c x) →
  ∃a' b',kX k m (n:Int) t s c4 a b c=some (((n:Int),()),(s,(c4,(a',(b',())))))∧a'.length=n∧b'.length=n∧UpB a a'∧UpB b b'∧∀x∈s.2.2.2.1,HL a' b' c x
 |0,m,t,a,b,hd,hm,ha,hb,ht=>by omega
 |d+1,m,t,a,b,hd,hm,ha,hb,ht=>by
  obtain ⟨m,rfl⟩:=aq (m:=m) (by omega)
  cases t with
  |false =>
   refine ⟨a,b,?_,ha,hb,fun _ h=>h,fun _ h=>h,ht rfl⟩
   simp only[kX]
   rw[cond_false]
  |true =>
   have hlen:=eN hs.srt hs.arcs
   have hnn:n*n≤500*500:=mul_le_mul hn hn
   obtain ⟨t',a',b',e,h1,h2,h3,h4,h5,h6,h7⟩:=HN k s c4 c hn hs hc s.2.2.2.1.length k 0 false a b (Nat.zero_add _) (by omega) ha hb
   rw[show ((0:Nat):Int)=0 from rfl] at e
   have fin:∃a2 b2,kX k m (n:Int) t' s c4 a' b' c=some (((n:Int),()),(s,(c4,(a2,(b2,())))))∧a2.length=n∧b2.length=n∧UpB a' a2∧UpB b' b2∧∀x∈s.2.2.2.1,HL a2 b2 c x:=by
    cases t' with
    |true =>
     rcases h4 rfl with q | q
     ·cases q
     ·exact HO k s c4 c hk hn hs hc d m true a' b' (by omega) (by omega) h1 h2 (fun q=>by cases q)
    |false =>
     obtain ⟨m,rfl⟩:=aq (m:=m) (by omega)
     obtain ⟨_,g2,g3,g4⟩:=h7 rfl
     refine ⟨a',b',?_,h1,h2,fun _ h=>h,fun _ h=>h,?_⟩
     ·simp only[kX]
      rw[cond_false]
     ·rw[g2,g3]
      rwa [drop_zero] at g4
   obtain ⟨a2,b2,e2,i1,i2,i3,i4,i5⟩:=fin
   refine ⟨a2,b2,?_,i1,i2,fun p hp=>i3 p (h5 p hp),fun p hp=>i4 p (h6 p hp),i5⟩
   simp only[kX]
   rw[cond_true,e,bind_some]
   simp only
   rw[e2]
   rfl
structure iT (n i:Nat) (j:Nat) (z:List Int):Prop where
 len:z.length=n
 rng:∀x,x<i→-1≤getD z x 0∧getD z x 0<(j:Int)
 mon:∀x y,x<y→y<i→0≤getD z x 0→0≤getD z y 0→getD z x 0<getD z y 0
theorem iT.no {n i j:Nat} {z:List Int} (h:iT n i j z) (hi:i<n):iT n (i+1) j (List.set z i (-1)):=by
 have hl:=h.len
 refine ⟨by rw[length_set]; exact hl,fun x hx=>?_,fun x y hxy hy h0 h1=>?_⟩
 ·by_cases e:x=i
  ·subst e
   rw[cS (by omega)]; omega
  ·rw[bL e]
   exact h.rng x (by omega)
 ·by_cases e:y=i
  ·subst e
   rw[cS (by omega)] at h1; omega
  ·rw[bL e] at h1 ⊢
   rw[bL (by omega)] at h0 ⊢
   exact h.mon x y hxy (by omega) h0 h1
theorem iT.yes {n i j:Nat} {z:List Int} (h:iT n i j z) (hi:i<n):iT n (i+1) (j+1) (List.set (List.set z i (-1)) i ((j:Nat):Int)):=by
 have hl:=h.len
 refine ⟨by rw[length_set,length_set]; exact hl,fun x hx=>?_,fun x y hxy hy h0 h1=>?_⟩
 ·by_cases e:x=i
  ·subst e
   rw[cS (by rw[length_set]; omega)]; omega
  ·rw[bL e,bL e]
   have:=h.rng x (by omega)
   omega
 ·have ex:x≠i:=by omega
  rw[bL ex,bL ex] at h0 ⊢
  by_cases e:y=i
  ·subst e
   rw[cS (by rw[length_set]; omega)]
   exact (h.rng x (by omega)).2
  ·rw[bL e,bL e] at h1 ⊢
   exact h.mon x y hxy (by omega) h0 h1
structure lJ (s:ag) (a b:List Bool) (i j:Nat) (l1 l2 l3 z:List Int):Prop where
 dom:∀p,p<i→(0≤getD z p 0↔onB a p∧onB b p)
 val:∀p,p<i→0≤getD z p 0→getD l1 (getD z p 0).toNat 0=getD s.1 p 0∧getD l2 (getD z p 0).toNat 0=getD s.2.1 p 0∧getD l3 (getD z p 0).toNat 0=getD s.2.2.1 p 0
 sur:∀q:Nat,q<j→∃p,p<i∧getD z p 0=(q:Int)
theorem lJ.no {s:ag} {a b:List Bool} {i j n:Nat} {l1 l2 l3 z:List Int} (h:lJ s a b i j l1 l2 l3 z) (hz:z.length=n) (hi:i<n) (hn:¬(onB a i∧onB b i)):lJ s a b (i+1) j l1 l2 l3 (List.set z i (-1)):=by
 refine ⟨fun p hp=>?_,fun p hp h0=>?_,fun q hq=>?_⟩
 ·by_cases e:p=i
  ·subst e
   rw[cS (by omega)]
   exact ⟨fun q=>by omega,fun q=>absurd q hn⟩
  ·rw[bL e]
   exact h.dom p (by omega)
 ·by_cases e:p=i
  ·subst e
   rw[cS (by omega)] at h0
   omega
  ·rw[bL e] at h0 ⊢
   exact h.val p (by omega) h0
 ·obtain ⟨p,h1,h2⟩:=h.sur q hq
  exact ⟨p,by omega,by rw[bL (by omega)]; exact h2⟩
theorem BW {l:List Int} {x:Int} {j:Nat} (h:l.length=j):getD (l++[x]) j 0=x:=by
 rw[getD_eq_getElem?_getD,List.getElem?_append_right (by omega),show j-l.length=0 by omega]
 rfl
theorem lJ.yes {s:ag} {a b:List Bool} {i j n:Nat} {l1 l2 l3 z:List Int} (h:lJ s a b i j l1 l2 l3 z) (hz:iT n i j z) (hi:i<n) (h1:l1.length=j) (h2:l2.length=j) (h3:l3.length=j) (ha:onB a i) (hb:onB b i) :
  lJ s a b (i+1) (j+1) (l1++[getD s.1 i 0]) (l2++[getD s.2.1 i 0]) (l3++[getD s.2.2.1 i 0]) (List.set (List.set z i (-1)) i ((j:Nat):Int)):=by
 have hl:=hz.len
 have e0:getD (List.set (List.set z i (-1)) i ((j:Nat):Int)) i 0=(j:Int):=cS (by rw[length_set]; omega)
 refine ⟨fun p hp=>?_,fun p hp h0=>?_,fun q hq=>?_⟩
 ·by_cases e:p=i
  ·subst e
   rw[e0]
   exact ⟨fun _=>⟨ha,hb⟩,fun _=>by omega⟩
  ·rw[bL e,bL e]
   exact h.dom p (by omega)
 ·by_cases e:p=i
  ·subst e
   rw[e0,tnI j,BW h1,BW h2,BW h3]
   exact ⟨rfl,rfl,rfl⟩
  ·rw[bL e,bL e] at h0 ⊢
   have hr:=hz.rng p (by omega)
   rw[gS _ _ _ _ (by omega),gS _ _ _ _ (by omega),gS _ _ _ _ (by omega)]
   exact h.val p (by omega) h0
 ·by_cases e:q=j
  ·subst e
   exact ⟨i,by omega,e0⟩
  ·obtain ⟨p,h1,h2⟩:=h.sur q (by omega)
   exact ⟨p,by omega,by rw[bL (by omega),bL (by omega)]; exact h2⟩
theorem vy {n M0:Nat} {C:Int} (k:Nat) (s c4:ag) (a b:List Bool) (R:List (Int×(Int×(Int×Unit)))×(Int×Unit)) (hn:n≤500) (hs:bq n C M0 s) (ha:a.length=n) (hb:b.length=n):∀(d m i j:Nat) (l1 l2 l3 z:List Int),i+d=n→d<m→l1.length=j→l2.length=j→l3.length=j→j≤i→iT n i j z→(∀x∈l1,-1≤x∧x<(M0:Int))→(∀x∈l2,CB C x)→(∀x∈l3,CB C x)→lJ s a b i j l1 l2 l3 z →
  ∃(j':Nat) (l1' l2' l3' z':List Int),jP k m (n:Int) (i:Int) s c4 (l1,(l2,(l3,R))) a b z=some ((),(s,(c4,((l1',(l2',(l3',R))),(z',())))))∧l1'.length=j'∧l2'.length=j'∧l3'.length=j'∧j'≤n∧iT n n j' z'∧(∀x∈l1',-1≤x∧x<(M0:Int))∧(∀x∈l2',CB C x)∧(∀x∈l3',CB C x)∧lJ s a b n j' l1' l2' l3' z'
 |0,m,i,j,l1,l2,l3,z,hi,hm,e1,e2,e3,hj,hz,g1,g2,g3,hQ=>by
  obtain ⟨m,rfl⟩:=aq (m:=m) (by omega)
  obtain rfl:i=n:=by omega
  refine ⟨j,l1,l2,l3,z,?_,e1,e2,e3,hj,hz,g1,g2,g3,hQ⟩
  simp only[jP]
  rw[decide_eq_false (by omega),cond_false]
 |d+1,m,i,j,l1,l2,l3,z,hi,hm,e1,e2,e3,hj,hz,g1,g2,g3,hQ=>by
  obtain ⟨m,rfl⟩:=aq (m:=m) (by omega)
  have hls:=hs.ls
  have hlf:=hs.lf
  have hle:=hs.le
  have hzl:=hz.len
  have wi:IntKind.wrap .i64 ((i:Int)+1)=((i+1:Nat):Int):=by rw[w64 _ (by omega) (by omega)]; omega
  have q1:(0:Int)≤(i:Int)∧(i:Int)<((z.length:Nat):Int):=by omega
  have q2:(0:Int)≤(i:Int)∧(i:Int)<((a.length:Nat):Int):=by omega
  have q3:(0:Int)≤(i:Int)∧(i:Int)<((b.length:Nat):Int):=by omega
  have q4:(0:Int)≤(i:Int)∧(i:Int)<(((List.set z i (-1)).length:Nat):Int):=by rw[length_set]; omega
  have q5:(0:Int)≤(i:Int)∧(i:Int)<((s.1.length:Nat):Int):=by omega
  have q6:(0:Int)≤(i:Int)∧(i:Int)<((s.2.1.length:Nat):Int):=by omega
  have q7:(0:Int)≤(i:Int)∧(i:Int)<((s.2.2.1.length:Nat):Int):=by omega
  have no:¬(onB a i∧onB b i)→∃(j':Nat) (l1' l2' l3' z':List Int),(jP k m (n:Int) ((i+1:Nat):Int) s c4 (l1,(l2,(l3,R))) a b (List.set z i (-1))).bind some=some ((),(s,(c4,((l1',(l2',(l3',R))),(z',())))))∧l1'.length=j'∧l2'.length=j'∧l3'.length=j'∧j'≤n∧iT n n j' z'∧(∀x∈l1',-1≤x∧x<(M0:Int))∧(∀x∈l2',CB C x)∧(∀x∈l3',CB C x)∧lJ s a b n j' l1' l2' l3' z':=fun hno=>by
   obtain ⟨j',l1',l2',l3',z',e,h⟩:=vy k s c4 a b R hn hs ha hb d m (i+1) j l1 l2 l3 (List.set z i (-1)) (by omega) (by omega) e1 e2 e3 (by omega) (hz.no (by omega)) g1 g2 g3 (hQ.no hzl (by omega) hno)
   exact ⟨j',l1',l2',l3',z',by rw[e]; rfl,h⟩
  have k1:∀(l:List Int) (x:Int),l.length=j→(l.length+[x].length)*(8*2)≤281474976710656∧l.length+[x].length≤9223372036854775807:=fun l x h=>by rw[h,length_singleton]; omega
  simp only[jP]
  rw[decide_eq_true (by omega),cond_true,if_pos q1,tnI i,if_pos q2,wi]
  cases oa:getD a i false with
  |false =>
   rw[cond_false]
   exact no fun q=>by have:=q.1; unfold onB at this; rw[oa] at this; cases this
  |true =>
   rw[cond_true,if_pos q3]
   cases ob:getD b i false with
   |false =>
    rw[cond_false]
    exact no fun q=>by have:=q.2; unfold onB at this; rw[ob] at this; cases this
   |true =>
    simp only[bD]
    rw[cond_true,if_pos q4,if_pos q5,if_pos q6,if_pos q7,if_pos (k1 l1 _ e1),if_pos (k1 l2 _ e2),if_pos (k1 l3 _ e3),e1]
    have add:∀ {P:Int→Prop} {l:List Int} {x:Int},(∀y∈l,P y)→P x→∀y∈l++[x],P y:=fun h1 h2 y hy=>by
     rcases List.mem_append.1 hy with g | g
     ·exact h1 y g
     ·rw[List.mem_singleton.1 g]; exact h2
    obtain ⟨j',l1',l2',l3',z',e,h⟩:=vy k s c4 a b R hn hs ha hb d m (i+1) (j+1) (l1++[getD s.1 i 0]) (l2++[getD s.2.1 i 0]) (l3++[getD s.2.2.1 i 0]) (List.set (List.set z i (-1)) i ((j:Nat):Int)) (by omega) (by omega) (by simp[e1]) (by simp[e2]) (by simp[e3]) (by omega) (hz.yes (by omega)) (add (P:=fun x=>-1≤x∧x<(M0:Int)) g1 (hs.sets _ (cK (by omega)))) (add g2 (hs.cf _ (cK (by omega)))) (add g3 (hs.ce _ (cK (by omega)))) (hQ.yes hz (by omega) e1 e2 e3 oa ob)
    exact ⟨j',l1',l2',l3',z',by rw[e]; rfl,h⟩
def ft (z:List Int) (x:aF):aF:=(getD z (Int.toNat x.1) 0,(getD z (Int.toNat x.2.1) 0,(x.2.2.1,())))
theorem a6m {n j:Nat} {z:List Int} (hz:iT n n j z) {B:Int} {l:List aF} (hl:cZ n B l) {x y:aF} (hx:x∈l) (hy:y∈l) (h:Lt x y) (h1:0≤(ft z x).1) (h2:0≤(ft z x).2.1) (h3:0≤(ft z y).1) (h4:0≤(ft z y).2.1):Lt (ft z x) (ft z y):=by
 have ax:=hl x hx
 have ay:=hl y hy
 unfold Lt at *
 unfold ft at *
 simp only at *
 rcases h with h | ⟨e,h⟩
 ·left
  exact hz.mon _ _ (by omega) (by omega) h1 h3
 ·right
  rw[e]
  exact ⟨rfl,hz.mon _ _ (by omega) (by omega) h2 h4⟩
structure T6 (s:ag) (z:List Int) (o:List aF):Prop where
 src:∀y∈o,∃x∈s.2.2.2.1,y=ft z x∧0≤getD z x.1.toNat 0∧0≤getD z x.2.1.toNat 0
 has:∀x∈s.2.2.2.1,0≤getD z x.1.toNat 0→0≤getD z x.2.1.toNat 0→ft z x∈o
theorem vz {n M0 j:Nat} {C:Int} (k:Nat) (s c4:ag) (z:List Int) (l1 l2 l3:List Int) (R:Int×Unit) (hn:n≤500) (hs:bq n C M0 s) (hz:iT n n j z):∀(d m i:Nat) (o:List aF),i+d=s.2.2.2.1.length→d<m→o.length≤i→Srt o→cZ j (2*C) o→(∀y∈o,∃x∈s.2.2.2.1.take i,y=ft z x∧0≤getD z x.1.toNat 0∧0≤getD z x.2.1.toNat 0)→(∀x∈s.2.2.2.1.take i,0≤getD z x.1.toNat 0→0≤getD z x.2.1.toNat 0→ft z x∈o) →
  ∃o',je k m (i:Int) s c4 (l1,(l2,(l3,(o,R)))) z=some ((),(c4,((l1,(l2,(l3,(o',R)))),())))∧Srt o'∧cZ j (2*C) o'∧T6 s z o'
 |0,m,i,o,hi,hm,ho,h1,h2,h3,h4=>by
  obtain ⟨m,rfl⟩:=aq (m:=m) (by omega)
  rw[take_of_length_le (by omega)] at h3 h4
  refine ⟨o,?_,h1,h2,h3,h4⟩
  simp only[je]
  rw[decide_eq_false (by omega),cond_false]
 |d+1,m,i,o,hi,hm,ho,h1,h2,h3,h4=>by
  obtain ⟨m,rfl⟩:=aq (m:=m) (by omega)
  have hlt:i<s.2.2.2.1.length:=by omega
  have hlen:=eN hs.srt hs.arcs
  have hnn:n*n≤500*500:=mul_le_mul hn hn
  have hx:=hs.arcs _ (getElem_mem hlt)
  have hzl:=hz.len
  have tk:s.2.2.2.1.take (i+1)=s.2.2.2.1.take i++[s.2.2.2.1[i]]:=take_succ_eq_append_getElem hlt
  have up:∀y∈o,∃x∈s.2.2.2.1.take (i+1),y=ft z x∧0≤getD z x.1.toNat 0∧0≤getD z x.2.1.toNat 0:=fun y hy=>by
   obtain ⟨x,hx,e⟩:=h3 y hy
   exact ⟨x,by rw[tk]; exact mem_append_left _ hx,e⟩
  have skip:¬(0≤getD z s.2.2.2.1[i].1.toNat 0∧0≤getD z s.2.2.2.1[i].2.1.toNat 0)→∃o',(je k m ((i+1:Nat):Int) s c4 (l1,(l2,(l3,(o,R)))) z).bind some=some ((),(c4,((l1,(l2,(l3,(o',R)))),())))∧Srt o'∧cZ j (2*C) o'∧T6 s z o':=fun hno=>by
   obtain ⟨o',e,h⟩:=vz k s c4 z l1 l2 l3 R hn hs hz d m (i+1) o (by omega) (by omega) (by omega) h1 h2 up (fun x hx g1 g2=>by
    rw[tk] at hx
    rcases List.mem_append.1 hx with q | q
    ·exact h4 x q g1 g2
    ·rw[List.mem_singleton.1 q] at g1 g2
     exact absurd ⟨g1,g2⟩ hno)
   exact ⟨o',by rw[e]; rfl,h⟩
  have q1:(0:Int)≤s.2.2.2.1[i].1∧s.2.2.2.1[i].1<((z.length:Nat):Int):=by omega
  have q2:(0:Int)≤s.2.2.2.1[i].2.1∧s.2.2.2.1[i].2.1<((z.length:Nat):Int):=by omega
  simp only[je]
  rw[dlt hlt,cond_true,if_pos (inR hlt),tnI i,ak s.2.2.2.1 i _ hlt,aM i _ hlt (by omega),if_pos q1]
  by_cases g1:getD z (Int.toNat s.2.2.2.1[i].1) 0≥0
  ·rw[decide_eq_true g1,cond_true,if_pos q2]
   by_cases g2:getD z (Int.toNat s.2.2.2.1[i].2.1) 0≥0
   ·rw[decide_eq_true g2,cond_true,if_pos q1,if_pos q2]
    simp only[bD]
    have k1:(o.length+[ft z s.2.2.2.1[i]].length)*(24*2)≤281474976710656∧o.length+[ft z s.2.2.2.1[i]].length≤9223372036854775807:=by rw[length_singleton]; omega
    have k1':(o.length+[((getD z (Int.toNat s.2.2.2.1[i].1) 0),(getD z (Int.toNat s.2.2.2.1[i].2.1) 0,(s.2.2.2.1[i].2.2.1,())))].length)*(24*2)≤281474976710656∧o.length+[((getD z (Int.toNat s.2.2.2.1[i].1) 0),(getD z (Int.toNat s.2.2.2.1[i].2.1) 0,(s.2.2.2.1[i].2.2.1,())))].length≤9223372036854775807:=k1
    rw[if_pos k1']
    have r1:=hz.rng (Int.toNat s.2.2.2.1[i].1) (by omega)
    have r2:=hz.rng (Int.toNat s.2.2.2.1[i].2.1) (by omega)
    obtain ⟨o',e,h⟩:=vz k s c4 z l1 l2 l3 R hn hs hz d m (i+1) (o++[ft z s.2.2.2.1[i]]) (by omega) (by omega) (by simp; omega) (by
     refine List.pairwise_append.2 ⟨h1,pairwise_singleton _ _,fun y hy y2 hy2=>?_⟩
     rw[List.mem_singleton.1 hy2]
     obtain ⟨x,hx2,e,_⟩:=h3 y hy
     have hy3:=h2 y hy
     have hs2:=hs.srt
     unfold Srt at hs2
     rw[←take_append_drop i s.2.2.2.1,drop_eq_getElem_cons hlt] at hs2
     have lt:=(List.pairwise_append.1 hs2).2.2 x hx2 s.2.2.2.1[i] mem_cons_self
     rw[e] at hy3 ⊢
     exact a6m hz hs.arcs (mem_of_mem_take hx2) (getElem_mem hlt) lt hy3.1.1 hy3.2.1.1 g1 g2) (fun y hy=>by
     rcases List.mem_append.1 hy with g | g
     ·exact h2 y g
     ·rw[List.mem_singleton.1 g]
      exact ⟨⟨g1,r1.2⟩,⟨g2,r2.2⟩,hx.2.2⟩) (fun y hy=>by
     rcases List.mem_append.1 hy with g | g
     ·exact up y g
     ·exact ⟨_,by rw[tk]; exact mem_append_right _ (List.mem_singleton.2 rfl),List.mem_singleton.1 g,g1,g2⟩) (fun x hx y1 y2=>by
     rw[tk] at hx
     rcases List.mem_append.1 hx with q | q
     ·exact mem_append_left _ (h4 x q y1 y2)
     ·rw[List.mem_singleton.1 q]
      exact mem_append_right _ (List.mem_singleton.2 rfl))
    refine ⟨o',?_,h⟩
    have e':je k m ((i+1:Nat):Int) s c4 (l1,(l2,(l3,(o++[((getD z (Int.toNat s.2.2.2.1[i].1) 0),(getD z (Int.toNat s.2.2.2.1[i].2.1) 0,(s.2.2.2.1[i].2.2.1,())))],R)))) z=_:=e
    rw[e']
    rfl
   ·rw[decide_eq_false g2,cond_false]
    exact skip fun q=>g2 q.2
  ·rw[decide_eq_false g1,cond_false]
   exact skip fun q=>g1 q.1
structure tZ (M:InT) (s s':ag) (z:List Int) (a b c:List Bool):Prop where
 may:Md M s s.1.length a b c
 cl:∀x∈s.2.2.2.1,HL a b c x
 ren:iT s.1.length s.1.length s'.1.length z
 q:lJ s a b s.1.length s'.1.length s'.1 s'.2.1 s'.2.2.1 z
 non:s'.2.2.2.2.1=s.2.2.2.2.1
 arc:T6 s z s'.2.2.2.1
theorem QQ {n M0:Nat} {C:Int} (k:Nat) (s:ag) (M:List (List Bool)) (hk:10000000≤k) (hn:n≤500) (hs:bq n C M0 s) (hM:M0≤M.length) (hr:∀r∈M,r.length≤2000000):∃(j:Nat) (s':ag),F42 k s M=some ((s',()),())∧j≤n∧bq j C M0 s'∧∃z a b c,tZ M s s' z a b c:=by
 have hls:=hs.ls
 have hlen:=eN hs.srt hs.arcs
 have hnn:n*n≤500*500:=mul_le_mul hn hn
 obtain ⟨a,b,c,e1,ha,hb,hc,hP⟩:=HK k M s sd0 hk hn hs hM hr n k 0 (replicate n false) (replicate n false) (replicate n false) (Nat.zero_add _) (by omega) (by simp) (by simp) (by simp) ⟨fun p x hp=>by omega,fun p hp=>by omega,fun p hp=>by omega⟩
 rw[show ((0:Nat):Int)=0 from rfl] at e1
 have oa:=BV a
 have ob:=BV b
 obtain ⟨a2,b2,e2,ha2,hb2,hua,hub,hcl⟩:=HO k s sd0 c hk hn hs hc (dG a+dG b+1) k true a b (by omega) (by omega) ha hb (fun q=>by cases q)
 obtain ⟨j,l1,l2,l3,z,e3,h1,h2,h3,hj,hz,g1,g2,g3,hQ⟩:=vy k s sd0 a2 b2 ([],(s.2.2.2.2.1,())) hn hs ha2 hb2 n k 0 0 [] [] [] (replicate n 0) (Nat.zero_add _) (by omega) rfl rfl rfl (Nat.le_refl _) ⟨by simp,fun x hx=>by omega,fun x y _ hy=>by omega⟩ (fun x hx=>by cases hx) (fun x hx=>by cases hx) (fun x hx=>by cases hx) ⟨fun p hp=>by omega,fun p hp=>by omega,fun q hq=>by omega⟩
 rw[show ((0:Nat):Int)=0 from rfl] at e3
 obtain ⟨o,e4,h4,h5,h6⟩:=vz k s sd0 z l1 l2 l3 (s.2.2.2.2.1,()) hn hs hz s.2.2.2.1.length k 0 [] (Nat.zero_add _) (by omega) (Nat.le_refl _) List.Pairwise.nil (fun x hx=>by cases hx) (fun x hx=>by cases hx) (fun x hx=>by cases hx)
 rw[show ((0:Nat):Int)=0 from rfl] at e4
 refine ⟨j,(l1,(l2,(l3,(o,(s.2.2.2.2.1,()))))),?_,hj,⟨h1,h2,h3,g2,g3,hs.cn,h4,h5,g1⟩,z,a2,b2,c,⟨fun p x hp ho=>hP.may p x (by omega) ho,fun p hp h7 h8=>hua p (hP.beg p (by omega) h7 h8),fun p hp h7 h8=>hub p (hP.fin p (by omega) h7 h8)⟩,hcl,by rw[hls,h1]; exact hz,by rw[hls,h1]; exact hQ,rfl,h6⟩
 have q1:((0:Int)≤(n:Int)∧(n:Int)<(n:Int)+1)∧(n:Int)≤9223372036854775807∧((1:Nat):Int)*(n:Int)≤281474976710656:=by omega
 have q2:((0:Int)≤(n:Int)∧(n:Int)<(n:Int)+1)∧(n:Int)≤9223372036854775807∧((8:Nat):Int)*(n:Int)≤281474976710656:=by omega
 unfold F42
 simp only
 rw[hls,if_pos q1,if_pos q1,if_pos q1,tnI (n),e1,bind_some]
 simp only
 rw[e2,bind_some]
 simp only
 rw[if_pos q2,tnI (n),e3,bind_some]
 simp only
 rw[e4,bind_some]
abbrev cm:=List (List Bool)
abbrev bw:Int:=1152921504606846976
structure lK (I:InT) (N:Nat) (s:ag):Prop where
 sets:∀x∈s.1,x<((I.length:Nat):Int)
 rows:∀r∈I,r.length=N
theorem QR (k:Nat) (I:InT) (N:Nat) (s:ag) (p a:Nat) (hI:lK I N s) (ha:a<N) (hp:p<s.1.length):F76 k s I (p:Int) (a:Int)=some ((ofP I s p a,()),()):=by
 unfold F76 ofP
 rw[if_pos (inR hp),tnI p]
 have hs:=hI.sets _ (getElem_mem hp)
 rw[ak _ _ _ hp]
 generalize s.1[p]=v at hs ⊢
 by_cases h:v<0
 ·rw[decide_eq_true h,cond_true,Bool.true_or]
 ·rw[decide_eq_false h,cond_false,Bool.false_or,if_pos (inR hp),if_pos ⟨by omega,hs⟩]
  have hl:v.toNat<I.length:=by omega
  have hr:=hI.rows _ (getElem_mem hl)
  rw[ak _ _ _ hl,if_pos ⟨by omega,by rw[hr]; omega⟩]
  rfl
structure SOK (s:ag):Prop where
 lf:s.2.1.length=s.1.length
 le:s.2.2.1.length=s.1.length
 arcs:∀x∈s.2.2.2.1,(0≤x.1∧x.1<((s.1.length:Nat):Int))∧0≤x.2.1∧x.2.1<((s.1.length:Nat):Int)
 ln:s.1.length≤100000
 la:s.2.2.2.1.length≤100000
def gK (I:InT) (s:ag) (a p:Nat):Bool:=decide (getD s.2.2.1 p 0<bw)&&ofP I s p a
def kA (I:InT) (s:ag) (a:Nat) (r:List Bool) (row:List Bool) (x:aF):List Bool:=if ofP I s x.1.toNat a&&getD r x.2.1.toNat false then List.set row x.1.toNat true else row
def gz (I:InT) (s:ag) (a:Nat) (r:List Bool):List Bool:=s.2.2.2.1.foldl (kA I s a r) ((List.range s.1.length).map (gK I s a))
theorem HP (I:InT) (s:ag) (a:Nat) (r row:List Bool) (x:aF):(kA I s a r row x).length=row.length:=by
 unfold kA
 split
 ·exact length_set
 ·rfl
theorem HQ (I:InT) (s:ag) (a:Nat) (r:List Bool):∀(l:List aF) (row:List Bool),(l.foldl (kA I s a r) row).length=row.length
 | [],row=>rfl
 |x::l,row=>by rw[foldl_cons,HQ I s a r l,HP]
theorem QS (I:InT) (s:ag) (a:Nat) (r:List Bool):(gz I s a r).length=s.1.length:=by
 unfold gz
 rw[HQ]
 simp
def gb (n i:Nat) (f:Nat→Bool):List Bool:=(List.range n).map fun p=>decide (p<i)&&f p
theorem HR (n i:Nat) (f:Nat→Bool):(gb n i f).length=n:=by simp[gb]
theorem a7m (n:Nat) (f:Nat→Bool):gb n 0 f=replicate n false:=by
 refine ext_getElem (by simp[gb]) fun i h1 h2=>?_
 simp[gb]
theorem a8m (n:Nat) (f:Nat→Bool):gb n n f=(List.range n).map f:=by
 refine ext_getElem (by simp[gb]) fun i h1 h2=>?_
 have:i<n:=by simpa[gb] using h1
 simp[gb,this]
theorem HS (n i:Nat) (f:Nat→Bool):List.set (gb n i f) i (f i)=gb n (i+1) f:=by
 refine ext_getElem (by simp[gb]) fun j h1 h2=>?_
 have:j<n:=by simpa[gb] using h2
 rw[List.getElem_set]
 simp only[gb,List.getElem_map,List.getElem_range]
 split
 ·rename_i e; subst e; simp
 ·rename_i e
  have:decide (j<i)=decide (j<i+1):=by
   by_cases q:j<i
   ·rw[decide_eq_true q,decide_eq_true (by omega)]
   ·rw[decide_eq_false q,decide_eq_false (by omega)]
  rw[this]
theorem JU {α:Type} (a b c:List α) (i:Nat) (x:α) (h:i<b.length):List.set (a++(b++c)) (a.length+i) x=a++(List.set b i x++c):=by
 rw[List.set_append_right _ _ (by omega),show a.length+i-a.length=i by omega,List.set_append_left _ _ h]
theorem vA {α:Type} (a b c:List α) (i:Nat) (d:α) (h:i<b.length):getD (a++(b++c)) (a.length+i) d=getD b i d:=by
 rw[getD_eq_getElem?_getD,getD_eq_getElem?_getD,List.getElem?_append_right (by omega),show a.length+i-a.length=i by omega,List.getElem?_append_left h]
theorem nI (a b:Nat) (h:a+b≤9223372036854775807):IntKind.wrap .i64 ((a:Int)+(b:Int))=((a+b:Nat):Int):=by
 rw[w64 _ (by omega) (by omega)]
 omega
def bd (I:InT) (ss:List ag) (L:cm) (a:Nat):cm:=List.zipWith (fun s r=>gz I s a r) ss L
def Shp (ss:List ag) (L:cm):Prop:=L.map List.length=ss.map (·.1.length)
def tot (ss:List ag):Nat:=(ss.map (·.1.length)).sum
theorem nJ (s:ag) (ss:List ag):tot (s::ss)=s.1.length+tot ss:=by simp[tot]
theorem jW (a b:List ag):tot (a++b)=tot a+tot b:=by simp[tot]
theorem jq {I:InT} {a:Nat}:∀ {ss:List ag} {L:cm},Shp ss L→Shp ss (bd I ss L a)
 | [],[],_=>rfl
 | [],_::_,h=>by simp[Shp] at h
 |_::_,[],h=>by simp[Shp] at h
 |s::ss,r::L,h=>by
  unfold Shp at h ⊢
  simp only[map_cons,List.cons.injEq] at h
  have:=jq (I:=I) (a:=a) (ss:=ss) (L:=L) h.2
  unfold Shp at this
  simp only[bd,List.zipWith_cons_cons,map_cons,List.cons.injEq,QS,true_and]
  exact this
section
variable (k:Nat) (I:InT) (N:Nat) (s:ag) (a:Nat) (ss:List ag) (L:cm) (t10:Int) (acc:cm)
theorem HT (hs:SOK s) (hI:lK I N s) (ha:a<N):∀(d m i:Nat),i+d=s.1.length→d<m →
  np k m ss I L (a:Int) t10 (i:Int) s (gb s.1.length i (gK I s a)) acc=some ((ss,I,L,(a:Int),t10,()),(s,(List.range s.1.length).map (gK I s a),acc,()))
 |0,m,i,hi,hm=>by
  obtain ⟨m,rfl⟩:=aq (m:=m) (by omega)
  have:i=s.1.length:=by omega
  subst this
  simp only[np]
  rw[decide_eq_false (by rw[HR]; omega),cond_false,a8m]
 |d+1,m,i,hi,hm=>by
  obtain ⟨m,rfl⟩:=aq (m:=m) (by omega)
  have hlt:i<s.1.length:=by omega
  have hlt0:i<(gb s.1.length i (gK I s a)).length:=by rw[HR]; exact hlt
  have hle:=hs.le
  have hln:=hs.ln
  have hlt2:i<s.2.2.1.length:=by omega
  have ih:=HT hs hI ha d m (i+1) (by omega) (by omega)
  simp only[np]
  rw[dlt hlt0,cond_true,QR k I N s i a hI ha hlt,bind_some]
  simp only
  cases ho:ofP I s i a with
  |false =>
   have hend:gK I s a i=false:=by unfold gK; rw[ho,Bool.and_false]
   rw[cond_false,if_pos (inR hlt0),tnI i,aM i _ hlt (by omega)]
   have:=HS s.1.length i (gK I s a)
   rw[hend] at this
   rw[this,ih]
   rfl
  |true =>
   have hend:gK I s a i=decide (getD s.2.2.1 i 0<bw):=by unfold gK; rw[ho,Bool.and_true]
   rw[cond_true,if_pos (inR hlt2),if_pos (inR hlt0),tnI i,aM i _ hlt (by omega)]
   have:=HS s.1.length i (gK I s a)
   rw[hend] at this
   rw[this,ih]
   rfl
theorem HU (hs:SOK s) (hI:lK I N s) (ha:a<N) (j:Nat) (hj:j<L.length) (hr:L[j].length=s.1.length):∀(d m i:Nat) (row:List Bool),i+d=s.2.2.2.1.length→d<m→row.length=s.1.length →
  k8 k m ss I L (a:Int) (j:Int) (i:Int) s row acc=some ((ss,I,L,(a:Int),(j:Int),()),((s.2.2.2.1.drop i).foldl (kA I s a L[j]) row,acc,()))
 |0,m,i,row,hi,hm,hrow=>by
  obtain ⟨m,rfl⟩:=aq (m:=m) (by omega)
  simp only[k8]
  rw[decide_eq_false (by omega),cond_false,drop_eq_nil_of_le (by omega)]
  rfl
 |d+1,m,i,row,hi,hm,hrow=>by
  obtain ⟨m,rfl⟩:=aq (m:=m) (by omega)
  have hlt:i<s.2.2.2.1.length:=by omega
  have hla:=hs.la
  have hln:=hs.ln
  obtain ⟨⟨f0,f1⟩,g0,g1⟩:=hs.arcs _ (getElem_mem hlt)
  have ih:=fun row' hrow'=>HU hs hI ha j hj hr d m (i+1) row' (by omega) (by omega) hrow'
  rw[show s.2.2.2.1.drop i=s.2.2.2.1[i]::s.2.2.2.1.drop (i+1) from drop_eq_getElem_cons hlt,foldl_cons]
  simp only[k8]
  rw[dlt hlt,cond_true,if_pos (inR hlt),tnI i,aM i _ hlt (by omega),ak _ _ _ hlt]
  generalize s.2.2.2.1[i]=x at f0 f1 g0 g1 ⊢
  obtain ⟨x1,hx1⟩:∃n:Nat,x.1=(n:Int):=⟨x.1.toNat,by omega⟩
  obtain ⟨x2,hx2⟩:∃n:Nat,x.2.1=(n:Int):=⟨x.2.1.toNat,by omega⟩
  have n1:x1<s.1.length:=by omega
  have n2:x2<L[j].length:=by omega
  have n3:x1<row.length:=by omega
  have harc:kA I s a L[j] row x=if ofP I s x1 a&&getD L[j] x2 false then List.set row x1 true else row:=by
   unfold kA
   rw[hx1,hx2]
   rfl
  rw[harc,hx1,hx2,QR k I N s x1 a hI ha n1,bind_some]
  simp only
  cases ho:ofP I s x1 a with
  |false =>
   rw[cond_false,Bool.false_and,if_neg (by simp),ih row hrow]
   rfl
  |true =>
   rw[cond_true,if_pos (inR hj),tnI j,ak _ _ _ hj,if_pos (inR n2),tnI x2,Bool.true_and]
   cases h2:getD L[j] x2 false with
   |false =>
    rw[cond_false,if_neg (by simp),ih row hrow]
    rfl
   |true =>
    rw[cond_true,if_pos (inR n3),if_pos rfl,tnI x1,ih _ (by rw[length_set]; exact hrow)]
    rfl
end
end Go.Proofs.YtgmmopbpldgpcaaE

