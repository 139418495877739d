/- Plain laws. Conditions: none. -/
import Derived.Test.YtgmmopbpldgpcaaG1
set_option linter.unusedSimpArgs false
set_option linter.unusedVariables false
open List (append_assoc append_nil cons_append drop drop_eq_getElem_cons drop_eq_nil_of_le drop_length drop_replicate drop_zero ext_getElem flatMap_cons flatten_cons foldl_cons getD getD_cons_succ getD_cons_zero getD_eq_getElem?_getD getElem?_append_left getElem?_eq_none getElem_map getElem_mem length length_append length_cons length_drop length_map length_nil length_replicate length_set length_singleton length_take map_append map_cons map_nil map_take mem_append_left mem_append_right mem_cons mem_cons_of_mem mem_cons_self mem_of_mem_take mem_singleton nil_append not_mem_nil pairwise_singleton replicate replicate_zero set_append_right set_cons_zero sum_cons sum_nil take_append_drop take_length take_of_length_le take_succ_eq_append_getElem take_zero zipWith)
open Option (bind_fun_some bind_some getD_some isSome_some)
open Nat (add_mul mul_le_mul sub_zero zero_le)
open Int (emod_lt_of_pos emod_nonneg mul_nonneg tdiv tmod)
namespace Go.Proofs.YtgmmopbpldgpcaaE
theorem pos1 {m:Nat} (h:0<m):∃m',m=m'+1:=⟨m-1,by omega⟩
theorem tnI (n:Nat):Int.toNat (n:Int)=n:=rfl
theorem w64 (x:Int) (h:-9223372036854775808≤x) (h2:x≤9223372036854775807):IntKind.wrap .i64 x=x:=by
 simp only[IntKind.wrap,IntKind.signed,IntKind.bits,Bool.true_and]
 split
 ·rename_i hc
  have hc':=of_decide_eq_true hc
  omega
 ·rename_i hc
  have hc':¬_:=fun h=>hc (decide_eq_true h)
  omega
theorem wu8 (x:Int):IntKind.wrap .u8 x=x%256:=by
 simp only[IntKind.wrap,IntKind.signed,IntKind.bits]
 simp
theorem getD_lt {α:Type} (l:List α) (i:Nat) (d:α) (h:i<l.length):getD l i d=l[i]:=by
 simp[getD_eq_getElem?_getD,List.getElem?_eq_getElem h]
theorem inR {i n:Nat} (h:i<n):(0:Int)≤(i:Int)∧(i:Int)<((n:Nat):Int):=by omega
theorem dlt {i n:Nat} (h:i<n):decide ((i:Int)<((n:Nat):Int))=true:=by simpa using h
theorem dnlt (n:Nat):decide ((n:Int)<((n:Nat):Int))=false:=by simp
theorem wsucc (i n:Nat) (h:i<n) (hn:n≤9223372036854775807):IntKind.wrap .i64 ((i:Int)+1)=((i+1:Nat):Int):=by
 rw[w64 _ (by omega) (by omega)]; omega
def be8 (n:Int):List Int:=[n/72057594037927936%256,n/281474976710656%256,n/1099511627776%256,n/4294967296%256,n/16777216%256,n/65536%256,n/256%256,n%256]
def valL (l:List Int):Int:=l.foldl (fun n c=>IntKind.wrap .i64 (n*256+c)) 0
def IsB (l:List Int):Prop:=∀x∈l,0≤x∧x≤255
def I64 (n:Int):Prop:=-9223372036854775808≤n∧n≤9223372036854775807
theorem be8_len (n:Int):(be8 n).length=8:=rfl
theorem be8_isB (n:Int):IsB (be8 n):=by
 intro x hx
 simp only[be8,mem_cons,not_mem_nil,or_false] at hx
 omega
theorem wrap_eq {x y:Int} (h:x%18446744073709551616=y%18446744073709551616):IntKind.wrap .i64 x=IntKind.wrap .i64 y:=by
 simp only[IntKind.wrap]
 have:(2:Int)^IntKind.bits .i64=18446744073709551616:=rfl
 simp only[this,h]
theorem valL_be8 (n:Int) (h:I64 n):valL (be8 n)=n:=by
 unfold I64 at h
 simp only[valL,be8,foldl_cons,List.foldl_nil]
 rw[w64 (0*256+_) (by omega) (by omega)]
 rw[w64 ((0*256+n/72057594037927936%256)*256+n/281474976710656%256) (by omega) (by omega)]
 rw[show ((0*256+n/72057594037927936%256)*256+n/281474976710656%256)=n/281474976710656%65536 by omega]
 rw[w64 (n/281474976710656%65536*256+n/1099511627776%256) (by omega) (by omega)]
 rw[show (n/281474976710656%65536*256+n/1099511627776%256)=n/1099511627776%16777216 by omega]
 rw[w64 (n/1099511627776%16777216*256+n/4294967296%256) (by omega) (by omega)]
 rw[show (n/1099511627776%16777216*256+n/4294967296%256)=n/4294967296%4294967296 by omega]
 rw[w64 (n/4294967296%4294967296*256+n/16777216%256) (by omega) (by omega)]
 rw[show (n/4294967296%4294967296*256+n/16777216%256)=n/16777216%1099511627776 by omega]
 rw[w64 (n/16777216%1099511627776*256+n/65536%256) (by omega) (by omega)]
 rw[show (n/16777216%1099511627776*256+n/65536%256)=n/65536%281474976710656 by omega]
 rw[w64 (n/65536%281474976710656*256+n/256%256) (by omega) (by omega)]
 rw[show (n/65536%281474976710656*256+n/256%256)=n/256%72057594037927936 by omega]
 rw[wrap_eq (y:=n) (by omega),w64 n h.1 h.2]
theorem all_append {α:Type} {P:α→Prop} {l:List α} {a:α} (h:∀x∈l,P x) (ha:P a):∀x∈l++[a],P x:=fun x hx=>by
 rcases List.mem_append.1 hx with hx | hx
 ·exact h x hx
 ·rw[List.mem_singleton.1 hx]
  exact ha
theorem nz {n:Nat} (h:0<n):(((n:Nat):Int)==0)=false:=beq_false_of_ne (by omega)
end Go.Proofs.YtgmmopbpldgpcaaE
set_option linter.unusedSimpArgs false
set_option linter.unusedVariables false
set_option maxRecDepth 20000
namespace Go.Proofs.YtgmmopbpldgpcaaE
theorem one_list {α:Type} (d x:α):List.set (replicate 1 d) 0 x=[x]:=(rfl:List.set [d] 0 x=[x]).trans rfl
theorem getD_mem {α:Type} {l:List α} {i:Nat} {d:α} (h:i<l.length):getD l i d∈l:=by
 rw[getD_lt _ _ _ h]
 exact getElem_mem h
theorem getD_set_same {α:Type} {l:List α} {i:Nat} {v d:α} (h:i<l.length):getD (List.set l i v) i d=v:=by
 rw[getD_eq_getElem?_getD,List.getElem?_set_self h]
 rfl
theorem getD_set_ne {α:Type} {l:List α} {i j:Nat} {v d:α} (h:i≠j):getD (List.set l i v) j d=getD l j d:=by
 rw[getD_eq_getElem?_getD,getD_eq_getElem?_getD,List.getElem?_set_ne h]
abbrev ArcT:=Int×(Int×(Int×Unit))
abbrev SideT:=List Int×(List Int×(List Int×(List ArcT×(Int×Unit))))
def ArcsP (n:Nat) (l:List ArcT):Prop:=∀a∈l,(0≤a.1∧a.1<(n:Int))∧0≤a.2.1∧a.2.1<(n:Int)
def Ed (l:List ArcT) (u v:Nat):Prop:=∃a∈l,a.1=(u:Int)∧a.2.1=(v:Int)
def Rch (l:List ArcT) (u v:Nat):Prop:=∀S:Nat→Prop,S u→(∀x y,S x→Ed l x y→S y)→S v
theorem Rch.refl (l:List ArcT) (u:Nat):Rch l u u:=fun S h _=>h
theorem Rch.trans {l:List ArcT} {u v w:Nat} (h:Rch l u v) (h':Rch l v w):Rch l u w:=fun S hu hs=>h' S (h S hu hs) hs
theorem Rch.ed {l:List ArcT} {u v:Nat} (h:Ed l u v):Rch l u v:=fun S hu hs=>hs u v hu h
def tb (M:List (List Bool)) (i j:Nat):Bool:=getD (getD M i []) j false
def setM (M:List (List Bool)) (i j:Nat) (b:Bool):List (List Bool):=List.set M i (List.set (getD M i []) j b)
def Sq (n:Nat) (M:List (List Bool)):Prop:=M.length=n∧∀i,i<n→(getD M i []).length=n
theorem sq_set {n:Nat} {M:List (List Bool)} (h:Sq n M) {i:Nat} (hi:i<n) (j:Nat) (b:Bool):Sq n (setM M i j b):=by
 refine ⟨by unfold setM; rw[length_set]; exact h.1,fun k hk=>?_⟩
 unfold setM
 by_cases e:i=k
 ·subst e
  rw[getD_set_same (by rw[h.1]; exact hi),length_set]
  exact h.2 i hi
 ·rw[getD_set_ne e]
  exact h.2 k hk
theorem tb_set {n:Nat} {M:List (List Bool)} (h:Sq n M) {i j:Nat} (hi:i<n) (hj:j<n) (b:Bool) (a c:Nat):tb (setM M i j b) a c=if a=i∧c=j then b else tb M a c:=by
 unfold tb setM
 by_cases e:i=a
 ·subst e
  rw[getD_set_same (by rw[h.1]; exact hi)]
  by_cases e2:j=c
  ·subst e2
   rw[getD_set_same (by rw[h.2 i hi]; exact hj),if_pos ⟨rfl,rfl⟩]
  ·rw[getD_set_ne e2,if_neg (fun x=>e2 x.2.symm)]
 ·rw[getD_set_ne e,if_neg (fun x=>e x.1.symm)]
def nxt (T:Nat→Nat→Bool) (k a b:Nat):Bool:=T a b||(T a k&&T k b)
theorem nxt_row (T:Nat→Nat→Bool) (k b:Nat):nxt T k k b=T k b:=by unfold nxt; cases T k b<;>simp
theorem nxt_col (T:Nat→Nat→Bool) (k a:Nat):nxt T k a k=T a k:=by unfold nxt; cases T a k<;>simp
def Inv (n:Nat) (T:Nat→Nat→Bool) (k:Nat) (M:List (List Bool)) (i j:Nat):Prop:=Sq n M∧∀a b,a<n→b<n→tb M a b=if a<i∨(a=i∧b<j) then nxt T k a b else T a b
theorem inv_col {n:Nat} {T:Nat→Nat→Bool} {k:Nat} {M:List (List Bool)} {i j:Nat} (h:Inv n T k M i j) (hk:k<n) {a:Nat} (ha:a<n):tb M a k=T a k:=by
 rw[h.2 a k ha hk]
 split
 ·exact nxt_col T k a
 ·rfl
theorem inv_row {n:Nat} {T:Nat→Nat→Bool} {k:Nat} {M:List (List Bool)} {i j:Nat} (h:Inv n T k M i j) (hk:k<n) {b:Nat} (hb:b<n):tb M k b=T k b:=by
 rw[h.2 k b hk hb]
 split
 ·exact nxt_row T k b
 ·rfl
theorem inv_step {n:Nat} {T:Nat→Nat→Bool} {k:Nat} {M:List (List Bool)} {i j:Nat} (h:Inv n T k M i j) (hk:k<n) (hi:i<n) (hj:j<n):Inv n T k (setM M i j (tb M i j||(tb M i k&&tb M k j))) i (j+1):=by
 refine ⟨sq_set h.1 hi j _,fun a b ha hb=>?_⟩
 rw[tb_set h.1 hi hj]
 by_cases e:a=i∧b=j
 ·obtain ⟨rfl,rfl⟩:=e
  rw[if_pos ⟨rfl,rfl⟩,if_pos (by omega),inv_col h hk ha,inv_row h hk hb,h.2 a b ha hb,if_neg (by omega)]
  rfl
 ·rw[if_neg e,h.2 a b ha hb]
  by_cases e2:a<i∨(a=i∧b<j)
  ·rw[if_pos e2,if_pos (by omega)]
  ·rw[if_neg e2,if_neg (by omega)]
theorem F43_2_ok (k n kk i:Nat) (s:SideT) (T:Nat→Nat→Bool) (hk:kk<n) (hi:i<n) (hn:n≤100000):∀(d m j:Nat) (M:List (List Bool)),j+d=n→d<m→Inv n T kk M i j →
  ∃M',F43_2 k m (n:Int) (kk:Int) (i:Int) (j:Int) s M=some (((n:Int),(kk:Int),(i:Int),()),(s,M',()))∧Inv n T kk M' i n
 |0,m,j,M,hj,hm,h=>by
  obtain ⟨m,rfl⟩:=pos1 (m:=m) (by omega)
  obtain rfl:j=n:=by omega
  refine ⟨M,?_,h⟩
  simp only[F43_2]
  rw[decide_eq_false (by omega),cond_false]
 |d+1,m,j,M,hj,hm,h=>by
  obtain ⟨m,rfl⟩:=pos1 (m:=m) (by omega)
  have hjn:j<n:=by omega
  obtain ⟨M',e,hh⟩:=F43_2_ok k n kk i s T hk hi hn d m (j+1) _ (by omega) (by omega) (inv_step h hk hi hjn)
  refine ⟨M',?_,hh⟩
  have hM:=h.1.1
  have hri:=h.1.2 i hi
  have hrk:=h.1.2 kk hk
  have hw:IntKind.wrap .i64 ((j:Int)+1)=((j+1:Nat):Int):=by rw[w64 _ (by omega) (by omega)]; omega
  have ti:Int.toNat (i:Int)=i:=rfl
  have tj:Int.toNat (j:Int)=j:=rfl
  have tk:Int.toNat (kk:Int)=kk:=rfl
  have c1:0≤(i:Int)∧(i:Int)<((M.length:Nat):Int):=by omega
  have c2:0≤(j:Int)∧(j:Int)<(((getD M i []).length:Nat):Int):=by omega
  have c3:0≤(kk:Int)∧(kk:Int)<(((getD M i []).length:Nat):Int):=by omega
  have c4:0≤(kk:Int)∧(kk:Int)<((M.length:Nat):Int):=by omega
  have c5:0≤(j:Int)∧(j:Int)<(((getD M kk []).length:Nat):Int):=by omega
  simp only[F43_2,hw]
  rw[decide_eq_true (show (j:Int)<(n:Int) by omega),cond_true,if_pos c1,if_pos c1,ti,tj,tk,if_pos c2]
  cases h1:getD (getD M i []) j false with
  |true =>
   have e1:tb M i j=true:=h1
   rw[e1,Bool.true_or] at e
   rw[cond_true,if_pos c2]
   exact (congrArg (fun z=>Option.bind z some) e).trans rfl
  |false =>
   have e1:tb M i j=false:=h1
   rw[e1,Bool.false_or] at e
   rw[cond_false,if_pos c1,if_pos c3]
   cases h2:getD (getD M i []) kk false with
   |true =>
    have e2:tb M i kk=true:=h2
    rw[e2,Bool.true_and] at e
    rw[cond_true,if_pos c4,if_pos c5,if_pos c2]
    exact (congrArg (fun z=>Option.bind z some) e).trans rfl
   |false =>
    have e2:tb M i kk=false:=h2
    rw[e2,Bool.false_and] at e
    rw[cond_false,if_pos c2]
    exact (congrArg (fun z=>Option.bind z some) e).trans rfl
theorem inv_next {n:Nat} {T:Nat→Nat→Bool} {k:Nat} {M:List (List Bool)} {i:Nat} (h:Inv n T k M i n):Inv n T k M (i+1) 0:=⟨h.1,fun a b ha hb=>by
 rw[h.2 a b ha hb]
 by_cases e:a<i∨(a=i∧b<n)
 ·rw[if_pos e,if_pos (by omega)]
 ·rw[if_neg e,if_neg (by omega)]⟩
theorem F43_3_ok (k n kk:Nat) (s:SideT) (T:Nat→Nat→Bool) (hk:kk<n) (hn:n≤100000) (hf:10000000≤k):∀(d m i:Nat) (M:List (List Bool)),i+d=n→d<m→Inv n T kk M i 0 →
  ∃M',F43_3 k m (n:Int) (kk:Int) (i:Int) s M=some (((n:Int),(kk:Int),()),(s,M',()))∧Inv n T kk M' n 0
 |0,m,i,M,hi,hm,h=>by
  obtain ⟨m,rfl⟩:=pos1 (m:=m) (by omega)
  obtain rfl:i=n:=by omega
  refine ⟨M,?_,h⟩
  simp only[F43_3]
  rw[decide_eq_false (by omega),cond_false]
 |d+1,m,i,M,hi,hm,h=>by
  obtain ⟨m,rfl⟩:=pos1 (m:=m) (by omega)
  obtain ⟨M1,e1,h1⟩:=F43_2_ok k n kk i s T hk (by omega) hn n k 0 M (by omega) (by omega) h
  obtain ⟨M2,e2,h2⟩:=F43_3_ok k n kk s T hk hn hf d m (i+1) M1 (by omega) (by omega) (inv_next h1)
  refine ⟨M2,?_,h2⟩
  have hw:IntKind.wrap .i64 ((i:Int)+1)=((i+1:Nat):Int):=by rw[w64 _ (by omega) (by omega)]; omega
  rw[show ((0:Nat):Int)=0 from rfl] at e1
  simp only[F43_3]
  rw[decide_eq_true (show (i:Int)<(n:Int) by omega),cond_true,e1,bind_some]
  simp only[hw]
  rw[e2,bind_some]
def WP (n:Nat) (l:List ArcT) (k:Nat) (T:Nat→Nat→Bool):Prop :=
 (∀m a b,m<k→a<n→b<n→T a m=true→T m b=true→T a b=true)∧(∀a,a<n→T a a=true)∧(∀a b,a<n→b<n→Ed l a b→T a b=true)∧∀a b,a<n→b<n→T a b=true→Rch l a b
theorem wp_step {n:Nat} {l:List ArcT} {k:Nat} {T:Nat→Nat→Bool} (h:WP n l k T) (hk:k<n):WP n l (k+1) (nxt T k):=by
 obtain ⟨h1,h2,h3,h4⟩:=h
 have ex:∀a b,nxt T k a b=true↔T a b=true∨(T a k=true∧T k b=true):=fun a b=>by unfold nxt; rw[Bool.or_eq_true,Bool.and_eq_true]
 refine ⟨fun m a b hm ha hb x y=>?_,fun a ha=>(ex a a).2 (Or.inl (h2 a ha)),fun a b ha hb he=>(ex a b).2 (Or.inl (h3 a b ha hb he)),fun a b ha hb x=>?_⟩
 ·rw[ex] at x y ⊢
  by_cases e:m=k
  ·subst e
   right
   constructor
   ·rcases x with x | x
    ·exact x
    ·exact x.1
   ·rcases y with y | y
    ·exact y
    ·exact y.2
  ·have hmk:m<k:=by omega
   rcases x with x | ⟨x1,x2⟩
   ·rcases y with y | ⟨y1,y2⟩
    ·exact Or.inl (h1 m a b hmk ha hb x y)
    ·exact Or.inr ⟨h1 m a k hmk ha hk x y1,y2⟩
   ·rcases y with y | ⟨y1,y2⟩
    ·exact Or.inr ⟨x1,h1 m k b hmk hk hb x2 y⟩
    ·exact Or.inr ⟨x1,y2⟩
 ·rw[ex] at x
  rcases x with x | ⟨x1,x2⟩
  ·exact h4 a b ha hb x
  ·exact (h4 a k ha hk x1).trans (h4 k b hk hb x2)
theorem wp_end {n:Nat} {l:List ArcT} {T:Nat→Nat→Bool} (h:WP n l n T) (hl:ArcsP n l) {u v:Nat} (hu:u<n) (hv:v<n):T u v=true↔Rch l u v:=by
 obtain ⟨h1,h2,h3,h4⟩:=h
 refine ⟨h4 u v hu hv,fun x=>?_⟩
 have:=x (fun w=>w<n∧T u w=true) ⟨hu,h2 u hu⟩ (fun a b ⟨ha,hab⟩ he=>by
  have hb:b<n:=by
   obtain ⟨c,hc,_,c2⟩:=he
   have:=(hl c hc).2
   omega
  exact ⟨hb,h1 a u b ha hu hb hab (h3 a b ha hb he)⟩)
 exact this.2
theorem wp_congr {n:Nat} {l:List ArcT} {k:Nat} {T T':Nat→Nat→Bool} (hk:k≤n) (e:∀a b,a<n→b<n→T a b=T' a b) (h:WP n l k T):WP n l k T':=by
 obtain ⟨h1,h2,h3,h4⟩:=h
 refine ⟨fun m a b hm ha hb x y=>?_,fun a ha=>by rw[←e a a ha ha]; exact h2 a ha,fun a b ha hb he=>by rw[←e a b ha hb]; exact h3 a b ha hb he,fun a b ha hb x=>h4 a b ha hb (by rw[e a b ha hb]; exact x)⟩
 rw[←e a m ha (by omega)] at x
 rw[←e m b (by omega) hb] at y
 rw[←e a b ha hb]
 exact h1 m a b hm ha hb x y
theorem F43_4_ok (k n:Nat) (s:SideT) (l:List ArcT) (hn:n≤100000) (hf:10000000≤k):∀(d m kk:Nat) (M:List (List Bool)),kk+d=n→d<m→Sq n M→WP n l kk (tb M) →
  ∃M',F43_4 k m (n:Int) (kk:Int) s M=some ((),(s,M',()))∧Sq n M'∧WP n l n (tb M')
 |0,m,kk,M,hi,hm,hq,h=>by
  obtain ⟨m,rfl⟩:=pos1 (m:=m) (by omega)
  obtain rfl:kk=n:=by omega
  refine ⟨M,?_,hq,h⟩
  simp only[F43_4]
  rw[decide_eq_false (by omega),cond_false]
 |d+1,m,kk,M,hi,hm,hq,h=>by
  obtain ⟨m,rfl⟩:=pos1 (m:=m) (by omega)
  obtain ⟨M1,e1,h1⟩:=F43_3_ok k n kk s (tb M) (by omega) hn hf n k 0 M (by omega) (by omega) ⟨hq,fun a b ha hb=>by rw[if_neg (by omega)]⟩
  obtain ⟨M2,e2,h2⟩:=F43_4_ok k n s l hn hf d m (kk+1) M1 (by omega) (by omega) h1.1 (wp_congr (by omega) (fun a b ha hb=>by rw[h1.2 a b ha hb,if_pos (by omega)]) (wp_step h (by omega)))
  refine ⟨M2,?_,h2⟩
  have hw:IntKind.wrap .i64 ((kk:Int)+1)=((kk+1:Nat):Int):=by rw[w64 _ (by omega) (by omega)]; omega
  rw[show ((0:Nat):Int)=0 from rfl] at e1
  simp only[F43_4]
  rw[decide_eq_true (show (kk:Int)<(n:Int) by omega),cond_true,e1,bind_some]
  simp only[hw]
  rw[e2,bind_some]
theorem F43_0_ok (k n:Nat) (s:SideT) (hn:n≤100000):∀(d m i:Nat) (M:List (List Bool)),i+d=n→d<m→M.length=n→(∀a,a<i→(getD M a []).length=n∧∀b,b<n→tb M a b=decide (a=b)) →
  ∃M',F43_0 k m (n:Int) (i:Int) s M=some (((n:Int),()),(s,M',()))∧Sq n M'∧∀a b,a<n→b<n→tb M' a b=decide (a=b)
 |0,m,i,M,hi,hm,hl,h=>by
  obtain ⟨m,rfl⟩:=pos1 (m:=m) (by omega)
  obtain rfl:i=n:=by omega
  refine ⟨M,?_,⟨hl,fun a ha=>(h a ha).1⟩,fun a b ha hb=>(h a ha).2 b hb⟩
  simp only[F43_0]
  rw[decide_eq_false (by omega),cond_false]
 |d+1,m,i,M,hi,hm,hl,h=>by
  obtain ⟨m,rfl⟩:=pos1 (m:=m) (by omega)
  have hin:i<n:=by omega
  have hx:(List.set M i (replicate n false)).length=n:=by rw[length_set]; exact hl
  have hrow:getD (List.set M i (replicate n false)) i []=replicate n false:=getD_set_same (by omega)
  obtain ⟨M',e,hh⟩:=F43_0_ok k n s hn d m (i+1) (List.set (List.set M i (replicate n false)) i (List.set (replicate n false) i true)) (by omega) (by omega) (by rw[length_set]; exact hx) (fun a ha=>by
   by_cases e:i=a
   ·subst e
    have hr:getD (List.set (List.set M i (replicate n false)) i (List.set (replicate n false) i true)) i []=List.set (replicate n false) i true:=getD_set_same (by omega)
    refine ⟨by rw[hr]; simp,fun b hb=>?_⟩
    unfold tb
    rw[hr]
    by_cases e2:i=b
    ·subst e2
     rw[getD_set_same (by simpa using hin),decide_eq_true rfl]
    ·rw[getD_set_ne e2,getD_lt _ _ _ (by simpa using hb),List.getElem_replicate,decide_eq_false e2]
   ·have hr:getD (List.set (List.set M i (replicate n false)) i (List.set (replicate n false) i true)) a []=getD M a []:=by rw[getD_set_ne e,getD_set_ne e]
    obtain ⟨g1,g2⟩:=h a (by omega)
    refine ⟨by rw[hr]; exact g1,fun b hb=>?_⟩
    unfold tb
    rw[hr]
    exact g2 b hb)
  refine ⟨M',?_,hh⟩
  have hw:IntKind.wrap .i64 ((i:Int)+1)=((i+1:Nat):Int):=by rw[w64 _ (by omega) (by omega)]; omega
  simp only[F43_0,hw]
  rw[decide_eq_true (show (i:Int)<(n:Int) by omega),cond_true,if_pos (by omega),if_pos (by omega),tnI i,tnI n,hrow,if_pos (by rw[hx]; omega),if_pos (by rw[length_replicate]; omega),e,bind_some]
theorem F43_1_ok (k n:Nat) (s:SideT) (hl:ArcsP n s.2.2.2.1) (hs:s.2.2.2.1.length≤100000):∀(d m i:Nat) (M:List (List Bool)),i+d=s.2.2.2.1.length→d<m→Sq n M→(∀a b,a<n→b<n→(tb M a b=true↔a=b∨Ed (s.2.2.2.1.take i) a b)) →
  ∃M',F43_1 k m (n:Int) (i:Int) s M=some (((n:Int),()),(s,M',()))∧Sq n M'∧∀a b,a<n→b<n→(tb M' a b=true↔a=b∨Ed s.2.2.2.1 a b)
 |0,m,i,M,hi,hm,hq,h=>by
  obtain ⟨m,rfl⟩:=pos1 (m:=m) (by omega)
  obtain rfl:i=s.2.2.2.1.length:=by omega
  rw[take_length] at h
  refine ⟨M,?_,hq,h⟩
  simp only[F43_1]
  rw[dnlt,cond_false]
 |d+1,m,i,M,hi,hm,hq,h=>by
  obtain ⟨m,rfl⟩:=pos1 (m:=m) (by omega)
  have hlt:i<s.2.2.2.1.length:=by omega
  obtain ⟨⟨p1,p2⟩,p3,p4⟩:=hl _ (getElem_mem hlt)
  obtain ⟨u,hu⟩:=Int.eq_ofNat_of_zero_le p1
  obtain ⟨v,hv⟩:=Int.eq_ofNat_of_zero_le p3
  have hun:u<n:=by omega
  have hvn:v<n:=by omega
  have hM:=hq.1
  have hr:=hq.2 u hun
  obtain ⟨M',e,hh⟩:=F43_1_ok k n s hl hs d m (i+1) (setM M u v true) (by omega) (by omega) (sq_set hq hun v true) (fun a b ha hb=>by
   rw[tb_set hq hun hvn]
   have hE:Ed (s.2.2.2.1.take (i+1)) a b↔Ed (s.2.2.2.1.take i) a b∨(a=u∧b=v):=by
    unfold Ed
    rw[List.take_add_one,List.getElem?_eq_getElem hlt]
    constructor
    ·rintro ⟨x,hx,x1,x2⟩
     rcases List.mem_append.1 hx with hx | hx
     ·exact Or.inl ⟨x,hx,x1,x2⟩
     ·right
      have:x=s.2.2.2.1[i]:=by simpa using hx
      subst this
      exact ⟨by omega,by omega⟩
    ·rintro (⟨x,hx,x1,x2⟩ | ⟨rfl,rfl⟩)
     ·exact ⟨x,mem_append_left _ hx,x1,x2⟩
     ·exact ⟨s.2.2.2.1[i],mem_append_right _ (by rw[Option.toList_some]; exact List.mem_singleton.2 rfl),hu,hv⟩
   rw[hE]
   by_cases e:a=u∧b=v
   ·rw[if_pos e]
    exact ⟨fun _=>Or.inr (Or.inr e),fun _=>rfl⟩
   ·rw[if_neg e,h a b ha hb]
    constructor
    ·rintro (x | x)
     ·exact Or.inl x
     ·exact Or.inr (Or.inl x)
    ·rintro (x | x | x)
     ·exact Or.inl x
     ·exact Or.inr x
     ·exact absurd x e)
  refine ⟨M',?_,hh⟩
  have hw:IntKind.wrap .i64 ((i:Int)+1)=((i+1:Nat):Int):=by rw[w64 _ (by omega) (by omega)]; omega
  simp only[F43_1,hw]
  rw[dlt hlt,cond_true,if_pos (inR hlt),tnI i,getD_lt _ _ _ hlt,hu,hv,if_pos (by omega),if_pos (inR hlt),tnI u,if_pos (by omega),tnI v]
  exact (congrArg (fun z=>Option.bind z some) e).trans rfl
def PosP (s:SideT):Prop:=∃a∈s.2.2.2.1,a.2.2.1>0∧Rch s.2.2.2.1 (Int.toNat a.2.1) (Int.toNat a.1)
theorem F43_5_ok (k n:Nat) (s:SideT) (M:List (List Bool)) (hl:ArcsP n s.2.2.2.1) (hs:s.2.2.2.1.length≤100000) (hq:Sq n M) (hw:WP n s.2.2.2.1 n (tb M)):∀(d m i:Nat),i+d=s.2.2.2.1.length→d<m →
  ((∃a∈s.2.2.2.1.drop i,a.2.2.1>0∧Rch s.2.2.2.1 (Int.toNat a.2.1) (Int.toNat a.1))∧F43_5 k m (i:Int) s M=some (.inr ((true,()),())))∨(¬(∃a∈s.2.2.2.1.drop i,a.2.2.1>0∧Rch s.2.2.2.1 (Int.toNat a.2.1) (Int.toNat a.1))∧F43_5 k m (i:Int) s M=some (.inl ((),())))
 |0,m,i,hi,hm=>by
  obtain ⟨m,rfl⟩:=pos1 (m:=m) (by omega)
  obtain rfl:i=s.2.2.2.1.length:=by omega
  right
  refine ⟨(fun ⟨a,ha,_⟩=>by rw[drop_eq_nil_of_le (Nat.le_refl _)] at ha; cases ha),?_⟩
  simp only[F43_5]
  rw[dnlt,cond_false]
 |d+1,m,i,hi,hm=>by
  obtain ⟨m,rfl⟩:=pos1 (m:=m) (by omega)
  have hlt:i<s.2.2.2.1.length:=by omega
  obtain ⟨⟨p1,p2⟩,p3,p4⟩:=hl _ (getElem_mem hlt)
  obtain ⟨u,hu⟩:=Int.eq_ofNat_of_zero_le p1
  obtain ⟨v,hv⟩:=Int.eq_ofNat_of_zero_le p3
  have hun:u<n:=by omega
  have hvn:v<n:=by omega
  have hM:=hq.1
  have hr:=hq.2 v hvn
  have hend:=wp_end hw hl hvn hun
  have hww:IntKind.wrap .i64 ((i:Int)+1)=((i+1:Nat):Int):=by rw[w64 _ (by omega) (by omega)]; omega
  have ih:=F43_5_ok k n s M hl hs hq hw d m (i+1) (by omega) (by omega)
  have hdrop:=drop_eq_getElem_cons hlt
  have hno:∀h:¬(s.2.2.2.1[i].2.2.1>0∧Rch s.2.2.2.1 (Int.toNat s.2.2.2.1[i].2.1) (Int.toNat s.2.2.2.1[i].1)),((∃a∈s.2.2.2.1.drop i,a.2.2.1>0∧Rch s.2.2.2.1 (Int.toNat a.2.1) (Int.toNat a.1))↔∃a∈s.2.2.2.1.drop (i+1),a.2.2.1>0∧Rch s.2.2.2.1 (Int.toNat a.2.1) (Int.toNat a.1)):=fun h=>by
   rw[hdrop]
   constructor
   ·rintro ⟨a,ha,x⟩
    rcases List.mem_cons.1 ha with rfl | ha
    ·exact absurd x h
    ·exact ⟨a,ha,x⟩
   ·rintro ⟨a,ha,x⟩
    exact ⟨a,mem_cons_of_mem _ ha,x⟩
  simp only[F43_5,hww]
  rw[dlt hlt,cond_true,if_pos (inR hlt),tnI i,getD_lt _ _ _ hlt]
  by_cases hp:s.2.2.2.1[i].2.2.1>0
  ·rw[decide_eq_true hp,cond_true,if_pos (by omega),hv,tnI v,if_pos (by omega),hu,tnI u]
   cases ht:getD (getD M v []) u false with
   |true =>
    left
    refine ⟨⟨s.2.2.2.1[i],hdrop▸mem_cons_self,hp,by rw[hu,hv]; exact hend.1 ht⟩,?_⟩
    rw[cond_true]
   |false =>
    have hn:¬(s.2.2.2.1[i].2.2.1>0∧Rch s.2.2.2.1 (Int.toNat s.2.2.2.1[i].2.1) (Int.toNat s.2.2.2.1[i].1)):=fun x=>by
     have h2:=x.2
     rw[hu,hv] at h2
     have:=hend.2 h2
     unfold tb at this
     rw[ht] at this
     cases this
    rw[hno hn,cond_false,bind_fun_some]
    exact ih
  ·rw[decide_eq_false hp,cond_false,hno (fun x=>hp x.1),bind_fun_some]
   exact ih
theorem F43_ok (k n:Nat) (s:SideT) (hn:s.1.length=n) (hn2:n≤20000) (hl:ArcsP n s.2.2.2.1) (hs:s.2.2.2.1.length≤20000) (hf:10000000≤k):∃b,F43 k s=some ((b,()),())∧(b=true↔PosP s):=by
 obtain ⟨M0,e0,q0,h0⟩:=F43_0_ok k n s (by omega) n k 0 (replicate n []) (by omega) (by omega) (by simp) (fun a ha=>by omega)
 obtain ⟨M1,e1,q1,h1⟩:=F43_1_ok k n s hl (by omega) s.2.2.2.1.length k 0 M0 (by omega) (by omega) q0 (fun a b ha hb=>by
  rw[h0 a b ha hb,decide_eq_true_eq]
  constructor
  ·exact Or.inl
  ·rintro (x | ⟨c,hc,_⟩)
   ·exact x
   ·cases hc)
 have w0:WP n s.2.2.2.1 0 (tb M1):=⟨fun m a b hm=>by omega,fun a ha=>(h1 a a ha ha).2 (Or.inl rfl),fun a b ha hb he=>(h1 a b ha hb).2 (Or.inr he),fun a b ha hb x=>by
  rcases (h1 a b ha hb).1 x with rfl | x
  ·exact Rch.refl _ _
  ·exact Rch.ed x⟩
 obtain ⟨M2,e2,q2,w2⟩:=F43_4_ok k n s s.2.2.2.1 (by omega) hf n k 0 M1 (by omega) (by omega) q1 w0
 have e5:=F43_5_ok k n s M2 hl (by omega) q2 w2 s.2.2.2.1.length k 0 (by omega) (by omega)
 rw[show ((0:Nat):Int)=0 from rfl,drop_zero] at e5
 rw[show ((0:Nat):Int)=0 from rfl] at e0 e1 e2
 unfold F43
 rw[hn,if_pos (by omega),tnI n]
 simp only
 rw[e0,bind_some]
 simp only
 rw[e1,bind_some]
 simp only
 rw[e2,bind_some]
 simp only
 rcases e5 with ⟨x,e⟩ | ⟨x,e⟩
 ·rw[e,bind_some]
  exact ⟨true,rfl,fun _=>x,fun _=>rfl⟩
 ·rw[e,bind_some]
  exact ⟨false,rfl,(fun h=>by cases h),fun h=>absurd h x⟩
theorem F67_eq (k:Nat) (a n:Int) (h0:0<n) (h1:n≤4611686018427387904):F67 k a n=some ((a%n,()),()):=by
 have hm:tmod a n=a-n*tdiv a n:=by have:=Int.tmod_add_mul_tdiv a n; omega
 have hlt:tmod a n<n:=Int.tmod_lt_of_pos a h0
 have hgt:-n<tmod a n:=Int.lt_tmod_of_pos a h0
 unfold F67
 rw[if_pos (by omega)]
 by_cases h:tmod a n<0
 ·rw[decide_eq_true h,cond_true,w64 _ (by omega) (by omega)]
  have:a%n=tmod a n+n:=by
   have e:tmod a n+n=(tmod a n+n)%n:=(Int.emod_eq_of_lt (by omega) (by omega)).symm
   rw[e,Int.add_emod_right,hm,Int.sub_mul_emod_self_left]
  rw[this]
 ·rw[decide_eq_false h,cond_false]
  have:a%n=tmod a n:=by
   have e:tmod a n=(tmod a n)%n:=(Int.emod_eq_of_lt (by omega) (by omega)).symm
   rw[e,hm,Int.sub_mul_emod_self_left]
  rw[this]
def cst (l:List ArcT) (u v:Int):Option Int:=(l.find? fun a=>a.1==u&&a.2.1==v).map fun a=>a.2.2.1
def cw (l:List ArcT) (p:List Int) (i:Nat):Int:=(cst l (getD p i 0) (getD p ((i+1)%p.length) 0)).getD 0
def Pls (l:List ArcT) (u v:Nat):Prop:=∃x,Ed l u x∧Rch l x v
theorem Pls.trans {l:List ArcT} {u v w:Nat} (h:Pls l u v) (h':Pls l v w):Pls l u w:=by
 obtain ⟨x,x1,x2⟩:=h
 obtain ⟨y,y1,y2⟩:=h'
 exact ⟨x,x1,(x2.trans (Rch.ed y1)).trans y2⟩
def adI (a b:Int):Int:=minI (a+b) 1152921504606846976
def Cst (a:Int):Prop:=0≤a∧a≤1152921504606846976
theorem F34_ad (k:Nat) (a b:Int) (ha:Cst a) (hb:Cst b):F34 k a b=some ((adI a b,()),()):=by
 unfold Cst at *
 unfold F34 adI
 simp only
 rw[w64 _ (by omega) (by omega)]
def Lt (b a:ArcT):Prop:=b.1<a.1∨b.1=a.1∧b.2.1<a.2.1
instance (b a:ArcT):Decidable (Lt b a):=inferInstanceAs (Decidable (_∨_))
def Srt (l:List ArcT):Prop:=l.Pairwise Lt
def cntA (a:ArcT):List ArcT→Nat
 | []=>0
 |b::l=>if Lt b a then cntA a l+1 else 0
theorem cntA_le (a:ArcT):∀l:List ArcT,cntA a l≤l.length
 | []=>Nat.le_refl _
 |b::l=>by
  unfold cntA
  split
  ·have:=cntA_le a l
   simp only[length_cons]
   omega
  ·exact zero_le _
def insA (a:ArcT):List ArcT→List ArcT
 | []=>[a]
 |b::l=>if Lt b a then b::insA a l else if b.1=a.1∧b.2.1=a.2.1 then (b.1,(b.2.1,(minI b.2.2.1 a.2.2.1,())))::l else a::b::l
theorem insA_eq (a:ArcT):∀l:List ArcT,insA a l=(if cntA a l<l.length∧(getD l (cntA a l) (0,(0,(0,())))).1=a.1∧(getD l (cntA a l) (0,(0,(0,())))).2.1=a.2.1 then
   List.set l (cntA a l) ((getD l (cntA a l) (0,(0,(0,())))).1,((getD l (cntA a l) (0,(0,(0,())))).2.1,(minI (getD l (cntA a l) (0,(0,(0,())))).2.2.1 a.2.2.1,()))) else l.take (cntA a l)++[a]++l.drop (cntA a l))
 | []=>rfl
 |b::l=>by
  unfold insA cntA
  by_cases hb:Lt b a
  ·rw[if_pos hb,if_pos hb,insA_eq a l]
   simp only[length_cons,Nat.add_lt_add_iff_right,getD_cons_succ,List.set_cons_succ,List.take_succ_cons,List.drop_succ_cons,cons_append]
   split<;>rfl
  ·rw[if_neg hb,if_neg hb]
   simp only[length_cons,getD_cons_zero,Nat.zero_lt_succ,true_and,set_cons_zero,take_zero,drop_zero,nil_append]
   split
   ·rfl
   ·rfl
theorem insA_len (a:ArcT):∀l:List ArcT,(insA a l).length≤l.length+1∧l.length≤(insA a l).length
 | []=>⟨Nat.le_refl _,zero_le _⟩
 |b::l=>by
  unfold insA
  have:=insA_len a l
  split
  ·simp only[length_cons]; omega
  ·split<;>(simp only[length_cons]; omega)
theorem F102_0_ok (k:Nat) (l:List ArcT) (a:ArcT) (hl:l.length≤1000000):∀(d m i:Nat),i+d=l.length→d<m→F102_0 k m (i:Int) l a=some ((((i+cntA a (l.drop i):Nat):Int),()),(l,(a,())))
 |0,m,i,hi,hm=>by
  obtain ⟨m,rfl⟩:=pos1 (m:=m) (by omega)
  obtain rfl:i=l.length:=by omega
  simp only[F102_0]
  rw[dnlt,cond_false,drop_length]
  rfl
 |d+1,m,i,hi,hm=>by
  obtain ⟨m,rfl⟩:=pos1 (m:=m) (by omega)
  have hlt:i<l.length:=by omega
  have ih:=F102_0_ok k l a hl d m (i+1) (by omega) (by omega)
  have hg:getD l i (0,(0,(0,())))=l[i]:=getD_lt l i _ hlt
  rw[drop_eq_getElem_cons hlt]
  simp only[F102_0]
  rw[dlt hlt,cond_true,if_pos (inR hlt),tnI i,hg,wsucc i _ hlt (by omega),if_pos (inR hlt),if_pos (inR hlt),ih]
  have e:i+1+cntA a (drop (i+1) l)=i+(cntA a (drop (i+1) l)+1):=by omega
  by_cases h1:l[i].1<a.1
  ·rw[decide_eq_true h1,cond_true,cntA,if_pos (.inl h1),e]
   rfl
  ·rw[decide_eq_false h1,cond_false]
   by_cases h2:l[i].1=a.1
   ·rw[show (l[i].1==a.1)=true from beq_iff_eq.2 h2,cond_true]
    by_cases h3:l[i].2.1<a.2.1
    ·rw[decide_eq_true h3,cond_true,cntA,if_pos (.inr ⟨h2,h3⟩),e]
     rfl
    ·rw[decide_eq_false h3,cond_false,cntA,if_neg (by rintro (q | q); exact h1 q; exact h3 q.2)]
     rfl
   ·rw[beq_false_of_ne h2,cond_false,cntA,if_neg (by rintro (q | q); exact h1 q; exact h2 q.1)]
    rfl
theorem F102_ok (k:Nat) (l:List ArcT) (a:ArcT) (hl:l.length≤1000000) (hk:10000000≤k):F102 k l a=some (((if a.2.2.1≥1152921504606846976 then l else insA a l),()),()):=by
 unfold F102
 simp only[replicate_zero,nil_append,length_nil]
 by_cases hw:a.2.2.1≥1152921504606846976
 ·rw[decide_eq_true hw,cond_true,if_pos hw]
 ·have e:=F102_0_ok k l a hl l.length k 0 (by omega) (by omega)
  rw[show ((0:Nat):Int)=0 from rfl,drop_zero,Nat.zero_add] at e
  have hc:=cntA_le a l
  rw[decide_eq_false hw,cond_false,if_neg hw,e,bind_some,insA_eq]
  simp only
  generalize hp:cntA a l=p at *
  rw[tnI p,tnI (l.length),show Int.toNat 0=0 from rfl,sub_zero,drop_zero]
  have ht:(l.drop p).take (l.length-p)=l.drop p:=take_of_length_le (by rw[length_drop]; omega)
  have hone:List.set (replicate 1 ((0:Int),((0:Int),((0:Int),())))) 0 a=[a]:=one_list _ _
  have hlen:(l.take p).length=p:=by rw[length_take]; omega
  have h0:(0+l.length)*(24*2)≤281474976710656∧0+l.length≤9223372036854775807:=by omega
  have h1:(0+(l.take p).length)*(24*2)≤281474976710656∧0+(l.take p).length≤9223372036854775807:=by omega
  have h2:((l.take p).length+[a].length)*(24*2)≤281474976710656∧(l.take p).length+[a].length≤9223372036854775807:=by rw[length_singleton]; omega
  have h3:((l.take p++[a]).length+(l.drop p).length)*(24*2)≤281474976710656∧(l.take p++[a]).length+(l.drop p).length≤9223372036854775807:=by rw[length_append,length_singleton,length_drop]; omega
  by_cases hlt:p<l.length
  ·have w1:(0:Int)≤0∧(0:Int)≤(p:Int)∧(p:Int)≤((l.length:Nat):Int):=by omega
   have w2:(0:Int)≤(p:Int)∧(p:Int)≤((l.length:Nat):Int)∧((l.length:Nat):Int)≤((l.length:Nat):Int):=by omega
   have hi:=inR hlt
   simp only[dlt hlt,cond_true,if_pos hi]
   by_cases g1:(getD l p ((0:Int),((0:Int),((0:Int),())))).1=a.1
   ·rw[show ((getD l p ((0:Int),((0:Int),((0:Int),())))).1==a.1)=true from beq_iff_eq.2 g1,cond_true]
    by_cases g2:(getD l p ((0:Int),((0:Int),((0:Int),())))).2.1=a.2.1
    ·rw[show ((getD l p ((0:Int),((0:Int),((0:Int),())))).2.1==a.2.1)=true from beq_iff_eq.2 g2,cond_true,if_pos h0,if_pos (⟨hlt,g1,g2⟩:_∧_∧_)]
    ·rw[beq_false_of_ne g2,cond_false,if_pos w1,if_pos w2,ht,hone,if_pos h1,if_pos h2,if_pos h3,if_neg (show ¬(p<l.length∧(getD l p ((0:Int),((0:Int),((0:Int),())))).1=a.1∧(getD l p ((0:Int),((0:Int),((0:Int),())))).2.1=a.2.1) from fun q=>g2 q.2.2)]
   ·rw[beq_false_of_ne g1,cond_false,if_pos w1,if_pos w2,ht,hone,if_pos h1,if_pos h2,if_pos h3,if_neg (show ¬(p<l.length∧(getD l p ((0:Int),((0:Int),((0:Int),())))).1=a.1∧(getD l p ((0:Int),((0:Int),((0:Int),())))).2.1=a.2.1) from fun q=>g1 q.2.1)]
  ·have hpe:p=l.length:=by omega
   rw[decide_eq_false (by omega),cond_false,if_pos (by omega),if_pos (by omega),ht,hone,if_pos h1,if_pos h2,if_pos h3,if_neg (show ¬(p<l.length∧(getD l p ((0:Int),((0:Int),((0:Int),())))).1=a.1∧(getD l p ((0:Int),((0:Int),((0:Int),())))).2.1=a.2.1) from fun q=>hlt q.1)]
theorem lt_key {a b c d:ArcT} (h1:a.1=c.1) (h2:a.2.1=c.2.1) (h3:b.1=d.1) (h4:b.2.1=d.2.1) (h:Lt a b):Lt c d:=by
 unfold Lt at *
 omega
theorem lt_trans {a b c:ArcT} (h:Lt a b) (h':Lt b c):Lt a c:=by
 unfold Lt at *
 omega
theorem insA_mem (a:ArcT):∀(l:List ArcT) (x:ArcT),x∈insA a l→x∈l∨x.1=a.1∧x.2.1=a.2.1∧(x.2.2.1=a.2.2.1∨∃y∈l,x.2.2.1=minI y.2.2.1 a.2.2.1)
 | [],x,h=>by
  rw[insA,mem_singleton] at h
  subst h
  exact .inr ⟨rfl,rfl,.inl rfl⟩
 |b::l,x,h=>by
  unfold insA at h
  split at h
  ·rcases List.mem_cons.1 h with e | e
   ·subst e; exact .inl mem_cons_self
   ·rcases insA_mem a l x e with q | ⟨q1,q2,q3⟩
    ·exact .inl (mem_cons_of_mem _ q)
    ·refine .inr ⟨q1,q2,q3.imp id fun ⟨y,hy,e⟩=>⟨y,mem_cons_of_mem _ hy,e⟩⟩
  ·split at h
   ·rename_i hk
    rcases List.mem_cons.1 h with e | e
    ·subst e; exact .inr ⟨hk.1,hk.2,.inr ⟨b,mem_cons_self,rfl⟩⟩
    ·exact .inl (mem_cons_of_mem _ e)
   ·rcases List.mem_cons.1 h with e | e
    ·subst e; exact .inr ⟨rfl,rfl,.inl rfl⟩
    ·exact .inl e
theorem insA_srt (a:ArcT):∀l:List ArcT,Srt l→Srt (insA a l)
 | [],_=>pairwise_singleton _ _
 |b::l,hs=>by
  obtain ⟨h1,h2⟩:=List.pairwise_cons.1 hs
  unfold insA
  split
  ·rename_i hb
   refine List.pairwise_cons.2 ⟨fun x hx=>?_,insA_srt a l h2⟩
   rcases insA_mem a l x hx with q | ⟨q1,q2,_⟩
   ·exact h1 x q
   ·exact lt_key rfl rfl q1.symm q2.symm hb
  ·rename_i hb
   split
   ·rename_i hk
    exact List.pairwise_cons.2 ⟨fun x hx=>lt_key rfl rfl rfl rfl (h1 x hx),h2⟩
   ·rename_i hk
    have hab:Lt a b:=by
     unfold Lt at hb ⊢
     omega
    refine List.pairwise_cons.2 ⟨fun x hx=>?_,hs⟩
    rcases List.mem_cons.1 hx with e | e
    ·subst e; exact hab
    ·exact lt_trans hab (h1 x e)
def ArcG (n:Nat) (B:Int) (l:List ArcT):Prop:=∀x∈l,(0≤x.1∧x.1<(n:Int))∧(0≤x.2.1∧x.2.1<(n:Int))∧0≤x.2.2.1∧x.2.2.1≤B
theorem insA_arcs {n:Nat} {B:Int} {a:ArcT} {l:List ArcT} (h:ArcG n B l) (ha:ArcG n B [a]):ArcG n B (insA a l):=fun x hx=>by
 have h2:=ha a mem_cons_self
 rcases insA_mem a l x hx with q | ⟨q1,q2,q3⟩
 ·exact h x q
 ·rw[q1,q2]
  refine ⟨h2.1,h2.2.1,?_⟩
  rcases q3 with q | ⟨y,hy,q⟩
  ·rw[q]; exact h2.2.2
  ·have:=h y hy
   rw[q]
   unfold minI
   split<;>omega
theorem srt_len {n:Nat} {B:Int} {l:List ArcT} (hs:Srt l) (h:ArcG n B l):l.length≤n*n:=by
 have key:∀(l:List ArcT) (c:Nat),Srt l→ArcG n B l→(∀x∈l,(c:Int)≤x.1*n+x.2.1)→c+l.length≤n*n∨l=[]:=by
  intro l
  induction l with
  |nil=>intro c _ _ _; exact .inr rfl
  |cons a l ih =>
   intro c hs h hc
   obtain ⟨h1,h2⟩:=List.pairwise_cons.1 hs
   have ga:=h a mem_cons_self
   have ha:=hc a mem_cons_self
   left
   have lt1:a.1*(n:Int)+a.2.1<(n:Int)*n:=by
    have:(a.1+1)*(n:Int)≤n*n:=Int.mul_le_mul_of_nonneg_right (by omega) (by omega)
    rw[Int.add_mul,Int.one_mul] at this
    omega
   have up:∀x∈l,a.1*(n:Int)+a.2.1+1≤x.1*n+x.2.1:=fun x hx=>by
    have gx:=h x (mem_cons_of_mem _ hx)
    have:=h1 x hx
    unfold Lt at this
    rcases this with q | ⟨q1,q2⟩
    ·have:(a.1+1)*(n:Int)≤x.1*n:=Int.mul_le_mul_of_nonneg_right (by omega) (by omega)
     rw[Int.add_mul,Int.one_mul] at this
     omega
    ·rw[q1]; omega
   have hn:((c+1:Nat):Int)≤(n:Int)*n:=by omega
   rcases ih (c+1) h2 (fun x hx=>h x (mem_cons_of_mem _ hx)) (fun x hx=>by have:=up x hx; omega) with q | q
   ·simp only[length_cons]; omega
   ·subst q
    simp only[length_cons,length_nil]
    have:((n*n:Nat):Int)=(n:Int)*n:=by simp
    omega
 rcases key l 0 hs h (fun x hx=>by have:=h x hx; have:0≤x.1*(n:Int):=mul_nonneg (by omega) (by omega); omega) with q | q
 ·omega
 ·subst q; exact zero_le _
abbrev sd (a b c:List Int) (d:List ArcT) (e:Int):SideT:=(a,(b,(c,(d,(e,())))))
theorem set_pre {α:Type} (A rest:List α) (i:Nat) (d:α) (h1:i<A.length) (h2:i<rest.length):List.set (A.take i++rest.drop i) i (getD A i d)=A.take (i+1)++rest.drop (i+1):=by
 rw[drop_eq_getElem_cons h2,set_append_right i _ (by rw[length_take]; omega),show i-(A.take i).length=0 by rw[length_take]; omega,set_cons_zero,getD_lt A i d h1,take_succ_eq_append_getElem h1,append_assoc]
 rfl
theorem set_off {α:Type} (P A rest:List α) (n i:Nat) (d:α) (hP:P.length=n) (h1:i<A.length) (h2:i<rest.length):List.set (P++(A.take i++rest.drop i)) (n+i) (getD A i d)=P++(A.take (i+1)++rest.drop (i+1)):=by
 rw[set_append_right (n+i) _ (by omega),show n+i-P.length=i by omega,set_pre A rest i d h1 h2]
theorem len_pre {α:Type} (A rest:List α) (i:Nat) (h1:i≤A.length) (h2:i≤rest.length):(A.take i++rest.drop i).length=rest.length:=by
 rw[length_append,length_take,length_drop]
 omega
theorem rep_drop {α:Type} (a:α) (n m:Nat):(replicate (n+m) a).drop n=replicate m a:=by
 rw[drop_replicate]
 congr 1
 omega
theorem take_all {α:Type} (A:List α) (n:Nat) (h:A.length=n):A.take n=A:=by rw[←h]; exact take_length
theorem wadd (i j:Nat) (h:i+j≤1000000000):IntKind.wrap .i64 ((i:Int)+(j:Int))=((i+j:Nat):Int):=by
 rw[w64 _ (by omega) (by omega)]
 omega
theorem F96_0_ok (k n:Nat) (c2:SideT) (l:List ArcT) (w:Int) (hn:n≤100000):∀(d m i:Nat),i+d=n→d<m →
  F96_0 k m (n:Int) (i:Int) c2 (sd (replicate i 0) (replicate i 1152921504606846976) (replicate i 1152921504606846976) l w)=some ((),(c2,(sd (replicate n 0) (replicate n 1152921504606846976) (replicate n 1152921504606846976) l w,())))
 |0,m,i,hi,hm=>by
  obtain ⟨m,rfl⟩:=pos1 (m:=m) (by omega)
  obtain rfl:i=n:=by omega
  simp only[F96_0]
  rw[dnlt,cond_false]
 |d+1,m,i,hi,hm=>by
  obtain ⟨m,rfl⟩:=pos1 (m:=m) (by omega)
  have hlt:i<n:=by omega
  have ih:=F96_0_ok k n c2 l w hn d m (i+1) (by omega) (by omega)
  have hc:∀x y:Int,((replicate i x).length+[y].length)*(8*2)≤281474976710656∧(replicate i x).length+[y].length≤9223372036854775807:=fun x y=>by
   rw[length_replicate,length_singleton]; omega
  simp only[F96_0,one_list]
  rw[dlt hlt,cond_true,if_pos (hc _ _),if_pos (hc _ _),if_pos (hc _ _),wsucc i n hlt (by omega)]
  rw[←List.replicate_succ',←List.replicate_succ']
  rw[ih]
  rfl
theorem F96_ok (k n:Nat) (hn:n≤100000) (hk:10000000≤k):F96 k (n:Int)=some ((sd (replicate n 0) (replicate n 1152921504606846976) (replicate n 1152921504606846976) [] 1152921504606846976,()),()):=by
 have h:=F96_0_ok k n (sd [] [] [] [] 0) [] 1152921504606846976 hn n k 0 (by omega) (by omega)
 unfold F96
 have h':F96_0 k k (n:Int) 0 ([],([],([],([],(0,()))))) ([],([],([],([],((1152921504606846976:Int),())))))=_:=h
 rw[h',bind_some]
theorem F95_ok (k:Nat) (hk:10000000≤k):F95 k=some ((sd [] [] [] [] 0,()),()):=by
 have h:=F96_ok k 0 (by omega) hk
 unfold F95
 rw[show (0:Int)=((0:Nat):Int) from rfl,h,bind_some]
 rfl
def shA (n:Nat) (x:ArcT):ArcT:=(x.1+n,(x.2.1+n,(x.2.2.1,())))
theorem F101_0_ok (k:Nat) (a b c4:SideT) (rest:List Int) (f e:List Int) (l:List ArcT) (w:Int) (ha:a.1.length≤100000) (hr:a.1.length≤rest.length):∀(d m i:Nat),i+d=a.1.length→d<m →
  F101_0 k m ((a.1.length:Nat):Int) (i:Int) a b c4 (sd (a.1.take i++rest.drop i) f e l w)=some ((((a.1.length:Nat):Int),()),(a,(b,(c4,(sd (a.1++rest.drop a.1.length) f e l w,())))))
 |0,m,i,hi,hm=>by
  obtain ⟨m,rfl⟩:=pos1 (m:=m) (by omega)
  obtain rfl:i=a.1.length:=by omega
  simp only[F101_0]
  rw[dnlt,cond_false,take_length]
 |d+1,m,i,hi,hm=>by
  obtain ⟨m,rfl⟩:=pos1 (m:=m) (by omega)
  have hlt:i<a.1.length:=by omega
  have ih:=F101_0_ok k a b c4 rest f e l w ha hr d m (i+1) (by omega) (by omega)
  simp only[F101_0]
  rw[dlt hlt,cond_true,if_pos (inR hlt),len_pre a.1 rest i (by omega) (by omega),if_pos (inR (show i<rest.length by omega)),tnI i,set_pre a.1 rest i 0 hlt (by omega),wsucc i _ hlt (by omega),ih]
  rfl
theorem F101_1_ok (k:Nat) (a b c4:SideT) (n:Nat) (P rest:List Int) (f e:List Int) (l:List ArcT) (w:Int) (hn:n≤100000) (hP:P.length=n) (hb:b.1.length≤100000) (hr:b.1.length≤rest.length):∀(d m i:Nat),i+d=b.1.length→d<m →
  F101_1 k m (n:Int) (i:Int) a b c4 (sd (P++(b.1.take i++rest.drop i)) f e l w)=some (((n:Int),()),(a,(b,(c4,(sd (P++(b.1++rest.drop b.1.length)) f e l w,())))))
 |0,m,i,hi,hm=>by
  obtain ⟨m,rfl⟩:=pos1 (m:=m) (by omega)
  obtain rfl:i=b.1.length:=by omega
  simp only[F101_1]
  rw[dnlt,cond_false,take_length]
 |d+1,m,i,hi,hm=>by
  obtain ⟨m,rfl⟩:=pos1 (m:=m) (by omega)
  have hlt:i<b.1.length:=by omega
  have ih:=F101_1_ok k a b c4 n P rest f e l w hn hP hb hr d m (i+1) (by omega) (by omega)
  have hlen:n+i<(P++(b.1.take i++rest.drop i)).length:=by rw[length_append,len_pre b.1 rest i (by omega) (by omega)]; omega
  simp only[F101_1]
  rw[dlt hlt,cond_true,if_pos (inR hlt),wadd n i (by omega),if_pos (inR hlen),tnI (n+i),tnI i,set_off P b.1 rest n i 0 hP hlt (by omega),wsucc i _ hlt (by omega),ih]
  rfl
theorem F101_2_ok (k:Nat) (b c4:SideT) (n:Nat) (A:List ArcT) (g f e:List Int) (w:Int) (hn:n≤100000) (hA:A.length≤1000000) (hb:b.2.2.2.1.length≤1000000) (hr:ArcG 100000 1000000000000 b.2.2.2.1):∀(d m i:Nat),i+d=b.2.2.2.1.length→d<m →
  F101_2 k m (n:Int) (i:Int) b c4 (sd g f e (A++(b.2.2.2.1.take i).map (shA n)) w)=some ((),(c4,(sd g f e (A++b.2.2.2.1.map (shA n)) w,())))
 |0,m,i,hi,hm=>by
  obtain ⟨m,rfl⟩:=pos1 (m:=m) (by omega)
  obtain rfl:i=b.2.2.2.1.length:=by omega
  simp only[F101_2]
  rw[dnlt,cond_false,take_length]
 |d+1,m,i,hi,hm=>by
  obtain ⟨m,rfl⟩:=pos1 (m:=m) (by omega)
  have hlt:i<b.2.2.2.1.length:=by omega
  have ih:=F101_2_ok k b c4 n A g f e w hn hA hb hr d m (i+1) (by omega) (by omega)
  have hx:=hr _ (getElem_mem hlt)
  have hg:getD b.2.2.2.1 i ((0:Int),((0:Int),((0:Int),())))=b.2.2.2.1[i]:=getD_lt _ i _ hlt
  have w1:IntKind.wrap .i64 (b.2.2.2.1[i].1+(n:Int))=b.2.2.2.1[i].1+n:=w64 _ (by omega) (by omega)
  have w2:IntKind.wrap .i64 (b.2.2.2.1[i].2.1+(n:Int))=b.2.2.2.1[i].2.1+n:=w64 _ (by omega) (by omega)
  have hone:List.set (replicate 1 ((0:Int),((0:Int),((0:Int),())))) 0 (b.2.2.2.1[i].1+n,(b.2.2.2.1[i].2.1+n,(b.2.2.2.1[i].2.2.1,())))=[shA n b.2.2.2.1[i]]:=one_list _ _
  have hc:((A++(b.2.2.2.1.take i).map (shA n)).length+[shA n b.2.2.2.1[i]].length)*(24*2)≤281474976710656∧(A++(b.2.2.2.1.take i).map (shA n)).length+[shA n b.2.2.2.1[i]].length≤9223372036854775807:=by
   rw[length_append,length_map,length_take,length_singleton]; omega
  simp only[F101_2]
  rw[dlt hlt,cond_true,if_pos (inR hlt),if_pos (inR hlt),if_pos (inR hlt),tnI i,hg,w1,w2,hone,if_pos hc,wsucc i _ hlt (by omega),append_assoc,show (b.2.2.2.1.take i).map (shA n)++[shA n b.2.2.2.1[i]]=(b.2.2.2.1.take (i+1)).map (shA n) by rw[take_succ_eq_append_getElem hlt,map_append]; rfl,ih]
  rfl
theorem F101_ok (k:Nat) (a b:SideT) (ha:a.1.length≤10000) (hb:b.1.length≤10000) (hA:a.2.2.2.1.length≤1000000) (hB:b.2.2.2.1.length≤1000000) (hr:ArcG 100000 1000000000000 b.2.2.2.1) (hk:10000000≤k) :
  F101 k a b=some ((sd (a.1++b.1) (replicate (a.1.length+b.1.length) 1152921504606846976) (replicate (a.1.length+b.1.length) 1152921504606846976) (a.2.2.2.1++b.2.2.2.1.map (shA a.1.length)) 1152921504606846976,()),()):=by
 have e0:=F101_0_ok k a b (sd [] [] [] [] 0) (replicate (a.1.length+b.1.length) 0) (replicate (a.1.length+b.1.length) 1152921504606846976) (replicate (a.1.length+b.1.length) 1152921504606846976) [] 1152921504606846976 (by omega) (by rw[length_replicate]; omega) a.1.length k 0 (by omega) (by omega)
 rw[rep_drop,take_zero,drop_zero,nil_append,show ((0:Nat):Int)=0 from rfl] at e0
 have e1:=F101_1_ok k a b (sd [] [] [] [] 0) a.1.length a.1 (replicate b.1.length 0) (replicate (a.1.length+b.1.length) 1152921504606846976) (replicate (a.1.length+b.1.length) 1152921504606846976) [] 1152921504606846976 (by omega) rfl (by omega) (by rw[length_replicate]; omega) b.1.length k 0 (by omega) (by omega)
 rw[take_zero,drop_zero,nil_append,show (replicate b.1.length (0:Int)).drop b.1.length=[] by rw[drop_replicate,Nat.sub_self]; rfl,append_nil,show ((0:Nat):Int)=0 from rfl] at e1
 have e2:=F101_2_ok k b (sd [] [] [] [] 0) a.1.length a.2.2.2.1 (a.1++b.1) (replicate (a.1.length+b.1.length) 1152921504606846976) (replicate (a.1.length+b.1.length) 1152921504606846976) 1152921504606846976 (by omega) hA hB hr b.2.2.2.1.length k 0 (by omega) (by omega)
 rw[take_zero,map_nil,append_nil,show ((0:Nat):Int)=0 from rfl] at e2
 have hc:(0+a.2.2.2.1.length)*(24*2)≤281474976710656∧0+a.2.2.2.1.length≤9223372036854775807:=by omega
 unfold F101
 simp only
 rw[wadd a.1.length b.1.length (by omega),F96_ok k _ (by omega) hk,bind_some,e0,bind_some]
 simp only
 rw[e1,bind_some]
 simp only[length_nil]
 rw[if_pos hc,nil_append,e2,bind_some]
def putA (l:List ArcT) (a:ArcT):List ArcT:=if a.2.2.1≥1152921504606846976 then l else insA a l
def foldA (g:Nat→ArcT):Nat→List ArcT→List ArcT
 |0,l=>l
 |m+1,l=>putA (foldA g m l) (g m)
def foldB (g:Nat→Nat→ArcT) (m:Nat):Nat→List ArcT→List ArcT
 |0,l=>l
 |n+1,l=>foldA (g n) m (foldB g m n l)
theorem putA_len (l:List ArcT) (a:ArcT):(putA l a).length≤l.length+1:=by
 unfold putA
 split
 ·omega
 ·exact (insA_len a l).1
theorem foldA_len (g:Nat→ArcT):∀(m:Nat) (l:List ArcT),(foldA g m l).length≤l.length+m
 |0,l=>Nat.le_refl _
 |m+1,l=>by
  have h1:=putA_len (foldA g m l) (g m)
  have h2:=foldA_len g m l
  rw[foldA]
  omega
theorem foldB_len (g:Nat→Nat→ArcT) (m:Nat):∀(n:Nat) (l:List ArcT),(foldB g m n l).length≤l.length+n*m
 |0,l=>by simp[foldB]
 |n+1,l=>by
  have h1:=foldA_len (g n) m (foldB g m n l)
  have h2:=foldB_len g m n l
  rw[foldB,add_mul]
  omega
theorem F102_put (k:Nat) (l:List ArcT) (a:ArcT) (hl:l.length≤1000000) (hk:10000000≤k):F102 k l a=some ((putA l a,()),()):=F102_ok k l a hl hk
theorem getD_map {α β:Type} (f:α→β) (A:List α) (i:Nat) (d:β) (d':α) (h:i<A.length):getD (A.map f) i d=f (getD A i d'):=by
 rw[getD_lt _ i d (by rw[length_map]; exact h),getD_lt A i d' h,getElem_map]
def CstL (l:List Int):Prop:=∀x∈l,Cst x
theorem CstL.at_ {l:List Int} (h:CstL l) {i:Nat} (hi:i<l.length):Cst (getD l i 0):=h _ (getD_mem hi)
structure SdP (s:SideT):Prop where
 n:s.1.length≤500
 lf:s.2.1.length=s.1.length
 le:s.2.2.1.length=s.1.length
 cf:CstL s.2.1
 ce:CstL s.2.2.1
 cn:Cst s.2.2.2.2.1
 la:s.2.2.2.1.length≤400000
 ra:ArcG 100000 1000000000000 s.2.2.2.1
section
variable (k:Nat) (a b c4:SideT)
def catG (a b:SideT) (i j:Nat):ArcT:=((i:Int),(((a.1.length+j:Nat):Int),(adI (getD a.2.2.1 i 0) (getD b.2.1 j 0),())))
theorem F97_0_ok (hk:10000000≤k) (ha:SdP a) (hb:SdP b) (i:Nat) (hi:i<a.1.length) (g f e:List Int) (l:List ArcT) (w:Int) (hl:l.length≤900000):∀(d m j:Nat),j+d=b.1.length→d<m →
  F97_0 k m ((a.1.length:Nat):Int) (i:Int) (j:Int) a b c4 (sd g f e (foldA (catG a b i) j l) w)=some ((((a.1.length:Nat):Int),((i:Int),())),(a,(b,(c4,(sd g f e (foldA (catG a b i) b.1.length l) w,())))))
 |0,m,j,hj,hm=>by
  obtain ⟨m,rfl⟩:=pos1 (m:=m) (by omega)
  obtain rfl:j=b.1.length:=by omega
  simp only[F97_0]
  rw[dnlt,cond_false]
 |d+1,m,j,hj,hm=>by
  obtain ⟨m,rfl⟩:=pos1 (m:=m) (by omega)
  have hlt:j<b.1.length:=by omega
  have ih:=F97_0_ok hk ha hb i hi g f e l w hl d m (j+1) (by omega) (by omega)
  have h1:=ha.n
  have h2:=hb.n
  have h3:=ha.le
  have h4:=hb.lf
  have hlen:=foldA_len (catG a b i) j l
  simp only[F97_0]
  rw[dlt hlt,cond_true,if_pos (inR (show i<a.2.2.1.length by omega)),if_pos (inR (show j<b.2.1.length by omega)),tnI i,tnI j,F34_ad k _ _ (ha.ce.at_ (by omega)) (hb.cf.at_ (by omega)),bind_some]
  simp only
  rw[wadd a.1.length j (by omega),F102_put k _ _ (by omega) hk,bind_some,wsucc j _ hlt (by omega)]
  simp only
  have e1:putA (foldA (catG a b i) j l) ((i:Int),(((a.1.length+j:Nat):Int),(adI (getD a.2.2.1 i 0) (getD b.2.1 j 0),())))=foldA (catG a b i) (j+1) l:=rfl
  rw[e1,ih]
  rfl
theorem F97_1_ok (hk:10000000≤k) (ha:SdP a) (hb:SdP b) (g rf re:List Int) (l:List ArcT) (w:Int) (hl:l.length≤600000) (hrf:a.1.length≤rf.length) (hre:a.1.length≤re.length):∀(d m i:Nat),i+d=a.1.length→d<m →
  F97_1 k m ((a.1.length:Nat):Int) (i:Int) a b c4 (sd g (a.2.1.take i++rf.drop i) ((a.2.2.1.map fun x=>adI x b.2.2.2.2.1).take i++re.drop i) (foldB (catG a b) b.1.length i l) w) =
   some ((((a.1.length:Nat):Int),()),(a,(b,(c4,(sd g (a.2.1++rf.drop a.1.length) ((a.2.2.1.map fun x=>adI x b.2.2.2.2.1)++re.drop a.1.length) (foldB (catG a b) b.1.length a.1.length l) w,())))))
 |0,m,i,hi,hm=>by
  obtain ⟨m,rfl⟩:=pos1 (m:=m) (by omega)
  obtain rfl:i=a.1.length:=by omega
  simp only[F97_1]
  rw[dnlt,cond_false,take_all a.2.1 _ ha.lf,take_all (a.2.2.1.map _) _ (by rw[length_map]; exact ha.le)]
 |d+1,m,i,hi,hm=>by
  obtain ⟨m,rfl⟩:=pos1 (m:=m) (by omega)
  have hlt:i<a.1.length:=by omega
  have ih:=F97_1_ok hk ha hb g rf re l w hl hrf hre d m (i+1) (by omega) (by omega)
  have h1:=ha.n
  have h2:=hb.n
  have h3:=ha.lf
  have h4:=ha.le
  have hlen:=foldB_len (catG a b) b.1.length i l
  have hmul:i*b.1.length≤500*500:=mul_le_mul (by omega) h2
  have hme:(a.2.2.1.map fun x=>adI x b.2.2.2.2.1).length=a.1.length:=by rw[length_map]; exact h4
  have ge:adI (getD a.2.2.1 i 0) b.2.2.2.2.1=getD (a.2.2.1.map fun x=>adI x b.2.2.2.2.1) i 0:=(getD_map (fun x=>adI x b.2.2.2.2.1) _ i 0 0 (by omega)).symm
  have e0:=F97_0_ok k a b c4 hk ha hb i hlt g (a.2.1.take (i+1)++rf.drop (i+1)) ((a.2.2.1.map fun x=>adI x b.2.2.2.2.1).take (i+1)++re.drop (i+1)) (foldB (catG a b) b.1.length i l) w (by omega) b.1.length k 0 (by omega) (by omega)
  rw[show ((0:Nat):Int)=0 from rfl,foldA] at e0
  simp only[F97_1]
  rw[dlt hlt,cond_true,if_pos (inR (show i<a.2.1.length by omega)),if_pos (inR (show i<a.2.2.1.length by omega)),tnI i,F34_ad k _ _ (ha.ce.at_ (by omega)) hb.cn,bind_some]
  simp only
  rw[len_pre a.2.1 rf i (by omega) (by omega),len_pre (a.2.2.1.map _) re i (by omega) (by omega),if_pos (inR (show i<rf.length by omega)),if_pos (inR (show i<re.length by omega)),set_pre a.2.1 rf i 0 (by omega) (by omega),ge,set_pre (a.2.2.1.map _) re i 0 (by omega) (by omega),e0,bind_some]
  simp only
  rw[wsucc i _ hlt (by omega)]
  have e1:foldA (catG a b i) b.1.length (foldB (catG a b) b.1.length i l)=foldB (catG a b) b.1.length (i+1) l:=rfl
  rw[e1,ih]
  rfl
theorem F97_2_ok (hk:10000000≤k) (ha:SdP a) (hb:SdP b) (n:Nat) (hn:n≤10000) (g P Q rf re:List Int) (hP:P.length=n) (hQ:Q.length=n) (l:List ArcT) (w:Int) (hrf:b.1.length≤rf.length) (hre:b.1.length≤re.length):∀(d m i:Nat),i+d=b.1.length→d<m →
  F97_2 k m (n:Int) (i:Int) a b c4 (sd g (P++((b.2.1.map fun x=>adI a.2.2.2.2.1 x).take i++rf.drop i)) (Q++(b.2.2.1.take i++re.drop i)) l w) =
   some ((),(c4,(sd g (P++((b.2.1.map fun x=>adI a.2.2.2.2.1 x)++rf.drop b.1.length)) (Q++(b.2.2.1++re.drop b.1.length)) l w,())))
 |0,m,i,hi,hm=>by
  obtain ⟨m,rfl⟩:=pos1 (m:=m) (by omega)
  obtain rfl:i=b.1.length:=by omega
  simp only[F97_2]
  rw[dnlt,cond_false,take_all b.2.2.1 _ hb.le,take_all (b.2.1.map _) _ (by rw[length_map]; exact hb.lf)]
 |d+1,m,i,hi,hm=>by
  obtain ⟨m,rfl⟩:=pos1 (m:=m) (by omega)
  have hlt:i<b.1.length:=by omega
  have ih:=F97_2_ok hk ha hb n hn g P Q rf re hP hQ l w hrf hre d m (i+1) (by omega) (by omega)
  have h1:=ha.n
  have h2:=hb.n
  have h3:=hb.lf
  have h4:=hb.le
  have hme:(b.2.1.map fun x=>adI a.2.2.2.2.1 x).length=b.1.length:=by rw[length_map]; exact h3
  have ge:adI a.2.2.2.2.1 (getD b.2.1 i 0)=getD (b.2.1.map fun x=>adI a.2.2.2.2.1 x) i 0:=(getD_map (fun x=>adI a.2.2.2.2.1 x) _ i 0 0 (by omega)).symm
  have l1:n+i<(P++((b.2.1.map fun x=>adI a.2.2.2.2.1 x).take i++rf.drop i)).length:=by rw[length_append,len_pre _ rf i (by omega) (by omega)]; omega
  have l2:n+i<(Q++(b.2.2.1.take i++re.drop i)).length:=by rw[length_append,len_pre _ re i (by omega) (by omega)]; omega
  simp only[F97_2]
  rw[dlt hlt,cond_true,if_pos (inR (show i<b.2.1.length by omega)),if_pos (inR (show i<b.2.2.1.length by omega)),tnI i,F34_ad k _ _ ha.cn (hb.cf.at_ (by omega)),bind_some]
  simp only
  rw[wadd n i (by omega),if_pos (inR l1),if_pos (inR l2),tnI (n+i),ge,set_off P (b.2.1.map _) rf n i 0 hP (by omega) (by omega),set_off Q b.2.2.1 re n i 0 hQ (by omega) (by omega),wsucc i _ hlt (by omega),ih]
  rfl
def catS (a b:SideT):SideT:=sd (a.1++b.1) (a.2.1++b.2.1.map fun x=>adI a.2.2.2.2.1 x) ((a.2.2.1.map fun x=>adI x b.2.2.2.2.1)++b.2.2.1) (foldB (catG a b) b.1.length a.1.length (a.2.2.2.1++b.2.2.2.1.map (shA a.1.length))) (adI a.2.2.2.2.1 b.2.2.2.2.1)
theorem F97_ok (hk:10000000≤k) (ha:SdP a) (hb:SdP b) (hl:a.2.2.2.1.length+b.2.2.2.1.length≤600000):F97 k a b=some ((catS a b,()),()):=by
 have h1:=ha.n
 have h2:=hb.n
 have h3:=ha.lf
 have h4:=ha.le
 have h5:=hb.lf
 have h6:=hb.le
 have h7:=ha.la
 have h8:=hb.la
 have e1:=F97_1_ok k a b (sd [] [] [] [] 0) hk ha hb (a.1++b.1) (replicate (a.1.length+b.1.length) 1152921504606846976) (replicate (a.1.length+b.1.length) 1152921504606846976) (a.2.2.2.1++b.2.2.2.1.map (shA a.1.length)) (adI a.2.2.2.2.1 b.2.2.2.2.1) (by rw[length_append,length_map]; omega) (by rw[length_replicate]; omega) (by rw[length_replicate]; omega) a.1.length k 0 (by omega) (by omega)
 rw[rep_drop,take_zero,take_zero,drop_zero,nil_append,show ((0:Nat):Int)=0 from rfl,foldB] at e1
 have e2:=F97_2_ok k a b (sd [] [] [] [] 0) hk ha hb a.1.length (by omega) (a.1++b.1) a.2.1 (a.2.2.1.map fun x=>adI x b.2.2.2.2.1) (replicate b.1.length 1152921504606846976) (replicate b.1.length 1152921504606846976) h3 (by rw[length_map]; exact h4) (foldB (catG a b) b.1.length a.1.length (a.2.2.2.1++b.2.2.2.1.map (shA a.1.length))) (adI a.2.2.2.2.1 b.2.2.2.2.1) (by rw[length_replicate]; omega) (by rw[length_replicate]; omega) b.1.length k 0 (by omega) (by omega)
 have hnil:(replicate b.1.length (1152921504606846976:Int)).drop b.1.length=[]:=by rw[drop_replicate,Nat.sub_self]; rfl
 rw[hnil,append_nil,append_nil,take_zero,take_zero,drop_zero,nil_append,show ((0:Nat):Int)=0 from rfl] at e2
 unfold F97
 rw[F101_ok k a b (by omega) (by omega) (by omega) (by omega) hb.ra hk,bind_some,F34_ad k _ _ ha.cn hb.cn,bind_some]
 simp only
 rw[e1,bind_some]
 simp only
 rw[e2,bind_some]
 rfl
theorem F98_0_ok (ha:SdP a) (g rf re:List Int) (l:List ArcT) (w:Int) (hrf:a.1.length≤rf.length) (hre:a.1.length≤re.length):∀(d m i:Nat),i+d=a.1.length→d<m →
  F98_0 k m ((a.1.length:Nat):Int) (i:Int) a b c4 (sd g (a.2.1.take i++rf.drop i) (a.2.2.1.take i++re.drop i) l w) =
   some ((((a.1.length:Nat):Int),()),(b,(c4,(sd g (a.2.1++rf.drop a.1.length) (a.2.2.1++re.drop a.1.length) l w,()))))
 |0,m,i,hi,hm=>by
  obtain ⟨m,rfl⟩:=pos1 (m:=m) (by omega)
  obtain rfl:i=a.1.length:=by omega
  simp only[F98_0]
  rw[dnlt,cond_false,take_all a.2.1 _ ha.lf,take_all a.2.2.1 _ ha.le]
 |d+1,m,i,hi,hm=>by
  obtain ⟨m,rfl⟩:=pos1 (m:=m) (by omega)
  have hlt:i<a.1.length:=by omega
  have ih:=F98_0_ok ha g rf re l w hrf hre d m (i+1) (by omega) (by omega)
  have h1:=ha.n
  have h3:=ha.lf
  have h4:=ha.le
  simp only[F98_0]
  rw[dlt hlt,cond_true,if_pos (inR (show i<a.2.1.length by omega)),if_pos (inR (show i<a.2.2.1.length by omega)),len_pre a.2.1 rf i (by omega) (by omega),len_pre a.2.2.1 re i (by omega) (by omega),if_pos (inR (show i<rf.length by omega)),if_pos (inR (show i<re.length by omega)),tnI i,set_pre a.2.1 rf i 0 (by omega) (by omega),set_pre a.2.2.1 re i 0 (by omega) (by omega),wsucc i _ hlt (by omega),ih]
  rfl
theorem F98_1_ok (hb:SdP b) (n:Nat) (hn:n≤10000) (g P Q rf re:List Int) (hP:P.length=n) (hQ:Q.length=n) (l:List ArcT) (w:Int) (hrf:b.1.length≤rf.length) (hre:b.1.length≤re.length):∀(d m i:Nat),i+d=b.1.length→d<m →
  F98_1 k m (n:Int) (i:Int) b c4 (sd g (P++(b.2.1.take i++rf.drop i)) (Q++(b.2.2.1.take i++re.drop i)) l w) =
   some ((),(c4,(sd g (P++(b.2.1++rf.drop b.1.length)) (Q++(b.2.2.1++re.drop b.1.length)) l w,())))
 |0,m,i,hi,hm=>by
  obtain ⟨m,rfl⟩:=pos1 (m:=m) (by omega)
  obtain rfl:i=b.1.length:=by omega
  simp only[F98_1]
  rw[dnlt,cond_false,take_all b.2.2.1 _ hb.le,take_all b.2.1 _ hb.lf]
 |d+1,m,i,hi,hm=>by
  obtain ⟨m,rfl⟩:=pos1 (m:=m) (by omega)
  have hlt:i<b.1.length:=by omega
  have ih:=F98_1_ok hb n hn g P Q rf re hP hQ l w hrf hre d m (i+1) (by omega) (by omega)
  have h2:=hb.n
  have h3:=hb.lf
  have h4:=hb.le
  have l1:n+i<(P++(b.2.1.take i++rf.drop i)).length:=by rw[length_append,len_pre _ rf i (by omega) (by omega)]; omega
  have l2:n+i<(Q++(b.2.2.1.take i++re.drop i)).length:=by rw[length_append,len_pre _ re i (by omega) (by omega)]; omega
  simp only[F98_1]
  rw[dlt hlt,cond_true,if_pos (inR (show i<b.2.1.length by omega)),if_pos (inR (show i<b.2.2.1.length by omega)),tnI i,wadd n i (by omega),if_pos (inR l1),if_pos (inR l2),tnI (n+i),set_off P b.2.1 rf n i 0 hP (by omega) (by omega),set_off Q b.2.2.1 re n i 0 hQ (by omega) (by omega),wsucc i _ hlt (by omega),ih]
  rfl
def altS (a b:SideT):SideT:=sd (a.1++b.1) (a.2.1++b.2.1) (a.2.2.1++b.2.2.1) (a.2.2.2.1++b.2.2.2.1.map (shA a.1.length)) (minI a.2.2.2.2.1 b.2.2.2.2.1)
theorem F98_ok (hk:10000000≤k) (ha:SdP a) (hb:SdP b):F98 k a b=some ((altS a b,()),()):=by
 have h1:=ha.n
 have h2:=hb.n
 have h3:=ha.lf
 have h4:=ha.le
 have h7:=ha.la
 have h8:=hb.la
 have e1:=F98_0_ok k a b (sd [] [] [] [] 0) ha (a.1++b.1) (replicate (a.1.length+b.1.length) 1152921504606846976) (replicate (a.1.length+b.1.length) 1152921504606846976) (a.2.2.2.1++b.2.2.2.1.map (shA a.1.length)) (minI a.2.2.2.2.1 b.2.2.2.2.1) (by rw[length_replicate]; omega) (by rw[length_replicate]; omega) a.1.length k 0 (by omega) (by omega)
 rw[rep_drop,take_zero,take_zero,drop_zero,nil_append,show ((0:Nat):Int)=0 from rfl] at e1
 have e2:=F98_1_ok k b (sd [] [] [] [] 0) hb a.1.length (by omega) (a.1++b.1) a.2.1 a.2.2.1 (replicate b.1.length 1152921504606846976) (replicate b.1.length 1152921504606846976) h3 h4 (a.2.2.2.1++b.2.2.2.1.map (shA a.1.length)) (minI a.2.2.2.2.1 b.2.2.2.2.1) (by rw[length_replicate]; omega) (by rw[length_replicate]; omega) b.1.length k 0 (by omega) (by omega)
 have hnil:(replicate b.1.length (1152921504606846976:Int)).drop b.1.length=[]:=by rw[drop_replicate,Nat.sub_self]; rfl
 rw[hnil,append_nil,append_nil,take_zero,take_zero,drop_zero,nil_append,show ((0:Nat):Int)=0 from rfl] at e2
 unfold F98
 rw[F101_ok k a b (by omega) (by omega) (by omega) (by omega) hb.ra hk,bind_some]
 simp only
 rw[e1,bind_some]
 simp only
 rw[e2,bind_some]
 rfl
def starG (a:SideT) (i j:Nat):ArcT:=((i:Int),((j:Int),(adI (getD a.2.2.1 i 0) (getD a.2.1 j 0),())))
theorem F99_0_ok (hk:10000000≤k) (ha:SdP a) (i:Nat) (hi:i<a.1.length) (l:List ArcT) (hl:l.length≤900000):∀(d m j:Nat),j+d=a.1.length→d<m →
  F99_0 k m (i:Int) (j:Int) a c4 (foldA (starG a i) j l)=some (((i:Int),()),(a,(c4,(foldA (starG a i) a.1.length l,()))))
 |0,m,j,hj,hm=>by
  obtain ⟨m,rfl⟩:=pos1 (m:=m) (by omega)
  obtain rfl:j=a.1.length:=by omega
  simp only[F99_0]
  rw[dnlt,cond_false]
 |d+1,m,j,hj,hm=>by
  obtain ⟨m,rfl⟩:=pos1 (m:=m) (by omega)
  have hlt:j<a.1.length:=by omega
  have ih:=F99_0_ok hk ha i hi l hl d m (j+1) (by omega) (by omega)
  have h1:=ha.n
  have h3:=ha.le
  have h4:=ha.lf
  have hlen:=foldA_len (starG a i) j l
  simp only[F99_0]
  rw[dlt hlt,cond_true,if_pos (inR (show i<a.2.2.1.length by omega)),if_pos (inR (show j<a.2.1.length by omega)),tnI i,tnI j,F34_ad k _ _ (ha.ce.at_ (by omega)) (ha.cf.at_ (by omega)),bind_some]
  simp only
  rw[F102_put k _ _ (by omega) hk,bind_some,wsucc j _ hlt (by omega)]
  simp only
  have e1:putA (foldA (starG a i) j l) ((i:Int),((j:Int),(adI (getD a.2.2.1 i 0) (getD a.2.1 j 0),())))=foldA (starG a i) (j+1) l:=rfl
  rw[e1,ih]
  rfl
theorem F99_1_ok (hk:10000000≤k) (ha:SdP a) (l:List ArcT) (hl:l.length≤600000):∀(d m i:Nat),i+d=a.1.length→d<m →
  F99_1 k m (i:Int) a c4 (foldB (starG a) a.1.length i l)=some ((),(a,(c4,(foldB (starG a) a.1.length a.1.length l,()))))
 |0,m,i,hi,hm=>by
  obtain ⟨m,rfl⟩:=pos1 (m:=m) (by omega)
  obtain rfl:i=a.1.length:=by omega
  simp only[F99_1]
  rw[dnlt,cond_false]
 |d+1,m,i,hi,hm=>by
  obtain ⟨m,rfl⟩:=pos1 (m:=m) (by omega)
  have hlt:i<a.1.length:=by omega
  have ih:=F99_1_ok hk ha l hl d m (i+1) (by omega) (by omega)
  have h1:=ha.n
  have hlen:=foldB_len (starG a) a.1.length i l
  have hmul:i*a.1.length≤500*500:=mul_le_mul (by omega) h1
  have e0:=F99_0_ok k a c4 hk ha i hlt (foldB (starG a) a.1.length i l) (by omega) a.1.length k 0 (by omega) (by omega)
  rw[show ((0:Nat):Int)=0 from rfl,foldA] at e0
  simp only[F99_1]
  rw[dlt hlt,cond_true,e0,bind_some]
  simp only
  rw[wsucc i _ hlt (by omega)]
  have e1:foldA (starG a i) a.1.length (foldB (starG a) a.1.length i l)=foldB (starG a) a.1.length (i+1) l:=rfl
  rw[e1,ih]
  rfl
def starS (a:SideT):SideT:=sd a.1 a.2.1 a.2.2.1 (foldB (starG a) a.1.length a.1.length a.2.2.2.1) 0
theorem F99_ok (hk:10000000≤k) (ha:SdP a):F99 k a=some ((starS a,()),()):=by
 have h7:=ha.la
 have ha':SdP (sd a.1 a.2.1 a.2.2.1 a.2.2.2.1 0):=⟨ha.n,ha.lf,ha.le,ha.cf,ha.ce,⟨Int.le_refl _,(by decide:(0:Int)≤1152921504606846976)⟩,ha.la,ha.ra⟩
 have e:=F99_1_ok k (sd a.1 a.2.1 a.2.2.1 a.2.2.2.1 0) (sd [] [] [] [] 0) hk ha' a.2.2.2.1 (by omega) a.1.length k 0 (Nat.zero_add _) (by have:=ha.n; omega)
 rw[show ((0:Nat):Int)=0 from rfl,foldB] at e
 have hc:(0+a.2.2.2.1.length)*(24*2)≤281474976710656∧0+a.2.2.2.1.length≤9223372036854775807:=by omega
 unfold F99
 simp only[replicate_zero,length_nil,nil_append]
 rw[if_pos hc]
 have e':F99_1 k k 0 (a.1,(a.2.1,(a.2.2.1,(a.2.2.2.1,((0:Int),a.2.2.2.2.2))))) ([],([],([],([],((0:Int),()))))) a.2.2.2.1=_:=e
 rw[e',bind_some]
 rfl
end
abbrev RawT:=Tree (Int×(Int×Unit))
abbrev RexT:=Tree (Int×(Int×(Int×(Int×(ByteArray×Unit)))))
def RawH:Nat→RawT→Prop
 |0,_=>False
 |h+1,r=>∀c∈r.l,RawH h c
theorem F35_0_ok (k:Nat) (f:List RawT→Int→Option ((Int×Unit)×Unit)) (l:List RawT) (d B:Nat) (Pc:List RawT→Prop) (hd:d≤5) (hB:B≤100000) (hf:∀c,∃n:Nat,f c ((d+1:Nat):Int)=some (((n:Int),()),())∧n≤B∧(n≤30→Pc c)):∀(m i n:Nat),31≤n+m→n≤31+B→i≤l.length→i≤n→(n≤30→∀j,j<i→Pc (getD l j (Tree.mk (0,(0,())) [])).l) →
  ∃q:Nat,F35_0 k f (m+1) l (d:Int) (n:Int) (i:Int)=some (((q:Int),()),())∧q≤31+B∧(q≤30→l.length≤q∧∀j,j<l.length→Pc (getD l j (Tree.mk (0,(0,())) [])).l):=by
 intro m
 induction m with
 |zero =>
  intro i n h1 h2 hi hin hJ
  simp only[F35_0]
  by_cases hlt:i<l.length
  ·rw[dlt hlt,cond_true,decide_eq_false (by omega),cond_false]
   exact ⟨n,rfl,h2,fun q=>by omega⟩
  ·rw[decide_eq_false (by omega),cond_false]
   exact ⟨n,rfl,h2,fun q=>by omega⟩
 |succ m ih =>
  intro i n h1 h2 hi hin hJ
  rw[F35_0]
  simp only
  by_cases hlt:i<l.length
  ·rw[dlt hlt,cond_true]
   by_cases hn:n≤30
   ·rw[decide_eq_true (by omega),cond_true,if_pos (inR hlt),tnI i]
    obtain ⟨x,e,hx,hxs⟩:=hf (Tree.l (getD l i (Tree.mk (0,(0,())) [])))
    rw[show IntKind.wrap .i64 ((d:Int)+1)=((d+1:Nat):Int) by rw[w64 _ (by omega) (by omega)]; omega,e,bind_some]
    simp only
    rw[show IntKind.wrap .i64 (IntKind.wrap .i64 ((n:Int)+1)+(x:Int))=((n+1+x:Nat):Int) by rw[w64 ((n:Int)+1) (by omega) (by omega),w64 _ (by omega) (by omega)]; omega,show IntKind.wrap .i64 ((i:Int)+1)=((i+1:Nat):Int) by rw[w64 _ (by omega) (by omega)]; omega,bind_fun_some]
    refine ih (i+1) (n+1+x) (by omega) (by omega) hlt (by omega) fun hq j hj=>?_
    by_cases hji:j=i
    ·subst hji
     exact hxs (by omega)
    ·exact hJ hn j (by omega)
   ·rw[decide_eq_false (by omega),cond_false]
    exact ⟨n,rfl,h2,fun q=>by omega⟩
  ·rw[decide_eq_false (by omega),cond_false]
   refine ⟨n,rfl,h2,fun q=>⟨by omega,fun j hj=>hJ q j (by omega)⟩⟩
theorem R35_step (k d B h:Nat) (l:List RawT) (hd:d≤5) (hB:B≤100000) (hk:100≤k) (hf:∀c,∃n:Nat,R35 k c ((d+1:Nat):Int)=some (((n:Int),()),())∧n≤B∧(n≤30→∀r:RawT,r.l=c→RawH h r)) :
  ∃n:Nat,R35 (k+1) l (d:Int)=some (((n:Int),()),())∧n≤31+B∧(n≤30→l.length≤n∧∀r∈l,RawH h r):=by
 obtain ⟨k',hk'⟩:∃k',k=k'+1:=⟨k-1,by omega⟩
 obtain ⟨q,h1,h2,h3⟩:=F35_0_ok k (R35 k) l d B (fun c=>∀r:RawT,r.l=c→RawH h r) hd hB hf k' 0 0 (by omega) (by omega) (zero_le _) (Nat.le_refl _) (fun _ j hj=>by omega)
 refine ⟨q,?_,by omega,fun hq=>⟨(h3 hq).1,fun r hr=>?_⟩⟩
 ·rw[R35,B35,decide_eq_false (by omega),cond_false]
  have h1':F35_0 k (R35 k) k l (d:Int) 0 0=some (((q:Int),()),()):=by
   rw[←hk'] at h1; exact h1
  rw[h1',bind_some]
 ·obtain ⟨j,hj,rfl⟩:=List.getElem_of_mem hr
  have:=(h3 hq).2 j hj
  rw[getD_lt l j _ hj] at this
  exact this _ rfl
theorem R35_ok:∀(e d k:Nat) (l:List RawT),d+e=5→e+200≤k→∃n:Nat,R35 k l (d:Int)=some (((n:Int),()),())∧n≤1031+31*e∧(n≤30→l.length≤n∧∀r∈l,RawH e r)
 |0,d,k,l,hd,hk=>by
  obtain ⟨k,rfl⟩:∃k',k=k'+1:=⟨k-1,by omega⟩
  obtain ⟨n,h1,h2,h3⟩:=R35_step k d 1000 0 l (by omega) (by omega) (by omega) (fun c=>by
   obtain ⟨k,rfl⟩:∃k',k=k'+1:=⟨k-1,by omega⟩
   refine ⟨1000,?_,Nat.le_refl _,fun q=>by omega⟩
   rw[R35,B35,decide_eq_true (by omega),cond_true]
   rfl)
  exact ⟨n,h1,by omega,h3⟩
 |e+1,d,k,l,hd,hk=>by
  obtain ⟨k,rfl⟩:∃k',k=k'+1:=⟨k-1,by omega⟩
  obtain ⟨n,h1,h2,h3⟩:=R35_step k d (1031+31*e) (e+1) l (by omega) (by omega) (by omega) (fun c=>by
   obtain ⟨n,h1,h2,h3⟩:=R35_ok e (d+1) k c (by omega) (by omega)
   exact ⟨n,h1,h2,fun q r hr=>by
    intro x hx
    rw[hr] at hx
    exact (h3 q).2 x hx⟩)
  exact ⟨n,h1,by omega,h3⟩
theorem F14_ok (k:Nat) (l:List RawT) (hk:1000≤k):∃b,F14 k l=some ((b,()),())∧(b=true→l.length≤30∧∀r∈l,RawH 5 r):=by
 obtain ⟨n,h1,_,h3⟩:=R35_ok 5 0 k l rfl (by omega)
 refine ⟨decide ((n:Int)≤30),?_,fun hb=>?_⟩
 ·unfold F14 F35
  have h1':R35 k l 0=some (((n:Int),()),()):=h1
  rw[h1',bind_some]
 ·have:=of_decide_eq_true hb
  exact ⟨by have:=(h3 (by omega)).1; omega,(h3 (by omega)).2⟩

def nms:List ByteArray:=[⟨#[97]⟩,⟨#[118]⟩,⟨#[100]⟩,⟨#[115]⟩,⟨#[119,49]⟩,⟨#[111,116,104,101,114]⟩]
def Nam4 (nm:ByteArray):Prop:=nm∈nms.take 4
theorem nam4 {n:Int} (h0:0≤n) (h4:n<4):Nam4 (getD nms n.toNat ByteArray.empty):=by
 have h:n.toNat=0∨n.toNat=1∨n.toNat=2∨n.toNat=3:=by omega
 unfold Nam4 nms
 rcases h with h | h | h | h<;>rw[h]<;>simp
def Leaf (x:RexT):Prop:=(x.a.1=1∨(x.a.1=2∧Nam4 x.a.2.2.2.2.1)∨x.a.1=3)∧x.l=[]
theorem leaf3 {x:RexT} (p:Leaf x):x.a.1=1∨x.a.1=2∨x.a.1=3:=p.1.imp id fun q=>q.imp And.left id
def RexP (w:Bool):Nat→RexT→Prop
 |0,x=>Leaf x
 |h+1,x=>Leaf x∨((x.a.1=4∨x.a.1=5)∧∃p q,x.l=[p,q]∧RexP w h p∧RexP w h q)∨(x.a.1=6∧∃p,x.l=[p]∧RexP w h p) ∨
   (x.a.1=7∧(0≤x.a.2.1∧x.a.2.1≤2∧x.a.2.1≤x.a.2.2.1∧x.a.2.2.1≤x.a.2.1+2)∧∃p,x.l=[p]∧RexP w h p)∨(x.a.1=8∧w=true∧(0≤x.a.2.2.2.1∧x.a.2.2.2.1≤6)∧∃p,x.l=[p]∧RexP w h p)
theorem RexP.up {w:Bool}:∀ {h:Nat} {x:RexT},RexP w h x→RexP w (h+1) x
 |0,x,p=>.inl p
 |h+1,x,p=>by
  rcases p with p | ⟨a,p,q,e,hp,hq⟩ | ⟨a,p,e,hp⟩ | ⟨a,b,p,e,hp⟩ | ⟨a,b,c,p,e,hp⟩
  ·exact .inl p
  ·exact .inr (.inl ⟨a,p,q,e,hp.up,hq.up⟩)
  ·exact .inr (.inr (.inl ⟨a,p,e,hp.up⟩))
  ·exact .inr (.inr (.inr (.inl ⟨a,b,p,e,hp.up⟩)))
  ·exact .inr (.inr (.inr (.inr ⟨a,b,c,p,e,hp.up⟩)))
theorem F87_eq (k:Nat):F87 k=some ((nms,()),()):=by
 unfold F87 nms
 rfl
theorem raw_eta (r:RawT):Tree.mk ((Tree.a r).1,((Tree.a r).2.1,())) (Tree.l r)=r:=by
 cases r
 rfl
theorem two_list {α:Type} (d x y:α):List.set (List.set (replicate 2 d) 0 x) 1 y=[x,y]:=(rfl:List.set (List.set [d,d] 0 x) 1 y=[x,y]).trans rfl
theorem R68_ok (b:Bool):∀(h k:Nat),2*h≤k→(∀r,RawH h r→∃x,(R68 k).1 r b=some ((x,()),())∧RexP (!b) h x)∧(∀(r:RawT) (i:Int),(i=0∨i=1)→RawH (h+1) r→∃x,(R68 (k+1)).2 r i b=some ((x,()),())∧RexP (!b) h x):=by
 intro h
 induction h with
 |zero =>
  intro k hk
  have one:∀r,RawH 0 r→∃x,(R68 k).1 r b=some ((x,()),())∧RexP (!b) 0 x:=fun r hr=>hr.elim
  refine ⟨one,fun r i hi hr=>?_⟩
  have hnil:r.l=[]:=by
   cases hl:r.l with
   |nil=>rfl
   |cons c l=>exact (hr c (by rw[hl]; exact mem_cons_self)).elim
  show ∃x,B89 k (R68 k).1 (R68 k).2 r i b=some ((x,()),())∧_
  unfold B89
  simp only
  rw[hnil,decide_eq_false (by simp only[length_nil]; omega),cond_false,F87_eq,bind_some,F67_eq k _ 4 (by omega) (by omega),bind_some]
  simp only
  rw[if_pos (by simp only[nms,length_cons,length_nil]; omega)]
  exact ⟨_,rfl,.inr (.inl ⟨rfl,nam4 (emod_nonneg _ (by decide)) (emod_lt_of_pos _ (by decide))⟩),rfl⟩
 |succ h ih =>
  intro k hk
  obtain ⟨k,rfl⟩:∃k',k=k'+1:=⟨k-1,by omega⟩
  obtain ⟨k,rfl⟩:∃k',k=k'+1:=⟨k-1,by omega⟩
  obtain ⟨ih1,ih2⟩:=ih k (by omega)
  have one:∀r,RawH (h+1) r→∃x,(R68 (k+1+1)).1 r b=some ((x,()),())∧RexP (!b) (h+1) x:=by
   intro r hr
   obtain ⟨p,ep,hp⟩:=ih2 r 0 (.inl rfl) hr
   obtain ⟨q,eq,hq⟩:=ih2 r 1 (.inr rfl) hr
   have em:=emod_nonneg (Tree.a r).1 (show (20:Int)≠0 by omega)
   show ∃x,B68 (k+1) (R68 (k+1)).1 (R68 (k+1)).2 r b=some ((x,()),())∧_
   unfold B68
   rw[F67_eq _ _ 20 (by omega) (by omega),bind_some]
   simp only[raw_eta,two_list,one_list]
   rw[ep,eq,F87_eq,F67_eq _ _ 4 (by omega) (by omega),F67_eq _ _ 3 (by omega) (by omega),F67_eq _ _ 7 (by omega) (by omega)]
   simp only[bind_some]
   rw[F67_eq _ _ 3 (by omega) (by omega)]
   simp only[bind_some]
   by_cases c1:(Tree.a r).1%20<1
   ·rw[decide_eq_true c1,cond_true]
    exact ⟨_,rfl,.inl ⟨.inl rfl,rfl⟩⟩
   rw[decide_eq_false c1,cond_false]
   by_cases c2:(Tree.a r).1%20<6
   ·rw[decide_eq_true c2,cond_true,if_pos (by simp only[nms,length_cons,length_nil]; omega)]
    exact ⟨_,rfl,.inl ⟨.inr (.inl ⟨rfl,nam4 (emod_nonneg _ (by decide)) (emod_lt_of_pos _ (by decide))⟩),rfl⟩⟩
   rw[decide_eq_false c2,cond_false]
   by_cases c3:(Tree.a r).1%20<8
   ·rw[decide_eq_true c3,cond_true]
    exact ⟨_,rfl,.inl ⟨.inr (.inr rfl),rfl⟩⟩
   rw[decide_eq_false c3,cond_false]
   by_cases c4:(Tree.a r).1%20<13
   ·rw[decide_eq_true c4,cond_true]
    exact ⟨_,rfl,.inr (.inl ⟨.inl rfl,p,q,rfl,hp,hq⟩)⟩
   rw[decide_eq_false c4,cond_false]
   by_cases c5:(Tree.a r).1%20<15
   ·rw[decide_eq_true c5,cond_true]
    exact ⟨_,rfl,.inr (.inl ⟨.inr rfl,p,q,rfl,hp,hq⟩)⟩
   rw[decide_eq_false c5,cond_false]
   by_cases c6:(Tree.a r).1%20<16
   ·rw[decide_eq_true c6,cond_true]
    exact ⟨_,rfl,.inr (.inr (.inl ⟨rfl,p,rfl,hp⟩))⟩
   rw[decide_eq_false c6,cond_false]
   by_cases c7:(Tree.a r).1%20<18
   ·rw[decide_eq_true c7,cond_true]
    refine ⟨_,rfl,.inr (.inr (.inr (.inl ⟨rfl,?_,p,rfl,hp⟩)))⟩
    simp only[Tree.a]
    have m1:=emod_nonneg (Tree.a r).2.1 (show (3:Int)≠0 by omega)
    have m2:=emod_lt_of_pos (Tree.a r).2.1 (show (0:Int)<3 by omega)
    have m3:=emod_nonneg (IntKind.wrap .i64 (tdiv (Tree.a r).2.1 3)) (show (3:Int)≠0 by omega)
    have m4:=emod_lt_of_pos (IntKind.wrap .i64 (tdiv (Tree.a r).2.1 3)) (show (0:Int)<3 by omega)
    rw[w64 (_+_) (by omega) (by omega)]
    omega
   rw[decide_eq_false c7,cond_false]
   cases b with
   |true =>
    rw[cond_true]
    exact ⟨_,rfl,hp.up⟩
   |false =>
    rw[cond_false]
    refine ⟨_,rfl,.inr (.inr (.inr (.inr ⟨rfl,rfl,?_,p,rfl,hp⟩)))⟩
    simp only[Tree.a]
    omega
  refine ⟨one,fun r i hi hr=>?_⟩
  show ∃x,B89 (k+1+1) (R68 (k+1+1)).1 (R68 (k+1+1)).2 r i b=some ((x,()),())∧_
  unfold B89
  simp only
  by_cases hlt:i<((r.l.length:Nat):Int)
  ·rw[decide_eq_true hlt,cond_true,if_pos ⟨by omega,hlt⟩]
   obtain ⟨x,e,hx⟩:=one (getD r.l i.toNat (Tree.mk (0,(0,())) [])) (hr _ (getD_mem (by omega)))
   rw[e,bind_some]
   exact ⟨x,rfl,hx⟩
  ·rw[decide_eq_false hlt,cond_false,F87_eq,bind_some,F67_eq _ _ 4 (by omega) (by omega),bind_some]
   simp only
   rw[if_pos (by simp only[nms,length_cons,length_nil]; omega)]
   exact ⟨_,rfl,.inl ⟨.inr (.inl ⟨rfl,nam4 (emod_nonneg _ (by decide)) (emod_lt_of_pos _ (by decide))⟩),rfl⟩⟩
theorem F68_ok (k:Nat) (r:RawT) (b:Bool) (h:Nat) (hr:RawH h r) (hk:2*h≤k):∃x,F68 k r b=some ((x,()),())∧RexP (!b) h x:=(R68_ok b h k hk).1 r hr
def CB (C x:Int):Prop:=0≤x∧(x≤C∨x=1152921504606846976)
theorem CB.up {C D x:Int} (h:CB C x) (hD:C≤D):CB D x:=by
 unfold CB at *
 omega
theorem CB.cst {C x:Int} (h:CB C x) (hC:C≤1000000000):Cst x:=by
 unfold CB at h
 unfold Cst
 omega
theorem adI_cb {C D x y:Int} (hx:CB C x) (hy:CB D y) (hC:C≤1000000000) (hD:D≤1000000000):CB (C+D) (adI x y):=by
 unfold CB at *
 unfold adI minI
 split<;>omega
theorem minI_cb {C x y:Int} (hx:CB C x) (hy:CB C y):CB C (minI x y):=by
 unfold minI
 split<;>assumption
structure SideG (n:Nat) (C:Int) (M:Nat) (s:SideT):Prop where
 ls:s.1.length=n
 lf:s.2.1.length=n
 le:s.2.2.1.length=n
 cf:∀x∈s.2.1,CB C x
 ce:∀x∈s.2.2.1,CB C x
 cn:CB C s.2.2.2.2.1
 srt:Srt s.2.2.2.1
 arcs:ArcG n (2*C) s.2.2.2.1
 sets:∀x∈s.1,-1≤x∧x<(M:Int)
theorem ArcG.up {n m:Nat} {B D:Int} {l:List ArcT} (h:ArcG n B l) (hn:n≤m) (hB:B≤D):ArcG m D l:=fun x hx=>by
 have:=h x hx
 omega
theorem SideG.up {n M:Nat} {C D:Int} {s:SideT} (h:SideG n C M s) (hD:C≤D):SideG n D M s :=
 ⟨h.ls,h.lf,h.le,fun x hx=>(h.cf x hx).up hD,fun x hx=>(h.ce x hx).up hD,h.cn.up hD,h.srt,h.arcs.up (Nat.le_refl _) (by omega),h.sets⟩
theorem SideG.sd {n M:Nat} {C:Int} {s:SideT} (h:SideG n C M s) (hn:n≤500) (hC:C≤1000000000):SdP s:=by
 have hl:=srt_len h.srt h.arcs
 have:n*n≤500*500:=mul_le_mul hn hn
 exact ⟨by rw[h.ls]; exact hn,by rw[h.lf,h.ls],by rw[h.le,h.ls],fun x hx=>(h.cf x hx).cst hC,fun x hx=>(h.ce x hx).cst hC,h.cn.cst hC,by omega,h.arcs.up (by omega) (by omega)⟩
theorem putA_G {n:Nat} {B:Int} {l:List ArcT} {a:ArcT} (hs:Srt l) (h:ArcG n B l) (ha:(0≤a.1∧a.1<(n:Int))∧(0≤a.2.1∧a.2.1<(n:Int))∧0≤a.2.2.1∧(a.2.2.1≤B∨a.2.2.1≥1152921504606846976)):Srt (putA l a)∧ArcG n B (putA l a):=by
 unfold putA
 split
 ·exact ⟨hs,h⟩
 ·refine ⟨insA_srt a l hs,insA_arcs h fun x hx=>?_⟩
  rw[mem_singleton] at hx
  subst hx
  exact ⟨ha.1,ha.2.1,ha.2.2.1,ha.2.2.2.resolve_right (by assumption)⟩
theorem foldA_G {n:Nat} {B:Int} (g:Nat→ArcT):∀(m:Nat) (l:List ArcT),(∀j,j<m→(0≤(g j).1∧(g j).1<(n:Int))∧(0≤(g j).2.1∧(g j).2.1<(n:Int))∧0≤(g j).2.2.1∧((g j).2.2.1≤B∨(g j).2.2.1≥1152921504606846976))→Srt l→ArcG n B l→Srt (foldA g m l)∧ArcG n B (foldA g m l)
 |0,l,_,hs,h=>⟨hs,h⟩
 |m+1,l,hg,hs,h=>by
  obtain ⟨h1,h2⟩:=foldA_G g m l (fun j hj=>hg j (by omega)) hs h
  exact putA_G h1 h2 (hg m (by omega))
theorem foldB_G {n:Nat} {B:Int} (g:Nat→Nat→ArcT) (m:Nat):∀(q:Nat) (l:List ArcT),(∀i j,i<q→j<m→(0≤(g i j).1∧(g i j).1<(n:Int))∧(0≤(g i j).2.1∧(g i j).2.1<(n:Int))∧0≤(g i j).2.2.1∧((g i j).2.2.1≤B∨(g i j).2.2.1≥1152921504606846976))→Srt l→ArcG n B l→Srt (foldB g m q l)∧ArcG n B (foldB g m q l)
 |0,l,_,hs,h=>⟨hs,h⟩
 |q+1,l,hg,hs,h=>by
  obtain ⟨h1,h2⟩:=foldB_G g m q l (fun i j hi hj=>hg i j (by omega) hj) hs h
  exact foldA_G (g q) m _ (fun j hj=>hg q j (by omega) hj) h1 h2
theorem shA_srt (n:Nat) {l:List ArcT} (h:Srt l):Srt (l.map (shA n)):=by
 rw[Srt,List.pairwise_map]
 exact h.imp fun q=>by
  unfold Lt shA at *
  simp only
  omega
theorem shA_arcs {n m:Nat} {B:Int} {l:List ArcT} (h:ArcG m B l):∀x∈l.map (shA n),((n:Int)≤x.1∧x.1<((n+m:Nat):Int))∧((n:Int)≤x.2.1∧x.2.1<((n+m:Nat):Int))∧0≤x.2.2.1∧x.2.2.1≤B:=fun x hx=>by
 obtain ⟨y,hy,rfl⟩:=List.mem_map.1 hx
 have:=h y hy
 unfold shA
 simp only
 omega
theorem join_G {n m:Nat} {B:Int} {l q:List ArcT} (h1:Srt l) (h2:ArcG n B l) (h3:Srt q) (h4:ArcG m B q):Srt (l++q.map (shA n))∧ArcG (n+m) B (l++q.map (shA n)):=by
 constructor
 ·refine List.pairwise_append.2 ⟨h1,shA_srt n h3,fun a ha b hb=>?_⟩
  have:=h2 a ha
  have:=shA_arcs (n:=n) h4 b hb
  exact .inl (by omega)
 ·intro x hx
  rcases List.mem_append.1 hx with e | e
  ·have:=h2 x e; omega
  ·have:=shA_arcs (n:=n) h4 x e; omega
theorem mem_app {α:Type} {P:α→Prop} {l q:List α} (h1:∀x∈l,P x) (h2:∀x∈q,P x):∀x∈l++q,P x:=fun x hx=>(List.mem_append.1 hx).elim (h1 x) (h2 x)
theorem SideG.ef {n M:Nat} {C:Int} {s:SideT} (h:SideG n C M s) {i:Nat} (hi:i<n):CB C (getD s.2.1 i 0):=h.cf _ (getD_mem (by rw[h.lf]; exact hi))
theorem SideG.ee {n M:Nat} {C:Int} {s:SideT} (h:SideG n C M s) {i:Nat} (hi:i<n):CB C (getD s.2.2.1 i 0):=h.ce _ (getD_mem (by rw[h.le]; exact hi))
theorem cat_G {n m M:Nat} {C D:Int} {a b:SideT} (ha:SideG n C M a) (hb:SideG m D M b) (hC:0≤C∧C≤100000000) (hD:0≤D∧D≤100000000):SideG (n+m) (C+D) M (catS a b):=by
 obtain ⟨j1,j2⟩:=join_G (B:=2*(C+D)) ha.srt (ha.arcs.up (Nat.le_refl _) (by omega)) hb.srt (hb.arcs.up (Nat.le_refl _) (by omega))
 rw[←ha.ls] at j1 j2
 obtain ⟨f1,f2⟩:=foldB_G (catG a b) b.1.length a.1.length (a.2.2.2.1++b.2.2.2.1.map (shA a.1.length)) (n:=a.1.length+m) (B:=2*(C+D)) (fun i j hi hj=>by
  have q:=adI_cb (ha.ee (ha.ls▸hi)) (hb.ef (hb.ls▸hj)) (by omega) (by omega)
  rw[hb.ls] at hj
  unfold CB at q
  unfold catG
  simp only
  omega) j1 j2
 refine ⟨by simp only[catS,sd,length_append,ha.ls,hb.ls],by simp only[catS,sd,length_append,length_map,ha.lf,hb.lf],by simp only[catS,sd,length_append,length_map,ha.le,hb.le],?_,?_,adI_cb ha.cn hb.cn (by omega) (by omega),f1,ha.ls▸f2,mem_app ha.sets hb.sets⟩
 ·refine mem_app (fun x hx=>(ha.cf x hx).up (by omega)) fun x hx=>?_
  obtain ⟨y,hy,rfl⟩:=List.mem_map.1 hx
  exact adI_cb ha.cn (hb.cf y hy) (by omega) (by omega)
 ·refine mem_app (fun x hx=>?_) fun x hx=>(hb.ce x hx).up (by omega)
  obtain ⟨y,hy,rfl⟩:=List.mem_map.1 hx
  exact adI_cb (ha.ce y hy) hb.cn (by omega) (by omega)
theorem alt_G {n m M:Nat} {C:Int} {a b:SideT} (ha:SideG n C M a) (hb:SideG m C M b):SideG (n+m) C M (altS a b):=by
 obtain ⟨j1,j2⟩:=join_G (B:=2*C) ha.srt ha.arcs hb.srt hb.arcs
 rw[←ha.ls] at j1 j2
 exact ⟨by simp only[altS,sd,length_append,ha.ls,hb.ls],by simp only[altS,sd,length_append,ha.lf,hb.lf],by simp only[altS,sd,length_append,ha.le,hb.le],mem_app ha.cf hb.cf,mem_app ha.ce hb.ce,minI_cb ha.cn hb.cn,j1,ha.ls▸j2,mem_app ha.sets hb.sets⟩
theorem star_G {n M:Nat} {C:Int} {a:SideT} (ha:SideG n C M a) (hC:0≤C∧C≤100000000):SideG n C M (starS a):=by
 obtain ⟨f1,f2⟩:=foldB_G (starG a) a.1.length a.1.length a.2.2.2.1 (n:=n) (B:=2*C) (fun i j hi hj=>by
  rw[ha.ls] at hi hj
  have q:=adI_cb (ha.ee hi) (ha.ef hj) (by omega) (by omega)
  unfold CB at q
  unfold starG
  simp only
  omega) ha.srt ha.arcs
 exact ⟨ha.ls,ha.lf,ha.le,ha.cf,ha.ce,⟨Int.le_refl _,.inl hC.1⟩,f1,f2,ha.sets⟩
def wgtS (a:SideT) (w:Int):SideT:=sd a.1 (a.2.1.map fun x=>adI x w) a.2.2.1 a.2.2.2.1 (adI a.2.2.2.2.1 w)
theorem wgt_G {n M:Nat} {C w:Int} {a:SideT} (ha:SideG n C M a) (hC:0≤C∧C≤100000000) (hw:0≤w∧w≤6):SideG n (C+6) M (wgtS a w):=by
 have cw:CB 6 w:=⟨hw.1,.inl hw.2⟩
 refine ⟨ha.ls,by simp only[wgtS,sd,length_map,ha.lf],ha.le,fun x hx=>?_,fun x hx=>(ha.ce x hx).up (by omega),adI_cb ha.cn cw (by omega) (by omega),ha.srt,ha.arcs.up (Nat.le_refl _) (by omega),ha.sets⟩
 obtain ⟨y,hy,rfl⟩:=List.mem_map.1 hx
 exact adI_cb (ha.cf y hy) cw (by omega) (by omega)
theorem none_G {n M:Nat} {C:Int} {a:SideT} (ha:SideG n C M a) (hC:0≤C):SideG n C M (sd a.1 a.2.1 a.2.2.1 a.2.2.2.1 0) :=
 ⟨ha.ls,ha.lf,ha.le,ha.cf,ha.ce,⟨Int.le_refl _,.inl hC⟩,ha.srt,ha.arcs,ha.sets⟩
def timS (a:SideT) (lo:Int):Nat→SideT→SideT
 |0,s=>s
 |k+1,s=>timS a lo k (if ((k+1:Nat):Int)>lo then sd (catS a s).1 (catS a s).2.1 (catS a s).2.2.1 (catS a s).2.2.2.1 0 else catS a s)
theorem tim_G {n M:Nat} {C lo:Int} {a:SideT} (ha:SideG n C M a) (hC:0≤C∧C≤1000000):∀(k m:Nat) (q:Nat) (s:SideT),q+k≤20→SideG m ((q:Int)*C) M s→SideG (k*n+m) (((q+k:Nat):Int)*C) M (timS a lo k s)
 |0,m,q,s,hq,hs=>by simpa[timS] using hs
 |k+1,m,q,s,hq,hs=>by
  have hqc:0≤(q:Int)*C∧(q:Int)*C≤20000000:=⟨mul_nonneg (by omega) hC.1,by
   have:(q:Int)*C≤20*1000000:=Int.mul_le_mul (by omega) hC.2 hC.1 (by omega)
   omega⟩
  have h:=cat_G ha hs (by omega) (by omega)
  have e1:C+(q:Int)*C=((q+1:Nat):Int)*C:=by
   rw[show ((q+1:Nat):Int)=(q:Int)+1 by omega,Int.add_mul,Int.one_mul,Int.add_comm]
  rw[e1] at h
  have h':SideG (n+m) (((q+1:Nat):Int)*C) M (if ((k+1:Nat):Int)>lo then sd (catS a s).1 (catS a s).2.1 (catS a s).2.2.1 (catS a s).2.2.2.1 0 else catS a s):=by
   split
   ·exact none_G h (mul_nonneg (by omega) hC.1)
   ·exact h
  have:=tim_G (lo:=lo) ha hC k (n+m) (q+1) _ (by omega) h'
  rw[timS,show (k+1)*n+m=k*n+(n+m) by rw[add_mul]; omega,show q+(k+1)=q+1+k by omega]
  exact this
abbrev ClsT:=Tree (Int×(Int×(Int×(ByteArray×Unit))))
abbrev DefT:=ByteArray×(ClsT×Unit)
abbrev RuleT:=Int×(Int×(RexT×(RexT×Unit)))
abbrev FileT:=List DefT×(List RuleT×Unit)
def sizeR:Nat→RexT→Nat
 |0,x=>if x.a.1=1 then 0 else 1
 |h+1,x=>if x.a.1=1 then 0 else if x.a.1=2∨x.a.1=3 then 1 else if x.a.1=7 then (x.l.map (sizeR h)).sum*x.a.2.2.1.toNat else (x.l.map (sizeR h)).sum
theorem sizeR_le {w:Bool}:∀(h:Nat) (x:RexT),RexP w h x→sizeR h x≤4^h
 |0,x,_=>by unfold sizeR; split<;>simp
 |h+1,x,p=>by
  have hp:1≤4^h:=Nat.one_le_pow _ _ (by omega)
  have e4:4^(h+1)=4^h*4:=Nat.pow_succ 4 h
  unfold sizeR
  split
  ·omega
  ·split
   ·omega
   ·rename_i h1 h2
    rcases p with p | ⟨a,p,q,e,hp1,hq1⟩ | ⟨a,p,e,hp1⟩ | ⟨a,b,p,e,hp1⟩ | ⟨a,_,b,p,e,hp1⟩
    ·have p:=leaf3 p; omega
    ·have g1:=sizeR_le h p hp1
     have g2:=sizeR_le h q hq1
     rw[e,if_neg (by omega)]
     simp only[map_cons,map_nil,sum_cons,sum_nil]
     omega
    ·have g1:=sizeR_le h p hp1
     rw[e,if_neg (by omega)]
     simp only[map_cons,map_nil,sum_cons,sum_nil]
     omega
    ·have g1:=sizeR_le h p hp1
     rw[e,if_pos a]
     simp only[map_cons,map_nil,sum_cons,sum_nil,Nat.add_zero]
     rw[e4]
     exact mul_le_mul g1 (by omega)
    ·have g1:=sizeR_le h p hp1
     rw[e,if_neg (by omega)]
     simp only[map_cons,map_nil,sum_cons,sum_nil]
     omega
abbrev UnfT:=Int×(Int×(Int×(Int×(ByteArray×(List RexT×Unit)))))
theorem F73_0_ok (k:Nat) (f:RexT→Option ((Int×Unit)×Unit)) (sz:RexT→Nat) (c:UnfT) (hf:∀p∈c.2.2.2.2.2.1,f p=some (((sz p:Int),()),())) (hl:c.2.2.2.2.2.1.length≤1000) (hs:(c.2.2.2.2.2.1.map sz).sum≤100000000):∀(d m i t:Nat),i+d=c.2.2.2.2.2.1.length→d<m→t+((c.2.2.2.2.2.1.drop i).map sz).sum=(c.2.2.2.2.2.1.map sz).sum →
  F73_0 k f m (t:Int) (i:Int) c=some (((((c.2.2.2.2.2.1.map sz).sum:Nat):Int),()),(c,()))
 |0,m,i,t,hi,hm,ht=>by
  obtain ⟨m,rfl⟩:=pos1 (m:=m) (by omega)
  obtain rfl:i=c.2.2.2.2.2.1.length:=by omega
  rw[drop_length,map_nil,sum_nil,Nat.add_zero] at ht
  simp only[F73_0]
  rw[dnlt,cond_false,ht]
 |d+1,m,i,t,hi,hm,ht=>by
  obtain ⟨m,rfl⟩:=pos1 (m:=m) (by omega)
  have hlt:i<c.2.2.2.2.2.1.length:=by omega
  rw[drop_eq_getElem_cons hlt,map_cons,sum_cons] at ht
  have ih:=F73_0_ok k f sz c hf hl hs d m (i+1) (t+sz c.2.2.2.2.2.1[i]) (by omega) (by omega) (by omega)
  have hmin:minI (((t+sz c.2.2.2.2.2.1[i]:Nat):Int)) 1000000000=((t+sz c.2.2.2.2.2.1[i]:Nat):Int):=by
   unfold minI
   rw[if_neg (by omega)]
  simp only[F73_0]
  rw[dlt hlt,cond_true,if_pos (inR hlt),tnI i,getD_lt _ i _ hlt,hf _ (getElem_mem hlt),bind_some]
  simp only
  rw[wadd t _ (by omega),hmin,wsucc i _ hlt (by omega),ih]
  rfl
theorem R73_ok {w:Bool}:∀(h k:Nat) (x:RexT),h≤8→RexP w h x→h+100≤k→R73 k x=some (((sizeR h x:Int),()),())
 |0,k,x,h8,p,hk=>by
  obtain ⟨k,rfl⟩:∃k',k=k'+1:=⟨k-1,by omega⟩
  rw[R73,B73]
  unfold sizeR
  rcases leaf3 p with p | p | p<;>rw[p]<;>rfl
 |h+1,k,x,h8,p,hk=>by
  obtain ⟨k,rfl⟩:∃k',k=k'+1:=⟨k-1,by omega⟩
  have hle:=sizeR_le (h+1) x p
  have hpow:4^(h+1)≤4^8:=Nat.pow_le_pow_right (by omega) h8
  have h48:(4:Nat)^8=65536:=by decide
  have h1p:1≤4^h:=Nat.one_le_pow _ _ (by omega)
  have hpow2:4^h≤4^8:=Nat.pow_le_pow_right (by omega) (by omega)
  rw[R73,B73]
  by_cases c1:x.a.1=1
  ·rw[beq_iff_eq.2 c1,cond_true]
   unfold sizeR
   rw[if_pos c1]
   rfl
  rw[beq_false_of_ne c1,cond_false]
  by_cases c2:x.a.1=2
  ·rw[beq_iff_eq.2 c2,cond_true]
   unfold sizeR
   rw[if_neg c1,if_pos (.inl c2)]
   rfl
  rw[beq_false_of_ne c2,cond_false]
  by_cases c3:x.a.1=3
  ·rw[beq_iff_eq.2 c3,cond_true]
   unfold sizeR
   rw[if_neg c1,if_pos (.inr c3)]
   rfl
  rw[beq_false_of_ne c3,cond_false]
  have loop:∀(hl:x.l.length≤2) (hP:∀p∈x.l,RexP w h p),F73_0 k (R73 k) k 0 0 (x.a.1,(x.a.2.1,(x.a.2.2.1,(x.a.2.2.2.1,(x.a.2.2.2.2.1,(x.l,()))))))=some (((((x.l.map (sizeR h)).sum:Nat):Int),()),((x.a.1,(x.a.2.1,(x.a.2.2.1,(x.a.2.2.2.1,(x.a.2.2.2.2.1,(x.l,())))))),()))∧(x.l.map (sizeR h)).sum≤2*65536:=fun hl hP=>by
   have hsum:(x.l.map (sizeR h)).sum≤2*65536:=by
    match hx:x.l,hl with
    | [],_=>simp
    | [p],_=>have:=sizeR_le h p (hP p (by rw[hx]; simp)); simp only[map_cons,map_nil,sum_cons,sum_nil]; omega
    | [p,q],_ =>
     have:=sizeR_le h p (hP p (by rw[hx]; simp))
     have:=sizeR_le h q (hP q (by rw[hx]; simp))
     simp only[map_cons,map_nil,sum_cons,sum_nil]; omega
   refine ⟨F73_0_ok k (R73 k) (sizeR h) (x.a.1,(x.a.2.1,(x.a.2.2.1,(x.a.2.2.2.1,(x.a.2.2.2.2.1,(x.l,())))))) (fun p hp=>R73_ok h k p (by omega) (hP p hp) (by omega)) (show x.l.length≤1000 by omega) (show (x.l.map (sizeR h)).sum≤100000000 by omega) x.l.length k 0 0 (Nat.zero_add _) (by omega) ?_,hsum⟩
   rw[drop_zero,Nat.zero_add]
  have hshape:x.l.length≤2∧(∀p∈x.l,RexP w h p)∧(x.a.1=7→0≤x.a.2.2.1∧x.a.2.2.1≤4):=by
   rcases p with p | ⟨a,p,q,e,hp1,hq1⟩ | ⟨a,p,e,hp1⟩ | ⟨a,b,p,e,hp1⟩ | ⟨a,_,b,p,e,hp1⟩
   ·have p:=leaf3 p; omega
   ·rw[e]
    refine ⟨by simp,fun y hy=>?_,fun q=>by omega⟩
    simp only[mem_cons,not_mem_nil,or_false] at hy
    rcases hy with rfl | rfl<;>assumption
   ·rw[e]
    refine ⟨by simp,fun y hy=>?_,fun q=>by omega⟩
    rw[mem_singleton] at hy
    subst hy; exact hp1
   ·rw[e]
    refine ⟨by simp,fun y hy=>?_,fun q=>by omega⟩
    rw[mem_singleton] at hy
    subst hy; exact hp1
   ·rw[e]
    refine ⟨by simp,fun y hy=>?_,fun q=>by omega⟩
    rw[mem_singleton] at hy
    subst hy; exact hp1
  obtain ⟨g1,g2,g3⟩:=hshape
  obtain ⟨e,hsum⟩:=loop g1 g2
  rw[e,bind_some]
  simp only
  unfold sizeR
  rw[if_neg c1,if_neg (by omega)]
  by_cases c7:x.a.1=7
  ·obtain ⟨g4,g5⟩:=g3 c7
   rw[beq_iff_eq.2 c7,cond_true,if_pos c7]
   have hmul:(((x.l.map (sizeR h)).sum:Nat):Int)*x.a.2.2.1=(((x.l.map (sizeR h)).sum*x.a.2.2.1.toNat:Nat):Int):=by
    rw[Int.natCast_mul,Int.toNat_of_nonneg g4]
   have hb:(x.l.map (sizeR h)).sum*x.a.2.2.1.toNat≤2*65536*4:=mul_le_mul hsum (by omega)
   rw[hmul,w64 _ (by omega) (by omega)]
   unfold minI
   rw[if_neg (by omega)]
  ·rw[beq_false_of_ne c7,cond_false,if_neg c7]

def fndI:List DefT→ByteArray→Nat→Int
 | [],_,_=>-1
 |d::l,nm,i=>if d.1.toList=nm.toList then (i:Int) else fndI l nm (i+1)
def fnd (l:List DefT) (nm:ByteArray):Int:=fndI l nm 0
theorem fndI_range (nm:ByteArray):∀(l:List DefT) (i:Nat),-1≤fndI l nm i∧fndI l nm i<((i+l.length:Nat):Int)∨fndI l nm i = -1
 | [],i=>.inr rfl
 |d::l,i=>by
  unfold fndI
  split
  ·left
   simp only[length_cons]
   omega
  ·rcases fndI_range nm l (i+1) with h | h
   ·left
    simp only[length_cons]
    omega
   ·exact .inr h
theorem fnd_range (l:List DefT) (nm:ByteArray):-1≤fnd l nm∧fnd l nm<((l.length:Nat):Int):=by
 have:=fndI_range nm l 0
 unfold fnd
 omega
theorem F83_0_ok (k:Nat) (nm:ByteArray) (c:FileT) (hl:c.1.length≤1000):∀(d m i:Nat),i+d=c.1.length→d<m →
  F83_0 k m nm (i:Int) c=some (if fndI (c.1.drop i) nm i = -1 then .inl ((),()) else .inr ((fndI (c.1.drop i) nm i,()),()))
 |0,m,i,hi,hm=>by
  obtain ⟨m,rfl⟩:=pos1 (m:=m) (by omega)
  obtain rfl:i=c.1.length:=by omega
  simp only[F83_0]
  rw[dnlt,cond_false,drop_length,fndI,if_pos rfl]
 |d+1,m,i,hi,hm=>by
  obtain ⟨m,rfl⟩:=pos1 (m:=m) (by omega)
  have hlt:i<c.1.length:=by omega
  have ih:=F83_0_ok k nm c hl d m (i+1) (by omega) (by omega)
  rw[drop_eq_getElem_cons hlt,fndI]
  simp only[F83_0]
  rw[dlt hlt,cond_true,if_pos (inR hlt),tnI i,getD_lt _ i _ hlt]
  by_cases he:c.1[i].1.toList=nm.toList
  ·rw[beq_iff_eq.2 he,cond_true,if_pos he,if_neg (by omega)]
  ·rw[beq_false_of_ne he,cond_false,if_neg he,wsucc i _ hlt (by omega),ih]
   rfl
theorem F83_ok (k:Nat) (c:FileT) (nm:ByteArray) (hl:c.1.length≤1000) (hk:10000000≤k):F83 k c nm=some ((fnd c.1 nm,()),()):=by
 have h:=F83_0_ok k nm c hl c.1.length k 0 (by omega) (by omega)
 rw[drop_zero,show ((0:Nat):Int)=0 from rfl] at h
 unfold F83
 rw[h,bind_some]
 by_cases hc:fndI c.1 nm 0 = -1
 ·rw[if_pos hc]
  unfold fnd
  rw[hc]
 ·rw[if_neg hc]
  rfl

def leafS (fn:ByteArray→Int) (x:RexT):SideT:=if x.a.1=1 then sd [] [] [] [] 0 else if x.a.1=2 then sd [fn x.a.2.2.2.2.1] [0] [0] [] 1152921504606846976 else sd [-1] [0] [0] [] 1152921504606846976
def rex0:RexT:=Tree.mk (0,(0,(0,(0,(ByteArray.empty,()))))) []
def sideS (fn:ByteArray→Int):Nat→RexT→SideT
 |0,x=>leafS fn x
 |h+1,x=>if x.a.1=1∨x.a.1=2∨x.a.1=3 then leafS fn x
  else if x.a.1=4 then catS (sideS fn h (getD x.l 0 rex0)) (sideS fn h (getD x.l 1 rex0))
  else if x.a.1=5 then altS (sideS fn h (getD x.l 0 rex0)) (sideS fn h (getD x.l 1 rex0))
  else if x.a.1=6 then starS (sideS fn h (getD x.l 0 rex0))
  else if x.a.1=8 then wgtS (sideS fn h (getD x.l 0 rex0)) x.a.2.2.2.1
  else timS (sideS fn h (getD x.l 0 rex0)) x.a.2.1 x.a.2.2.1.toNat (sd [] [] [] [] 0)
def cB:Nat→Int
 |0=>0
 |h+1=>4*cB h+6
theorem cB_range:∀h:Nat,h≤6→0≤cB h∧cB h≤9000
 |0,_=>by decide
 |1,_=>by decide
 |2,_=>by decide
 |3,_=>by decide
 |4,_=>by decide
 |5,_=>by decide
 |6,_=>by decide
 |h+7,q=>by omega
theorem leaf_G (fn:ByteArray→Int) (M:Nat) (hfn:∀nm,-1≤fn nm∧fn nm<(M:Int)) (x:RexT) (p:Leaf x) (C:Int) (hC:0≤C):SideG (if x.a.1=1 then 0 else 1) C M (leafS fn x):=by
 have c0:CB C 0:=⟨Int.le_refl _,.inl hC⟩
 have cI:CB C 1152921504606846976:=⟨by decide,.inr rfl⟩
 unfold leafS
 split
 ·exact ⟨rfl,rfl,rfl,fun x hx=>(by cases hx),fun x hx=>(by cases hx),c0,List.Pairwise.nil,fun x hx=>(by cases hx),fun x hx=>(by cases hx)⟩
 ·split
  ·exact ⟨rfl,rfl,rfl,fun x hx=>(by rw[List.mem_singleton.1 hx]; exact c0),fun x hx=>(by rw[List.mem_singleton.1 hx]; exact c0),cI,List.Pairwise.nil,fun x hx=>(by cases hx),fun x hx=>(by rw[List.mem_singleton.1 hx]; exact hfn _)⟩
  ·exact ⟨rfl,rfl,rfl,fun x hx=>(by rw[List.mem_singleton.1 hx]; exact c0),fun x hx=>(by rw[List.mem_singleton.1 hx]; exact c0),cI,List.Pairwise.nil,fun x hx=>(by cases hx),fun x hx=>(by rw[List.mem_singleton.1 hx]; omega)⟩
theorem sizeR_leaf {h:Nat} {x:RexT} (p:Leaf x):sizeR h x=if x.a.1=1 then 0 else 1:=by
 cases h with
 |zero=>rfl
 |succ h =>
  unfold sizeR
  have p:=leaf3 p
  split
  ·rfl
  ·rw[if_pos (by omega)]
theorem sideS_leaf {fn:ByteArray→Int} {h:Nat} {x:RexT} (p:Leaf x):sideS fn h x=leafS fn x:=by
 cases h with
 |zero=>rfl
 |succ h=>unfold sideS; exact if_pos (leaf3 p)
theorem empty_G (M:Nat) (C:Int) (hC:0≤C):SideG 0 C M (sd [] [] [] [] 0) :=
 ⟨rfl,rfl,rfl,fun x hx=>(by cases hx),fun x hx=>(by cases hx),⟨Int.le_refl _,.inl hC⟩,List.Pairwise.nil,fun x hx=>(by cases hx),fun x hx=>(by cases hx)⟩
theorem side_G {w:Bool} (fn:ByteArray→Int) (M:Nat) (hfn:∀nm,-1≤fn nm∧fn nm<(M:Int)):∀(h:Nat) (x:RexT),h≤6→RexP w h x→SideG (sizeR h x) (cB h) M (sideS fn h x)
 |0,x,_,p=>by
  rw[sizeR_leaf p,sideS_leaf p]
  exact leaf_G fn M hfn x p _ (by decide)
 |h+1,x,h6,p=>by
  have hc:=cB_range h (by omega)
  have hc2:cB (h+1)=4*cB h+6:=rfl
  rcases p with p | ⟨a,p,q,e,hp1,hq1⟩ | ⟨a,p,e,hp1⟩ | ⟨a,b,p,e,hp1⟩ | ⟨a,_,b,p,e,hp1⟩
  ·rw[sizeR_leaf p,sideS_leaf p]
   exact leaf_G fn M hfn x p _ (by omega)
  ·have g1:=side_G fn M hfn h p (by omega) hp1
   have g2:=side_G fn M hfn h q (by omega) hq1
   unfold sizeR sideS
   rw[if_neg (by omega),if_neg (by omega),if_neg (by omega),if_neg (by omega),e]
   simp only[map_cons,map_nil,sum_cons,sum_nil,Nat.add_zero,getD_cons_zero,getD_cons_succ]
   rcases a with a | a
   ·rw[if_pos a]
    exact (cat_G g1 g2 (by omega) (by omega)).up (by omega)
   ·rw[if_neg (by omega),if_pos a]
    exact (alt_G g1 g2).up (by omega)
  ·have g1:=side_G fn M hfn h p (by omega) hp1
   unfold sizeR sideS
   rw[if_neg (by omega),if_neg (by omega),if_neg (by omega),if_neg (by omega),if_neg (by omega),if_neg (by omega),if_pos a,e]
   simp only[map_cons,map_nil,sum_cons,sum_nil,Nat.add_zero,getD_cons_zero]
   exact (star_G g1 (by omega)).up (by omega)
  ·have g1:=side_G fn M hfn h p (by omega) hp1
   unfold sizeR sideS
   rw[if_neg (by omega),if_neg (by omega),if_pos a,if_neg (by omega),if_neg (by omega),if_neg (by omega),if_neg (by omega),if_neg (by omega),e]
   simp only[map_cons,map_nil,sum_cons,sum_nil,Nat.add_zero,getD_cons_zero]
   have:=tim_G (lo:=x.a.2.1) g1 (by omega) x.a.2.2.1.toNat 0 0 (sd [] [] [] [] 0) (by omega) (by rw[show ((0:Nat):Int)*cB h=0 by simp]; exact empty_G M 0 (Int.le_refl _))
   rw[Nat.add_zero,Nat.mul_comm,Nat.zero_add] at this
   refine this.up ?_
   have:((x.a.2.2.1.toNat:Nat):Int)*cB h≤4*cB h:=Int.mul_le_mul_of_nonneg_right (by omega) hc.1
   omega
  ·have g1:=side_G fn M hfn h p (by omega) hp1
   unfold sizeR sideS
   rw[if_neg (by omega),if_neg (by omega),if_neg (by omega),if_neg (by omega),if_neg (by omega),if_neg (by omega),if_neg (by omega),if_pos a,e]
   simp only[map_cons,map_nil,sum_cons,sum_nil,Nat.add_zero,getD_cons_zero]
   exact (wgt_G g1 (by omega) b).up (by omega)
theorem get_pre {α:Type} (A rest:List α) (i:Nat) (d:α) (h1:i<A.length) (h2:i<rest.length):getD (A.take i++rest.drop i) i d=getD rest i d:=by
 rw[drop_eq_getElem_cons h2,getD_eq_getElem?_getD,List.getElem?_append_right (by rw[length_take]; omega),show i-(A.take i).length=0 by rw[length_take]; omega,getD_lt rest i d h2]
 rfl
theorem F74_0_ok (k:Nat) (f:RexT→FileT→Option ((SideT×Unit)×Unit)) (c2:UnfT) (c4:SideT) (g F e:List Int) (l:List ArcT) (w':Int) (hF:CstL F) (hw:Cst c2.2.2.2.1) (hl:F.length≤1000):∀(d m i:Nat),i+d=F.length→d<m →
  F74_0 k f m (i:Int) c2 c4 (sd g ((F.map fun x=>adI x c2.2.2.2.1).take i++F.drop i) e l w')=some ((),(c4,(sd g (F.map fun x=>adI x c2.2.2.2.1) e l w',())))
 |0,m,i,hi,hm=>by
  obtain ⟨m,rfl⟩:=pos1 (m:=m) (by omega)
  obtain rfl:i=F.length:=by omega
  simp only[F74_0]
  rw[len_pre _ F F.length (by rw[length_map]; omega) (by omega),dnlt,cond_false,drop_length,append_nil,take_all _ _ (length_map _)]
 |d+1,m,i,hi,hm=>by
  obtain ⟨m,rfl⟩:=pos1 (m:=m) (by omega)
  have hlt:i<F.length:=by omega
  have hml:i<(F.map fun x=>adI x c2.2.2.2.1).length:=by rw[length_map]; exact hlt
  have ih:=F74_0_ok k f c2 c4 g F e l w' hF hw hl d m (i+1) (by omega) (by omega)
  have ge:adI (getD F i 0) c2.2.2.2.1=getD (F.map fun x=>adI x c2.2.2.2.1) i 0:=(getD_map (fun x=>adI x c2.2.2.2.1) _ i 0 0 hlt).symm
  simp only[F74_0]
  rw[len_pre _ F i (by omega) (by omega),dlt hlt,cond_true,if_pos (inR hlt),tnI i,get_pre _ F i 0 hml hlt,F34_ad k _ _ (hF.at_ hlt) hw,bind_some]
  simp only
  rw[if_pos (inR hlt),ge,set_pre _ F i 0 hml hlt,wsucc i _ hlt (by omega),ih]
  rfl
theorem F74_1_ok (k:Nat) (f:RexT→FileT→Option ((SideT×Unit)×Unit)) (c2:UnfT) (c4 a:SideT) (n M:Nat) (C:Int) (hk:10000000≤k) (ha:SideG n C M a) (hC:0≤C∧C≤1000000):∀(j m p q:Nat) (s:SideT),j<m→q+j≤20→j*n+p≤500→SideG p ((q:Int)*C) M s →
  F74_1 k f m (j:Int) c2 c4 s a=some ((),(c4,(timS a c2.2.1 j s,())))
 |0,m,p,q,s,hm,hq,hn,hs=>by
  obtain ⟨m,rfl⟩:=pos1 (m:=m) (by omega)
  simp only[F74_1]
  rw[decide_eq_false (by omega),cond_false]
  rfl
 |j+1,m,p,q,s,hm,hq,hn,hs=>by
  obtain ⟨m,rfl⟩:=pos1 (m:=m) (by omega)
  have hqc:0≤(q:Int)*C∧(q:Int)*C≤20000000:=⟨mul_nonneg (by omega) hC.1,by
   have:(q:Int)*C≤20*1000000:=Int.mul_le_mul (by omega) hC.2 hC.1 (by omega)
   omega⟩
  have hn':(j+1)*n+p=j*n+(n+p):=by rw[add_mul]; omega
  have hnp:n+p≤500:=by omega
  have sa:=ha.sd (by omega) (by omega)
  have ss:=hs.sd (by omega) (by omega)
  have h:=cat_G ha hs (by omega) (by omega)
  have e1:C+(q:Int)*C=((q+1:Nat):Int)*C:=by
   rw[show ((q+1:Nat):Int)=(q:Int)+1 by omega,Int.add_mul,Int.one_mul,Int.add_comm]
  rw[e1] at h
  have la:=srt_len ha.srt ha.arcs
  have ls:=srt_len hs.srt hs.arcs
  have m1:n*n≤500*500:=mul_le_mul (by omega) (by omega)
  have m2:p*p≤500*500:=mul_le_mul (by omega) (by omega)
  have e56:=F97_ok k a s hk sa ss (by omega)
  have hj:IntKind.wrap .i64 (((j+1:Nat):Int)-1)=(j:Int):=by rw[w64 _ (by omega) (by omega)]; omega
  simp only[F74_1]
  rw[decide_eq_true (by omega),cond_true,e56,bind_some]
  simp only
  rw[hj,timS]
  by_cases hgt:((j+1:Nat):Int)>c2.2.1
  ·rw[decide_eq_true hgt,cond_true,if_pos hgt]
   have ih:=F74_1_ok k f c2 c4 a n M C hk ha hC j m (n+p) (q+1) (sd (catS a s).1 (catS a s).2.1 (catS a s).2.2.1 (catS a s).2.2.2.1 0) (by omega) (by omega) (by omega) (none_G h (mul_nonneg (by omega) hC.1))
   have ih':F74_1 k f m (j:Int) c2 c4 ((catS a s).1,((catS a s).2.1,((catS a s).2.2.1,((catS a s).2.2.2.1,((0:Int),(catS a s).2.2.2.2.2))))) a=_:=ih
   rw[ih',bind_some]
  ·rw[decide_eq_false hgt,cond_false,if_neg hgt]
   have ih:=F74_1_ok k f c2 c4 a n M C hk ha hC j m (n+p) (q+1) (catS a s) (by omega) (by omega) (by omega) h
   rw[ih,bind_some]
end Go.Proofs.YtgmmopbpldgpcaaE
set_option linter.unusedSimpArgs false
set_option linter.unusedVariables false
set_option maxRecDepth 20000
namespace Go.Proofs.YtgmmopbpldgpcaaE
theorem R74_ok {w:Bool} (fl:FileT) (hfl:fl.1.length≤1000):∀(h k:Nat) (x:RexT),h≤5→RexP w h x→sizeR h x≤500→h+10000000<k→R74 k x fl=some ((sideS (fnd fl.1) h x,()),()):=by
 have leaf:∀(h k:Nat) (x:RexT),Leaf x→h+10000000<k→R74 k x fl=some ((sideS (fnd fl.1) h x,()),()):=by
  intro h k x p hk
  obtain ⟨k,rfl⟩:∃k',k=k'+1:=⟨k-1,by omega⟩
  have e54:=F96_ok k 1 (by omega) (by omega)
  rw[show ((1:Nat):Int)=1 from rfl] at e54
  rw[sideS_leaf p]
  have hS:leafS (fnd fl.1) x=(if x.a.1=1 then sd [] [] [] [] 0 else if x.a.1=2 then sd [fnd fl.1 x.a.2.2.2.2.1] [0] [0] [] 1152921504606846976 else sd [-1] [0] [0] [] 1152921504606846976):=rfl
  generalize leafS (fnd fl.1) x=S at hS
  show B74 k (R74 k) x fl=_
  unfold B74
  rcases p.1 with p | p | p
  ·rw[if_pos p] at hS
   rw[hS,p,F95_ok k (by omega)]
   rfl
  ·rw[if_neg (by omega),if_pos p.1] at hS
   rw[hS,p.1,e54,F83_ok k fl _ hfl (by omega)]
   rfl
  ·rw[if_neg (by omega),if_neg (by omega)] at hS
   rw[hS,p,e54]
   rfl
 intro h
 induction h with
 |zero=>intro k x _ p _ hk; exact leaf 0 k x p hk
 |succ h ih =>
  intro k x h5 p hsz hk
  have hL:Leaf x∨¬(x.a.1=1∨x.a.1=2∨x.a.1=3):=by
   rcases p with p | ⟨a,_⟩ | ⟨a,_⟩ | ⟨a,_⟩ | ⟨a,_⟩
   ·exact .inl p
   all_goals right; omega
  rcases hL with hp | hx
  ·exact leaf (h+1) k x hp hk
  obtain ⟨k,rfl⟩:∃k',k=k'+1:=⟨k-1,by omega⟩
  have hc:=cB_range h (by omega)
  have hpow:∀y,RexP w h y→sizeR h y≤500:=fun y hy=>by
   have:=sizeR_le h y hy
   have h2:4^h≤4^4:=Nat.pow_le_pow_right (by omega) (by omega)
   have h3:(4:Nat)^4=256:=by decide
   omega
  have hrec:∀y,RexP w h y→R74 k y fl=some ((sideS (fnd fl.1) h y,()),())∧SideG (sizeR h y) (cB h) fl.1.length (sideS (fnd fl.1) h y):=fun y hy=>⟨ih k y (by omega) hy (hpow y hy) (by omega),side_G (fnd fl.1) fl.1.length (fnd_range fl.1) h y (by omega) hy⟩
  have hS:sideS (fnd fl.1) (h+1) x=(if x.a.1=4 then catS (sideS (fnd fl.1) h (getD x.l 0 rex0)) (sideS (fnd fl.1) h (getD x.l 1 rex0))
   else if x.a.1=5 then altS (sideS (fnd fl.1) h (getD x.l 0 rex0)) (sideS (fnd fl.1) h (getD x.l 1 rex0))
   else if x.a.1=6 then starS (sideS (fnd fl.1) h (getD x.l 0 rex0))
   else if x.a.1=8 then wgtS (sideS (fnd fl.1) h (getD x.l 0 rex0)) x.a.2.2.2.1
   else timS (sideS (fnd fl.1) h (getD x.l 0 rex0)) x.a.2.1 x.a.2.2.1.toNat (sd [] [] [] [] 0)):=by
   conv=>lhs; unfold sideS
   exact if_neg hx
  generalize sideS (fnd fl.1) (h+1) x=S at hS
  show B74 k (R74 k) x fl=_
  unfold B74
  rw[beq_false_of_ne (show ¬x.a.1=1 by omega),beq_false_of_ne (show ¬x.a.1=2 by omega),beq_false_of_ne (show ¬x.a.1=3 by omega),cond_false,cond_false,cond_false]
  rcases p with p | ⟨a,p,q,e,hp1,hq1⟩ | ⟨a,p,e,hp1⟩ | ⟨a,b,p,e,hp1⟩ | ⟨a,_,b,p,e,hp1⟩
  ·exact absurd (leaf3 p) hx
  ·obtain ⟨e1,g1⟩:=hrec p hp1
   obtain ⟨e2,g2⟩:=hrec q hq1
   have n1:=hpow p hp1
   have n2:=hpow q hq1
   have s1:=g1.sd n1 (by omega)
   have s2:=g2.sd n2 (by omega)
   have m1:sizeR h p*sizeR h p≤500*500:=mul_le_mul n1 n1
   have m2:sizeR h q*sizeR h q≤500*500:=mul_le_mul n2 n2
   have l1:=srt_len g1.srt g1.arcs
   have l2:=srt_len g2.srt g2.arcs
   have i0:(0:Int)≤0∧(0:Int)<((([p,q]:List RexT).length:Nat):Int):=by simp only[length_cons,length_nil]; omega
   have i1:(0:Int)≤1∧(1:Int)<((([p,q]:List RexT).length:Nat):Int):=by simp only[length_cons,length_nil]; omega
   rw[e] at hS ⊢
   rcases a with a | a
   ·rw[if_pos a] at hS
    rw[hS,a,show ((4:Int)==4)=true from rfl,cond_true,if_pos i0,if_pos i1]
    simp only[show Int.toNat 0=0 from rfl,show Int.toNat 1=1 from rfl,getD_cons_zero,getD_cons_succ]
    rw[e1,bind_some,e2,bind_some]
    simp only
    rw[F97_ok k _ _ (by omega) s1 s2 (by omega),bind_some]
   ·rw[if_neg (by omega),if_pos a] at hS
    rw[hS,a,show ((5:Int)==4)=false from rfl,cond_false,show ((5:Int)==5)=true from rfl,cond_true,if_pos i0,if_pos i1]
    simp only[show Int.toNat 0=0 from rfl,show Int.toNat 1=1 from rfl,getD_cons_zero,getD_cons_succ]
    rw[e1,bind_some,e2,bind_some]
    simp only
    rw[F98_ok k _ _ (by omega) s1 s2,bind_some]
  ·obtain ⟨e1,g1⟩:=hrec p hp1
   have s1:=g1.sd (hpow p hp1) (by omega)
   have i0:(0:Int)≤0∧(0:Int)<((([p]:List RexT).length:Nat):Int):=by simp only[length_cons,length_nil]; omega
   rw[if_neg (by omega),if_neg (by omega),if_pos a,e] at hS
   rw[hS,e,a,show ((6:Int)==4)=false from rfl,cond_false,show ((6:Int)==5)=false from rfl,cond_false,show ((6:Int)==6)=true from rfl,cond_true,if_pos i0]
   simp only[show Int.toNat 0=0 from rfl,getD_cons_zero]
   rw[e1,bind_some]
   simp only
   rw[F99_ok k _ (by omega) s1,bind_some]
  ·obtain ⟨e1,g1⟩:=hrec p hp1
   have s1:=g1.sd (hpow p hp1) (by omega)
   have i0:(0:Int)≤0∧(0:Int)<((([p]:List RexT).length:Nat):Int):=by simp only[length_cons,length_nil]; omega
   have hszp:sizeR h p*x.a.2.2.1.toNat≤500:=by
    unfold sizeR at hsz
    rw[if_neg (by omega),if_neg (by omega),if_pos a,e] at hsz
    simpa only[map_cons,map_nil,sum_cons,sum_nil,Nat.add_zero] using hsz
   have hi:x.a.2.2.1=((x.a.2.2.1.toNat:Nat):Int):=by omega
   have e44:=F74_1_ok k (R74 k) (x.a.1,(x.a.2.1,(x.a.2.2.1,(x.a.2.2.2.1,(x.a.2.2.2.2.1,(x.l,())))))) (sd [] [] [] [] 0) (sideS (fnd fl.1) h p) (sizeR h p) fl.1.length (cB h) (by omega) g1 (by omega) x.a.2.2.1.toNat k 0 0 (sd [] [] [] [] 0) (by omega) (by omega) (by rw[Nat.add_zero,Nat.mul_comm]; exact hszp) (by rw[show ((0:Nat):Int)*cB h=0 by simp]; exact empty_G _ 0 (Int.le_refl _))
   rw[←hi,e,a] at e44
   have e44':F74_1 k (R74 k) k x.a.2.2.1 ((7:Int),(x.a.2.1,(x.a.2.2.1,(x.a.2.2.2.1,(x.a.2.2.2.2.1,([p],())))))) ([],([],([],([],((0:Int),()))))) (sd [] [] [] [] 0) (sideS (fnd fl.1) h p)=_:=e44
   rw[if_neg (by omega),if_neg (by omega),if_neg (by omega),if_neg (by omega),e] at hS
   rw[hS,e,a,show ((7:Int)==4)=false from rfl,cond_false,show ((7:Int)==5)=false from rfl,cond_false,show ((7:Int)==6)=false from rfl,cond_false,show ((7:Int)==8)=false from rfl,cond_false,if_pos i0]
   simp only[show Int.toNat 0=0 from rfl,getD_cons_zero]
   rw[F95_ok k (by omega),bind_some,e1,bind_some]
   simp only
   rw[e44',bind_some]
  ·obtain ⟨e1,g1⟩:=hrec p hp1
   have s1:=g1.sd (hpow p hp1) (by omega)
   have i0:(0:Int)≤0∧(0:Int)<((([p]:List RexT).length:Nat):Int):=by simp only[length_cons,length_nil]; omega
   have hw:Cst x.a.2.2.2.1:=by unfold Cst; omega
   have e44:=F74_0_ok k (R74 k) (x.a.1,(x.a.2.1,(x.a.2.2.1,(x.a.2.2.2.1,(x.a.2.2.2.2.1,(x.l,())))))) (sd [] [] [] [] 0) (sideS (fnd fl.1) h p).1 (sideS (fnd fl.1) h p).2.1 (sideS (fnd fl.1) h p).2.2.1 (sideS (fnd fl.1) h p).2.2.2.1 (adI (sideS (fnd fl.1) h p).2.2.2.2.1 x.a.2.2.2.1) s1.cf hw (by have:=s1.lf; have:=s1.n; omega) (sideS (fnd fl.1) h p).2.1.length k 0 (Nat.zero_add _) (by have:=s1.lf; have:=s1.n; omega)
   rw[take_zero,drop_zero,nil_append,e,a,show ((0:Nat):Int)=0 from rfl] at e44
   have e44':F74_0 k (R74 k) k 0 ((8:Int),(x.a.2.1,(x.a.2.2.1,(x.a.2.2.2.1,(x.a.2.2.2.2.1,([p],())))))) ([],([],([],([],((0:Int),()))))) ((sideS (fnd fl.1) h p).1,((sideS (fnd fl.1) h p).2.1,((sideS (fnd fl.1) h p).2.2.1,((sideS (fnd fl.1) h p).2.2.2.1,(adI (sideS (fnd fl.1) h p).2.2.2.2.1 x.a.2.2.2.1,(sideS (fnd fl.1) h p).2.2.2.2.2)))))=_:=e44
   rw[if_neg (by omega),if_neg (by omega),if_neg (by omega),if_pos a,e] at hS
   rw[hS,e,a,show ((8:Int)==4)=false from rfl,cond_false,show ((8:Int)==5)=false from rfl,cond_false,show ((8:Int)==6)=false from rfl,cond_false,show ((8:Int)==8)=true from rfl,cond_true,if_pos i0]
   simp only[show Int.toNat 0=0 from rfl,getD_cons_zero]
   rw[e1,bind_some]
   simp only
   rw[F34_ad k _ _ s1.cn hw,bind_some]
   simp only
   rw[e44',bind_some]
   rfl
theorem rex_eta (x:RexT):Tree.mk ((Tree.a x).1,((Tree.a x).2.1,((Tree.a x).2.2.1,((Tree.a x).2.2.2.1,((Tree.a x).2.2.2.2.1,()))))) (Tree.l x)=x:=by
 cases x
 rfl
theorem F41_ok {w:Bool} (k:Nat) (x:RexT) (fl:FileT) (hfl:fl.1.length≤1000) (hx:RexP w 5 x) (hk:20000000≤k) :
  F41 k x fl=some ((if sizeR 5 x>120 then (sd [] [] [] [] 0,(false,())) else (sideS (fnd fl.1) 5 x,(true,()))),()):=by
 unfold F41
 simp only[rex_eta]
 have e43:F73 k x=some (((sizeR 5 x:Int),()),()):=R73_ok 5 k x (by omega) hx (by omega)
 rw[e43,bind_some]
 simp only
 by_cases hs:sizeR 5 x>120
 ·rw[decide_eq_true (by omega),cond_true,if_pos hs]
 ·have e44:F74 k x fl=some ((sideS (fnd fl.1) 5 x,()),()):=R74_ok fl hfl 5 k x (Nat.le_refl _) hx (by omega) (by omega)
  rw[decide_eq_false (by omega),cond_false,if_neg hs,e44,bind_some]
def ClsL (P:ByteArray→Prop) (x:ClsT):Prop:=x.l=[]∧(x.a.1=1∨(x.a.1=2∧P x.a.2.2.2.1)∨x.a.1=3)
def ClsP (P:ByteArray→Prop):Nat→ClsT→Prop
 |0,x=>ClsL P x
 |h+1,x=>ClsL P x∨(x.a.1=4∧∃p,x.l=[p]∧ClsP P h p)∨((x.a.1=5∨x.a.1=6∨x.a.1=7)∧∃p q,x.l=[p,q]∧ClsP P h p∧ClsP P h q)
theorem ClsL.mono {P Q:ByteArray→Prop} (hPQ:∀nm,P nm→Q nm) {x:ClsT} (h:ClsL P x):ClsL Q x:=⟨h.1,h.2.imp id fun q=>q.imp (fun r=>⟨r.1,hPQ _ r.2⟩) id⟩
theorem ClsP.mono {P Q:ByteArray→Prop} (hPQ:∀nm,P nm→Q nm):∀ {h:Nat} {x:ClsT},ClsP P h x→ClsP Q h x
 |0,x,p=>ClsL.mono hPQ p
 |h+1,x,p=>by
  rcases p with p | ⟨a,p,e,hp⟩ | ⟨a,p,q,e,hp,hq⟩
  ·exact .inl (p.mono hPQ)
  ·exact .inr (.inl ⟨a,p,e,hp.mono hPQ⟩)
  ·exact .inr (.inr ⟨a,p,q,e,hp.mono hPQ,hq.mono hPQ⟩)
def def0:DefT:=(ByteArray.empty,(Tree.mk (0,(0,(0,(ByteArray.empty,())))) [],()))
theorem R88_ok (ahead:List DefT) (h0:0<ahead.length) (h1:ahead.length≤1000):∀(e d k:Nat) (n:Int),d+e=4→e<k→0≤n→n≤1099511627776→∃x,R88 k n ahead (d:Int)=some ((x,()),(ahead,()))∧ClsP (fun nm=>∃y∈ahead,y.1=nm) e x:=by
 intro e
 induction e with
 |zero =>
  intro d k n hd hk hn hn2
  obtain ⟨k,rfl⟩:∃k',k=k'+1:=⟨k-1,by omega⟩
  show ∃x,B88 k (R88 k) n ahead (d:Int)=some ((x,()),(ahead,()))∧_
  unfold B88
  rw[F67_eq k n 16 (by omega) (by omega),bind_some]
  simp only
  rw[F67_eq k _ 50 (by omega) (by omega),bind_some,decide_eq_true (show (d:Int)>3 by omega),cond_true]
  cases decide (n%16<5) with
  |true=>rw[cond_true]; exact ⟨_,rfl,rfl,.inl rfl⟩
  |false=>rw[cond_false]; exact ⟨_,rfl,rfl,.inl rfl⟩
 |succ e ih =>
  intro d k n hd hk hn hn2
  obtain ⟨k,rfl⟩:∃k',k=k'+1:=⟨k-1,by omega⟩
  have hm:IntKind.wrap .i64 (tdiv n 16)=n/16:=by rw[Int.tdiv_eq_ediv_of_nonneg hn,w64 _ (by omega) (by omega)]
  have hm3:IntKind.wrap .i64 (tdiv (n/16) 3)=n/16/3:=by rw[Int.tdiv_eq_ediv_of_nonneg (by omega),w64 _ (by omega) (by omega)]
  have hm48:IntKind.wrap .i64 (tdiv (n/16) 48)=n/16/48:=by rw[Int.tdiv_eq_ediv_of_nonneg (by omega),w64 _ (by omega) (by omega)]
  have hd1:IntKind.wrap .i64 ((d:Int)+1)=((d+1:Nat):Int):=by rw[w64 _ (by omega) (by omega)]; omega
  have ht:tmod (n/16) 3=n/16%3:=Int.tmod_eq_emod_of_nonneg (by omega)
  have hk5:IntKind.wrap .i64 (5+n/16%3)=5+n/16%3:=w64 _ (by omega) (by omega)
  obtain ⟨p1,e1,q1⟩:=ih (d+1) k (n/16) (by omega) (by omega) (by omega) (by omega)
  obtain ⟨p2,e2,q2⟩:=ih (d+1) k (n/16/3) (by omega) (by omega) (by omega) (by omega)
  obtain ⟨p3,e3,q3⟩:=ih (d+1) k (n/16/48) (by omega) (by omega) (by omega) (by omega)
  have el:=F67_eq k (n/16) ((ahead.length:Nat):Int) (by omega) (by omega)
  have hml:=emod_nonneg (n/16) (show ((ahead.length:Nat):Int)≠0 by omega)
  have hml2:=emod_lt_of_pos (n/16) (show 0<((ahead.length:Nat):Int) by omega)
  show ∃x,B88 k (R88 k) n ahead (d:Int)=some ((x,()),(ahead,()))∧_
  unfold B88
  simp only[hm,hm3,hm48,hd1,ht,hk5,two_list,one_list]
  rw[F67_eq k n 16 (by omega) (by omega),bind_some,decide_eq_false (show ¬(d:Int)>3 by omega),cond_false,F67_eq k (n/16) 50 (by omega) (by omega),F67_eq k (n/16) 1114112 (by omega) (by omega)]
  simp only[bind_some]
  rw[el,e1,e2]
  simp only[bind_some]
  rw[e3]
  simp only[bind_some]
  by_cases c1:n%16<5
  ·rw[decide_eq_true c1,cond_true]
   exact ⟨_,rfl,.inl ⟨rfl,.inl rfl⟩⟩
  rw[decide_eq_false c1,cond_false]
  by_cases c2:n%16<6
  ·rw[decide_eq_true c2,cond_true]
   exact ⟨_,rfl,.inl ⟨rfl,.inl rfl⟩⟩
  rw[decide_eq_false c2,cond_false,decide_eq_true (show ((ahead.length:Nat):Int)>0 by omega),cond_true]
  by_cases c3:n%16<8
  ·rw[decide_eq_true c3,cond_true,if_pos ⟨hml,hml2⟩]
   refine ⟨_,rfl,.inl ⟨rfl,.inr (.inl ⟨rfl,_,getD_mem (d:=def0) (show (n/16%((ahead.length:Nat):Int)).toNat<ahead.length by omega),rfl⟩)⟩⟩
  rw[decide_eq_false c3,cond_false]
  by_cases c4:n%16<9
  ·rw[decide_eq_true c4,cond_true]
   exact ⟨_,rfl,.inl ⟨rfl,.inr (.inr rfl)⟩⟩
  rw[decide_eq_false c4,cond_false]
  by_cases c5:n%16<10
  ·rw[decide_eq_true c5,cond_true]
   exact ⟨_,rfl,.inr (.inl ⟨rfl,p1,rfl,q1⟩)⟩
  rw[decide_eq_false c5,cond_false]
  refine ⟨_,rfl,.inr (.inr ⟨?_,p2,p3,rfl,q2,q3⟩)⟩
  simp only[Tree.a]
  omega
def DefsP (l:List DefT):Prop:=∀j,j<l.length→ClsP (fun nm=>∃i,i<j∧(getD l i def0).1=nm) 4 (getD l j def0).2.1
theorem getD_app1 {α:Type} (l q:List α) (i:Nat) (d:α) (h:i<l.length):getD (l++q) i d=getD l i d:=by
 simp[getD_eq_getElem?_getD,getElem?_append_left h]
theorem getD_last {α:Type} (l:List α) (x d:α):getD (l++[x]) l.length d=x:=by
 simp[getD_eq_getElem?_getD]
theorem defs_add {l:List DefT} (h:DefsP l) {nm:ByteArray} {c:ClsT} (hc:ClsP (fun nm=>∃y∈l,y.1=nm) 4 c):DefsP (l++[(nm,(c,()))]):=fun j hj=>by
 rw[length_append,length_singleton] at hj
 by_cases hlt:j<l.length
 ·rw[getD_app1 _ _ _ _ hlt]
  exact (h j hlt).mono fun nm ⟨i,hi,e⟩=>⟨i,hi,by rw[getD_app1 _ _ _ _ (by omega)]; exact e⟩
 ·obtain rfl:j=l.length:=by omega
  rw[getD_last]
  exact hc.mono fun nm ⟨y,hy,e⟩=>by
   obtain ⟨i,hi,rfl⟩:=List.getElem_of_mem hy
   exact ⟨i,hi,by rw[getD_app1 _ _ _ _ hi,getD_lt l i _ hi]; exact e⟩
theorem F66_0_ok (k:Nat) (ds:List Int) (hk:10000000≤k):∀(d m i:Nat) (l:List DefT),i+d=2→d<m→l.length=4+i→DefsP l→∃l',F66_0 k m ds (i:Int) l=some ((),(l',()))∧4≤l'.length∧l'.length≤6∧DefsP l'∧∃t,l'=l++t
 |0,m,i,l,hi,hm,hl,h=>by
  obtain ⟨m,rfl⟩:=pos1 (m:=m) (by omega)
  refine ⟨l,?_,by omega,by omega,h,[],(append_nil l).symm⟩
  simp only[F66_0]
  by_cases hlt:i<ds.length
  ·rw[dlt hlt,cond_true,decide_eq_false (by omega),cond_false]
  ·rw[decide_eq_false (by omega),cond_false]
 |d+1,m,i,l,hi,hm,hl,h=>by
  obtain ⟨m,rfl⟩:=pos1 (m:=m) (by omega)
  by_cases hlt:i<ds.length
  ·have m1:=emod_nonneg (getD ds i 0) (show (1099511627776:Int)≠0 by omega)
   have m2:=emod_lt_of_pos (getD ds i 0) (show (0:Int)<1099511627776 by omega)
   obtain ⟨x,e41,hx⟩:=R88_ok l (by omega) (by omega) 4 0 k (getD ds i 0%1099511627776) rfl (by omega) m1 (by omega)
   have e41':F88 k (getD ds i 0%1099511627776) l 0=some ((x,()),(l,())):=e41
   obtain ⟨l',e,hl1,hl2,hl3,tl,hl4⟩:=F66_0_ok k ds hk d m (i+1) (l++[(getD nms (4+i) ByteArray.empty,(x,()))]) (by omega) (by omega) (by rw[length_append,length_singleton]; omega) (defs_add h hx)
   refine ⟨l',?_,hl1,hl2,hl3,_::tl,by rw[hl4,append_assoc]; rfl⟩
   have h4:IntKind.wrap .i64 (4+(i:Int))=((4+i:Nat):Int):=by rw[w64 _ (by omega) (by omega)]; omega
   have hn:(0:Int)≤((4+i:Nat):Int)∧((4+i:Nat):Int)<((nms.length:Nat):Int):=by simp only[nms,length_cons,length_nil]; omega
   have hc:(l.length+[(getD nms (4+i) ByteArray.empty,(x,()))].length)*(80*2)≤281474976710656∧l.length+[(getD nms (4+i) ByteArray.empty,(x,()))].length≤9223372036854775807:=by rw[length_singleton]; omega
   simp only[F66_0,one_list]
   rw[dlt hlt,cond_true,decide_eq_true (by omega),cond_true,if_pos (inR hlt),F87_eq,bind_some,h4]
   simp only
   rw[if_pos hn,tnI i,tnI (4+i),F67_eq k _ _ (by omega) (by omega),bind_some]
   simp only
   rw[e41',bind_some]
   simp only
   rw[if_pos hc,show IntKind.wrap .i64 ((i:Int)+1)=((i+1:Nat):Int) by rw[w64 _ (by omega) (by omega)]; omega,e,bind_some]
  ·refine ⟨l,?_,by omega,by omega,h,[],(append_nil l).symm⟩
   simp only[F66_0]
   rw[decide_eq_false (by omega),cond_false]
def rngC (lo hi:Int):ClsT:=Tree.mk (1,(lo,(hi,(ByteArray.empty,())))) []
def defs4:List DefT:=[(⟨#[97]⟩,(rngC 97 97,())),(⟨#[118]⟩,(rngC 97 99,())),(⟨#[100]⟩,(Tree.mk (5,(0,(0,(ByteArray.empty,())))) [rngC 48 57,rngC 19968 20223],())),
 (⟨#[115]⟩,(Tree.mk (7,(0,(0,(ByteArray.empty,())))) [Tree.mk (3,(0,(0,(ByteArray.empty,())))) [],Tree.mk (2,(0,(0,(⟨#[118]⟩,())))) []],()))]
theorem defs4_ok:DefsP defs4:=fun j hj=>by
 match j,hj with
 |0,_=>exact .inl ⟨rfl,.inl rfl⟩
 |1,_=>exact .inl ⟨rfl,.inl rfl⟩
 |2,_=>exact .inr (.inr ⟨.inl rfl,_,_,rfl,.inl ⟨rfl,.inl rfl⟩,.inl ⟨rfl,.inl rfl⟩⟩)
 |3,_=>exact .inr (.inr ⟨.inr (.inr rfl),_,_,rfl,.inl ⟨rfl,.inr (.inr rfl)⟩,.inl ⟨rfl,.inr (.inl ⟨rfl,1,by omega,rfl⟩)⟩⟩)
 |j+4,h=>simp only[defs4,length_cons,length_nil] at h; omega
theorem F86_eq (k:Nat) (a b:Int):F86 k a b=some ((rngC a b,()),()):=rfl
theorem F66_ok (k:Nat) (ds:List Int) (hk:10000000≤k):∃l,F66 k ds=some ((l,()),())∧4≤l.length∧l.length≤6∧DefsP l∧∃t,l=defs4++t:=by
 obtain ⟨l,e,h1,h2,h3⟩:=F66_0_ok k ds hk 2 k 0 defs4 rfl (by omega) rfl defs4_ok
 refine ⟨l,?_,h1,h2,h3⟩
 unfold F66
 simp only[F86_eq,bind_some]
 have e':F66_0 k k ds 0 defs4=some ((),(l,())):=e
 show (F66_0 k k ds 0 defs4).bind _=_
 rw[e',bind_some]
abbrev RgE:=Int×(Int×Unit)
abbrev RgT:=List RgE
def RgP (r:RgE):Prop:=0≤r.1∧r.1≤r.2.1∧r.2.1≤1114111
def LoS (l:RgT):Prop:=l.Pairwise (fun a b=>a.1≤b.1)∧∀r∈l,RgP r
def RgS (l:RgT):Prop:=l.Pairwise (fun a b=>a.2.1+2≤b.1)∧∀r∈l,RgP r
theorem rgS_len {l:RgT} (h:RgS l):l.length≤1114112:=by
 have key:∀(l:RgT) (c:Nat),RgS l→(∀r∈l,(c:Int)≤r.1)→c+l.length≤1114112∨l=[]:=by
  intro l
  induction l with
  |nil=>intro c _ _; exact .inr rfl
  |cons a l ih =>
   intro c hs hc
   obtain ⟨h1,h2⟩:=List.pairwise_cons.1 hs.1
   have ga:=hs.2 a mem_cons_self
   have ha:=hc a mem_cons_self
   unfold RgP at ga
   left
   rcases ih (c+1) ⟨h2,fun r hr=>hs.2 r (mem_cons_of_mem _ hr)⟩ (fun r hr=>by have:=h1 r hr; omega) with q | q
   ·simp only[length_cons]; omega
   ·subst q
    simp only[length_cons,length_nil]
    omega
 rcases key l 0 h (fun r hr=>by have:=h.2 r hr; unfold RgP at this; omega) with q | q
 ·omega
 ·subst q; simp
def posL (x:Int) (l:RgT) (p:Nat):Prop:=p≤l.length∧(∀r∈l.take p,r.1≤x)∧∀r∈l.drop p,x<r.1
theorem F100_0_ok (k:Nat) (t0:RgT) (t4:Int) (x:RgE) (l:RgT) (hl:LoS l) (hn:l.length≤100000000):∀(p m:Nat),p<m→p≤l.length→(∀r∈l.drop p,x.1<r.1)→∃q:Nat,F100_0 k m t0 t4 (p:Int) x l=some ((t0,(t4,((q:Int),()))),(x,(l,())))∧posL x.1 l q
 |0,m,hm,hp,hd=>by
  obtain ⟨m,rfl⟩:=pos1 (m:=m) (by omega)
  refine ⟨0,?_,zero_le _,(fun r hr=>by simp at hr),hd⟩
  simp only[F100_0]
  rw[decide_eq_false (by omega),cond_false]
 |p+1,m,hm,hp,hd=>by
  obtain ⟨m,rfl⟩:=pos1 (m:=m) (by omega)
  have hlt:p<l.length:=by omega
  have hw:IntKind.wrap .i64 (((p+1:Nat):Int)-1)=(p:Int):=by rw[w64 _ (by omega) (by omega)]; omega
  simp only[F100_0,hw]
  rw[decide_eq_true (by omega),cond_true,if_pos (inR hlt),tnI p,getD_lt l p _ hlt]
  by_cases hx:x.1<l[p].1
  ·rw[decide_eq_true hx,cond_true,bind_fun_some]
   refine F100_0_ok k t0 t4 x l hl hn p m (by omega) (by omega) fun r hr=>?_
   rw[drop_eq_getElem_cons hlt] at hr
   rcases List.mem_cons.1 hr with e | e
   ·rw[e]; exact hx
   ·exact hd r e
  ·rw[decide_eq_false hx,cond_false]
   refine ⟨p+1,rfl,hp,fun r hr=>?_,hd⟩
   rw[take_succ_eq_append_getElem hlt] at hr
   rcases List.mem_append.1 hr with e | e
   ·have h2:=hl.1
    rw[←take_append_drop p l,drop_eq_getElem_cons hlt] at h2
    have:=(List.pairwise_append.1 h2).2.2 r e l[p] mem_cons_self
    omega
   ·rw[mem_singleton] at e
    rw[e]; omega
theorem ins_LoS {x:RgE} {l:RgT} {p:Nat} (hl:LoS l) (hx:RgP x) (hp:posL x.1 l p):LoS (l.take p++[x]++l.drop p):=by
 obtain ⟨h1,h2,h3⟩:=hp
 have hs:=hl.1
 rw[←take_append_drop p l] at hs
 obtain ⟨g1,g2,g3⟩:=List.pairwise_append.1 hs
 constructor
 ·refine List.pairwise_append.2 ⟨List.pairwise_append.2 ⟨g1,pairwise_singleton _ _,fun a ha b hb=>?_⟩,g2,fun a ha b hb=>?_⟩
  ·rw[List.mem_singleton.1 hb]; exact h2 a ha
  ·rcases List.mem_append.1 ha with e | e
   ·exact g3 a e b hb
   ·rw[List.mem_singleton.1 e]
    have:=h3 b hb
    omega
 ·intro r hr
  rcases List.mem_append.1 hr with e | e
  ·rcases List.mem_append.1 e with e | e
   ·exact hl.2 r (mem_of_mem_take e)
   ·rw[List.mem_singleton.1 e]; exact hx
  ·exact hl.2 r (List.mem_of_mem_drop e)
theorem F100_1_ok (k:Nat) (t0:RgT) (hn:t0.length≤5000000) (hk:10000000≤k):∀(d m i:Nat) (l:RgT),i+d=t0.length→d<m→LoS l→l.length≤i→∃l',F100_1 k m t0 (i:Int) l=some ((),(l',()))∧LoS l'∧l'.length≤t0.length
 |0,m,i,l,hi,hm,hl,hli=>by
  obtain ⟨m,rfl⟩:=pos1 (m:=m) (by omega)
  obtain rfl:i=t0.length:=by omega
  refine ⟨l,?_,hl,hli⟩
  simp only[F100_1]
  rw[dnlt,cond_false]
 |d+1,m,i,l,hi,hm,hl,hli=>by
  obtain ⟨m,rfl⟩:=pos1 (m:=m) (by omega)
  have hlt:i<t0.length:=by omega
  simp only[F100_1]
  rw[dlt hlt,cond_true,if_pos (inR hlt),if_pos (inR hlt),tnI i,getD_lt t0 i _ hlt,wsucc i _ hlt (by omega)]
  by_cases hx:maxI t0[i].1 0>minI t0[i].2.1 1114111
  ·rw[decide_eq_true hx,cond_true,bind_fun_some]
   exact F100_1_ok k t0 hn hk d m (i+1) l (by omega) (by omega) hl (by omega)
  ·have hxp:RgP (maxI t0[i].1 0,(minI t0[i].2.1 1114111,())):=by
    have m1:0≤maxI t0[i].1 0:=by unfold maxI; split<;>omega
    have m2:minI t0[i].2.1 1114111≤1114111:=by unfold minI; split<;>omega
    exact ⟨m1,by simp only; omega,m2⟩
   obtain ⟨q,e,hq⟩:=F100_0_ok k t0 (i:Int) (maxI t0[i].1 0,(minI t0[i].2.1 1114111,())) l hl (by omega) l.length k (by omega) (Nat.le_refl _) (fun r hr=>by rw[drop_length] at hr; cases hr)
   have hql:=hq.1
   have ht:(l.drop q).take (l.length-q)=l.drop q:=take_of_length_le (by rw[length_drop]; omega)
   have h1:(0+(l.take q).length)*(16*2)≤281474976710656∧0+(l.take q).length≤9223372036854775807:=by rw[length_take]; omega
   have h2:((l.take q).length+[(maxI t0[i].1 0,(minI t0[i].2.1 1114111,()))].length)*(16*2)≤281474976710656∧(l.take q).length+[(maxI t0[i].1 0,(minI t0[i].2.1 1114111,()))].length≤9223372036854775807:=by rw[length_take,length_singleton]; omega
   have h3:((l.take q++[(maxI t0[i].1 0,(minI t0[i].2.1 1114111,()))]).length+(l.drop q).length)*(16*2)≤281474976710656∧(l.take q++[(maxI t0[i].1 0,(minI t0[i].2.1 1114111,()))]).length+(l.drop q).length≤9223372036854775807:=by rw[length_append,length_take,length_singleton,length_drop]; omega
   obtain ⟨l',e2,hl'⟩:=F100_1_ok k t0 hn hk d m (i+1) (l.take q++[(maxI t0[i].1 0,(minI t0[i].2.1 1114111,()))]++l.drop q) (by omega) (by omega) (ins_LoS hl hxp hq) (by rw[length_append,length_append,length_take,length_singleton,length_drop]; omega)
   refine ⟨l',?_,hl'⟩
   rw[decide_eq_false hx,cond_false,e,bind_some]
   simp only[replicate_zero,nil_append,length_nil,one_list]
   rw[if_pos (by omega),if_pos (by omega),tnI q,tnI (l.length),show Int.toNat 0=0 from rfl,sub_zero,drop_zero,ht,if_pos h1,if_pos h2,if_pos h3,wsucc i _ hlt (by omega),e2,bind_some]
theorem F100_ok (k:Nat) (l:RgT) (hn:l.length≤5000000) (hk:10000000≤k):∃l',F100 k l=some ((l',()),())∧LoS l'∧l'.length≤l.length:=by
 obtain ⟨l',e,h⟩:=F100_1_ok k l hn hk l.length k 0 [] (Nat.zero_add _) (by omega) ⟨List.Pairwise.nil,fun r hr=>by cases hr⟩ (Nat.le_refl _)
 refine ⟨l',?_,h⟩
 have e':F100_1 k k l 0 []=some ((),(l',())):=e
 unfold F100
 rw[e',bind_some]
theorem F90_0_ok (k:Nat) (t:RgT) (hn:t.length≤5000000) (ht:LoS t):∀(d m i:Nat) (out:RgT),i+d=t.length→d<m→RgS out→out.length≤i→(∀o∈out,∀r∈t.drop i,o.1≤r.1)→∃out',F90_0 k m (i:Int) t out=some ((),(out',()))∧RgS out'
 |0,m,i,out,hi,hm,ho,hol,hlo=>by
  obtain ⟨m,rfl⟩:=pos1 (m:=m) (by omega)
  obtain rfl:i=t.length:=by omega
  refine ⟨out,?_,ho⟩
  simp only[F90_0]
  rw[dnlt,cond_false]
 |d+1,m,i,out,hi,hm,ho,hol,hlo=>by
  obtain ⟨m,rfl⟩:=pos1 (m:=m) (by omega)
  have hlt:i<t.length:=by omega
  have hx:=ht.2 _ (getElem_mem hlt)
  have hd:t.drop i=t[i]::t.drop (i+1):=drop_eq_getElem_cons hlt
  have hup:∀r∈t.drop (i+1),t[i].1≤r.1:=by
   have h2:=ht.1
   rw[←take_append_drop i t,hd] at h2
   exact (List.pairwise_cons.1 (List.pairwise_append.1 h2).2.1).1
  have hone:List.set (replicate 1 ((0:Int),((0:Int),()))) 0 t[i]=[t[i]]:=one_list _ _
  have hc:(out.length+[t[i]].length)*(16*2)≤281474976710656∧out.length+[t[i]].length≤9223372036854775807:=by rw[length_singleton]; omega
  simp only[F90_0]
  rw[dlt hlt,cond_true,if_pos (inR hlt),tnI i,getD_lt t i _ hlt,wsucc i _ hlt (by omega),hone]
  rcases Nat.eq_zero_or_pos out.length with h0 | h0
  ·have hnil:out=[]:=List.eq_nil_of_length_eq_zero h0
   subst hnil
   rw[decide_eq_false (by rw[w64 _ (by simp) (by simp)]; simp),cond_false,if_pos (inR hlt),if_pos hc]
   obtain ⟨out',e,h⟩:=F90_0_ok k t hn ht d m (i+1) [t[i]] (by omega) (by omega) ⟨pairwise_singleton _ _,fun r hr=>by rw[List.mem_singleton.1 hr]; exact hx⟩ (by simp) (fun o ho r hr=>by rw[List.mem_singleton.1 ho]; exact hup r hr)
   exact ⟨out',by rw[nil_append,e]; rfl,h⟩
  ·obtain ⟨n,hn'⟩:∃n,out.length=n+1:=⟨out.length-1,by omega⟩
   have hw:IntKind.wrap .i64 (((out.length:Nat):Int)-1)=(n:Int):=by rw[w64 _ (by omega) (by omega)]; omega
   have hnl:n<out.length:=by omega
   have hspl:out=out.take n++[out[n]]:=by
    conv=>lhs; rw[←take_append_drop n out,drop_eq_getElem_cons hnl,drop_eq_nil_of_le (show out.length≤n+1 by omega)]
   have hon:=ho.2 _ (getElem_mem hnl)
   have hlo':=hlo _ (getElem_mem hnl) t[i] (by rw[hd]; exact mem_cons_self)
   unfold RgP at hx hon
   rw[hw,decide_eq_true (by omega),cond_true,if_pos (inR hlt),if_pos (inR hnl),tnI n,getD_lt out n _ hnl,w64 (out[n].2.1+1) (by omega) (by omega)]
   by_cases hm':t[i].1≤out[n].2.1+1
   ·rw[decide_eq_true hm',cond_true,if_pos (inR hnl)]
    have hset:out.set n (out[n].1,(maxI out[n].2.1 t[i].2.1,out[n].2.2))=out.take n++[(out[n].1,(maxI out[n].2.1 t[i].2.1,()))]:=by
     rw[List.set_eq_take_append_cons_drop,if_pos hnl,drop_eq_nil_of_le (show out.length≤n+1 by omega)]
    have hmx:out[n].2.1≤maxI out[n].2.1 t[i].2.1∧maxI out[n].2.1 t[i].2.1≤1114111:=by unfold maxI; split<;>omega
    have hs:=ho.1
    rw[hspl] at hs
    obtain ⟨g1,g2,g3⟩:=List.pairwise_append.1 hs
    have hS:RgS (out.take n++[(out[n].1,(maxI out[n].2.1 t[i].2.1,()))]):=by
     refine ⟨List.pairwise_append.2 ⟨g1,pairwise_singleton _ _,fun a ha b hb=>?_⟩,fun r hr=>?_⟩
     ·rw[List.mem_singleton.1 hb]
      exact g3 a ha out[n] (List.mem_singleton.2 rfl)
     ·rcases List.mem_append.1 hr with e | e
      ·exact ho.2 r (mem_of_mem_take e)
      ·rw[List.mem_singleton.1 e]
       exact ⟨hon.1,by simp only; omega,hmx.2⟩
    obtain ⟨out',e,h⟩:=F90_0_ok k t hn ht d m (i+1) (out.take n++[(out[n].1,(maxI out[n].2.1 t[i].2.1,()))]) (by omega) (by omega) hS (by rw[length_append,length_take,length_singleton]; omega) (fun o ho' r hr=>by
     have hr':r∈t.drop i:=by rw[hd]; exact mem_cons_of_mem _ hr
     rcases List.mem_append.1 ho' with e | e
     ·exact hlo o (mem_of_mem_take e) r hr'
     ·rw[List.mem_singleton.1 e]
      exact hlo _ (getElem_mem hnl) r hr')
    exact ⟨out',by rw[if_pos (inR hnl),hset,e]; rfl,h⟩
   ·rw[decide_eq_false hm',cond_false,if_pos (inR hlt),if_pos hc]
    have hs:=ho.1
    have hS:RgS (out++[t[i]]):=by
     refine ⟨List.pairwise_append.2 ⟨hs,pairwise_singleton _ _,fun a ha b hb=>?_⟩,fun r hr=>?_⟩
     ·rw[List.mem_singleton.1 hb]
      rw[hspl] at ha hs
      obtain ⟨g1,g2,g3⟩:=List.pairwise_append.1 hs
      rcases List.mem_append.1 ha with e | e
      ·have:=g3 a e _ (List.mem_singleton.2 rfl)
       omega
      ·rw[List.mem_singleton.1 e]; omega
     ·rcases List.mem_append.1 hr with e | e
      ·exact ho.2 r e
      ·rw[List.mem_singleton.1 e]; exact hx
    obtain ⟨out',e,h⟩:=F90_0_ok k t hn ht d m (i+1) (out++[t[i]]) (by omega) (by omega) hS (by rw[length_append,length_singleton]; omega) (fun o ho' r hr=>by
     have hr':r∈t.drop i:=by rw[hd]; exact mem_cons_of_mem _ hr
     rcases List.mem_append.1 ho' with e | e
     ·exact hlo o e r hr'
     ·rw[List.mem_singleton.1 e]; exact hup r hr)
    exact ⟨out',by rw[e]; rfl,h⟩
theorem F90_ok (k:Nat) (l:RgT) (hn:l.length≤5000000) (hk:10000000≤k):∃l',F90 k l=some ((l',()),())∧RgS l':=by
 obtain ⟨t,e1,ht,htl⟩:=F100_ok k l hn hk
 obtain ⟨l',e,h⟩:=F90_0_ok k t (by omega) ht t.length k 0 [] (Nat.zero_add _) (by omega) ⟨List.Pairwise.nil,fun r hr=>by cases hr⟩ (Nat.le_refl _) (fun o ho=>by cases ho)
 refine ⟨l',?_,h⟩
 have e':F90_0 k k 0 t []=some ((),(l',())):=e
 unfold F90
 rw[e1,bind_some]
 simp only
 rw[e',bind_some]
theorem F91_0_ok (k:Nat) (t:RgT) (hn:t.length≤4000000):∀(d m i:Nat) (x:Int) (l:RgT),i+d=t.length→d<m→l.length=i→∃(y:Int) (l':RgT),F91_0 k m t x (i:Int) l=some ((y,()),(l',()))∧l'.length=t.length
 |0,m,i,x,l,hi,hm,hl=>by
  obtain ⟨m,rfl⟩:=pos1 (m:=m) (by omega)
  obtain rfl:i=t.length:=by omega
  refine ⟨x,l,?_,hl⟩
  simp only[F91_0]
  rw[dnlt,cond_false]
 |d+1,m,i,x,l,hi,hm,hl=>by
  obtain ⟨m,rfl⟩:=pos1 (m:=m) (by omega)
  have hlt:i<t.length:=by omega
  obtain ⟨y,l',e,h⟩:=F91_0_ok k t hn d m (i+1) (IntKind.wrap .i64 (t[i].2.1+1)) (l++[(x,(IntKind.wrap .i64 (t[i].1-1),()))]) (by omega) (by omega) (by rw[length_append,length_singleton]; omega)
  refine ⟨y,l',?_,h⟩
  have hc:(l.length+[(x,(IntKind.wrap .i64 (t[i].1-1),()))].length)*(16*2)≤281474976710656∧l.length+[(x,(IntKind.wrap .i64 (t[i].1-1),()))].length≤9223372036854775807:=by rw[length_singleton]; omega
  simp only[F91_0,one_list]
  rw[dlt hlt,cond_true,if_pos (inR hlt),tnI i,getD_lt t i _ hlt,if_pos hc,if_pos (inR hlt),wsucc i _ hlt (by omega),e]
  rfl
theorem F91_ok (k:Nat) (t:RgT) (hn:t.length≤4000000) (hk:10000000≤k):∃l',F91 k t=some ((l',()),())∧RgS l':=by
 obtain ⟨y,l,e,hl⟩:=F91_0_ok k t hn t.length k 0 0 [] (Nat.zero_add _) (by omega) rfl
 obtain ⟨l',e2,h⟩:=F90_ok k (l++[(y,(1114111,()))]) (by rw[length_append,length_singleton]; omega) hk
 refine ⟨l',?_,h⟩
 have e':F91_0 k k t 0 0 []=some ((y,()),(l,())):=e
 have hc:(l.length+[(y,((1114111:Int),()))].length)*(16*2)≤281474976710656∧l.length+[(y,((1114111:Int),()))].length≤9223372036854775807:=by rw[length_singleton]; omega
 unfold F91
 rw[e',bind_some]
 simp only[one_list]
 rw[if_pos hc,e2,bind_some]
theorem F92_ok (k:Nat) (a b:RgT) (ha:a.length≤1200000) (hb:b.length≤1200000) (hk:10000000≤k):∃l',F92 k a b=some ((l',()),())∧RgS l':=by
 obtain ⟨l',e2,h⟩:=F90_ok k (a++b) (by rw[length_append]; omega) hk
 refine ⟨l',?_,h⟩
 unfold F92
 simp only[replicate_zero,nil_append,length_nil]
 rw[if_pos (by omega),if_pos (by omega),e2,bind_some]
theorem F93_ok (k:Nat) (a b:RgT) (ha:a.length≤1200000) (hb:b.length≤1200000) (hk:10000000≤k):∃l',F93 k a b=some ((l',()),())∧RgS l':=by
 obtain ⟨x,e1,h1⟩:=F91_ok k a (by omega) hk
 obtain ⟨y,e2,h2⟩:=F91_ok k b (by omega) hk
 have l1:=rgS_len h1
 have l2:=rgS_len h2
 obtain ⟨z,e3,h3⟩:=F92_ok k x y (by omega) (by omega) hk
 have l3:=rgS_len h3
 obtain ⟨l',e4,h⟩:=F91_ok k z (by omega) hk
 refine ⟨l',?_,h⟩
 unfold F93
 rw[e1,bind_some,e2,bind_some]
 simp only
 rw[e3,bind_some]
 simp only
 rw[e4,bind_some]
theorem F94_ok (k:Nat) (a b:RgT) (ha:a.length≤1200000) (hb:b.length≤1200000) (hk:10000000≤k):∃l',F94 k a b=some ((l',()),())∧RgS l':=by
 obtain ⟨y,e2,h2⟩:=F91_ok k b (by omega) hk
 have l2:=rgS_len h2
 obtain ⟨l',e4,h⟩:=F93_ok k a y ha (by omega) hk
 refine ⟨l',?_,h⟩
 unfold F94
 rw[e2,bind_some]
 simp only
 rw[e4,bind_some]
abbrev CUnf:=Int×(Int×(Int×(ByteArray×(List ClsT×Unit))))
def RgL (l:List RgT):Prop:=∀s∈l,RgS s
theorem rgL_at {l:List RgT} (h:RgL l) (i:Nat):RgS (getD l i []):=by
 by_cases hi:i<l.length
 ·exact h _ (getD_mem hi)
 ·rw[getD_eq_getElem?_getD,getElem?_eq_none (by omega)]
  exact ⟨List.Pairwise.nil,fun r hr=>by cases hr⟩
theorem F69_0_ok (k:Nat) (f:ClsT→FileT→List RgT→Option ((RgT×Unit)×(List RgT×Unit))) (c:CUnf) (fl:FileT) (sets:List RgT) (hn:c.2.2.2.2.1.length≤1000) (hf:∀p∈c.2.2.2.2.1,∃o,f p fl sets=some ((o,()),(sets,()))∧RgS o):∀(d m i:Nat) (acc:List RgT),i+d=c.2.2.2.2.1.length→d<m→acc.length=i→RgL acc →
  ∃outs,F69_0 k f m (i:Int) sets c fl acc=some ((),(sets,(c,(fl,(outs,())))))∧outs.length=c.2.2.2.2.1.length∧RgL outs
 |0,m,i,acc,hi,hm,hl,h=>by
  obtain ⟨m,rfl⟩:=pos1 (m:=m) (by omega)
  obtain rfl:i=c.2.2.2.2.1.length:=by omega
  refine ⟨acc,?_,hl,h⟩
  simp only[F69_0]
  rw[dnlt,cond_false]
 |d+1,m,i,acc,hi,hm,hl,h=>by
  obtain ⟨m,rfl⟩:=pos1 (m:=m) (by omega)
  have hlt:i<c.2.2.2.2.1.length:=by omega
  obtain ⟨o,e,ho⟩:=hf _ (getElem_mem hlt)
  obtain ⟨outs,e2,h2⟩:=F69_0_ok k f c fl sets hn hf d m (i+1) (acc++[o]) (by omega) (by omega) (by rw[length_append,length_singleton]; omega) (mem_app h fun s hs=>by rw[List.mem_singleton.1 hs]; exact ho)
  refine ⟨outs,?_,h2⟩
  have hc:(acc.length+[o].length)*(24*2)≤281474976710656∧acc.length+[o].length≤9223372036854775807:=by rw[length_singleton]; omega
  simp only[F69_0,one_list]
  rw[dlt hlt,cond_true,if_pos (inR hlt),tnI i,getD_lt _ i _ hlt,e,bind_some]
  simp only
  rw[if_pos hc,wsucc i _ hlt (by omega),e2]
  rfl
theorem R69_ok (P:ByteArray→Prop) (fl:FileT) (hfl:fl.1.length≤1000) (sets:List RgT) (hP:∀nm,P nm→0≤fnd fl.1 nm∧fnd fl.1 nm<((sets.length:Nat):Int)) (hs:RgL sets):∀(h k:Nat) (c:ClsT),h≤10→ClsP P h c→h+10000000<k→∃o,R69 k c fl sets=some ((o,()),(sets,()))∧RgS o:=by
 have leaf:∀(k:Nat) (c:ClsT),ClsL P c→10000000<k→∃o,R69 k c fl sets=some ((o,()),(sets,()))∧RgS o:=by
  intro k c hc hk
  obtain ⟨k,rfl⟩:∃k',k=k'+1:=⟨k-1,by omega⟩
  obtain ⟨hl,hc⟩:=hc
  obtain ⟨outs,e,_⟩:=F69_0_ok k (R69 k) (c.a.1,(c.a.2.1,(c.a.2.2.1,(c.a.2.2.2.1,(c.l,()))))) fl sets (show c.l.length≤1000 by rw[hl]; simp) (fun p hp=>by
   have hp':p∈c.l:=hp
   rw[hl] at hp'; cases hp') c.l.length k 0 [] (Nat.zero_add _) (by rw[hl]; simp only[length_nil]; omega) rfl (fun s hs=>by cases hs)
  rw[show ((0:Nat):Int)=0 from rfl] at e
  show ∃o,B69 k (R69 k) c fl sets=some ((o,()),(sets,()))∧RgS o
  unfold B69
  rw[e,bind_some]
  simp only
  rcases hc with a | ⟨a,hn⟩ | a
  ·obtain ⟨o,e1,h1⟩:=F90_ok k [(c.a.2.1,(c.a.2.2.1,()))] (by simp) (by omega)
   rw[a,show ((1:Int)==1)=true from rfl,cond_true,one_list,e1,bind_some]
   exact ⟨o,rfl,h1⟩
  ·obtain ⟨g1,g2⟩:=hP _ hn
   rw[a,show ((2:Int)==1)=false from rfl,cond_false,show ((2:Int)==2)=true from rfl,cond_true,F83_ok k fl _ hfl (by omega),bind_some]
   simp only
   rw[if_pos ⟨g1,g2⟩]
   exact ⟨_,rfl,rgL_at hs _⟩
  ·obtain ⟨o,e1,h1⟩:=F91_ok k [] (by simp) (by omega)
   rw[a,show ((3:Int)==1)=false from rfl,cond_false,show ((3:Int)==2)=false from rfl,cond_false,show ((3:Int)==3)=true from rfl,cond_true,e1,bind_some]
   exact ⟨o,rfl,h1⟩
 intro h
 induction h with
 |zero=>intro k c _ hc hk; exact leaf k c hc (by omega)
 |succ h ih =>
  intro k c h10 hc hk
  rcases hc with hc | hc
  ·exact leaf k c hc (by omega)
  obtain ⟨k,rfl⟩:∃k',k=k'+1:=⟨k-1,by omega⟩
  have hall:∀p∈c.l,ClsP P h p:=by
   rcases hc with ⟨a,p,e,hp⟩ | ⟨a,p,q,e,hp,hq⟩
   ·rw[e]
    intro y hy
    rw[List.mem_singleton.1 hy]; exact hp
   ·rw[e]
    intro y hy
    simp only[mem_cons,not_mem_nil,or_false] at hy
    rcases hy with rfl | rfl<;>assumption
  have hlen:c.l.length≤2:=by
   rcases hc with ⟨a,p,e,hp⟩ | ⟨a,p,q,e,hp,hq⟩<;>rw[e]<;>simp
  obtain ⟨outs,e,ho,hr⟩:=F69_0_ok k (R69 k) (c.a.1,(c.a.2.1,(c.a.2.2.1,(c.a.2.2.2.1,(c.l,()))))) fl sets (show c.l.length≤1000 by omega) (fun p hp=>ih k p (by omega) (hall p hp) (by omega)) c.l.length k 0 [] (Nat.zero_add _) (by omega) rfl (fun s hs=>by cases hs)
  rw[show ((0:Nat):Int)=0 from rfl] at e
  have ho':outs.length=c.l.length:=ho
  have r0:=rgL_at hr 0
  have r1:=rgL_at hr 1
  have l0:=rgS_len r0
  have l1:=rgS_len r1
  show ∃o,B69 k (R69 k) c fl sets=some ((o,()),(sets,()))∧RgS o
  unfold B69
  rw[e,bind_some]
  simp only[show Int.toNat 0=0 from rfl,show Int.toNat 1=1 from rfl]
  rcases hc with ⟨a,p,ep,hp⟩ | ⟨a,p,q,ep,hp,hq⟩
  ·rw[ep] at ho'
   have i0:(0:Int)≤0∧(0:Int)<((outs.length:Nat):Int):=by rw[ho']; simp
   obtain ⟨o,e1,h1⟩:=F91_ok k (getD outs 0 []) (by omega) (by omega)
   rw[a,show ((4:Int)==1)=false from rfl,cond_false,show ((4:Int)==2)=false from rfl,cond_false,show ((4:Int)==3)=false from rfl,cond_false,show ((4:Int)==4)=true from rfl,cond_true,if_pos i0,e1,bind_some]
   exact ⟨o,rfl,h1⟩
  ·rw[ep] at ho'
   have i0:(0:Int)≤0∧(0:Int)<((outs.length:Nat):Int):=by rw[ho']; simp
   have i1:(0:Int)≤1∧(1:Int)<((outs.length:Nat):Int):=by rw[ho']; simp
   rw[beq_false_of_ne (show ¬c.a.1=1 by omega),cond_false,beq_false_of_ne (show ¬c.a.1=2 by omega),cond_false,beq_false_of_ne (show ¬c.a.1=3 by omega),cond_false,beq_false_of_ne (show ¬c.a.1=4 by omega),cond_false,if_pos i0,if_pos i1]
   rcases a with a | a | a
   ·obtain ⟨o,e1,h1⟩:=F92_ok k (getD outs 0 []) (getD outs 1 []) (by omega) (by omega) (by omega)
    rw[a,show ((5:Int)==5)=true from rfl,cond_true,e1,bind_some]
    exact ⟨o,rfl,h1⟩
   ·obtain ⟨o,e1,h1⟩:=F93_ok k (getD outs 0 []) (getD outs 1 []) (by omega) (by omega) (by omega)
    rw[a,show ((6:Int)==5)=false from rfl,cond_false,show ((6:Int)==6)=true from rfl,cond_true,if_pos i0,if_pos i1,e1,bind_some]
    exact ⟨o,rfl,h1⟩
   ·obtain ⟨o,e1,h1⟩:=F94_ok k (getD outs 0 []) (getD outs 1 []) (by omega) (by omega) (by omega)
    rw[a,show ((7:Int)==5)=false from rfl,cond_false,show ((7:Int)==6)=false from rfl,cond_false,if_pos i0,if_pos i1,e1,bind_some]
    exact ⟨o,rfl,h1⟩
theorem fndI_le (nm:ByteArray):∀(l:List DefT) (j i:Nat),j<l.length→(getD l j def0).1=nm→(i:Int)≤fndI l nm i∧fndI l nm i≤((i+j:Nat):Int)
 | [],j,i,h,_=>by simp at h
 |d::l,j,i,h,e=>by
  unfold fndI
  by_cases hd:d.1.toList=nm.toList
  ·rw[if_pos hd]; omega
  ·rw[if_neg hd]
   cases j with
   |zero=>exact absurd (by rw[getD_cons_zero] at e; rw[e]) hd
   |succ j =>
    have:=fndI_le nm l j (i+1) (by simpa using h) (by simpa using e)
    omega
theorem F37_0_ok (k:Nat) (fl:FileT) (hfl:fl.1.length≤1000) (hd:DefsP fl.1) (hk:20000000≤k):∀(d m i:Nat) (acc:List RgT),i+d=fl.1.length→d<m→acc.length=i→RgL acc →
  ∃outs,F37_0 k m (i:Int) fl acc=some ((),(outs,()))∧outs.length=fl.1.length∧RgL outs
 |0,m,i,acc,hi,hm,hl,h=>by
  obtain ⟨m,rfl⟩:=pos1 (m:=m) (by omega)
  obtain rfl:i=fl.1.length:=by omega
  refine ⟨acc,?_,hl,h⟩
  simp only[F37_0]
  rw[dnlt,cond_false]
 |d+1,m,i,acc,hi,hm,hl,h=>by
  obtain ⟨m,rfl⟩:=pos1 (m:=m) (by omega)
  have hlt:i<fl.1.length:=by omega
  obtain ⟨o,e,ho⟩:=R69_ok _ fl hfl acc (fun nm ⟨j,hj,en⟩=>by
   have:=fndI_le nm fl.1 j 0 (by omega) en
   unfold fnd
   omega) h 4 k _ (by omega) (hd i hlt) (by omega)
  have e':F69 k (getD fl.1 i def0).2.1 fl acc=some ((o,()),(acc,())):=e
  obtain ⟨outs,e2,h2⟩:=F37_0_ok k fl hfl hd hk d m (i+1) (acc++[o]) (by omega) (by omega) (by rw[length_append,length_singleton]; omega) (mem_app h fun s hs=>by rw[List.mem_singleton.1 hs]; exact ho)
  refine ⟨outs,?_,h2⟩
  have hc:(acc.length+[o].length)*(24*2)≤281474976710656∧acc.length+[o].length≤9223372036854775807:=by rw[length_singleton]; omega
  have e'':F69 k (getD fl.1 i (ByteArray.empty,((Tree.mk ((0:Int),((0:Int),((0:Int),(ByteArray.empty,())))) []),()))).2.1 fl acc=some ((o,()),(acc,())):=e'
  simp only[F37_0,one_list]
  rw[dlt hlt,cond_true,if_pos (inR hlt),tnI i,e'',bind_some]
  simp only
  rw[if_pos hc,wsucc i _ hlt (by omega),e2]
  rfl
theorem F37_ok (k:Nat) (fl:FileT) (hfl:fl.1.length≤1000) (hd:DefsP fl.1) (hk:20000000≤k):∃sets,F37 k fl=some ((sets,()),())∧sets.length=fl.1.length∧RgL sets:=by
 obtain ⟨outs,e,h⟩:=F37_0_ok k fl hfl hd hk fl.1.length k 0 [] (Nat.zero_add _) (by omega) rfl (fun s hs=>by cases hs)
 refine ⟨outs,?_,h⟩
 have e':F37_0 k k 0 fl []=some ((),(outs,())):=e
 unfold F37
 rw[e',bind_some]
def has (l:RgT) (n:Int):Bool:=l.any fun r=>decide (n≥r.1)&&decide (n≤r.2.1)
theorem F72_0_ok (k:Nat) (l:RgT) (x:Int) (hl:l.length≤5000000):∀(d m i:Nat),i+d=l.length→d<m→F72_0 k m l x (i:Int)=some (if has (l.drop i) x=true then .inr ((true,()),()) else .inl ((),()))
 |0,m,i,hi,hm=>by
  obtain ⟨m,rfl⟩:=pos1 (m:=m) (by omega)
  obtain rfl:i=l.length:=by omega
  simp only[F72_0]
  rw[dnlt,cond_false,drop_length]
  rfl
 |d+1,m,i,hi,hm=>by
  obtain ⟨m,rfl⟩:=pos1 (m:=m) (by omega)
  have hlt:i<l.length:=by omega
  have ih:=F72_0_ok k l x hl d m (i+1) (by omega) (by omega)
  have e:has (l.drop i) x=(decide (x≥l[i].1)&&decide (x≤l[i].2.1)||has (l.drop (i+1)) x):=by
   rw[drop_eq_getElem_cons hlt]
   rfl
  simp only[F72_0]
  rw[dlt hlt,cond_true,if_pos (inR hlt),tnI i,getD_lt l i _ hlt,if_pos (inR hlt),wsucc i _ hlt (by omega),ih,e]
  cases decide (x≥l[i].1) with
  |false=>rfl
  |true =>
   cases decide (x≤l[i].2.1) with
   |false=>rfl
   |true=>rfl
theorem F72_ok (k:Nat) (l:RgT) (x:Int) (hl:l.length≤5000000) (hk:10000000≤k):F72 k l x=some ((has l x,()),()):=by
 have e:=F72_0_ok k l x hl l.length k 0 (Nat.zero_add _) (by omega)
 rw[drop_zero,show ((0:Nat):Int)=0 from rfl] at e
 unfold F72
 rw[e,bind_some]
 cases h:has l x with
 |true=>rfl
 |false=>rfl
def keyF (x:Int):List RgT→Int→Int
 | [],t=>t
 |s::l,t=>keyF x l (2*t+(if has s x then 1 else 0))
theorem keyF_range (x:Int):∀(l:List RgT) (t:Int),0≤t→0≤keyF x l t
 | [],t,h=>h
 |s::l,t,h=>by
  unfold keyF
  apply keyF_range
  split<;>omega
theorem F71_0_ok (k:Nat) (l:List RgT) (x:Int) (hk:10000000≤k) (hl:l.length≤40) (hr:RgL l):∀(d m i:Nat) (t:Int),i+d=l.length→d<m→0≤t→t<2^i→F71_0 k m l x t (i:Int)=some ((keyF x (l.drop i) t,()),())
 |0,m,i,t,hi,hm,h0,h1=>by
  obtain ⟨m,rfl⟩:=pos1 (m:=m) (by omega)
  obtain rfl:i=l.length:=by omega
  simp only[F71_0]
  rw[dnlt,cond_false,drop_length]
  rfl
 |d+1,m,i,t,hi,hm,h0,h1=>by
  obtain ⟨m,rfl⟩:=pos1 (m:=m) (by omega)
  have hlt:i<l.length:=by omega
  have hp:(2:Int)^i≤2^40:=by
   have:(2:Nat)^i≤2^40:=Nat.pow_le_pow_right (by omega) (by omega)
   exact_mod_cast this
  have hp40:(2:Int)^40=1099511627776:=by decide
  have hps:(2:Int)^(i+1)=2^i*2:=Int.pow_succ 2 i
  have hlen:=rgS_len (hr _ (getElem_mem hlt))
  rw[drop_eq_getElem_cons hlt,keyF]
  simp only[F71_0]
  rw[dlt hlt,cond_true,if_pos (inR hlt),tnI i,getD_lt l i _ hlt,F72_ok k _ x (by omega) hk,bind_some]
  simp only
  rw[wsucc i _ hlt (by omega),w64 (2*t) (by omega) (by omega),w64 (2*t+1) (by omega) (by omega)]
  cases has l[i] x with
  |true =>
   rw[cond_true,if_pos rfl,F71_0_ok k l x hk hl hr d m (i+1) (2*t+1) (by omega) (by omega) (by omega) (by omega),bind_some]
  |false =>
   rw[cond_false,if_neg (by simp),Int.add_zero,F71_0_ok k l x hk hl hr d m (i+1) (2*t) (by omega) (by omega) (by omega) (by omega),bind_some]
theorem F71_ok (k:Nat) (l:List RgT) (x:Int) (hk:10000000≤k) (hl:l.length≤40) (hr:RgL l):F71 k l x=some ((keyF x l 0,()),()):=by
 have e:=F71_0_ok k l x hk hl hr l.length k 0 0 (Nat.zero_add _) (by omega) (Int.le_refl _) (by decide)
 rw[drop_zero,show ((0:Nat):Int)=0 from rfl] at e
 unfold F71
 rw[e,bind_some]
def RisL (l:List Int):Prop:=l.Pairwise (· < ·)∧∀x∈l,0≤x∧x≤1114111
theorem risL_len {l:List Int} (h:RisL l):l.length≤1114112:=by
 have key:∀(l:List Int) (c:Nat),RisL l→(∀r∈l,(c:Int)≤r)→c+l.length≤1114112∨l=[]:=by
  intro l
  induction l with
  |nil=>intro c _ _; exact .inr rfl
  |cons a l ih =>
   intro c hs hc
   obtain ⟨h1,h2⟩:=List.pairwise_cons.1 hs.1
   have ga:=hs.2 a mem_cons_self
   have ha:=hc a mem_cons_self
   left
   rcases ih (c+1) ⟨h2,fun r hr=>hs.2 r (mem_cons_of_mem _ hr)⟩ (fun r hr=>by have:=h1 r hr; omega) with q | q
   ·simp only[length_cons]; omega
   ·subst q
    simp only[length_cons,length_nil]
    omega
 rcases key l 0 h (fun r hr=>by have:=h.2 r hr; omega) with q | q
 ·omega
 ·subst q; simp
def insI (x:Int) (l:List Int) (p:Nat):List Int:=l.take p++[x]++l.drop p
def posI (x:Int) (l:List Int) (p:Nat):Prop:=p≤l.length∧(∀r∈l.take p,r≤x)∧∀r∈l.drop p,x<r
theorem F70_0_ok (k:Nat) (t0:List RgT) (t4 t5:Int) (q:Nat) (c l:List Int) (hl:RisL l) (hq:q<c.length):∀(p m:Nat),p<m→p≤l.length→(∀r∈l.drop p,getD c q 0<r)→∃z:Nat,F70_0 k m t0 t4 t5 (q:Int) (p:Int) c l=some ((t0,(t4,(t5,((q:Int),((z:Int),()))))),(c,(l,())))∧posI (getD c q 0) l z
 |0,m,hm,hp,hd=>by
  obtain ⟨m,rfl⟩:=pos1 (m:=m) (by omega)
  refine ⟨0,?_,zero_le _,(fun r hr=>by simp at hr),hd⟩
  simp only[F70_0]
  rw[decide_eq_false (by omega),cond_false]
 |p+1,m,hm,hp,hd=>by
  obtain ⟨m,rfl⟩:=pos1 (m:=m) (by omega)
  have hlt:p<l.length:=by omega
  have hlen:=risL_len hl
  have hw:IntKind.wrap .i64 (((p+1:Nat):Int)-1)=(p:Int):=by rw[w64 _ (by omega) (by omega)]; omega
  simp only[F70_0,hw]
  rw[decide_eq_true (by omega),cond_true,if_pos (inR hq),if_pos (inR hlt),tnI p,tnI q,getD_lt l p _ hlt]
  by_cases hx:getD c q 0<l[p]
  ·rw[decide_eq_true hx,cond_true,bind_fun_some]
   refine F70_0_ok k t0 t4 t5 q c l hl hq p m (by omega) (by omega) fun r hr=>?_
   rw[drop_eq_getElem_cons hlt] at hr
   rcases List.mem_cons.1 hr with e | e
   ·rw[e]; exact hx
   ·exact hd r e
  ·rw[decide_eq_false hx,cond_false]
   refine ⟨p+1,rfl,hp,fun r hr=>?_,hd⟩
   rw[take_succ_eq_append_getElem hlt] at hr
   rcases List.mem_append.1 hr with e | e
   ·have h2:=hl.1
    rw[←take_append_drop p l,drop_eq_getElem_cons hlt] at h2
    have:=(List.pairwise_append.1 h2).2.2 r e l[p] mem_cons_self
    omega
   ·rw[mem_singleton] at e
    rw[e]; omega
theorem insI_ris {x:Int} {l:List Int} {p:Nat} (hl:RisL l) (h0:0≤x) (h1:x≤1114111) (hp:posI x l p) (hne:p=0∨getD l (p-1) 0≠x):RisL (insI x l p):=by
 obtain ⟨g0,g1,g2⟩:=hp
 have hs:=hl.1
 rw[←take_append_drop p l] at hs
 obtain ⟨q1,q2,q3⟩:=List.pairwise_append.1 hs
 have hlt:∀r∈l.take p,r<x:=fun r hr=>by
  have h:=g1 r hr
  rcases hne with e | e
  ·subst e; simp at hr
  ·have hp0:p≠0:=fun q=>by subst q; simp at hr
   have hp1:p-1<l.length:=by omega
   rw[getD_lt l _ _ hp1] at e
   have hlast:l[p-1]≤x:=g1 _ (by
    have:p-1<(l.take p).length:=by rw[length_take]; omega
    have e2:=getElem_mem this
    rwa [List.getElem_take] at e2)
   obtain ⟨j,hj,rfl⟩:=List.getElem_of_mem hr
   rw[length_take] at hj
   rw[List.getElem_take]
   by_cases hjp:j=p-1
   ·subst hjp; omega
   ·have:=List.pairwise_iff_getElem.1 hl.1 j (p-1) (by omega) hp1 (by omega)
    omega
 constructor
 ·refine List.pairwise_append.2 ⟨List.pairwise_append.2 ⟨q1,pairwise_singleton _ _,fun a ha b hb=>?_⟩,q2,fun a ha b hb=>?_⟩
  ·rw[List.mem_singleton.1 hb]; exact hlt a ha
  ·rcases List.mem_append.1 ha with e | e
   ·exact q3 a e b hb
   ·rw[List.mem_singleton.1 e]; exact g2 b hb
 ·intro r hr
  rcases List.mem_append.1 hr with e | e
  ·rcases List.mem_append.1 e with e | e
   ·exact hl.2 r (mem_of_mem_take e)
   ·rw[List.mem_singleton.1 e]; exact ⟨h0,h1⟩
  ·exact hl.2 r (List.mem_of_mem_drop e)
theorem F70_1_ok (k:Nat) (t0:List RgT) (t4 t5:Int) (c:List Int) (hk:10000000≤k) (hc:c.length=2) (h0:∀x∈c,0≤x):∀(d m q:Nat) (l:List Int),q+d=2→d<m→RisL l→∃l',F70_1 k m t0 t4 t5 (q:Int) c l=some ((t0,(t4,(t5,()))),(l',()))∧RisL l'∧(∀x∈l,x∈l')∧∀x∈c.drop q,x≤1114111→x∈l'
 |0,m,q,l,hq,hm,hl=>by
  obtain ⟨m,rfl⟩:=pos1 (m:=m) (by omega)
  obtain rfl:q=2:=by omega
  refine ⟨l,?_,hl,fun x hx=>hx,fun x hx=>?_⟩
  ·simp only[F70_1]
   rw[decide_eq_false (by omega),cond_false]
  ·rw[drop_eq_nil_of_le (by omega)] at hx; cases hx
 |d+1,m,q,l,hq,hm,hl=>by
  obtain ⟨m,rfl⟩:=pos1 (m:=m) (by omega)
  have hlt:q<c.length:=by omega
  have hlen:=risL_len hl
  obtain ⟨z,e,hz⟩:=F70_0_ok k t0 t4 t5 q c l hl hlt l.length k (by omega) (Nat.le_refl _) (fun r hr=>by rw[drop_length] at hr; cases hr)
  have hzl:=hz.1
  have hcq:getD c q 0=c[q]:=getD_lt c q 0 hlt
  have hq0:=h0 _ (getElem_mem hlt)
  have hdq:c.drop q=c[q]::c.drop (q+1):=drop_eq_getElem_cons hlt
  rw[hcq] at hz
  have hwq:IntKind.wrap .i64 ((q:Int)+1)=((q+1:Nat):Int):=by rw[w64 _ (by omega) (by omega)]; omega
  have stay:(c[q]≤1114111→c[q]∈l)→∃l',(F70_1 k m t0 t4 t5 ((q+1:Nat):Int) c l).bind some=some ((t0,(t4,(t5,()))),(l',()))∧RisL l'∧(∀x∈l,x∈l')∧∀x∈c.drop q,x≤1114111→x∈l':=fun hin=>by
   obtain ⟨l',e2,h2,h3,h4⟩:=F70_1_ok k t0 t4 t5 c hk hc h0 d m (q+1) l (by omega) (by omega) hl
   refine ⟨l',by rw[e2]; rfl,h2,h3,fun x hx hx2=>?_⟩
   rw[hdq] at hx
   rcases List.mem_cons.1 hx with g | g
   ·subst g; exact h3 _ (hin hx2)
   ·exact h4 x g hx2
  have put:c[q]≤1114111→(z=0∨getD l (z-1) 0≠c[q])→∃l',(F70_1 k m t0 t4 t5 ((q+1:Nat):Int) c (l.take z++[c[q]]++l.drop z)).bind some=some ((t0,(t4,(t5,()))),(l',()))∧RisL l'∧(∀x∈l,x∈l')∧∀x∈c.drop q,x≤1114111→x∈l':=fun hle hne=>by
   have hr:=insI_ris hl hq0 hle hz hne
   have hin:∀x∈l,x∈insI c[q] l z:=fun x hx=>by
    unfold insI
    rw[←take_append_drop z l] at hx
    rcases List.mem_append.1 hx with g | g
    ·exact mem_append_left _ (mem_append_left _ g)
    ·exact mem_append_right _ g
   obtain ⟨l',e2,h2,h3,h4⟩:=F70_1_ok k t0 t4 t5 c hk hc h0 d m (q+1) (insI c[q] l z) (by omega) (by omega) hr
   refine ⟨l',by
    have e3:F70_1 k m t0 t4 t5 ((q+1:Nat):Int) c (l.take z++[c[q]]++l.drop z)=_:=e2
    rw[e3]; rfl,h2,fun x hx=>h3 x (hin x hx),fun x hx hx2=>?_⟩
   rw[hdq] at hx
   rcases List.mem_cons.1 hx with g | g
   ·subst g
    exact h3 _ (mem_append_left _ (mem_append_right _ (List.mem_singleton.2 rfl)))
   ·exact h4 x g hx2
  have w1:(0:Int)≤0∧(0:Int)≤(z:Int)∧(z:Int)≤((l.length:Nat):Int):=by omega
  have w2:(0:Int)≤(z:Int)∧(z:Int)≤((l.length:Nat):Int)∧((l.length:Nat):Int)≤((l.length:Nat):Int):=by omega
  have ht:(l.drop z).take (l.length-z)=l.drop z:=take_of_length_le (by rw[length_drop]; omega)
  have k1:(0+(l.take z).length)*(8*2)≤281474976710656∧0+(l.take z).length≤9223372036854775807:=by rw[length_take]; omega
  have k2:((l.take z).length+[c[q]].length)*(8*2)≤281474976710656∧(l.take z).length+[c[q]].length≤9223372036854775807:=by rw[length_take,length_singleton]; omega
  have k3:((l.take z++[c[q]]).length+(l.drop z).length)*(8*2)≤281474976710656∧(l.take z++[c[q]]).length+(l.drop z).length≤9223372036854775807:=by rw[length_append,length_take,length_singleton,length_drop]; omega
  simp only[F70_1]
  rw[decide_eq_true (show (q:Int)<2 by omega),cond_true,e,bind_some]
  simp only[replicate_zero,nil_append,length_nil,one_list]
  rw[if_pos (inR hlt),tnI q,tnI z,tnI (l.length),show Int.toNat 0=0 from rfl,sub_zero,drop_zero,hcq,hwq,ht]
  by_cases hle:c[q]≤1114111
  ·rw[decide_eq_true hle,cond_true]
   by_cases hz0:z=0
   ·rw[show ((z:Int)==0)=true by rw[hz0]; rfl,cond_true,if_pos w1,if_pos (inR hlt),if_pos w2,if_pos k1,if_pos k2,if_pos k3]
    exact put hle (.inl hz0)
   ·have hz1:z-1<l.length:=by omega
    have hw:IntKind.wrap .i64 ((z:Int)-1)=((z-1:Nat):Int):=by rw[w64 _ (by omega) (by omega)]; omega
    rw[beq_false_of_ne (show ¬(z:Int)=0 by omega),cond_false,hw,if_pos (inR hz1),if_pos (inR hlt),tnI (z-1)]
    by_cases he:getD l (z-1) 0=c[q]
    ·rw[show (getD l (z-1) 0 != c[q])=false by rw[he]; simp,cond_false]
     refine stay fun _=>?_
     rw[←he]
     exact getD_mem hz1
    ·rw[show (getD l (z-1) 0 != c[q])=true by simpa using he,cond_true,if_pos w1,if_pos (inR hlt),if_pos w2,if_pos k1,if_pos k2,if_pos k3]
     exact put hle (.inr he)
  ·rw[decide_eq_false hle,cond_false]
   exact stay fun h=>absurd h hle
theorem rgs_at {t:RgT} (h:RgS t) {i:Nat} (hi:i<t.length):RgP (t[i]):=h.2 _ (getElem_mem hi)
def LetP (n:Nat) (l:List Int):Prop:=∀x∈l,0≤x∧x<(n:Int)
theorem LetP.add {n:Nat} {l:List Int} (h:LetP n l) {j m:Nat} (hj:j<m) (hm:n≤m):LetP m (l++[(j:Int)]):=fun x hx=>by
 rcases List.mem_append.1 hx with g | g
 ·have:=h x g
  omega
 ·rw[List.mem_singleton.1 g]; omega
theorem F40_0_ok (k:Nat) (l:List Int) (hl:l.length≤5000000) (hL:LetP 2000000 l):∀(d m i:Nat) (t:Int),i+d=l.length→d<m→0≤t→t≤2000000→(∀x∈l.take i,x<t)→∃c,F40_0 k m l t (i:Int)=some ((c,()),())∧0≤c∧c≤2000000∧∀x∈l,x<c
 |0,m,i,t,hi,hm,h0,h1,hx=>by
  obtain ⟨m,rfl⟩:=pos1 (m:=m) (by omega)
  refine ⟨t,?_,h0,h1,fun x h=>hx x ?_⟩
  ·simp only[F40_0]
   rw[decide_eq_false (by omega),cond_false]
  ·rw[take_of_length_le (by omega)]; exact h
 |d+1,m,i,t,hi,hm,h0,h1,hx=>by
  obtain ⟨m,rfl⟩:=pos1 (m:=m) (by omega)
  have hlt:i<l.length:=by omega
  have hx2:=hL _ (getElem_mem hlt)
  have hm2:maxI t (l[i]+1)=t∧l[i]+1≤t∨maxI t (l[i]+1)=l[i]+1∧t≤l[i]+1:=by
   unfold maxI
   split<;>omega
  obtain ⟨c,e,h⟩:=F40_0_ok k l hl hL d m (i+1) (maxI t (l[i]+1)) (by omega) (by omega) (by omega) (by omega) (fun x h=>by
   rw[take_succ_eq_append_getElem hlt] at h
   rcases List.mem_append.1 h with g | g
   ·have:=hx x g; omega
   ·rw[List.mem_singleton.1 g]; omega)
  refine ⟨c,?_,h⟩
  simp only[F40_0]
  rw[dlt hlt,cond_true,if_pos (inR hlt),tnI i,getD_lt l i _ hlt,wsucc i _ hlt (by omega),w64 (l[i]+1) (by omega) (by omega),e]
  rfl
theorem F40_ok (k:Nat) (l:List Int) (hk:10000000≤k) (hl:l.length≤5000000) (hL:LetP 2000000 l):∃c,F40 k l=some ((c,()),())∧0≤c∧c≤2000000∧∀x∈l,x<c:=by
 obtain ⟨c,e,h⟩:=F40_0_ok k l hl hL l.length k 0 0 (Nat.zero_add _) (by omega) (Int.le_refl _) (by omega) (fun x h=>by rw[take_zero] at h; cases h)
 rw[show ((0:Nat):Int)=0 from rfl] at e
 exact ⟨c,by
  unfold F40
  rw[e,bind_some],h⟩
abbrev InT:=List (List Bool)
def ofP (I:InT) (s:SideT) (p a:Nat):Bool:=decide (getD s.1 p 0<0)||getD (getD I (getD s.1 p 0).toNat []) a false
theorem F75_0_ok (k:Nat) (M:List (List Bool)) (u v:Nat) (s:SideT) (hu:u<s.1.length) (hv:getD s.1 u 0=(v:Int)) (hM:v<M.length) (hr:(getD M v []).length≤5000000):∀(d m i:Nat),i+d=(getD M v []).length→d<m→(F75_0 k m M (u:Int) (i:Int) s=some (.inl ((),()))∧∀x,i≤x→getD (getD M v []) x false=false)∨F75_0 k m M (u:Int) (i:Int) s=some (.inr ((true,()),()))
 |0,m,i,hi,hm=>by
  obtain ⟨m,rfl⟩:=pos1 (m:=m) (by omega)
  left
  refine ⟨?_,fun x hx=>?_⟩
  ·simp only[F75_0]
   rw[if_pos (inR hu),tnI u,hv,if_pos (inR hM),tnI v,decide_eq_false (by omega),cond_false]
  ·rw[getD_eq_getElem?_getD,getElem?_eq_none (by omega)]
   rfl
 |d+1,m,i,hi,hm=>by
  obtain ⟨m,rfl⟩:=pos1 (m:=m) (by omega)
  have hlt:i<(getD M v []).length:=by omega
  have ih:=F75_0_ok k M u v s hu hv hM hr d m (i+1) (by omega) (by omega)
  simp only[F75_0]
  rw[if_pos (inR hu),tnI u,hv,if_pos (inR hM),tnI v,dlt hlt,cond_true,if_pos (inR hu),if_pos (inR hM),if_pos (inR hlt),wsucc i _ hlt (by omega),tnI i]
  cases hb:getD (getD M v []) i false with
  |true=>right; rw[cond_true]
  |false =>
   rw[cond_false]
   rcases ih with ⟨e,h⟩ | e
   ·refine .inl ⟨by rw[e]; rfl,fun x hx=>?_⟩
    by_cases hxi:x=i
    ·rw[hxi]; exact hb
    ·exact h x (by omega)
   ·right; rw[e]; rfl
theorem F75_ok (k:Nat) (M:List (List Bool)) (u:Nat) (s:SideT) (hk:10000000≤k) (hu:u<s.1.length) (hv:getD s.1 u 0<((M.length:Nat):Int)) (hr:∀r∈M,r.length≤2000000):∃b,F75 k s M (u:Int)=some ((b,()),())∧(b=false→∀x,ofP M s u x=false):=by
 unfold F75
 rw[if_pos (inR hu),tnI u]
 by_cases h:getD s.1 u 0<0
 ·exact ⟨true,by rw[decide_eq_true h]; rfl,fun q=>by cases q⟩
 ·obtain ⟨v,hv'⟩:∃v:Nat,getD s.1 u 0=(v:Int):=⟨(getD s.1 u 0).toNat,by omega⟩
  have hM:v<M.length:=by omega
  have h2:=hr _ (getD_mem (d:=[]) hM)
  rw[decide_eq_false h]
  simp only[cond_false]
  rcases F75_0_ok k M u v s hu hv' hM (by omega) (getD M v []).length k 0 (Nat.zero_add _) (by omega) with ⟨e,hx⟩ | e
  ·rw[show ((0:Nat):Int)=0 from rfl] at e
   refine ⟨false,by rw[e]; rfl,fun _ x=>?_⟩
   unfold ofP
   rw[decide_eq_false h,Bool.false_or,hv',tnI v]
   exact hx x (zero_le _)
  ·rw[show ((0:Nat):Int)=0 from rfl] at e
   exact ⟨true,by rw[e]; rfl,fun q=>by cases q⟩
abbrev sd0:SideT:=(([]:(List Int)),(([]:(List Int)),(([]:(List Int)),(([]:(List (Int×(Int×(Int×Unit))))),((0:Int),())))))
def offs:List Bool→Nat
 | []=>0
 |b::l=>(if b then 0 else 1)+offs l
theorem offs_le:∀l:List Bool,offs l≤l.length
 | []=>Nat.le_refl _
 |b::l=>by
  have:=offs_le l
  unfold offs
  simp only[length_cons]
  split<;>omega
theorem offs_set:∀(l:List Bool) (i:Nat),i<l.length→offs (List.set l i true)+(if getD l i false then 0 else 1)=offs l
 | [],i,h=>by simp at h
 |b::l,0,h=>by
  cases b<;>simp[offs]
  omega
 |b::l,i+1,h=>by
  have:=offs_set l i (by simpa using h)
  simp only[List.set_cons_succ,offs,getD_cons_succ]
  omega
theorem getS_ne {α:Type} {l:List α} {i x:Nat} {v d:α} (h:x≠i):getD (List.set l i v) x d=getD l x d:=by
 rw[getD_eq_getElem?_getD,getD_eq_getElem?_getD,List.getElem?_set_ne (fun q=>h q.symm)]
theorem getS_eq {α:Type} {l:List α} {i:Nat} {v d:α} (h:i<l.length):getD (List.set l i v) i d=v:=by
 rw[getD_eq_getElem?_getD,List.getElem?_set_self h]
 rfl
abbrev onB (l:List Bool) (i:Nat):Prop:=getD l i false=true
structure MayP (M:InT) (s:SideT) (i:Nat) (a b c:List Bool):Prop where
 may:∀p x,p<i→ofP M s p x=true→onB c p
 beg:∀p,p<i→onB c p→getD s.2.1 p 0<1152921504606846976→onB a p
 fin:∀p,p<i→onB c p→getD s.2.2.1 p 0<1152921504606846976→onB b p
theorem F42_0_ok {n M0:Nat} {C:Int} (k:Nat) (M:List (List Bool)) (s c4:SideT) (hk:10000000≤k) (hn:n≤500) (hs:SideG n C M0 s) (hM:M0≤M.length) (hr:∀r∈M,r.length≤2000000):∀(d m i:Nat) (a b c:List Bool),i+d=n→d<m→a.length=n→b.length=n→c.length=n→MayP M s i a b c →
  ∃a' b' c',F42_0 k m M (n:Int) (i:Int) s c4 a b c=some (((n:Int),()),(s,(c4,(a',(b',(c',()))))))∧a'.length=n∧b'.length=n∧c'.length=n∧MayP M s n a' b' c'
 |0,m,i,a,b,c,hi,hm,ha,hb,hc,hP=>by
  obtain ⟨m,rfl⟩:=pos1 (m:=m) (by omega)
  obtain rfl:i=n:=by omega
  refine ⟨a,b,c,?_,ha,hb,hc,hP⟩
  simp only[F42_0]
  rw[decide_eq_false (by omega),cond_false]
 |d+1,m,i,a,b,c,hi,hm,ha,hb,hc,hP=>by
  obtain ⟨m,rfl⟩:=pos1 (m:=m) (by omega)
  have hls:=hs.ls
  have hlf:=hs.lf
  have hle:=hs.le
  have hx:=hs.sets (getD s.1 i 0) (getD_mem (by omega))
  obtain ⟨v,e,hv⟩:=F75_ok k M i s hk (by omega) (by omega) hr
  have hset:∀(l:List Bool) (w:Bool),l.length=n→(List.set l i w).length=n∧onB (List.set l i w) i=(w=true)∧∀p,p≠i→(onB (List.set l i w) p↔onB l p):=fun l w hl=>⟨by rw[length_set]; exact hl,by unfold onB; rw[getS_eq (by omega)],fun p hp=>by unfold onB; rw[getS_ne hp]⟩
  have key:∀(wa wb:Bool),(v=true→getD s.2.1 i 0<1152921504606846976→wa=true)→(v=true→getD s.2.2.1 i 0<1152921504606846976→wb=true)→∃a2 b2 c2,(F42_0 k m M (n:Int) ((i+1:Nat):Int) s c4 (List.set a i wa) (List.set b i wb) (List.set c i v)).bind some=some (((n:Int),()),(s,(c4,(a2,(b2,(c2,()))))))∧a2.length=n∧b2.length=n∧c2.length=n∧MayP M s n a2 b2 c2:=fun wa wb hwa hwb=>by
   obtain ⟨a1,a2,a3⟩:=hset a wa ha
   obtain ⟨b1,b2,b3⟩:=hset b wb hb
   obtain ⟨c1,c2,c3⟩:=hset c v hc
   obtain ⟨a',b',c',e,h⟩:=F42_0_ok k M s c4 hk hn hs hM hr d m (i+1) _ _ _ (by omega) (by omega) a1 b1 c1 ⟨fun p x hp ho=>by
    by_cases hpi:p=i
    ·subst hpi
     rw[c2]
     cases v with
     |true=>rfl
     |false=>rw[hv rfl x] at ho; cases ho
    ·exact (c3 p hpi).2 (hP.may p x (by omega) ho),fun p hp ho hF=>by
    by_cases hpi:p=i
    ·subst hpi
     rw[c2] at ho
     rw[a2]
     exact hwa ho hF
    ·exact (a3 p hpi).2 (hP.beg p (by omega) ((c3 p hpi).1 ho) hF),fun p hp ho hF=>by
    by_cases hpi:p=i
    ·subst hpi
     rw[c2] at ho
     rw[b2]
     exact hwb ho hF
    ·exact (b3 p hpi).2 (hP.fin p (by omega) ((c3 p hpi).1 ho) hF)⟩
   exact ⟨a',b',c',by rw[e]; rfl,h⟩
  have wi:IntKind.wrap .i64 ((i:Int)+1)=((i+1:Nat):Int):=by rw[w64 _ (by omega) (by omega)]; omega
  have q1:(0:Int)≤(i:Int)∧(i:Int)<((c.length:Nat):Int):=by omega
  have q2:(0:Int)≤(i:Int)∧(i:Int)<(((List.set c i v).length:Nat):Int):=by rw[length_set]; omega
  have q3:(0:Int)≤(i:Int)∧(i:Int)<((s.2.1.length:Nat):Int):=by omega
  have q4:(0:Int)≤(i:Int)∧(i:Int)<((s.2.2.1.length:Nat):Int):=by omega
  have q5:(0:Int)≤(i:Int)∧(i:Int)<((a.length:Nat):Int):=by omega
  have q6:(0:Int)≤(i:Int)∧(i:Int)<((b.length:Nat):Int):=by omega
  simp only[F42_0]
  rw[decide_eq_true (by omega),cond_true,e,bind_some]
  simp only
  rw[if_pos q1,tnI i,if_pos q2,wi,getS_eq (by omega:i<c.length)]
  cases v with
  |true =>
   rw[cond_true,if_pos q3,if_pos q2,cond_true,if_pos q4,if_pos q5,if_pos q6]
   exact key _ _ (fun _ h=>decide_eq_true h) (fun _ h=>decide_eq_true h)
  |false =>
   rw[cond_false,if_pos q2,cond_false,if_pos q5,if_pos q6]
   exact key _ _ (fun q=>by cases q) (fun q=>by cases q)
def ClsX (a b c:List Bool) (x:ArcT):Prop:=(onB a x.1.toNat→onB c x.2.1.toNat→onB a x.2.1.toNat)∧(onB b x.2.1.toNat→onB c x.1.toNat→onB b x.1.toNat)
def UpB (a a':List Bool):Prop:=∀p,onB a p→onB a' p
theorem upB_set (a:List Bool) (i:Nat):UpB a (List.set a i true):=fun p h=>by
 unfold onB at *
 by_cases e:p=i
 ·subst e
  by_cases hl:p<a.length
  ·rw[getS_eq hl]
  ·rw[getD_eq_getElem?_getD,getElem?_eq_none (by omega)] at h
   cases h
 ·rw[getS_ne e]; exact h
def stA (a c:List Bool) (p q:Nat):List Bool:=if getD a p false&&getD c q false&&!(getD a q false) then List.set a q true else a
def chA (a c:List Bool) (p q:Nat):Bool:=getD a p false&&getD c q false&&!(getD a q false)
theorem stA_len (a c:List Bool) (p q:Nat):(stA a c p q).length=a.length:=by unfold stA; split<;>simp
theorem stA_up (a c:List Bool) (p q:Nat):UpB a (stA a c p q):=by
 unfold stA
 split
 ·exact upB_set a q
 ·exact fun _ h=>h
theorem stA_no {a c:List Bool} {p q:Nat} (h:chA a c p q=false):stA a c p q=a∧(onB a p→onB c q→onB a q):=by
 unfold chA at h
 unfold stA
 rw[h]
 refine ⟨rfl,fun h1 h2=>?_⟩
 unfold onB at *
 rw[h1,h2] at h
 simpa using h
theorem stA_offs {a c:List Bool} {p q:Nat} (hq:q<a.length):offs (stA a c p q)≤offs a∧(chA a c p q=true→offs (stA a c p q)<offs a):=by
 have:=offs_set a q hq
 unfold stA chA
 split
 ·rename_i h
  have h2:getD a q false=false:=by
   simp only[Bool.and_eq_true,Bool.not_eq_true'] at h
   exact h.2
  rw[h2] at this
  simp only[Bool.false_eq_true,if_false] at this
  omega
 ·rename_i h
  exact ⟨Nat.le_refl _,fun g=>absurd g h⟩
theorem F42_1_ok {n M0:Nat} {C:Int} (k:Nat) (s c4:SideT) (c:List Bool) (hn:n≤500) (hs:SideG n C M0 s) (hc:c.length=n):∀(d m i:Nat) (t:Bool) (a b:List Bool),i+d=s.2.2.2.1.length→d<m→a.length=n→b.length=n →
  ∃t' a' b',F42_1 k m (n:Int) t (i:Int) s c4 a b c=some (((n:Int),(t',())),(s,(c4,(a',(b',(c,()))))))∧a'.length=n∧b'.length=n∧offs a'+offs b'≤offs a+offs b∧(t'=true→t=true∨offs a'+offs b'<offs a+offs b)∧UpB a a'∧UpB b b'∧(t'=false→t=false∧a'=a∧b'=b∧∀x∈s.2.2.2.1.drop i,ClsX a b c x)
 |0,m,i,t,a,b,hi,hm,ha,hb=>by
  obtain ⟨m,rfl⟩:=pos1 (m:=m) (by omega)
  refine ⟨t,a,b,?_,ha,hb,Nat.le_refl _,fun h=>.inl h,fun _ h=>h,fun _ h=>h,fun h=>⟨h,rfl,rfl,fun x hx=>?_⟩⟩
  ·simp only[F42_1]
   rw[decide_eq_false (by omega),cond_false]
  ·rw[drop_eq_nil_of_le (by omega)] at hx
   cases hx
 |d+1,m,i,t,a,b,hi,hm,ha,hb=>by
  obtain ⟨m,rfl⟩:=pos1 (m:=m) (by omega)
  have hlt:i<s.2.2.2.1.length:=by omega
  have hlen:=srt_len hs.srt hs.arcs
  have hnn:n*n≤500*500:=mul_le_mul hn hn
  have hx:=hs.arcs _ (getElem_mem hlt)
  have hdr:=drop_eq_getElem_cons hlt
  have hget:=getD_lt s.2.2.2.1 i ((0:Int),((0:Int),((0:Int),()))) hlt
  generalize s.2.2.2.1[i]=x at hx hdr hget
  obtain ⟨⟨x1,x2⟩,⟨x3,x4⟩,_⟩:=hx
  have q1:(0:Int)≤x.1∧x.1<((a.length:Nat):Int):=by omega
  have q2:(0:Int)≤x.2.1∧x.2.1<((a.length:Nat):Int):=by omega
  have q3:(0:Int)≤x.1∧x.1<((b.length:Nat):Int):=by omega
  have q4:(0:Int)≤x.2.1∧x.2.1<((b.length:Nat):Int):=by omega
  have q5:(0:Int)≤x.1∧x.1<((c.length:Nat):Int):=by omega
  have q6:(0:Int)≤x.2.1∧x.2.1<((c.length:Nat):Int):=by omega
  have step:F42_1 k (m+1) (n:Int) t (i:Int) s c4 a b c=(F42_1 k m (n:Int) (t||chA a c x.1.toNat x.2.1.toNat||chA b c x.2.1.toNat x.1.toNat) ((i+1:Nat):Int) s c4 (stA a c x.1.toNat x.2.1.toNat) (stA b c x.2.1.toNat x.1.toNat) c).bind some:=by
   simp only[F42_1]
   rw[dlt hlt,cond_true,if_pos (inR hlt),tnI i,hget,wsucc i _ hlt (by omega)]
   simp only[if_pos q1,if_pos q2,if_pos q3,if_pos q4,if_pos q5,if_pos q6]
   unfold stA chA
   generalize getD a x.1.toNat false=u1
   generalize getD c x.2.1.toNat false=u2
   generalize getD a x.2.1.toNat false=u3
   generalize getD b x.2.1.toNat false=u4
   generalize getD c x.1.toNat false=u5
   generalize getD b x.1.toNat false=u6
   cases u1<;>cases u2<;>cases u3<;>cases u4<;>cases u5<;>cases u6<;>simp only[cond_true,cond_false,Bool.not_true,Bool.not_false,Bool.and_true,Bool.and_false,Bool.true_and,Bool.false_and,Bool.or_false,Bool.or_true,Bool.false_eq_true,if_true,if_false]
  have oa:=stA_offs (a:=a) (c:=c) (p:=x.1.toNat) (q:=x.2.1.toNat) (by omega)
  have ob:=stA_offs (a:=b) (c:=c) (p:=x.2.1.toNat) (q:=x.1.toNat) (by omega)
  obtain ⟨t',a',b',e,h1,h2,h3,h4,h5,h6,h7⟩:=F42_1_ok k s c4 c hn hs hc d m (i+1) (t||chA a c x.1.toNat x.2.1.toNat||chA b c x.2.1.toNat x.1.toNat) (stA a c x.1.toNat x.2.1.toNat) (stA b c x.2.1.toNat x.1.toNat) (by omega) (by omega) (by rw[stA_len]; exact ha) (by rw[stA_len]; exact hb)
  refine ⟨t',a',b',by rw[step,e]; rfl,h1,h2,by omega,fun q=>?_,fun p hp=>h5 p (stA_up a c _ _ p hp),fun p hp=>h6 p (stA_up b c _ _ p hp),fun q=>?_⟩
  ·rcases h4 q with r | r
   ·simp only[Bool.or_eq_true] at r
    rcases r with (r | r) | r
    ·exact .inl r
    ·have:=oa.2 r
     exact .inr (by omega)
    ·have:=ob.2 r
     exact .inr (by omega)
   ·exact .inr (by omega)
  ·obtain ⟨g1,g2,g3,g4⟩:=h7 q
   simp only[Bool.or_eq_false_iff] at g1
   obtain ⟨na1,na2⟩:=stA_no g1.1.2
   obtain ⟨nb1,nb2⟩:=stA_no g1.2
   rw[na1] at g2 g4
   rw[nb1] at g3 g4
   refine ⟨g1.1.1,g2,g3,fun y hy=>?_⟩
   rw[hdr] at hy
   rcases List.mem_cons.1 hy with r | r
   ·rw[r]; exact ⟨na2,nb2⟩
   ·exact g4 y r
theorem F42_2_ok {n M0:Nat} {C:Int} (k:Nat) (s c4:SideT) (c:List Bool) (hk:10000000≤k) (hn:n≤500) (hs:SideG n C M0 s) (hc:c.length=n):∀(d m:Nat) (t:Bool) (a b:List Bool),offs a+offs b<d→d<m→a.length=n→b.length=n→(t=false→∀x∈s.2.2.2.1,ClsX a b c x) →
  ∃a' b',F42_2 k m (n:Int) t s c4 a b c=some (((n:Int),()),(s,(c4,(a',(b',())))))∧a'.length=n∧b'.length=n∧UpB a a'∧UpB b b'∧∀x∈s.2.2.2.1,ClsX a' b' c x
 |0,m,t,a,b,hd,hm,ha,hb,ht=>by omega
 |d+1,m,t,a,b,hd,hm,ha,hb,ht=>by
  obtain ⟨m,rfl⟩:=pos1 (m:=m) (by omega)
  cases t with
  |false =>
   refine ⟨a,b,?_,ha,hb,fun _ h=>h,fun _ h=>h,ht rfl⟩
   simp only[F42_2]
   rw[cond_false]
  |true =>
   have hlen:=srt_len hs.srt hs.arcs
   have hnn:n*n≤500*500:=mul_le_mul hn hn
   obtain ⟨t',a',b',e,h1,h2,h3,h4,h5,h6,h7⟩:=F42_1_ok k s c4 c hn hs hc s.2.2.2.1.length k 0 false a b (Nat.zero_add _) (by omega) ha hb
   rw[show ((0:Nat):Int)=0 from rfl] at e
   have fin:∃a2 b2,F42_2 k m (n:Int) t' s c4 a' b' c=some (((n:Int),()),(s,(c4,(a2,(b2,())))))∧a2.length=n∧b2.length=n∧UpB a' a2∧UpB b' b2∧∀x∈s.2.2.2.1,ClsX a2 b2 c x:=by
    cases t' with
    |true =>
     rcases h4 rfl with q | q
     ·cases q
     ·exact F42_2_ok k s c4 c hk hn hs hc d m true a' b' (by omega) (by omega) h1 h2 (fun q=>by cases q)
    |false =>
     obtain ⟨m,rfl⟩:=pos1 (m:=m) (by omega)
     obtain ⟨_,g2,g3,g4⟩:=h7 rfl
     refine ⟨a',b',?_,h1,h2,fun _ h=>h,fun _ h=>h,?_⟩
     ·simp only[F42_2]
      rw[cond_false]
     ·rw[g2,g3]
      rwa [drop_zero] at g4
   obtain ⟨a2,b2,e2,i1,i2,i3,i4,i5⟩:=fin
   refine ⟨a2,b2,?_,i1,i2,fun p hp=>i3 p (h5 p hp),fun p hp=>i4 p (h6 p hp),i5⟩
   simp only[F42_2]
   rw[cond_true,e,bind_some]
   simp only
   rw[e2]
   rfl
structure RenP (n i:Nat) (j:Nat) (z:List Int):Prop where
 len:z.length=n
 rng:∀x,x<i→-1≤getD z x 0∧getD z x 0<(j:Int)
 mon:∀x y,x<y→y<i→0≤getD z x 0→0≤getD z y 0→getD z x 0<getD z y 0
theorem RenP.no {n i j:Nat} {z:List Int} (h:RenP n i j z) (hi:i<n):RenP n (i+1) j (List.set z i (-1)):=by
 have hl:=h.len
 refine ⟨by rw[length_set]; exact hl,fun x hx=>?_,fun x y hxy hy h0 h1=>?_⟩
 ·by_cases e:x=i
  ·subst e
   rw[getS_eq (by omega)]; omega
  ·rw[getS_ne e]
   exact h.rng x (by omega)
 ·by_cases e:y=i
  ·subst e
   rw[getS_eq (by omega)] at h1; omega
  ·rw[getS_ne e] at h1 ⊢
   rw[getS_ne (by omega)] at h0 ⊢
   exact h.mon x y hxy (by omega) h0 h1
theorem RenP.yes {n i j:Nat} {z:List Int} (h:RenP n i j z) (hi:i<n):RenP n (i+1) (j+1) (List.set (List.set z i (-1)) i ((j:Nat):Int)):=by
 have hl:=h.len
 refine ⟨by rw[length_set,length_set]; exact hl,fun x hx=>?_,fun x y hxy hy h0 h1=>?_⟩
 ·by_cases e:x=i
  ·subst e
   rw[getS_eq (by rw[length_set]; omega)]; omega
  ·rw[getS_ne e,getS_ne e]
   have:=h.rng x (by omega)
   omega
 ·have ex:x≠i:=by omega
  rw[getS_ne ex,getS_ne ex] at h0 ⊢
  by_cases e:y=i
  ·subst e
   rw[getS_eq (by rw[length_set]; omega)]
   exact (h.rng x (by omega)).2
  ·rw[getS_ne e,getS_ne e] at h1 ⊢
   exact h.mon x y hxy (by omega) h0 h1
structure RenQ (s:SideT) (a b:List Bool) (i j:Nat) (l1 l2 l3 z:List Int):Prop where
 dom:∀p,p<i→(0≤getD z p 0↔onB a p∧onB b p)
 val:∀p,p<i→0≤getD z p 0→getD l1 (getD z p 0).toNat 0=getD s.1 p 0∧getD l2 (getD z p 0).toNat 0=getD s.2.1 p 0∧getD l3 (getD z p 0).toNat 0=getD s.2.2.1 p 0
 sur:∀q:Nat,q<j→∃p,p<i∧getD z p 0=(q:Int)
theorem RenQ.no {s:SideT} {a b:List Bool} {i j n:Nat} {l1 l2 l3 z:List Int} (h:RenQ s a b i j l1 l2 l3 z) (hz:z.length=n) (hi:i<n) (hn:¬(onB a i∧onB b i)):RenQ s a b (i+1) j l1 l2 l3 (List.set z i (-1)):=by
 refine ⟨fun p hp=>?_,fun p hp h0=>?_,fun q hq=>?_⟩
 ·by_cases e:p=i
  ·subst e
   rw[getS_eq (by omega)]
   exact ⟨fun q=>by omega,fun q=>absurd q hn⟩
  ·rw[getS_ne e]
   exact h.dom p (by omega)
 ·by_cases e:p=i
  ·subst e
   rw[getS_eq (by omega)] at h0
   omega
  ·rw[getS_ne e] at h0 ⊢
   exact h.val p (by omega) h0
 ·obtain ⟨p,h1,h2⟩:=h.sur q hq
  exact ⟨p,by omega,by rw[getS_ne (by omega)]; exact h2⟩
theorem getD_at {l:List Int} {x:Int} {j:Nat} (h:l.length=j):getD (l++[x]) j 0=x:=by
 rw[getD_eq_getElem?_getD,List.getElem?_append_right (by omega),show j-l.length=0 by omega]
 rfl
theorem RenQ.yes {s:SideT} {a b:List Bool} {i j n:Nat} {l1 l2 l3 z:List Int} (h:RenQ s a b i j l1 l2 l3 z) (hz:RenP n i j z) (hi:i<n) (h1:l1.length=j) (h2:l2.length=j) (h3:l3.length=j) (ha:onB a i) (hb:onB b i) :
  RenQ s a b (i+1) (j+1) (l1++[getD s.1 i 0]) (l2++[getD s.2.1 i 0]) (l3++[getD s.2.2.1 i 0]) (List.set (List.set z i (-1)) i ((j:Nat):Int)):=by
 have hl:=hz.len
 have e0:getD (List.set (List.set z i (-1)) i ((j:Nat):Int)) i 0=(j:Int):=getS_eq (by rw[length_set]; omega)
 refine ⟨fun p hp=>?_,fun p hp h0=>?_,fun q hq=>?_⟩
 ·by_cases e:p=i
  ·subst e
   rw[e0]
   exact ⟨fun _=>⟨ha,hb⟩,fun _=>by omega⟩
  ·rw[getS_ne e,getS_ne e]
   exact h.dom p (by omega)
 ·by_cases e:p=i
  ·subst e
   rw[e0,tnI j,getD_at h1,getD_at h2,getD_at h3]
   exact ⟨rfl,rfl,rfl⟩
  ·rw[getS_ne e,getS_ne e] at h0 ⊢
   have hr:=hz.rng p (by omega)
   rw[getD_app1 _ _ _ _ (by omega),getD_app1 _ _ _ _ (by omega),getD_app1 _ _ _ _ (by omega)]
   exact h.val p (by omega) h0
 ·by_cases e:q=j
  ·subst e
   exact ⟨i,by omega,e0⟩
  ·obtain ⟨p,h1,h2⟩:=h.sur q (by omega)
   exact ⟨p,by omega,by rw[getS_ne (by omega),getS_ne (by omega)]; exact h2⟩
theorem F42_3_ok {n M0:Nat} {C:Int} (k:Nat) (s c4:SideT) (a b:List Bool) (R:List (Int×(Int×(Int×Unit)))×(Int×Unit)) (hn:n≤500) (hs:SideG n C M0 s) (ha:a.length=n) (hb:b.length=n):∀(d m i j:Nat) (l1 l2 l3 z:List Int),i+d=n→d<m→l1.length=j→l2.length=j→l3.length=j→j≤i→RenP n i j z→(∀x∈l1,-1≤x∧x<(M0:Int))→(∀x∈l2,CB C x)→(∀x∈l3,CB C x)→RenQ s a b i j l1 l2 l3 z →
  ∃(j':Nat) (l1' l2' l3' z':List Int),F42_3 k m (n:Int) (i:Int) s c4 (l1,(l2,(l3,R))) a b z=some ((),(s,(c4,((l1',(l2',(l3',R))),(z',())))))∧l1'.length=j'∧l2'.length=j'∧l3'.length=j'∧j'≤n∧RenP n n j' z'∧(∀x∈l1',-1≤x∧x<(M0:Int))∧(∀x∈l2',CB C x)∧(∀x∈l3',CB C x)∧RenQ s a b n j' l1' l2' l3' z'
 |0,m,i,j,l1,l2,l3,z,hi,hm,e1,e2,e3,hj,hz,g1,g2,g3,hQ=>by
  obtain ⟨m,rfl⟩:=pos1 (m:=m) (by omega)
  obtain rfl:i=n:=by omega
  refine ⟨j,l1,l2,l3,z,?_,e1,e2,e3,hj,hz,g1,g2,g3,hQ⟩
  simp only[F42_3]
  rw[decide_eq_false (by omega),cond_false]
 |d+1,m,i,j,l1,l2,l3,z,hi,hm,e1,e2,e3,hj,hz,g1,g2,g3,hQ=>by
  obtain ⟨m,rfl⟩:=pos1 (m:=m) (by omega)
  have hls:=hs.ls
  have hlf:=hs.lf
  have hle:=hs.le
  have hzl:=hz.len
  have wi:IntKind.wrap .i64 ((i:Int)+1)=((i+1:Nat):Int):=by rw[w64 _ (by omega) (by omega)]; omega
  have q1:(0:Int)≤(i:Int)∧(i:Int)<((z.length:Nat):Int):=by omega
  have q2:(0:Int)≤(i:Int)∧(i:Int)<((a.length:Nat):Int):=by omega
  have q3:(0:Int)≤(i:Int)∧(i:Int)<((b.length:Nat):Int):=by omega
  have q4:(0:Int)≤(i:Int)∧(i:Int)<(((List.set z i (-1)).length:Nat):Int):=by rw[length_set]; omega
  have q5:(0:Int)≤(i:Int)∧(i:Int)<((s.1.length:Nat):Int):=by omega
  have q6:(0:Int)≤(i:Int)∧(i:Int)<((s.2.1.length:Nat):Int):=by omega
  have q7:(0:Int)≤(i:Int)∧(i:Int)<((s.2.2.1.length:Nat):Int):=by omega
  have no:¬(onB a i∧onB b i)→∃(j':Nat) (l1' l2' l3' z':List Int),(F42_3 k m (n:Int) ((i+1:Nat):Int) s c4 (l1,(l2,(l3,R))) a b (List.set z i (-1))).bind some=some ((),(s,(c4,((l1',(l2',(l3',R))),(z',())))))∧l1'.length=j'∧l2'.length=j'∧l3'.length=j'∧j'≤n∧RenP n n j' z'∧(∀x∈l1',-1≤x∧x<(M0:Int))∧(∀x∈l2',CB C x)∧(∀x∈l3',CB C x)∧RenQ s a b n j' l1' l2' l3' z':=fun hno=>by
   obtain ⟨j',l1',l2',l3',z',e,h⟩:=F42_3_ok k s c4 a b R hn hs ha hb d m (i+1) j l1 l2 l3 (List.set z i (-1)) (by omega) (by omega) e1 e2 e3 (by omega) (hz.no (by omega)) g1 g2 g3 (hQ.no hzl (by omega) hno)
   exact ⟨j',l1',l2',l3',z',by rw[e]; rfl,h⟩
  have k1:∀(l:List Int) (x:Int),l.length=j→(l.length+[x].length)*(8*2)≤281474976710656∧l.length+[x].length≤9223372036854775807:=fun l x h=>by rw[h,length_singleton]; omega
  simp only[F42_3]
  rw[decide_eq_true (by omega),cond_true,if_pos q1,tnI i,if_pos q2,wi]
  cases oa:getD a i false with
  |false =>
   rw[cond_false]
   exact no fun q=>by have:=q.1; unfold onB at this; rw[oa] at this; cases this
  |true =>
   rw[cond_true,if_pos q3]
   cases ob:getD b i false with
   |false =>
    rw[cond_false]
    exact no fun q=>by have:=q.2; unfold onB at this; rw[ob] at this; cases this
   |true =>
    simp only[one_list]
    rw[cond_true,if_pos q4,if_pos q5,if_pos q6,if_pos q7,if_pos (k1 l1 _ e1),if_pos (k1 l2 _ e2),if_pos (k1 l3 _ e3),e1]
    have add:∀ {P:Int→Prop} {l:List Int} {x:Int},(∀y∈l,P y)→P x→∀y∈l++[x],P y:=fun h1 h2 y hy=>by
     rcases List.mem_append.1 hy with g | g
     ·exact h1 y g
     ·rw[List.mem_singleton.1 g]; exact h2
    obtain ⟨j',l1',l2',l3',z',e,h⟩:=F42_3_ok k s c4 a b R hn hs ha hb d m (i+1) (j+1) (l1++[getD s.1 i 0]) (l2++[getD s.2.1 i 0]) (l3++[getD s.2.2.1 i 0]) (List.set (List.set z i (-1)) i ((j:Nat):Int)) (by omega) (by omega) (by simp[e1]) (by simp[e2]) (by simp[e3]) (by omega) (hz.yes (by omega)) (add (P:=fun x=>-1≤x∧x<(M0:Int)) g1 (hs.sets _ (getD_mem (by omega)))) (add g2 (hs.cf _ (getD_mem (by omega)))) (add g3 (hs.ce _ (getD_mem (by omega)))) (hQ.yes hz (by omega) e1 e2 e3 oa ob)
    exact ⟨j',l1',l2',l3',z',by rw[e]; rfl,h⟩
def renA (z:List Int) (x:ArcT):ArcT:=(getD z (Int.toNat x.1) 0,(getD z (Int.toNat x.2.1) 0,(x.2.2.1,())))
theorem ren_lt {n j:Nat} {z:List Int} (hz:RenP n n j z) {B:Int} {l:List ArcT} (hl:ArcG n B l) {x y:ArcT} (hx:x∈l) (hy:y∈l) (h:Lt x y) (h1:0≤(renA z x).1) (h2:0≤(renA z x).2.1) (h3:0≤(renA z y).1) (h4:0≤(renA z y).2.1):Lt (renA z x) (renA z y):=by
 have ax:=hl x hx
 have ay:=hl y hy
 unfold Lt at *
 unfold renA at *
 simp only at *
 rcases h with h | ⟨e,h⟩
 ·left
  exact hz.mon _ _ (by omega) (by omega) h1 h3
 ·right
  rw[e]
  exact ⟨rfl,hz.mon _ _ (by omega) (by omega) h2 h4⟩
structure ArcQ (s:SideT) (z:List Int) (o:List ArcT):Prop where
 src:∀y∈o,∃x∈s.2.2.2.1,y=renA z x∧0≤getD z x.1.toNat 0∧0≤getD z x.2.1.toNat 0
 has:∀x∈s.2.2.2.1,0≤getD z x.1.toNat 0→0≤getD z x.2.1.toNat 0→renA z x∈o
theorem F42_4_ok {n M0 j:Nat} {C:Int} (k:Nat) (s c4:SideT) (z:List Int) (l1 l2 l3:List Int) (R:Int×Unit) (hn:n≤500) (hs:SideG n C M0 s) (hz:RenP n n j z):∀(d m i:Nat) (o:List ArcT),i+d=s.2.2.2.1.length→d<m→o.length≤i→Srt o→ArcG j (2*C) o→(∀y∈o,∃x∈s.2.2.2.1.take i,y=renA z x∧0≤getD z x.1.toNat 0∧0≤getD z x.2.1.toNat 0)→(∀x∈s.2.2.2.1.take i,0≤getD z x.1.toNat 0→0≤getD z x.2.1.toNat 0→renA z x∈o) →
  ∃o',F42_4 k m (i:Int) s c4 (l1,(l2,(l3,(o,R)))) z=some ((),(c4,((l1,(l2,(l3,(o',R)))),())))∧Srt o'∧ArcG j (2*C) o'∧ArcQ s z o'
 |0,m,i,o,hi,hm,ho,h1,h2,h3,h4=>by
  obtain ⟨m,rfl⟩:=pos1 (m:=m) (by omega)
  rw[take_of_length_le (by omega)] at h3 h4
  refine ⟨o,?_,h1,h2,h3,h4⟩
  simp only[F42_4]
  rw[decide_eq_false (by omega),cond_false]
 |d+1,m,i,o,hi,hm,ho,h1,h2,h3,h4=>by
  obtain ⟨m,rfl⟩:=pos1 (m:=m) (by omega)
  have hlt:i<s.2.2.2.1.length:=by omega
  have hlen:=srt_len hs.srt hs.arcs
  have hnn:n*n≤500*500:=mul_le_mul hn hn
  have hx:=hs.arcs _ (getElem_mem hlt)
  have hzl:=hz.len
  have tk:s.2.2.2.1.take (i+1)=s.2.2.2.1.take i++[s.2.2.2.1[i]]:=take_succ_eq_append_getElem hlt
  have up:∀y∈o,∃x∈s.2.2.2.1.take (i+1),y=renA z x∧0≤getD z x.1.toNat 0∧0≤getD z x.2.1.toNat 0:=fun y hy=>by
   obtain ⟨x,hx,e⟩:=h3 y hy
   exact ⟨x,by rw[tk]; exact mem_append_left _ hx,e⟩
  have skip:¬(0≤getD z s.2.2.2.1[i].1.toNat 0∧0≤getD z s.2.2.2.1[i].2.1.toNat 0)→∃o',(F42_4 k m ((i+1:Nat):Int) s c4 (l1,(l2,(l3,(o,R)))) z).bind some=some ((),(c4,((l1,(l2,(l3,(o',R)))),())))∧Srt o'∧ArcG j (2*C) o'∧ArcQ s z o':=fun hno=>by
   obtain ⟨o',e,h⟩:=F42_4_ok k s c4 z l1 l2 l3 R hn hs hz d m (i+1) o (by omega) (by omega) (by omega) h1 h2 up (fun x hx g1 g2=>by
    rw[tk] at hx
    rcases List.mem_append.1 hx with q | q
    ·exact h4 x q g1 g2
    ·rw[List.mem_singleton.1 q] at g1 g2
     exact absurd ⟨g1,g2⟩ hno)
   exact ⟨o',by rw[e]; rfl,h⟩
  have q1:(0:Int)≤s.2.2.2.1[i].1∧s.2.2.2.1[i].1<((z.length:Nat):Int):=by omega
  have q2:(0:Int)≤s.2.2.2.1[i].2.1∧s.2.2.2.1[i].2.1<((z.length:Nat):Int):=by omega
  simp only[F42_4]
  rw[dlt hlt,cond_true,if_pos (inR hlt),tnI i,getD_lt s.2.2.2.1 i _ hlt,wsucc i _ hlt (by omega),if_pos q1]
  by_cases g1:getD z (Int.toNat s.2.2.2.1[i].1) 0≥0
  ·rw[decide_eq_true g1,cond_true,if_pos q2]
   by_cases g2:getD z (Int.toNat s.2.2.2.1[i].2.1) 0≥0
   ·rw[decide_eq_true g2,cond_true,if_pos q1,if_pos q2]
    simp only[one_list]
    have k1:(o.length+[renA z s.2.2.2.1[i]].length)*(24*2)≤281474976710656∧o.length+[renA z s.2.2.2.1[i]].length≤9223372036854775807:=by rw[length_singleton]; omega
    have k1':(o.length+[((getD z (Int.toNat s.2.2.2.1[i].1) 0),(getD z (Int.toNat s.2.2.2.1[i].2.1) 0,(s.2.2.2.1[i].2.2.1,())))].length)*(24*2)≤281474976710656∧o.length+[((getD z (Int.toNat s.2.2.2.1[i].1) 0),(getD z (Int.toNat s.2.2.2.1[i].2.1) 0,(s.2.2.2.1[i].2.2.1,())))].length≤9223372036854775807:=k1
    rw[if_pos k1']
    have r1:=hz.rng (Int.toNat s.2.2.2.1[i].1) (by omega)
    have r2:=hz.rng (Int.toNat s.2.2.2.1[i].2.1) (by omega)
    obtain ⟨o',e,h⟩:=F42_4_ok k s c4 z l1 l2 l3 R hn hs hz d m (i+1) (o++[renA z s.2.2.2.1[i]]) (by omega) (by omega) (by simp; omega) (by
     refine List.pairwise_append.2 ⟨h1,pairwise_singleton _ _,fun y hy y2 hy2=>?_⟩
     rw[List.mem_singleton.1 hy2]
     obtain ⟨x,hx2,e,_⟩:=h3 y hy
     have hy3:=h2 y hy
     have hs2:=hs.srt
     unfold Srt at hs2
     rw[←take_append_drop i s.2.2.2.1,drop_eq_getElem_cons hlt] at hs2
     have lt:=(List.pairwise_append.1 hs2).2.2 x hx2 s.2.2.2.1[i] mem_cons_self
     rw[e] at hy3 ⊢
     exact ren_lt hz hs.arcs (mem_of_mem_take hx2) (getElem_mem hlt) lt hy3.1.1 hy3.2.1.1 g1 g2) (fun y hy=>by
     rcases List.mem_append.1 hy with g | g
     ·exact h2 y g
     ·rw[List.mem_singleton.1 g]
      exact ⟨⟨g1,r1.2⟩,⟨g2,r2.2⟩,hx.2.2⟩) (fun y hy=>by
     rcases List.mem_append.1 hy with g | g
     ·exact up y g
     ·exact ⟨_,by rw[tk]; exact mem_append_right _ (List.mem_singleton.2 rfl),List.mem_singleton.1 g,g1,g2⟩) (fun x hx y1 y2=>by
     rw[tk] at hx
     rcases List.mem_append.1 hx with q | q
     ·exact mem_append_left _ (h4 x q y1 y2)
     ·rw[List.mem_singleton.1 q]
      exact mem_append_right _ (List.mem_singleton.2 rfl))
    refine ⟨o',?_,h⟩
    have e':F42_4 k m ((i+1:Nat):Int) s c4 (l1,(l2,(l3,(o++[((getD z (Int.toNat s.2.2.2.1[i].1) 0),(getD z (Int.toNat s.2.2.2.1[i].2.1) 0,(s.2.2.2.1[i].2.2.1,())))],R)))) z=_:=e
    rw[e']
    rfl
   ·rw[decide_eq_false g2,cond_false]
    exact skip fun q=>g2 q.2
  ·rw[decide_eq_false g1,cond_false]
   exact skip fun q=>g1 q.1
structure TrimR (M:InT) (s s':SideT) (z:List Int) (a b c:List Bool):Prop where
 may:MayP M s s.1.length a b c
 cl:∀x∈s.2.2.2.1,ClsX a b c x
 ren:RenP s.1.length s.1.length s'.1.length z
 q:RenQ s a b s.1.length s'.1.length s'.1 s'.2.1 s'.2.2.1 z
 non:s'.2.2.2.2.1=s.2.2.2.2.1
 arc:ArcQ s z s'.2.2.2.1
theorem F42_ok {n M0:Nat} {C:Int} (k:Nat) (s:SideT) (M:List (List Bool)) (hk:10000000≤k) (hn:n≤500) (hs:SideG n C M0 s) (hM:M0≤M.length) (hr:∀r∈M,r.length≤2000000):∃(j:Nat) (s':SideT),F42 k s M=some ((s',()),())∧j≤n∧SideG j C M0 s'∧∃z a b c,TrimR M s s' z a b c:=by
 have hls:=hs.ls
 have hlen:=srt_len hs.srt hs.arcs
 have hnn:n*n≤500*500:=mul_le_mul hn hn
 obtain ⟨a,b,c,e1,ha,hb,hc,hP⟩:=F42_0_ok k M s sd0 hk hn hs hM hr n k 0 (replicate n false) (replicate n false) (replicate n false) (Nat.zero_add _) (by omega) (by simp) (by simp) (by simp) ⟨fun p x hp=>by omega,fun p hp=>by omega,fun p hp=>by omega⟩
 rw[show ((0:Nat):Int)=0 from rfl] at e1
 have oa:=offs_le a
 have ob:=offs_le b
 obtain ⟨a2,b2,e2,ha2,hb2,hua,hub,hcl⟩:=F42_2_ok k s sd0 c hk hn hs hc (offs a+offs b+1) k true a b (by omega) (by omega) ha hb (fun q=>by cases q)
 obtain ⟨j,l1,l2,l3,z,e3,h1,h2,h3,hj,hz,g1,g2,g3,hQ⟩:=F42_3_ok k s sd0 a2 b2 ([],(s.2.2.2.2.1,())) hn hs ha2 hb2 n k 0 0 [] [] [] (replicate n 0) (Nat.zero_add _) (by omega) rfl rfl rfl (Nat.le_refl _) ⟨by simp,fun x hx=>by omega,fun x y _ hy=>by omega⟩ (fun x hx=>by cases hx) (fun x hx=>by cases hx) (fun x hx=>by cases hx) ⟨fun p hp=>by omega,fun p hp=>by omega,fun q hq=>by omega⟩
 rw[show ((0:Nat):Int)=0 from rfl] at e3
 obtain ⟨o,e4,h4,h5,h6⟩:=F42_4_ok k s sd0 z l1 l2 l3 (s.2.2.2.2.1,()) hn hs hz s.2.2.2.1.length k 0 [] (Nat.zero_add _) (by omega) (Nat.le_refl _) List.Pairwise.nil (fun x hx=>by cases hx) (fun x hx=>by cases hx) (fun x hx=>by cases hx)
 rw[show ((0:Nat):Int)=0 from rfl] at e4
 refine ⟨j,(l1,(l2,(l3,(o,(s.2.2.2.2.1,()))))),?_,hj,⟨h1,h2,h3,g2,g3,hs.cn,h4,h5,g1⟩,z,a2,b2,c,⟨fun p x hp ho=>hP.may p x (by omega) ho,fun p hp h7 h8=>hua p (hP.beg p (by omega) h7 h8),fun p hp h7 h8=>hub p (hP.fin p (by omega) h7 h8)⟩,hcl,by rw[hls,h1]; exact hz,by rw[hls,h1]; exact hQ,rfl,h6⟩
 have q1:((0:Int)≤(n:Int)∧(n:Int)<(n:Int)+1)∧(n:Int)≤9223372036854775807∧((1:Nat):Int)*(n:Int)≤281474976710656:=by omega
 have q2:((0:Int)≤(n:Int)∧(n:Int)<(n:Int)+1)∧(n:Int)≤9223372036854775807∧((8:Nat):Int)*(n:Int)≤281474976710656:=by omega
 unfold F42
 simp only
 rw[hls,if_pos q1,if_pos q1,if_pos q1,tnI (n),e1,bind_some]
 simp only
 rw[e2,bind_some]
 simp only
 rw[if_pos q2,tnI (n),e3,bind_some]
 simp only
 rw[e4,bind_some]
abbrev Live:=List (List Bool)
abbrev INF1:Int:=1152921504606846976
structure InOK (I:InT) (N:Nat) (s:SideT):Prop where
 sets:∀x∈s.1,x<((I.length:Nat):Int)
 rows:∀r∈I,r.length=N
structure SOK (s:SideT):Prop where
 lf:s.2.1.length=s.1.length
 le:s.2.2.1.length=s.1.length
 arcs:∀x∈s.2.2.2.1,(0≤x.1∧x.1<((s.1.length:Nat):Int))∧0≤x.2.1∧x.2.1<((s.1.length:Nat):Int)
 ln:s.1.length≤100000
 la:s.2.2.2.1.length≤100000
def endP (I:InT) (s:SideT) (a p:Nat):Bool:=decide (getD s.2.2.1 p 0<INF1)&&ofP I s p a
def arcR (I:InT) (s:SideT) (a:Nat) (r:List Bool) (row:List Bool) (x:ArcT):List Bool:=if ofP I s x.1.toNat a&&getD r x.2.1.toNat false then List.set row x.1.toNat true else row
def stepS (I:InT) (s:SideT) (a:Nat) (r:List Bool):List Bool:=s.2.2.2.1.foldl (arcR I s a r) ((List.range s.1.length).map (endP I s a))
theorem set_mid {α:Type} (a b c:List α) (i:Nat) (x:α) (h:i<b.length):List.set (a++(b++c)) (a.length+i) x=a++(List.set b i x++c):=by
 rw[set_append_right _ _ (by omega),show a.length+i-a.length=i by omega,List.set_append_left _ _ h]
theorem getD_mid {α:Type} (a b c:List α) (i:Nat) (d:α) (h:i<b.length):getD (a++(b++c)) (a.length+i) d=getD b i d:=by
 rw[getD_eq_getElem?_getD,getD_eq_getElem?_getD,List.getElem?_append_right (by omega),show a.length+i-a.length=i by omega,getElem?_append_left h]
theorem waddN (a b:Nat) (h:a+b≤9223372036854775807):IntKind.wrap .i64 ((a:Int)+(b:Int))=((a+b:Nat):Int):=by
 rw[w64 _ (by omega) (by omega)]
 omega
def stepL (I:InT) (ss:List SideT) (L:Live) (a:Nat):Live:=zipWith (fun s r=>stepS I s a r) ss L
def Shp (ss:List SideT) (L:Live):Prop:=L.map length=ss.map (·.1.length)
def tot (ss:List SideT):Nat:=(ss.map (·.1.length)).sum
theorem tot_cons (s:SideT) (ss:List SideT):tot (s::ss)=s.1.length+tot ss:=by simp[tot]
theorem tot_app (a b:List SideT):tot (a++b)=tot a+tot b:=by simp[tot]
section
variable (k:Nat) (I:InT) (N:Nat) (s:SideT) (a:Nat) (ss:List SideT) (L:Live) (t10:Int) (acc:Live)
end
end Go.Proofs.YtgmmopbpldgpcaaE
set_option linter.unusedSimpArgs false
set_option linter.unusedVariables false
set_option maxRecDepth 20000
namespace Go.Proofs.YtgmmopbpldgpcaaE
def hitP (s:SideT) (r:List Bool) (p:Nat):Bool:=getD r p false&&decide (getD s.2.1 p 0<INF1)
def holdS (s:SideT) (r:List Bool):Bool:=decide (s.2.2.2.2.1<INF1)||(List.range s.1.length).any (hitP s r)
def holdL (ss:List SideT) (L:Live):List Bool:=zipWith holdS ss L
def ix {α:Type} [DecidableEq α] (l:List α) (x:α):Nat:=l.idxOf x
def hasB {α:Type} [DecidableEq α] (l:List α) (x:α):Bool:=decide (x∈l)
theorem hasB_t {α:Type} [DecidableEq α] {l:List α} {x:α} (h:x∈l):hasB l x=true:=decide_eq_true h
theorem hasB_f {α:Type} [DecidableEq α] {l:List α} {x:α} (h:x∉l):hasB l x=false:=decide_eq_false h
theorem ix_cons {α:Type} [DecidableEq α] (y x:α) (l:List α):ix (y::l) x=if y=x then 0 else ix l x+1:=by
 unfold ix
 rw[List.idxOf_cons]
 by_cases e:y=x
 ·rw[if_pos e,show (y==x)=true by simpa using e,cond_true]
 ·rw[if_neg e,show (y==x)=false by simpa using e,cond_false]
theorem ix_no {α:Type} [DecidableEq α] {l:List α} {x:α} (h:x∉l):ix l x=l.length:=List.idxOf_eq_length h
theorem ix_lt {α:Type} [DecidableEq α] {l:List α} {x:α} (h:x∈l):ix l x<l.length:=List.idxOf_lt_length_iff.2 h
theorem ix_get {α:Type} [DecidableEq α] {l:List α} {x:α} (h:x∈l):l[ix l x]'(ix_lt h)=x:=List.getElem_idxOf _
def put1 {α:Type} [DecidableEq α] (l:List α) (x:α):List α:=if x∈l then l else l++[x]
theorem put1_in {α:Type} [DecidableEq α] {l:List α} {x:α} (h:x∈l):put1 l x=l:=if_pos h
theorem put1_no {α:Type} [DecidableEq α] {l:List α} {x:α} (h:x∉l):put1 l x=l++[x]:=if_neg h
theorem put1_le {α:Type} [DecidableEq α] (l:List α) (x:α):l.length≤(put1 l x).length∧(put1 l x).length≤l.length+1:=by
 unfold put1
 split
 ·omega
 ·simp
theorem ix_map {α β:Type} [DecidableEq α] [DecidableEq β] (f:α→β):∀(l:List α) (x:α),(∀y∈l,f y=f x→y=x)→ix (l.map f) (f x)=ix l x
 | [],_,_=>rfl
 |y::l,x,h=>by
  rw[map_cons,ix_cons,ix_cons]
  by_cases e:y=x
  ·rw[if_pos e,if_pos (by rw[e])]
  ·have:f y≠f x:=fun q=>e (h y mem_cons_self q)
   rw[if_neg e,if_neg this,ix_map f l x fun z hz=>h z (mem_cons_of_mem _ hz)]
def mapK:Nat→List ByteArray→List (ByteArray×Int)
 |_,[]=>[]
 |i,k::ks=>(k,(i:Int))::mapK (i+1) ks
theorem mapK_idx (key:ByteArray):∀(ks:List ByteArray) (i:Nat),idxM (mapK i ks) key=if hasB ks key=true then some (ix ks key,((i+ix ks key:Nat):Int)) else none
 | [],i=>rfl
 |k::ks,i=>by
  rw[mapK,idxM,mapK_idx key ks (i+1),ix_cons]
  by_cases e:k=key
  ·subst e
   rw[if_pos rfl,if_pos rfl,if_pos (by simp[hasB])]
   rfl
  ·rw[if_neg (fun q=>e q.symm),if_neg e]
   have h1:hasB (k::ks) key=hasB ks key:=by
    unfold hasB
    refine decide_eq_decide.2 ⟨fun q=>?_,mem_cons_of_mem _⟩
    rcases List.mem_cons.1 q with q | q
    ·exact absurd q.symm e
    ·exact q
   rw[h1]
   cases h:hasB ks key with
   |false=>rfl
   |true =>
    simp only[if_true,Option.map_some]
    rw[show i+1+ix ks key=i+(ix ks key+1) by omega]
theorem mapK_put (key:ByteArray):∀(ks:List ByteArray) (i:Nat),key∉ks→putM (mapK i ks) key ((i+ks.length:Nat):Int)=mapK i (ks++[key])
 | [],i,_=>by simp[mapK,putM]
 |k::ks,i,h=>by
  have e:key≠k:=fun q=>h (by rw[q]; exact mem_cons_self)
  rw[mapK,putM,if_neg e,cons_append,mapK,length_cons,show i+(ks.length+1)=i+1+ks.length by omega,mapK_put key ks (i+1) fun q=>h (mem_cons_of_mem _ q)]
theorem find_mem {ks:List ByteArray} {key:ByteArray} (h:key∈ks):findM (mapK 0 ks) key=(((ix ks key:Nat):Int),true):=by
 unfold findM
 rw[mapK_idx,if_pos (hasB_t h),Nat.zero_add]
theorem find_no {ks:List ByteArray} {key:ByteArray} (h:key∉ks):findM (mapK 0 ks) key=(0,false):=by
 unfold findM
 rw[mapK_idx,if_neg (by rw[hasB_f h]; simp)]
section
variable {σ:Type} [DecidableEq σ]
def rowA (step:σ→Nat→σ) (s:σ):List Nat→List σ→List σ×List Int
 | [],l=>(l,[])
 |a::al,l=>((rowA step s al (put1 l (step s a))).1,((ix l (step s a):Nat):Int)::(rowA step s al (put1 l (step s a))).2)
theorem rowA_1 (step:σ→Nat→σ) (s:σ) (a:Nat) (al:List Nat) (l:List σ):(rowA step s (a::al) l).1=(rowA step s al (put1 l (step s a))).1:=(rfl).trans rfl
theorem rowA_2 (step:σ→Nat→σ) (s:σ) (a:Nat) (al:List Nat) (l:List σ):(rowA step s (a::al) l).2=((ix l (step s a):Nat):Int)::(rowA step s al (put1 l (step s a))).2:=(rfl).trans rfl
theorem rowA_le (step:σ→Nat→σ) (s:σ):∀(al:List Nat) (l:List σ),l.length≤(rowA step s al l).1.length∧(rowA step s al l).1.length≤l.length+al.length
 | [],l=>by simp[rowA]
 |a::al,l=>by
  have h1:=put1_le l (step s a)
  have h2:=rowA_le step s al (put1 l (step s a))
  simp only[rowA,length_cons]
  omega
theorem put1_pre (l:List σ) (x:σ):∃t,put1 l x=l++t:=by
 unfold put1
 split
 ·exact ⟨[],(append_nil _).symm⟩
 ·exact ⟨[x],rfl⟩
theorem rowA_pre (step:σ→Nat→σ) (s:σ):∀(al:List Nat) (l:List σ),∃t,(rowA step s al l).1=l++t
 | [],l=>⟨[],(append_nil _).symm⟩
 |a::al,l=>by
  obtain ⟨t1,e1⟩:=put1_pre l (step s a)
  obtain ⟨t2,e2⟩:=rowA_pre step s al (put1 l (step s a))
  refine ⟨t1++t2,?_⟩
  simp only[rowA]
  rw[e2,e1,append_assoc]
theorem rowA_row (step:σ→Nat→σ) (s:σ):∀(al:List Nat) (l:List σ),(rowA step s al l).2.length=al.length
 | [],l=>rfl
 |a::al,l=>by simp only[rowA,length_cons]; rw[rowA_row step s al]
variable (step:σ→Nat→σ) (hold:σ→List Bool) (d0:σ)
def mkA (B:Int) (N:Nat):Nat→Nat→List σ→List (List Int)→List Int→List (List Bool)→Option (List σ×List (List Int)×List Int×List (List Bool))
 |0,_,_,_,_,_=>none
 |f+1,i,l,nx,ou,se=>if i<l.length then (if (l.length:Int)>B then none else
   mkA B N f (i+1) (rowA step (l.getD i d0) (List.range N) l).1 (nx++[(rowA step (l.getD i d0) (List.range N) l).2]) (ou++[((ix se (hold (l.getD i d0)):Nat):Int)]) (put1 se (hold (l.getD i d0)))) else some (l,nx,ou,se)
end
theorem F54_ok (k:Nat) (l:List Int) (h:l.length≤100000000):F54 k l=some ((l,()),()):=by
 unfold F54
 cases l with
 |nil=>rfl
 |cons x l =>
  rw[nz (by simp),cond_false,if_pos (by simp at h ⊢; omega)]
  rfl
theorem F56_ok (k:Nat) (l:List (List Int)) (h:l.length≤100000000):F56 k l=some ((l,()),()):=by
 unfold F56
 cases l with
 |nil=>rfl
 |cons x l =>
  rw[nz (by simp),cond_false,if_pos (by simp at h ⊢; omega)]
  rfl
theorem getD_pre {α:Type} {l l' t:List α} {i:Nat} {d:α} (e:l'=l++t) (h:i<l.length):getD l' i d=getD l i d:=by
 rw[e,getD_eq_getElem?_getD,getD_eq_getElem?_getD,getElem?_append_left h]
theorem mkA_len {σ:Type} [DecidableEq σ] {step:σ→Nat→σ} {hold:σ→List Bool} {d0:σ} {B:Int} {N:Nat}:∀(f i:Nat) (l:List σ) (nx:List (List Int)) (ou:List Int) (se:List (List Bool)) {q:List σ×List (List Int)×List Int×List (List Bool)},mkA step hold d0 B N f i l nx ou se=some q→q.2.1.length≤nx.length+f∧q.2.2.1.length≤ou.length+f∧q.2.2.2.length≤se.length+f
 |0,i,l,nx,ou,se,q,h=>by cases h
 |f+1,i,l,nx,ou,se,q,h=>by
  simp only[mkA] at h
  split at h
  ·split at h
   ·cases h
   ·have:=mkA_len f _ _ _ _ _ h
    have h2:=put1_le se (hold (l.getD i d0))
    simp only[length_append,length_singleton] at this
    omega
  ·injection h with h
   subst h
   simp only
   omega
def zeroL (ss:List SideT):Live:=ss.map fun s=>replicate s.1.length false
section
variable (k:Nat) (ss:List SideT) (I:InT) (N:Nat) (B:Int)
end
theorem ix_first {α:Type} [DecidableEq α] {l:List α} {x:α} {i:Nat} (hi:i<l.length) (h:l[i]=x) (hn:x∉l.take i):ix l x=i:=by
 have e:l=l.take i++(x::l.drop (i+1)):=by rw[←h,←drop_eq_getElem_cons hi,take_append_drop]
 unfold ix
 rw[e,List.idxOf_append,if_neg hn,List.idxOf_cons]
 simp
 omega
theorem take_notin {α:Type} {l:List α} {x:α} {i:Nat} (hi:i<l.length) (h:l[i]≠x) (hn:x∉l.take i):x∉l.take (i+1):=by
 rw[take_succ_eq_append_getElem hi]
 intro hm
 rcases List.mem_append.1 hm with q | q
 ·exact hn q
 ·exact h (List.mem_singleton.1 q).symm
section
variable (k:Nat) (ss:List SideT) (I:InT) (N:Nat) (t2 t3:Int)
end
theorem F62_eq (k:Nat) (a n:Int) (h0:0<n) (h1:n≤4611686018427387904):F62 k a n=some ((a%n,()),()):=F67_eq k a n h0 h1
abbrev WorT:=(FileT×((List Int)×((List Int)×((List (List Bool))×((List SideT)×((List SideT)×(Int×Unit)))))))
abbrev RulT:=(Int×(Int×(RexT×(RexT×Unit))))
def RulP (r:RulT):Prop:=(RexP true 5 r.2.2.1∧RexP false 5 r.2.2.2.1)∧(0≤r.1∧r.1<3)∧0≤r.2.1∧r.2.1<20
theorem w64n (a:Nat) (h:a≤9223372036854775807):IntKind.wrap .i64 (a:Int)=(a:Int):=w64 _ (by omega) (by omega)
theorem tmR {a n:Int} (h:0≤a) (hn:0<n):0≤tmod a n∧tmod a n<n:=⟨Int.tmod_nonneg _ h,Int.tmod_lt_of_pos _ hn⟩
theorem tdR {a:Int} (h:0≤a) (h2:a<1073741824):0≤tmod (IntKind.wrap .i64 (tdiv a 3)) 20∧tmod (IntKind.wrap .i64 (tdiv a 3)) 20<20:=by
 have e:tdiv a 3=a/3:=Int.tdiv_eq_ediv_of_nonneg h
 rw[e,w64 _ (by omega) (by omega)]
 exact tmR (by omega) (by decide)
structure SideW (I:InT) (N M:Nat) (s:SideT):Prop where
 g:∃n,n≤120∧SideG n (cB 5) M s
 ok:SOK s
 io:InOK I N s
theorem sideW {I:InT} {N M:Nat} {s:SideT} (hI:I.length=M) (hr:∀r∈I,r.length=N) {n:Nat} (hn:n≤120) (h:SideG n (cB 5) M s):SideW I N M s:=by
 have h1:=h.ls
 have h2:=h.lf
 have h3:=h.le
 have h4:=srt_len h.srt h.arcs
 have hnn:n*n≤120*120:=mul_le_mul hn hn
 refine ⟨⟨n,hn,h⟩,⟨by omega,by omega,fun x hx=>?_,by omega,by omega⟩,⟨fun x hx=>?_,hr⟩⟩
 ·have:=h.arcs x hx
  rw[h1]
  exact ⟨this.1,this.2.1⟩
 ·have:=h.sets x hx
  rw[hI]
  omega
structure WG (w:WorT) (N M:Nat):Prop where
 left:∀s∈w.2.2.2.2.1,SideW w.2.2.2.1 N M s
 right:∀s∈w.2.2.2.2.2.1,SideW w.2.2.2.1 N M s
 nl:w.2.2.2.2.1.length=w.1.2.1.length
 nr:w.2.2.2.2.2.1.length=w.1.2.1.length
 nrules:w.1.2.1.length≤4
 rules:∀r∈w.1.2.1,RulP r
 num:w.2.2.2.2.2.2.1=(N:Int)
 le:N≤2000000
 bc:w.2.1.length=w.2.2.1.length
 cl:w.2.2.1.length≤2000000
 ne:w.2.2.1≠[]
 lets:∀x∈w.2.2.1,0≤x∧x<(N:Int)
 il:w.2.2.2.1.length≤1000000
 ir:∀r∈w.2.2.2.1,r.length≤5000000
theorem get_preA {σ:Type} {l l' t:List σ} {i:Nat} {x:σ} (e:l'=l++t) (h:l[i]? = some x):l'[i]? = some x:=by
 rw[e,getElem?_append_left (List.getElem?_eq_some_iff.1 h).1]
 exact h
section
variable {σ:Type} [DecidableEq σ]
theorem put1_nodup {l:List σ} (h:l.Nodup) (x:σ):(put1 l x).Nodup:=by
 unfold put1
 split
 ·exact h
 ·rename_i hx
  rw[List.nodup_append]
  refine ⟨h,by simp,fun a ha b hb=>?_⟩
  rw[List.mem_singleton.1 hb]
  exact fun e=>hx (e▸ha)
theorem put1_get (l:List σ) (x:σ):(put1 l x)[ix l x]? = some x:=by
 unfold put1
 split
 ·rename_i hx
  rw[List.getElem?_eq_getElem (ix_lt hx),ix_get hx]
 ·rename_i hx
  rw[ix_no hx]
  simp
theorem rowA_spec (step:σ→Nat→σ) (s:σ):∀(al:List Nat) (l:List σ),l.Nodup→(rowA step s al l).1.Nodup∧∀(p a:Nat),al[p]? = some a→∃t:Nat,(rowA step s al l).2[p]? = some (t:Int)∧(rowA step s al l).1[t]? = some (step s a)
 | [],l,h=>⟨h,fun p a e=>by simp at e⟩
 |b::al,l,h=>by
  obtain ⟨h1,h2⟩:=rowA_spec step s al (put1 l (step s b)) (put1_nodup h _)
  obtain ⟨t1,e1⟩:=rowA_pre step s al (put1 l (step s b))
  refine ⟨h1,fun p a e=>?_⟩
  cases p with
  |zero =>
   simp only[List.getElem?_cons_zero,Option.some.injEq] at e
   subst e
   exact ⟨ix l (step s b),by rw[rowA_2]; rfl,by rw[rowA_1]; exact get_preA e1 (put1_get l (step s b))⟩
  |succ p =>
   simp only[List.getElem?_cons_succ] at e
   obtain ⟨t,e2,e3⟩:=h2 p a e
   exact ⟨t,by rw[rowA_2]; exact e2,by rw[rowA_1]; exact e3⟩
theorem rowA_sub (step:σ→Nat→σ) (s:σ) {P:σ→Prop}:∀(al:List Nat) (l:List σ),(∀x∈l,P x)→(∀a∈al,P (step s a))→∀x∈(rowA step s al l).1,P x
 | [],l,h,_=>h
 |b::al,l,h,h2=>by
  rw[rowA_1]
  refine rowA_sub step s al _ (fun x hx=>?_) fun a ha=>h2 a (mem_cons_of_mem _ ha)
  unfold put1 at hx
  split at hx
  ·exact h x hx
  ·rcases List.mem_append.1 hx with q | q
   ·exact h x q
   ·rw[List.mem_singleton.1 q]; exact h2 b mem_cons_self
variable (step:σ→Nat→σ) (hold:σ→List Bool) (d0:σ) (N:Nat)
structure Mach (i:Nat) (l:List σ) (nx:List (List Int)) (ou:List Int) (se:List (List Bool)):Prop where
 nd:l.Nodup
 sd:se.Nodup
 il:i≤l.length
 nl:nx.length=i
 ol:ou.length=i
 rows:∀j x,j<i→l[j]? = some x→∃r,nx[j]? = some r∧r.length=N∧∀a,a<N→∃t:Nat,r[a]? = some (t:Int)∧l[t]? = some (step x a)
 outs:∀j x,j<i→l[j]? = some x→∃t:Nat,ou[j]? = some (t:Int)∧se[t]? = some (hold x)
 hs:∀h∈se,∃x∈l,h=hold x
variable {step hold d0 N}
theorem Mach.next {i:Nat} {l:List σ} {nx:List (List Int)} {ou:List Int} {se:List (List Bool)} (m:Mach step hold N i l nx ou se) (hi:i<l.length) :
  Mach step hold N (i+1) (rowA step (l.getD i d0) (List.range N) l).1 (nx++[(rowA step (l.getD i d0) (List.range N) l).2]) (ou++[((ix se (hold (l.getD i d0)):Nat):Int)]) (put1 se (hold (l.getD i d0))):=by
 obtain ⟨r1,r2⟩:=rowA_spec step (l.getD i d0) (List.range N) l m.nd
 obtain ⟨t,e⟩:=rowA_pre step (l.getD i d0) (List.range N) l
 have hle:=rowA_le step (l.getD i d0) (List.range N) l
 have hrl:=rowA_row step (l.getD i d0) (List.range N) l
 rw[List.length_range] at hrl
 have hgi:l[i]? = some (l.getD i d0):=by rw[getD_lt _ _ _ hi,List.getElem?_eq_getElem hi]
 obtain ⟨ts,es⟩:=put1_pre se (hold (l.getD i d0))
 have hlt:∀j x,j<i+1→(rowA step (l.getD i d0) (List.range N) l).1[j]? = some x→l[j]? = some x:=fun j x hj hx=>by
  rw[e,getElem?_append_left (by omega)] at hx
  exact hx
 refine ⟨r1,put1_nodup m.sd _,by omega,by rw[length_append,m.nl]; rfl,by rw[length_append,m.ol]; rfl,fun j x hj hx=>?_,fun j x hj hx=>?_,fun h hm=>?_⟩
 ·have hx':=hlt j x hj hx
  by_cases he:j=i
  ·subst he
   rw[hgi] at hx'
   injection hx' with hx'
   refine ⟨(rowA step (l.getD j d0) (List.range N) l).2,by rw[←m.nl]; simp,hrl,fun a ha=>?_⟩
   rw[←hx']
   exact r2 a a (by rw[List.getElem?_range ha])
  ·obtain ⟨r,q1,q2,q3⟩:=m.rows j x (by omega) hx'
   refine ⟨r,get_preA rfl q1,q2,fun a ha=>?_⟩
   obtain ⟨u,q4,q5⟩:=q3 a ha
   exact ⟨u,q4,get_preA e q5⟩
 ·have hx':=hlt j x hj hx
  by_cases he:j=i
  ·subst he
   rw[hgi] at hx'
   injection hx' with hx'
   rw[←hx']
   exact ⟨ix se (hold (l.getD j d0)),by rw[←m.ol]; simp,put1_get se _⟩
  ·obtain ⟨u,q1,q2⟩:=m.outs j x (by omega) hx'
   exact ⟨u,get_preA rfl q1,get_preA es q2⟩
 ·unfold put1 at hm
  have up:∀ {x:σ},x∈l→x∈(rowA step (l.getD i d0) (List.range N) l).1:=fun hx=>by rw[e]; exact mem_append_left _ hx
  split at hm
  ·obtain ⟨x,hx,q⟩:=m.hs h hm
   exact ⟨x,up hx,q⟩
  ·rcases List.mem_append.1 hm with q | q
   ·obtain ⟨x,hx,q⟩:=m.hs h q
    exact ⟨x,up hx,q⟩
   ·exact ⟨l.getD i d0,up (List.mem_of_getElem? hgi),List.mem_singleton.1 q⟩
theorem mkA_mach {B:Int} {P:σ→Prop} (hP:∀x a,P x→a<N→P (step x a)):∀(f i:Nat) (l:List σ) (nx:List (List Int)) (ou:List Int) (se:List (List Bool)) {q:List σ×List (List Int)×List Int×List (List Bool)},Mach step hold N i l nx ou se→(∀x∈l,P x)→mkA step hold d0 B N f i l nx ou se=some q→Mach step hold N q.1.length q.1 q.2.1 q.2.2.1 q.2.2.2∧(∃t,q.1=l++t)∧(∀x∈q.1,P x)∧(i<l.length→(q.1.length:Int)≤B)
 |0,i,l,nx,ou,se,q,m,hp,h=>by cases h
 |f+1,i,l,nx,ou,se,q,m,hp,h=>by
  simp only[mkA] at h
  split at h
  ·rename_i hi
   split at h
   ·cases h
   ·rename_i hB
    have hps:P (l.getD i d0):=hp _ (by rw[getD_lt _ _ _ hi]; exact getElem_mem hi)
    obtain ⟨t,e⟩:=rowA_pre step (l.getD i d0) (List.range N) l
    obtain ⟨h1,⟨t2,e2⟩,h3,h4⟩:=mkA_mach hP f _ _ _ _ _ (m.next (d0:=d0) hi) (rowA_sub step (l.getD i d0) (List.range N) l hp fun a ha=>hP _ a hps (List.mem_range.1 ha)) h
    have hle:=rowA_le step (l.getD i d0) (List.range N) l
    refine ⟨h1,⟨t++t2,by rw[e2,e,append_assoc]⟩,h3,fun _=>?_⟩
    by_cases hc:i+1<(rowA step (l.getD i d0) (List.range N) l).1.length
    ·exact h4 hc
    · -- nothing more is there
     cases f with
     |zero=>cases h
     |succ f =>
      rw[mkA,if_neg hc] at h
      injection h with h
      rw[←h]
      simp only
      omega
  ·rename_i hi
   injection h with h
   subst h
   simp only
   have:i=l.length:=Nat.le_antisymm m.il (by omega)
   refine ⟨by rw[this] at m; exact m,⟨[],(append_nil _).symm⟩,hp,fun q=>by omega⟩
end
section
variable {σ:Type} {step:σ→Nat→σ} {hold:σ→List Bool} {N:Nat} {l:List σ} {nx:List (List Int)} {ou:List Int} {se:List (List Bool)} {z:σ}
theorem getDN {x:List Nat} {i:Nat} (h:i<x.length):getD (x.map fun n:Nat=>(n:Int)) i 0=((x[i]:Nat):Int):=by
 rw[getD_lt _ _ _ (by simpa using h),getElem_map]
end
abbrev QT:=List Live×List (List Int)×List Int×List (List Bool)
theorem maxI_nat (N:Nat):maxI (N:Int) 0=(N:Int):=by unfold maxI; split<;>omega
structure MW (I:InT) (ss:List SideT) (N:Nat) (b:Int) (q:QT):Prop where
 m:Mach (stepL I ss) (holdL ss) N q.1.length q.1 q.2.1 q.2.2.1 q.2.2.2
 z:q.1[0]? = some (zeroL ss)
 shp:∀x∈q.1,Shp ss x
 le:(q.1.length:Int)≤minI b 100000
theorem mach0 {σ:Type} [DecidableEq σ] {step:σ→Nat→σ} {hold:σ→List Bool} {N:Nat} (z:σ):Mach step hold N 0 [z] [] [] [] :=
 ⟨by simp,List.nodup_nil,by simp,rfl,rfl,fun j x h=>by omega,fun j x h=>by omega,fun h hm=>by cases hm⟩
theorem MW.len {I:InT} {ss:List SideT} {N:Nat} {b:Int} {q:QT} (h:MW I ss N b q):q.1.length≤100000:=by
 have:=h.le
 unfold minI at this
 split at this<;>omega
section
variable {σ:Type} {step:σ→Nat→σ} {hold:σ→List Bool} {N:Nat} {l:List σ} {nx:List (List Int)} {ou:List Int} {se:List (List Bool)} {z:σ}
end
end Go.Proofs.YtgmmopbpldgpcaaE
set_option linter.unusedSimpArgs false
set_option linter.unusedVariables false
set_option maxRecDepth 20000
namespace Go.Proofs.YtgmmopbpldgpcaaE
theorem minI_c {a:Int} (h:Cst a):minI a 1152921504606846976=a:=by
 unfold Cst at h
 unfold minI
 split<;>omega
theorem minI_c' {a:Int} (h:Cst a):minI 1152921504606846976 a=a:=by
 unfold Cst at h
 unfold minI
 split<;>omega
theorem cst_inf:Cst INF1:=⟨by decide,by decide⟩
theorem cst_min {a b:Int} (ha:Cst a) (hb:Cst b):Cst (minI a b):=by
 unfold minI
 split
 ·exact hb
 ·exact ha
theorem cst_ad {a b:Int} (ha:Cst a) (hb:Cst b):Cst (adI a b):=by
 unfold Cst at *
 unfold adI minI
 split<;>omega
theorem F79_ad (k:Nat) (a b:Int) (ha:Cst a) (hb:Cst b):F79 k a b=some ((adI a b,()),()):=by
 unfold F79
 simp only
 rw[minI_c ha,minI_c hb]
 unfold Cst at *
 rw[w64 _ (by omega) (by omega)]
 rfl
theorem F78_0_ok (k:Nat) (l:List Int) (hl:l.length≤1000000000):∀(d m i:Nat) (acc:Int),i+d=l.length→d<m→F78_0 k m acc l (l.length:Int) (i:Int)=some (((l.drop i).foldl minI acc,()),())
 |0,m,i,acc,hi,hm=>by
  obtain ⟨m,rfl⟩:=pos1 (m:=m) (by omega)
  simp only[F78_0]
  rw[decide_eq_false (by omega),cond_false,drop_eq_nil_of_le (by omega)]
  rfl
 |d+1,m,i,acc,hi,hm=>by
  obtain ⟨m,rfl⟩:=pos1 (m:=m) (by omega)
  have hlt:i<l.length:=by omega
  simp only[F78_0]
  rw[dlt hlt,cond_true,if_pos (inR hlt),tnI i,wsucc i _ hlt (by omega),F78_0_ok k l hl d m (i+1) _ (by omega) (by omega),getD_lt _ _ _ hlt,drop_eq_getElem_cons hlt,foldl_cons]
  rfl
theorem F78_ok (k:Nat) (l:List Int) (hl:l.length<k) (h2:l.length≤1000000000):F78 k l=some ((l.foldl minI 1152921504606846976,()),()):=by
 unfold F78
 have e:=F78_0_ok k l h2 l.length k 0 1152921504606846976 (Nat.zero_add _) hl
 rw[show ((0:Nat):Int)=0 from rfl,drop_zero] at e
 rw[e,bind_some]
theorem F78_two (k:Nat) (hk:10≤k) (a b:Int) (ha:Cst a):F78 k [a,b]=some ((minI a b,()),()):=by
 rw[F78_ok k _ (by simp; omega) (by simp),foldl_cons,foldl_cons,List.foldl_nil,minI_c' ha]
theorem set2 (a b:Int):List.set (List.set (replicate 2 (0:Int)) 0 a) 1 b=[a,b]:=rfl
theorem F77_0_step (k n:Nat) (t5:Int) (t7:List Int) (t8 t9:Int) (acc:List Int) (ha:acc.length≤1000000000000) (j:Nat) (hj:j≤56):F77_0 k (n+1) t5 (j:Int) t7 t8 t9 acc=F77_0 k n t5 ((j:Int)-8) t7 t8 t9 (acc++[t5/(2:Int)^j%256]):=by
 have h1:min (Int.toNat (j:Int)) (IntKind.bits .i64)=j:=by
  rw[tnI j,show IntKind.bits .i64=64 from rfl]
  omega
 simp only[F77_0]
 rw[decide_eq_true (by omega),cond_true,if_pos (by omega),one_list,if_pos (by rw[length_singleton]; omega),w64 _ (by omega) (by omega),wu8,h1,Int.fdiv_eq_ediv_of_nonneg _ (Int.le_of_lt (Int.pow_pos (by decide)))]
 cases F77_0 k n t5 ((j:Int)-8) t7 t8 t9 (acc++[t5/(2:Int)^j%256])<;>rfl
theorem F77_0_ok (k n:Nat) (t5:Int) (t7:List Int) (t8 t9:Int) (acc:List Int) (ha:acc.length≤100000000000):F77_0 k (n+9) t5 56 t7 t8 t9 acc=some ((t7,t8,t9,()),(acc++be8 t5,())):=by
 rw[show (56:Int)=((56:Nat):Int) from rfl,F77_0_step k (n+8) t5 t7 t8 t9 acc (by omega) 56 (by decide)]
 rw[show ((56:Nat):Int)-8=((48:Nat):Int) from rfl,F77_0_step k (n+7) t5 t7 t8 t9 _ (by simp; omega) 48 (by decide)]
 rw[show ((48:Nat):Int)-8=((40:Nat):Int) from rfl,F77_0_step k (n+6) t5 t7 t8 t9 _ (by simp; omega) 40 (by decide)]
 rw[show ((40:Nat):Int)-8=((32:Nat):Int) from rfl,F77_0_step k (n+5) t5 t7 t8 t9 _ (by simp; omega) 32 (by decide)]
 rw[show ((32:Nat):Int)-8=((24:Nat):Int) from rfl,F77_0_step k (n+4) t5 t7 t8 t9 _ (by simp; omega) 24 (by decide)]
 rw[show ((24:Nat):Int)-8=((16:Nat):Int) from rfl,F77_0_step k (n+3) t5 t7 t8 t9 _ (by simp; omega) 16 (by decide)]
 rw[show ((16:Nat):Int)-8=((8:Nat):Int) from rfl,F77_0_step k (n+2) t5 t7 t8 t9 _ (by simp; omega) 8 (by decide)]
 rw[show ((8:Nat):Int)-8=((0:Nat):Int) from rfl,F77_0_step k (n+1) t5 t7 t8 t9 _ (by simp; omega) 0 (by decide)]
 simp only[F77_0]
 rw[decide_eq_false (by omega),cond_false]
 simp only[append_assoc,List.singleton_append]
 rw[show (2:Int)^0=1 from rfl,Int.ediv_one]
 rfl
theorem F77_1_ok (k:Nat) (hk:10000000≤k) (l:List Int) (hl:l.length≤1000000000):∀(d m i:Nat) (acc:List Int),i+d=l.length→d<m→acc.length=8*i→F77_1 k m l (l.length:Int) (i:Int) acc=some ((),(acc++(l.drop i).flatMap be8,()))
 |0,m,i,acc,hi,hm,ha=>by
  obtain ⟨m,rfl⟩:=pos1 (m:=m) (by omega)
  simp only[F77_1]
  rw[decide_eq_false (by omega),cond_false,drop_eq_nil_of_le (by omega)]
  simp
 |d+1,m,i,acc,hi,hm,ha=>by
  obtain ⟨m,rfl⟩:=pos1 (m:=m) (by omega)
  have hlt:i<l.length:=by omega
  obtain ⟨k',hk'⟩:∃k',k=k'+9:=⟨k-9,by omega⟩
  have e:=F77_0_ok k k' l[i] l (l.length:Int) (i:Int) acc (by omega)
  rw[←hk'] at e
  simp only[F77_1]
  rw[dlt hlt,cond_true,if_pos (inR hlt),tnI i,getD_lt _ _ _ hlt,e,bind_some]
  simp only
  rw[wsucc i _ hlt (by omega),F77_1_ok k hk l hl d m (i+1) _ (by omega) (by omega) (by rw[length_append,be8_len]; omega),drop_eq_getElem_cons hlt,flatMap_cons,append_assoc]
  rfl
theorem be8s_len:∀l:List Int,(l.flatMap be8).length=8*l.length
 | []=>rfl
 |x::l=>by rw[flatMap_cons,length_append,be8_len,be8s_len l,length_cons]; omega
theorem F77_ok (k:Nat) (hk:10000000≤k) (l:List Int) (hl:l.length≤1000000):F77 k l=some ((bstr (l.flatMap be8),()),()):=by
 have e:=F77_1_ok k hk l (by omega) l.length k 0 [] (Nat.zero_add _) (by omega) rfl
 rw[show ((0:Nat):Int)=0 from rfl,drop_zero,nil_append] at e
 unfold F77
 rw[e,bind_some]
 simp only
 rw[if_pos (by rw[be8s_len]; omega)]
theorem u8_inj {x y:Int} (hx:0≤x∧x≤255) (hy:0≤y∧y≤255) (h:UInt8.ofNat x.toNat=UInt8.ofNat y.toNat):x=y:=by
 have:=congrArg UInt8.toNat h
 simp only[UInt8.toNat_ofNat'] at this
 omega
theorem bstr_injB:∀ {a b:List Int},IsB a→IsB b→bstr a=bstr b→a=b:=by
 intro a b ha hb h
 unfold bstr at h
 have h1:=congrArg (fun x=>x.data.toList) h
 simp only at h1
 have key:∀(a b:List Int),IsB a→IsB b→a.map (fun n=>UInt8.ofNat n.toNat)=b.map (fun n=>UInt8.ofNat n.toNat)→a=b:=by
  intro a
  induction a with
  |nil=>intro b _ _ h; cases b with
   |nil=>rfl
   |cons y b=>simp at h
  |cons x a ih=>intro b ha hb h; cases b with
   |nil=>simp at h
   |cons y b =>
    simp only[map_cons,List.cons.injEq] at h
    rw[u8_inj (ha x mem_cons_self) (hb y mem_cons_self) h.1,ih b (fun z hz=>ha z (mem_cons_of_mem _ hz)) (fun z hz=>hb z (mem_cons_of_mem _ hz)) h.2]
 exact key a b ha hb (by simpa using h1)
theorem be8s_isB (l:List Int):IsB (l.flatMap be8):=fun x hx=>by
 obtain ⟨y,_,h⟩:=List.mem_flatMap.1 hx
 exact be8_isB y x h
theorem be8s_inj:∀ {a b:List Int},(∀x∈a,I64 x)→(∀x∈b,I64 x)→a.flatMap be8=b.flatMap be8→a=b
 | [],[],_,_,_=>rfl
 | [],y::b,_,_,h=>by have:=congrArg length h; rw[be8s_len,be8s_len] at this; simp at this
 |x::a,[],_,_,h=>by have:=congrArg length h; rw[be8s_len,be8s_len] at this; simp at this
 |x::a,y::b,ha,hb,h=>by
  rw[flatMap_cons,flatMap_cons] at h
  obtain ⟨e1,e2⟩:=List.append_inj h (by rw[be8_len,be8_len])
  have e3:x=y:=by rw[←valL_be8 x (ha x mem_cons_self),e1,valL_be8 y (hb y mem_cons_self)]
  rw[e3,be8s_inj (fun z hz=>ha z (mem_cons_of_mem _ hz)) (fun z hz=>hb z (mem_cons_of_mem _ hz)) e2]
abbrev Rows:=List (List Int)
def ShW (ss:List SideT) (R:Rows):Prop:=R.map length=ss.map (·.1.length)∧∀r∈R,CstL r
abbrev flatW (R:Rows):List Int:=R.flatten
theorem flatW_len {ss:List SideT} {R:Rows} (h:ShW ss R):(flatW R).length=tot ss:=by
 unfold flatW tot
 rw[List.length_flatten,h.1]
theorem flatW_inj:∀ {ss:List SideT} {A B:Rows},A.map length=ss.map (·.1.length)→B.map length=ss.map (·.1.length)→A.flatten=B.flatten→A=B
 | [],[],[],_,_,_=>rfl
 | [],_::_,_,h,_,_=>by simp at h
 | [],[],_::_,_,h,_=>by simp at h
 |_::_,[],_,h,_,_=>by simp at h
 |_::_,_::_,[],_,h,_=>by simp at h
 |s::ss,a::A,b::B,h1,h2,h=>by
  simp only[map_cons,List.cons.injEq] at h1 h2
  simp only[flatten_cons] at h
  obtain ⟨e1,e2⟩:=List.append_inj h (by omega)
  rw[e1,flatW_inj (ss:=ss) h1.2 h2.2 e2]
def keyW (R:Rows):ByteArray:=bstr ((flatW R).flatMap be8)
theorem flatW_I64 {ss:List SideT} {R:Rows} (h:ShW ss R):∀x∈flatW R,I64 x:=fun x hx=>by
 obtain ⟨r,hr,hx⟩:=List.mem_flatten.1 hx
 have:=h.2 r hr x hx
 unfold Cst at this
 unfold I64
 omega
theorem keyW_inj {ss:List SideT} {A B:Rows} (h1:ShW ss A) (h2:ShW ss B) (h:keyW A=keyW B):A=B :=
 flatW_inj h1.1 h2.1 (be8s_inj (flatW_I64 h1) (flatW_I64 h2) (bstr_injB (be8s_isB _) (be8s_isB _) h))
abbrev MkW:=(((Option (List (ByteArray×Int)))×((List (List Int))×Unit))×((List SideT)×((List (List Bool))×Unit)))
abbrev mkw (mp:List (ByteArray×Int)) (ss:List SideT) (I:InT) (l:List Rows):MkW:=((some mp,(l.map flatW,())),(ss,(I,())))
theorem F48_ok (k:Nat) (hk:10000000≤k) (ss:List SideT) (I:InT) (l:List Rows) (x:Rows) (hl:l.length≤1000000000) (hs:∀y∈l,ShW ss y) (hx:ShW ss x) (ht:tot ss≤1000000) :
  F48 k (mkw (mapK 0 (l.map keyW)) ss I l) (flatW x)=some ((((ix l x:Nat):Int),()),(mkw (mapK 0 ((put1 l x).map keyW)) ss I (put1 l x),())):=by
 have hinj:∀y∈l,keyW y=keyW x→y=x:=fun y hy e=>keyW_inj (hs y hy) hx e
 have hmem:keyW x∈l.map keyW↔x∈l:=by
  constructor
  ·intro hm
   obtain ⟨y,hy,e⟩:=List.mem_map.1 hm
   rw[←hinj y hy e]
   exact hy
  ·exact fun hm=>List.mem_map.2 ⟨x,hm,rfl⟩
 unfold F48
 rw[F77_ok k hk _ (by rw[flatW_len hx]; exact ht),bind_some]
 simp only[getD_some,isSome_some,if_true]
 rw[show bstr ((flatW x).flatMap be8)=keyW x from rfl]
 by_cases hx':x∈l
 ·rw[find_mem (hmem.2 hx'),Bool.not_true,cond_false,ix_map keyW l x hinj,put1_in hx']
 ·have hp:=mapK_put (keyW x) (l.map keyW) 0 fun q=>hx' (hmem.1 q)
  rw[Nat.zero_add,length_map] at hp
  rw[find_no fun q=>hx' (hmem.1 q),Bool.not_false,cond_true,length_map,hp,if_pos (by rw[length_singleton]; omega),put1_no hx',ix_no hx']
  simp only[mkw,map_append]
  rfl
theorem F49_0_ok (k:Nat) (n:Nat) (hn:n≤100000000):∀(d m i:Nat),i+d=n→d<m→F49_0 k m (n:Int) (i:Int) (replicate i INF1++replicate d 0)=some ((),(replicate n INF1,()))
 |0,m,i,hi,hm=>by
  obtain ⟨m,rfl⟩:=pos1 (m:=m) (by omega)
  simp only[F49_0]
  rw[decide_eq_false (by omega),cond_false,show i=n by omega]
  simp
 |d+1,m,i,hi,hm=>by
  obtain ⟨m,rfl⟩:=pos1 (m:=m) (by omega)
  have hlt:i<n:=by omega
  have hs:List.set (replicate i INF1++replicate (d+1) 0) i (1152921504606846976:Int)=replicate (i+1) INF1++replicate d 0:=by
   rw[set_append_right _ _ (by simp),length_replicate,Nat.sub_self,List.replicate_succ,set_cons_zero,List.replicate_succ',append_assoc]
   rfl
  simp only[F49_0]
  rw[dlt hlt,cond_true,if_pos (by simp; omega),tnI i,hs,wsucc i _ hlt (by omega),F49_0_ok k n hn d m (i+1) (by omega) (by omega)]
  rfl
theorem F49_ok (k:Nat) (n:Nat) (hn:n<k) (h2:n≤1000000):F49 k (n:Int)=some ((replicate n INF1,()),()):=by
 have e:=F49_0_ok k n (by omega) n k 0 (Nat.zero_add _) hn
 rw[show ((0:Nat):Int)=0 from rfl,replicate_zero,nil_append] at e
 unfold F49
 rw[if_pos (by omega),tnI n]
 simp only
 rw[length_replicate,e,bind_some]
theorem F50_0_ok (k:Nat) (ss:List SideT) (hn:ss.length≤1000000) (ht:tot ss≤100000000):∀(d m i:Nat),i+d=ss.length→d<m →
  F50_0 k m ((tot (ss.take i):Nat):Int) ss (ss.length:Int) (i:Int)=some ((((tot ss:Nat):Int),()),())
 |0,m,i,hi,hm=>by
  obtain ⟨m,rfl⟩:=pos1 (m:=m) (by omega)
  simp only[F50_0]
  rw[decide_eq_false (by omega),cond_false,take_of_length_le (by omega)]
 |d+1,m,i,hi,hm=>by
  obtain ⟨m,rfl⟩:=pos1 (m:=m) (by omega)
  have hlt:i<ss.length:=by omega
  have htk:tot (ss.take (i+1))=tot (ss.take i)+ss[i].1.length:=by
   rw[take_succ_eq_append_getElem hlt,tot_app]
   simp[tot]
  have htot:tot ss=tot (ss.take (i+1))+tot (ss.drop (i+1)):=by rw[←tot_app,take_append_drop]
  simp only[F50_0]
  rw[dlt hlt,cond_true,if_pos (inR hlt),tnI i,getD_lt _ _ _ hlt,waddN _ _ (by omega),←htk,wsucc i _ hlt (by omega),F50_0_ok k ss hn ht d m (i+1) (by omega) (by omega)]
  rfl
theorem F50_ok (k:Nat) (hk:10000000≤k) (ss:List SideT) (hn:ss.length≤1000000) (ht:tot ss≤100000000):F50 k ss=some ((((tot ss:Nat):Int),()),()):=by
 have e:=F50_0_ok k ss hn ht ss.length k 0 (Nat.zero_add _) (by omega)
 rw[show ((0:Nat):Int)=0 from rfl,take_zero,show ((tot ([]:List SideT):Nat):Int)=0 from rfl] at e
 unfold F50
 rw[e,bind_some]
end Go.Proofs.YtgmmopbpldgpcaaE
set_option linter.unusedSimpArgs false
set_option linter.unusedVariables false
set_option maxRecDepth 20000
namespace Go.Proofs.YtgmmopbpldgpcaaE
structure SOC (s:SideT):Prop where
 ok:SOK s
 cf:CstL s.2.1
 ce:CstL s.2.2.1
 cn:Cst s.2.2.2.2.1
 ca:∀x∈s.2.2.2.1,Cst x.2.2.1
def arcC (r:List Int) (l:List Int) (x:ArcT):List Int:=List.set l x.2.1.toNat (minI (getD l x.2.1.toNat 0) (adI (getD r x.1.toNat 0) x.2.2.1))
def farC (s:SideT) (r:List Int):List Int:=s.2.2.2.1.foldl (arcC r) s.2.1
def maskC (I:InT) (s:SideT) (a i:Nat) (l:List Int):List Int:=(List.range l.length).map fun p=>if p<i∧ofP I s p a=false then INF1 else getD l p 0
def stepC (I:InT) (s:SideT) (a:Nat) (r:List Int):List Int:=maskC I s a s.1.length (farC s r)
theorem arcC_len (r l:List Int) (x:ArcT):(arcC r l x).length=l.length:=length_set
theorem arcsC_len (r:List Int):∀(xs:List ArcT) (l:List Int),(xs.foldl (arcC r) l).length=l.length
 | [],l=>rfl
 |x::xs,l=>by rw[foldl_cons,arcsC_len r xs,arcC_len]
theorem maskC_len (I:InT) (s:SideT) (a i:Nat) (l:List Int):(maskC I s a i l).length=l.length:=by simp[maskC]
theorem maskC_0 (I:InT) (s:SideT) (a:Nat) (l:List Int):maskC I s a 0 l=l:=by
 refine ext_getElem (by simp[maskC]) fun i h1 h2=>?_
 simp only[maskC,getElem_map,List.getElem_range]
 rw[if_neg (by omega),getD_lt _ _ _ h2]
theorem maskC_no {I:InT} {s:SideT} {a i:Nat} {l:List Int} (h:ofP I s i a=true):maskC I s a (i+1) l=maskC I s a i l:=by
 refine ext_getElem (by simp[maskC]) fun j h1 h2=>?_
 simp only[maskC,getElem_map,List.getElem_range]
 by_cases e:j=i
 ·subst e; rw[h]; simp
 ·have:j<i+1∧ofP I s j a=false↔j<i∧ofP I s j a=false:=by constructor<;>exact fun ⟨q,w⟩=>⟨by omega,w⟩
  simp only[this]
theorem maskC_yes {I:InT} {s:SideT} {a i:Nat} {l:List Int} (hi:i<l.length) (h:ofP I s i a=false):List.set (maskC I s a i l) i INF1=maskC I s a (i+1) l:=by
 refine ext_getElem (by simp[maskC]) fun j h1 h2=>?_
 rw[List.getElem_set]
 simp only[maskC,getElem_map,List.getElem_range]
 by_cases e:i=j
 ·subst e; rw[if_pos rfl,if_pos ⟨by omega,h⟩]
 ·have:j<i+1∧ofP I s j a=false↔j<i∧ofP I s j a=false:=by constructor<;>exact fun ⟨q,w⟩=>⟨by omega,w⟩
  rw[if_neg e]
  simp only[this]
theorem cstL_set {l:List Int} (h:CstL l) {x:Int} (hx:Cst x) (i:Nat):CstL (List.set l i x):=fun y hy=>by
 rcases List.mem_or_eq_of_mem_set hy with q | q
 ·exact h y q
 ·rw[q]; exact hx
theorem cstL_getD {l:List Int} (h:CstL l) (i:Nat):Cst (getD l i 0):=by
 by_cases hi:i<l.length
 ·exact h.at_ hi
 ·rw[getD_eq_getElem?_getD,getElem?_eq_none (by omega)]
  exact ⟨Int.le_refl _,by decide⟩
theorem arcC_cst {r l:List Int} {x:ArcT} (hr:CstL r) (hl:CstL l) (hx:Cst x.2.2.1):CstL (arcC r l x):=cstL_set hl (cst_min (cstL_getD hl _) (cst_ad (cstL_getD hr _) hx)) _
theorem arcsC_cst {r:List Int} (hr:CstL r):∀(xs:List ArcT) (l:List Int),CstL l→(∀x∈xs,Cst x.2.2.1)→CstL (xs.foldl (arcC r) l)
 | [],l,hl,_=>hl
 |x::xs,l,hl,h=>by
  rw[foldl_cons]
  exact arcsC_cst hr xs _ (arcC_cst hr hl (h x mem_cons_self)) fun y hy=>h y (mem_cons_of_mem _ hy)
theorem maskC_cst {I:InT} {s:SideT} {a i:Nat} {l:List Int} (hl:CstL l):CstL (maskC I s a i l):=fun x hx=>by
 obtain ⟨p,_,e⟩:=List.mem_map.1 hx
 rw[←e]
 split
 ·exact cst_inf
 ·exact cstL_getD hl _
theorem farC_len {s:SideT} (hs:SOK s) (r:List Int):(farC s r).length=s.1.length:=by
 unfold farC
 rw[arcsC_len,hs.lf]
theorem farC_cst {s:SideT} (hs:SOC s) {r:List Int} (hr:CstL r):CstL (farC s r):=arcsC_cst hr _ _ hs.cf hs.ca
theorem stepC_len {I:InT} {s:SideT} (hs:SOK s) (a:Nat) (r:List Int):(stepC I s a r).length=s.1.length:=by
 unfold stepC
 rw[maskC_len,farC_len hs]
theorem stepC_cst {I:InT} {s:SideT} (hs:SOC s) {a:Nat} {r:List Int} (hr:CstL r):CstL (stepC I s a r):=maskC_cst (farC_cst hs hr)
def stepW (I:InT) (ss:List SideT) (R:Rows) (a:Nat):Rows:=zipWith (fun s r=>stepC I s a r) ss R
theorem stepW_shw {I:InT} {a:Nat}:∀ {ss:List SideT} {R:Rows},(∀s∈ss,SOC s)→ShW ss R→ShW ss (stepW I ss R a)
 | [],[],_,h=>h
 | [],_::_,_,h=>by have:=h.1; simp at this
 |_::_,[],_,h=>by have:=h.1; simp at this
 |s::ss,r::R,hs,h=>by
  obtain ⟨h1,h2⟩:=h
  simp only[map_cons,List.cons.injEq] at h1
  obtain ⟨g1,g2⟩:=stepW_shw (I:=I) (a:=a) (ss:=ss) (R:=R) (fun x hx=>hs x (mem_cons_of_mem _ hx)) ⟨h1.2,fun x hx=>h2 x (mem_cons_of_mem _ hx)⟩
  have hs0:=hs s mem_cons_self
  refine ⟨?_,fun x hx=>?_⟩
  ·show List.map length (stepC I s a r::stepW I ss R a)=_
   rw[map_cons,map_cons,g1,stepC_len hs0.ok]
  ·rcases List.mem_cons.1 hx with q | q
   ·rw[q]; exact stepC_cst hs0 (h2 r mem_cons_self)
   ·exact g2 x q
section
variable (k:Nat) (s:SideT) (I:InT) (a:Nat)
theorem F80_ok (st:(Option (List (ByteArray×Int)))×((List (List Int))×Unit)) (ms:List SideT) (p:Nat) (hp:p<s.1.length):F80 k (some (st,(ms,(I,())))) s (p:Int) (a:Int)=some ((ofP I s p a,()),()):=by
 unfold F80 ofP
 rw[if_pos (inR hp),tnI p]
 simp only[getD_some,isSome_some,if_true]
 by_cases h:getD s.1 p 0<0
 ·rw[decide_eq_true h,cond_true,Bool.true_or]
 ·rw[decide_eq_false h,cond_false,Bool.false_or]
  generalize hv:getD s.1 p 0=v at h ⊢
  by_cases h2:v<((length I:Nat):Int)
  ·rw[decide_eq_true h2,cond_true,if_pos ⟨by omega,h2⟩]
   by_cases h3:(a:Int)<((length (getD I v.toNat []):Nat):Int)
   ·rw[decide_eq_true h3,cond_true,if_pos ⟨by omega,h2⟩,if_pos ⟨by omega,h3⟩]
    rfl
   ·rw[decide_eq_false h3,cond_false]
    have:getD (getD I v.toNat []) a false=false:=by
     rw[getD_eq_getElem?_getD,getElem?_eq_none (by omega)]; rfl
    rw[this]
  ·rw[decide_eq_false h2,cond_false]
   have:getD I v.toNat []=[]:=by
    rw[getD_eq_getElem?_getD,getElem?_eq_none (by omega)]; rfl
   rw[this]
   rfl
theorem fillL_mid (b post:List Int):∀(vs pre c:List Int),vs.length=c.length→fillL (pre++(c++post)) pre.length vs=pre++(vs++post)
 | [],pre,c,h=>by
  cases c with
  |nil=>rfl
  |cons x c=>simp at h
 |v::vs,pre,[],h=>by simp at h
 |v::vs,pre,x::c,h=>by
  have ih:=fillL_mid b post vs (pre++[v]) c (by simpa using h)
  rw[length_append,length_singleton,append_assoc,append_assoc] at ih
  rw[fillL,set_append_right _ _ (Nat.le_refl _),Nat.sub_self,cons_append,set_cons_zero]
  exact ih
theorem copyL_mid (vs pre c post:List Int) (h:vs.length=c.length) (n:Nat) (hn:vs.length≤n):copyL (pre++(c++post)) pre.length n vs=pre++(vs++post):=by
 unfold copyL
 rw[take_of_length_le hn]
 exact fillL_mid [] post vs pre c h
theorem F51_0_ok (hk:10000000≤k) (hs:SOC s) (M:Option MkW) (r:List Int) (hr:r.length=s.1.length) (hrc:CstL r) (t2:Int) (t20:List SideT) (t21 t22:Int) (preB postB pre post:List Int) (hp:preB.length=pre.length) (hb:pre.length+s.1.length≤1000000000000):∀(d m i:Nat) (row:List Int),i+d=s.2.2.2.1.length→d<m→row.length=s.1.length→CstL row →
  F51_0 k m M (preB++(r++postB)) t2 (pre.length:Int) t20 t21 t22 s.2.2.2.1 (s.2.2.2.1.length:Int) (i:Int) s (pre++(row++post)) =
   some ((M,preB++(r++postB),t2,(pre.length:Int),t20,t21,t22,()),(s,pre++((s.2.2.2.1.drop i).foldl (arcC r) row++post),()))
 |0,m,i,row,hi,hm,hrow,hc=>by
  obtain ⟨m,rfl⟩:=pos1 (m:=m) (by omega)
  simp only[F51_0]
  rw[decide_eq_false (by omega),cond_false,drop_eq_nil_of_le (by omega)]
  rfl
 |d+1,m,i,row,hi,hm,hrow,hc=>by
  obtain ⟨m,rfl⟩:=pos1 (m:=m) (by omega)
  have hlt:i<s.2.2.2.1.length:=by omega
  have hla:=hs.ok.la
  have hln:=hs.ok.ln
  obtain ⟨⟨f0,f1⟩,g0,g1⟩:=hs.ok.arcs _ (getElem_mem hlt)
  have hx:=hs.ca _ (getElem_mem hlt)
  have ih:=fun row' hrow' hc'=>F51_0_ok hk hs M r hr hrc t2 t20 t21 t22 preB postB pre post hp hb d m (i+1) row' (by omega) (by omega) hrow' hc'
  have hdrop:s.2.2.2.1.drop i=s.2.2.2.1[i]::s.2.2.2.1.drop (i+1):=drop_eq_getElem_cons hlt
  rw[hdrop,foldl_cons]
  simp only[F51_0]
  rw[dlt hlt,cond_true,if_pos (inR hlt),tnI i,wsucc i _ hlt (by omega),getD_lt _ _ _ hlt]
  generalize s.2.2.2.1[i]=x at f0 f1 g0 g1 hx ⊢
  obtain ⟨x1,hx1⟩:∃n:Nat,x.1=(n:Int):=⟨x.1.toNat,by omega⟩
  obtain ⟨x2,hx2⟩:∃n:Nat,x.2.1=(n:Int):=⟨x.2.1.toNat,by omega⟩
  have n1:x1<s.1.length:=by omega
  have n2:x2<s.1.length:=by omega
  have hin1:0≤((pre.length+x1:Nat):Int)∧((pre.length+x1:Nat):Int)<((length (preB++(r++postB)):Nat):Int):=by
   simp only[length_append]
   omega
  have hin2:0≤((pre.length+x2:Nat):Int)∧((pre.length+x2:Nat):Int)<((length (pre++(row++post)):Nat):Int):=by
   simp only[length_append]
   omega
  have harc:arcC r row x=List.set row x2 (minI (getD row x2 0) (adI (getD r x1 0) x.2.2.1)):=by
   unfold arcC
   rw[hx1,hx2]
   rfl
  have h1:getD (preB++(r++postB)) (pre.length+x1) 0=getD r x1 0:=by rw[←hp,getD_mid _ _ _ _ _ (by omega)]
  rw[hx1,hx2,waddN _ _ (by omega),waddN _ _ (by omega),if_pos hin2,if_pos hin1,tnI (pre.length+x1),tnI (pre.length+x2),h1,F79_ad k _ _ (cstL_getD hrc _) hx,bind_some]
  simp only
  rw[getD_mid _ _ _ _ _ (by omega),set2,F78_two k (by omega) _ _ (cstL_getD hc _),bind_some]
  simp only
  rw[if_pos hin2,set_mid _ _ _ _ _ (by omega),←harc,ih _ (by rw[arcC_len]; exact hrow) (arcC_cst hrc hc hx)]
  rfl
theorem F51_1_ok (hs:SOK s) (st:(Option (List (ByteArray×Int)))×((List (List Int))×Unit)) (ms:List SideT) (t1:List Int) (t20:List SideT) (t21 t22:Int) (pre post:List Int) (hb:pre.length+s.1.length≤1000000000000) (row:List Int) (hrow:row.length=s.1.length):∀(d m i:Nat),i+d=s.1.length→d<m →
  F51_1 k m (some (st,(ms,(I,())))) t1 (a:Int) (pre.length:Int) t20 t21 t22 (s.1.length:Int) (i:Int) s (pre++(maskC I s a i row++post)) =
   some ((some (st,(ms,(I,()))),t1,(a:Int),(pre.length:Int),t20,t21,t22,()),(s,pre++(maskC I s a s.1.length row++post),()))
 |0,m,i,hi,hm=>by
  obtain ⟨m,rfl⟩:=pos1 (m:=m) (by omega)
  have:i=s.1.length:=by omega
  subst this
  simp only[F51_1]
  rw[decide_eq_false (by omega),cond_false]
 |d+1,m,i,hi,hm=>by
  obtain ⟨m,rfl⟩:=pos1 (m:=m) (by omega)
  have hlt:i<s.1.length:=by omega
  have hln:=hs.ln
  have ih:=F51_1_ok hs st ms t1 t20 t21 t22 pre post hb row hrow d m (i+1) (by omega) (by omega)
  simp only[F51_1]
  rw[dlt hlt,cond_true,F80_ok k s I a st ms i hlt,bind_some,wsucc i _ hlt (by omega)]
  simp only
  cases ho:ofP I s i a with
  |false =>
   have hin:0≤((pre.length+i:Nat):Int)∧((pre.length+i:Nat):Int)<((length (pre++(maskC I s a i row++post)):Nat):Int):=by
    simp only[length_append,maskC_len]
    omega
   rw[Bool.not_false,cond_true,waddN _ _ (by omega),if_pos hin,tnI (pre.length+i),set_mid _ _ _ _ _ (by rw[maskC_len]; omega),show List.set (maskC I s a i row) i (1152921504606846976:Int)=_ from maskC_yes (by omega) ho,ih]
   rfl
  |true =>
   rw[Bool.not_true,cond_false,←maskC_no ho,ih]
   rfl
end
theorem F51_2_ok (k:Nat) (st:(Option (List (ByteArray×Int)))×((List (List Int))×Unit)) (I:InT) (ss:List SideT) (a:Nat) (R:Rows) (hk:10000000≤k) (hs:∀s∈ss,SOC s) (hR:ShW ss R) (hn:ss.length≤1000000) (ht:tot ss≤100000000):∀(d m i:Nat) (D:Rows),i+d=ss.length→d<m→ShW (ss.take i) D →
  F51_2 k m (some (st,(ss,(I,())))) (flatW R) (a:Int) ((tot (ss.take i):Nat):Int) ss (ss.length:Int) (i:Int) (flatW D++replicate (tot (ss.drop i)) INF1)=some ((),(flatW (D++stepW I (ss.drop i) (R.drop i) a),()))
 |0,m,i,D,hi,hm,hD=>by
  obtain ⟨m,rfl⟩:=pos1 (m:=m) (by omega)
  simp only[F51_2]
  rw[decide_eq_false (by omega),cond_false,drop_eq_nil_of_le (by omega:ss.length≤i)]
  simp[tot,stepW]
 |d+1,m,i,D,hi,hm,hD=>by
  obtain ⟨m,rfl⟩:=pos1 (m:=m) (by omega)
  have hlt:i<ss.length:=by omega
  have hlL:R.length=ss.length:=by have:=congrArg length hR.1; simpa using this
  have hlt2:i<R.length:=by omega
  have hss:ss.drop i=ss[i]::ss.drop (i+1):=drop_eq_getElem_cons hlt
  have hLL:R.drop i=R[i]::R.drop (i+1):=drop_eq_getElem_cons hlt2
  have hso:=hs _ (getElem_mem hlt)
  have hrl:R[i].length=ss[i].1.length:=by
   have:=congrArg (fun l=>l[i]?) hR.1
   simpa[List.getElem?_map,hlt,hlt2] using this
  have hrc:=hR.2 _ (getElem_mem hlt2)
  have htk:tot (ss.take (i+1))=tot (ss.take i)+ss[i].1.length:=by
   rw[take_succ_eq_append_getElem hlt,tot_app]
   simp[tot]
  have htd:tot (ss.drop i)=ss[i].1.length+tot (ss.drop (i+1)):=by rw[hss,tot_cons]
  have htot:tot ss=tot (ss.take i)+tot (ss.drop i):=by rw[←tot_app,take_append_drop]
  have hLsplit:flatW R=flatW (R.take i)++(R[i]++flatW (R.drop (i+1))):=by
   have h0:R=R.take i++(R[i]::R.drop (i+1)):=by rw[←hLL,take_append_drop]
   calc flatW R=flatW (R.take i++(R[i]::R.drop (i+1))):=congrArg flatW h0
    _=_:=by
     show (R.take i++(R[i]::R.drop (i+1))).flatten=_
     rw[List.flatten_append,flatten_cons]
  have hLt:ShW (ss.take i) (R.take i):=⟨by rw[map_take,map_take,hR.1],fun r hr=>hR.2 r (mem_of_mem_take hr)⟩
  have hpl:(flatW (R.take i)).length=tot (ss.take i):=flatW_len hLt
  have hDl:(flatW D).length=tot (ss.take i):=flatW_len hD
  have hrep:replicate (tot (ss.drop i)) INF1=replicate ss[i].1.length INF1++replicate (tot (ss.drop (i+1))) INF1:=by
   rw[htd,←List.replicate_append_replicate]
  have hln:=hso.ok.ln
  have hla:=hso.ok.la
  have hlf:=hso.ok.lf
  have hcp:=copyL_mid ss[i].2.1 (flatW D) (replicate ss[i].1.length INF1) (replicate (tot (ss.drop (i+1))) INF1) (by rw[length_replicate]; omega) (Int.toNat ((length (flatW D++(replicate ss[i].1.length INF1++replicate (tot (ss.drop (i+1))) INF1)):Nat):Int)-(flatW D).length) (by rw[tnI,length_append,length_append,length_replicate]; omega)
  have e0:=F51_0_ok k ss[i] hk hso (some (st,(ss,(I,())))) R[i] hrl hrc (a:Int) ss (ss.length:Int) (i:Int) (flatW (R.take i)) (flatW (R.drop (i+1))) (flatW D) (replicate (tot (ss.drop (i+1))) INF1) (by omega) (by omega) ss[i].2.2.2.1.length k 0 ss[i].2.1 (Nat.zero_add _) (by omega) (by omega) hso.cf
  have e1:=F51_1_ok k ss[i] I a hso.ok st ss (flatW R) ss (ss.length:Int) (i:Int) (flatW D) (replicate (tot (ss.drop (i+1))) INF1) (by omega) (farC ss[i] R[i]) (farC_len hso.ok _) ss[i].1.length k 0 (Nat.zero_add _) (by omega)
  rw[show ((0:Nat):Int)=0 from rfl,maskC_0] at e1
  rw[show ((0:Nat):Int)=0 from rfl,drop_zero,←hLsplit] at e0
  have ih:=F51_2_ok k st I ss a R hk hs hR hn ht d m (i+1) (D++[stepC I ss[i] a R[i]]) (by omega) (by omega) (by
   refine ⟨?_,fun r hr=>?_⟩
   ·rw[take_succ_eq_append_getElem hlt,map_append,map_append,hD.1]
    simp[stepC_len hso.ok]
   ·rcases List.mem_append.1 hr with q | q
    ·exact hD.2 r q
    ·rw[List.mem_singleton.1 q]; exact stepC_cst hso hrc)
  have hfl:flatW D++(maskC I ss[i] a ss[i].1.length (farC ss[i] R[i])++replicate (tot (ss.drop (i+1))) INF1)=flatW (D++[stepC I ss[i] a R[i]])++replicate (tot (ss.drop (i+1))) INF1:=by
   simp[flatW,stepC]
  have hst:stepW I (ss.drop i) (R.drop i) a=stepC I ss[i] a R[i]::stepW I (ss.drop (i+1)) (R.drop (i+1)) a:=by
   rw[hss,hLL]
   rfl
  simp only[F51_2]
  rw[dlt hlt,cond_true,if_pos (inR hlt),tnI i,getD_lt _ _ _ hlt,hrep,←hDl,if_pos (by simp only[length_append]; omega),tnI (flatW D).length,hcp,e0,bind_some]
  simp only
  rw[show (ss[i].2.2.2.1).foldl (arcC R[i]) ss[i].2.1=farC ss[i] R[i] from rfl,e1,bind_some]
  simp only
  rw[hDl,waddN _ _ (by omega),←htk,wsucc i _ hlt (by omega),hfl,ih,hst,append_assoc]
  rfl
theorem F51_ok (k:Nat) (st:(Option (List (ByteArray×Int)))×((List (List Int))×Unit)) (I:InT) (ss:List SideT) (a:Nat) (R:Rows) (hk:10000000≤k) (hs:∀s∈ss,SOC s) (hR:ShW ss R) (hn:ss.length≤1000000) (ht:tot ss≤1000000) :
  F51 k (some (st,(ss,(I,())))) (flatW R) (a:Int)=some ((flatW (stepW I ss R a),()),()):=by
 have hfl:=flatW_len hR
 have e:=F51_2_ok k st I ss a R hk hs hR hn (by omega) ss.length k 0 [] (Nat.zero_add _) (by omega) ⟨rfl,fun r hr=>by cases hr⟩
 rw[show ((0:Nat):Int)=0 from rfl,take_zero,drop_zero,drop_zero,nil_append,show ((tot ([]:List SideT):Nat):Int)=0 from rfl,show flatW []=[] from rfl,nil_append] at e
 unfold F51
 rw[hfl,F49_ok k _ (by omega) ht,bind_some]
 simp only[isSome_some,if_true,getD_some]
 rw[e,bind_some]
end Go.Proofs.YtgmmopbpldgpcaaE
set_option linter.unusedSimpArgs false
set_option linter.unusedVariables false
set_option maxRecDepth 20000
namespace Go.Proofs.YtgmmopbpldgpcaaE
section
variable (k:Nat) (I:InT) (N:Nat) (ss:List SideT) (a:Nat) (R:Rows)
end
def endC (s:SideT) (r:List Int):Int:=(zipWith adI r s.2.2.1).foldl minI s.2.2.2.2.1
def endsW (ss:List SideT) (R:Rows):List Int:=zipWith endC ss R
theorem foldl_min_cst:∀(l:List Int) (c:Int),Cst c→CstL l→Cst (l.foldl minI c)
 | [],c,h,_=>h
 |x::l,c,h,hl=>foldl_min_cst l _ (cst_min h (hl x mem_cons_self)) fun y hy=>hl y (mem_cons_of_mem _ hy)
theorem zipAd_cst:∀ {a b:List Int},CstL a→CstL b→CstL (zipWith adI a b)
 | [],_,_,_=>fun x hx=>by simp at hx
 |_::_,[],_,_=>fun x hx=>by simp at hx
 |x::a,y::b,ha,hb=>fun z hz=>by
  rw[List.zipWith_cons_cons] at hz
  rcases List.mem_cons.1 hz with q | q
  ·rw[q]; exact cst_ad (ha x mem_cons_self) (hb y mem_cons_self)
  ·exact zipAd_cst (fun z hz=>ha z (mem_cons_of_mem _ hz)) (fun z hz=>hb z (mem_cons_of_mem _ hz)) z q
theorem endC_cst {s:SideT} (hs:SOC s) {r:List Int} (hr:CstL r):Cst (endC s r):=foldl_min_cst _ _ hs.cn (zipAd_cst hr hs.ce)
theorem endsW_len {ss:List SideT} {R:Rows} (h:ShW ss R):(endsW ss R).length=ss.length:=by
 have hlL:R.length=ss.length:=by have:=congrArg length h.1; simpa using this
 simp[endsW,hlL]
theorem zip_drop {f:Int→Int→Int} {a b:List Int} {i:Nat} (h1:i<a.length) (h2:i<b.length):(zipWith f a b).drop i=f a[i] b[i]::(zipWith f a b).drop (i+1):=by
 rw[drop_eq_getElem_cons (by rw[List.length_zipWith]; omega),List.getElem_zipWith]
theorem F52_0_ok (k:Nat) (s:SideT) (hs:SOC s) (r:List Int) (hr:r.length=s.1.length) (hrc:CstL r) (t15:List SideT) (t16 t17:Int) (pre post:List Int) (D:List Int) (hb:pre.length+s.1.length≤1000000000000):∀(d m i:Nat) (acc:List Int),i+d=s.1.length→d<m→acc.length=i+1 →
  F52_0 k m (pre++(r++post)) (pre.length:Int) t15 t16 t17 s.2.2.1 (s.2.2.1.length:Int) (i:Int) s D acc=some ((pre++(r++post),(pre.length:Int),t15,t16,t17,()),(s,D,acc++(zipWith adI r s.2.2.1).drop i,()))
 |0,m,i,acc,hi,hm,ha=>by
  obtain ⟨m,rfl⟩:=pos1 (m:=m) (by omega)
  have hle:=hs.ok.le
  simp only[F52_0]
  rw[decide_eq_false (by omega),cond_false,drop_eq_nil_of_le (by rw[List.length_zipWith]; omega),append_nil]
 |d+1,m,i,acc,hi,hm,ha=>by
  obtain ⟨m,rfl⟩:=pos1 (m:=m) (by omega)
  have hle:=hs.ok.le
  have hln:=hs.ok.ln
  have hlt:i<s.1.length:=by omega
  have hlt1:i<r.length:=by omega
  have hlt2:i<s.2.2.1.length:=by omega
  have hin:0≤((pre.length+i:Nat):Int)∧((pre.length+i:Nat):Int)<((length (pre++(r++post)):Nat):Int):=by
   simp only[length_append]
   omega
  simp only[F52_0]
  rw[dlt hlt2,cond_true,if_pos (inR hlt2),waddN _ _ (by omega),if_pos hin,tnI (pre.length+i),tnI i,getD_mid _ _ _ _ _ hlt1,F79_ad k _ _ (cstL_getD hrc _) (cstL_getD hs.ce _),bind_some]
  simp only
  rw[one_list,if_pos (by rw[length_singleton]; omega),wsucc i _ hlt (by omega),F52_0_ok k s hs r hr hrc t15 t16 t17 pre post D hb d m (i+1) _ (by omega) (by omega) (by simp[ha]),zip_drop hlt1 hlt2,getD_lt _ _ _ hlt1,getD_lt _ _ _ hlt2,append_assoc]
  rfl
theorem F52_1_ok (k:Nat) (ss:List SideT) (R:Rows) (hk:10000000≤k) (hs:∀s∈ss,SOC s) (hR:ShW ss R) (hn:ss.length≤1000000) (ht:tot ss≤100000000):∀(d m i:Nat) (D:List Int),i+d=ss.length→d<m→D.length=i →
  F52_1 k m (flatW R) ((tot (ss.take i):Nat):Int) ss (ss.length:Int) (i:Int) D=some ((),(D++endsW (ss.drop i) (R.drop i),()))
 |0,m,i,D,hi,hm,hD=>by
  obtain ⟨m,rfl⟩:=pos1 (m:=m) (by omega)
  simp only[F52_1]
  rw[decide_eq_false (by omega),cond_false,drop_eq_nil_of_le (by omega:ss.length≤i)]
  simp[endsW]
 |d+1,m,i,D,hi,hm,hD=>by
  obtain ⟨m,rfl⟩:=pos1 (m:=m) (by omega)
  have hlt:i<ss.length:=by omega
  have hlL:R.length=ss.length:=by have:=congrArg length hR.1; simpa using this
  have hlt2:i<R.length:=by omega
  have hso:=hs _ (getElem_mem hlt)
  have hrl:R[i].length=ss[i].1.length:=by
   have:=congrArg (fun l=>l[i]?) hR.1
   simpa[List.getElem?_map,hlt,hlt2] using this
  have hrc:=hR.2 _ (getElem_mem hlt2)
  have htk:tot (ss.take (i+1))=tot (ss.take i)+ss[i].1.length:=by
   rw[take_succ_eq_append_getElem hlt,tot_app]
   simp[tot]
  have htot:tot ss=tot (ss.take i)+tot (ss.drop i):=by rw[←tot_app,take_append_drop]
  have htd:tot (ss.drop i)=ss[i].1.length+tot (ss.drop (i+1)):=by rw[drop_eq_getElem_cons hlt,tot_cons]
  have hLsplit:flatW R=flatW (R.take i)++(R[i]++flatW (R.drop (i+1))):=by
   have h0:R=R.take i++(R[i]::R.drop (i+1)):=by rw[←drop_eq_getElem_cons hlt2,take_append_drop]
   calc flatW R=flatW (R.take i++(R[i]::R.drop (i+1))):=congrArg flatW h0
    _=_:=by
     show (R.take i++(R[i]::R.drop (i+1))).flatten=_
     rw[List.flatten_append,flatten_cons]
  have hLt:ShW (ss.take i) (R.take i):=⟨by rw[map_take,map_take,hR.1],fun r hr=>hR.2 r (mem_of_mem_take hr)⟩
  have hpl:(flatW (R.take i)).length=tot (ss.take i):=flatW_len hLt
  have hln:=hso.ok.ln
  have hle:=hso.ok.le
  have e0:=F52_0_ok k ss[i] hso R[i] hrl hrc ss (ss.length:Int) (i:Int) (flatW (R.take i)) (flatW (R.drop (i+1))) D (by omega) ss[i].1.length k 0 [ss[i].2.2.2.2.1] (Nat.zero_add _) (by omega) rfl
  rw[show ((0:Nat):Int)=0 from rfl,drop_zero,←hLsplit,hpl] at e0
  have ih:=F52_1_ok k ss R hk hs hR hn ht d m (i+1) (D++[endC ss[i] R[i]]) (by omega) (by omega) (by simp[hD])
  have hst:endsW (ss.drop i) (R.drop i)=endC ss[i] R[i]::endsW (ss.drop (i+1)) (R.drop (i+1)):=by
   rw[show ss.drop i=ss[i]::ss.drop (i+1) from drop_eq_getElem_cons hlt,show R.drop i=R[i]::R.drop (i+1) from drop_eq_getElem_cons hlt2]
   rfl
  have hll:([ss[i].2.2.2.2.1]++zipWith adI R[i] ss[i].2.2.1).length≤100001:=by
   rw[length_append,List.length_zipWith,length_singleton]
   omega
  simp only[F52_1]
  rw[dlt hlt,cond_true,if_pos (inR hlt),tnI i,getD_lt _ _ _ hlt,one_list,e0,bind_some]
  simp only
  rw[F78_ok k _ (by omega) (by omega),bind_some]
  simp only
  rw[List.singleton_append,foldl_cons,minI_c' hso.cn,show (zipWith adI R[i] ss[i].2.2.1).foldl minI ss[i].2.2.2.2.1=endC ss[i] R[i] from rfl,one_list,if_pos (by rw[length_singleton]; omega),waddN _ _ (by omega),←htk,wsucc i _ hlt (by omega),ih,hst,append_assoc]
  rfl
theorem F52_ok (k:Nat) (st:(Option (List (ByteArray×Int)))×((List (List Int))×Unit)) (I:InT) (ss:List SideT) (R:Rows) (hk:10000000≤k) (hs:∀s∈ss,SOC s) (hR:ShW ss R) (hn:ss.length≤1000000) (ht:tot ss≤100000000) :
  F52 k (some (st,(ss,(I,())))) (flatW R)=some ((endsW ss R,()),()):=by
 have e:=F52_1_ok k ss R hk hs hR hn ht ss.length k 0 [] (Nat.zero_add _) (by omega) rfl
 rw[show ((0:Nat):Int)=0 from rfl,take_zero,drop_zero,drop_zero,nil_append,show ((tot ([]:List SideT):Nat):Int)=0 from rfl] at e
 unfold F52
 simp only[isSome_some,if_true,getD_some]
 rw[e,bind_some]
end Go.Proofs.YtgmmopbpldgpcaaE

