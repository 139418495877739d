/- The engine. Conditions: none. -/
import Derived.Calls
import Derived.Orders
import Derived.Below
import Derived.Deep.AppendSrc
import Derived.KernelRfl
import Derived.Laws.World
import Derived.Laws.IdiomCopy
import Derived.OrdersHeld
import Derived.IntWalk
import Derived.Laws.Cover3
import Derived.Laws.Small
import Derived.Laws.Pointers
import Derived.Laws.StructEq
import Derived.Deep.MidRow
set_option linter.unusedVariables false
set_option linter.unusedSimpArgs false
open List (filter_cons filter_map flatMap_cons getD getD_eq_getElem?_getD getElem?_eq_getElem getElem?_eq_none length length_set map_cons mem_append_left mem_append_right mem_cons mem_cons_of_mem mem_cons_self mem_of_getElem? nodup_cons replicate)
open Option (bind_some getD_some isSome none_or)
open Nat (mul_le_mul_right ne_of_lt succ_le_of_lt succ_mul)
namespace Go.Proofs.YtibammoednhnoaaE
inductive Tree (α:Type) where
 |mk (a:α) (l:List (Tree α))
namespace Tree
@[reducible] def a {α:Type}:Tree α→α
 |.mk a _=>a
@[reducible] def l {α:Type}:Tree α→List (Tree α)
 |.mk _ l=>l
end Tree
inductive Kd where
 |int (k:IntKind) | bool | str | un | unit
 |pair (a b:Kd)
 |arr (n:Nat) (e:Kd)
 /-- a slice: whether its cells are the frame's own, the element's type, the element, which element is lent out -/
 |sl (own:Bool) (t:TypeId) (e:Kd) (hole:Option Nat)
 /-- a struct that ends in a slice of its own type, only read: that type, what stands ahead of the slice -/
 |tree (t:TypeId) (e:Kd)
 /-- a slice of these, only read -/
 |tl (t:TypeId) (e:Kd)
 /-- a map from strings to numbers (the frame's own?); none: nil -/
 |mp (own:Bool) (t:TypeId) (k:IntKind)
 /-- a pointer to what is only read; none: nil -/
 |ep (e:Kd)
 deriving DecidableEq,Repr,Inhabited
namespace Kd
@[reducible] def T:Kd→Type
 |.int _=>Int | .bool=>Bool | .str=>ByteArray | .un=>Unit | .unit=>Unit
 |.pair a b=>a.T×b.T
 |.arr _ e=>List e.T
 |.sl _ _ e _=>List e.T
 |.tree _ e=>Tree e.T
 |.tl _ e=>List (Tree e.T)
 |.mp _ _ _=>Option (List (ByteArray×Int))
 |.ep e=>Option e.T
def dft:(K:Kd)→K.T
 |.int _=>(0:Int) | .bool=>false | .str=>ByteArray.empty | .un=>() | .unit=>()
 |.pair a b=>(a.dft,b.dft)
 |.arr _ _=>[] | .sl _ _ _ _=>[]
 |.tree _ e=>.mk e.dft []
 |.tl _ _=>[]
 |.mp _ _ _=>none
 |.ep _=>none
@[reducible] def Z:Kd→Type
 |.un=>Value
 |.pair a b=>a.Z×b.Z
 |.arr _ e=>Nat→e.Z
 |.sl _ _ e _=>Option (Nat×Nat×Nat)×(Nat→e.Z)
 |.tree _ e=>e.Z×Option (Addr×Nat)
 |.tl _ _=>Option (Addr×Nat)
 |.mp _ _ _=>Nat
 |.ep e=>e.Z×(Nat×Nat)
 |_=>Unit
def zd:(K:Kd)→K.Z
 |.un=>undef
 |.pair a b=>(a.zd,b.zd)
 |.arr _ e=>fun _=>e.zd
 |.sl _ _ e _=>(none,fun _=>e.zd)
 |.tree _ e=>(e.zd,none)
 |.tl _ _=>none
 |.mp _ _ _=>0
 |.ep e=>(e.zd,(0,0))
 |.int _=>() | .bool=>() | .str=>() | .unit=>()
def size:Kd→Nat
 |.unit=>0
 |.pair a b=>a.size+b.size
 |.arr n e=>n*e.size
 |.tree _ e=>e.size+1
 |_=>1
def hdr (z:Option (Nat×Nat×Nat)) (len:Nat):Value :=
 match z with
 |none=>.slice none 0 0
 |some (b,off,cap)=>.slice (some ⟨b,off,none⟩) len cap
def hdrT (z:Option (Addr×Nat)) (len:Nat):Value :=
 match z with
 |none=>.slice none 0 0
 |some (a,cap)=>.slice (some a) len cap
def cells:(K:Kd)→K.T→K.Z→List Value
 |.int k,x,_=>[.int k x]
 |.bool,x,_=>[.bool x]
 |.str,x,_=>[.string x]
 |.un,_,v=>[v]
 |.unit,_,_=>[]
 |.pair a b,x,z=>a.cells x.1 z.1++b.cells x.2 z.2
 |.arr n e,x,z=>(List.range n).flatMap fun i=>e.cells (x.getD i e.dft) (z i)
 |.sl _ _ _ _,x,z=>[hdr z.1 x.length]
 |.tree _ e,x,z=>e.cells x.a z.1++[hdrT z.2 x.l.length]
 |.tl _ e,x,z=>[hdrT z x.length]
 |.mp _ _ _,x,z=>[.map (x.map fun _=>z)]
 |.ep _,x,z=>[.pointer (x.map fun _=>⟨z.2.1,z.2.2,none⟩)]
theorem length_flatMap_const {α β:Type} (l:List α) (f:α→List β) (n:Nat) (h:∀a∈l,(f a).length=n):(l.flatMap f).length=l.length*n:=by
 induction l with
 |nil=>simp
 |cons a l ih =>
  rw[flatMap_cons,List.length_append,h a (by simp),ih (fun b hb=>h b (by simp[hb])),List.length_cons,Nat.add_mul]
  omega
theorem cells_length:∀(K:Kd) (x:K.T) (z:K.Z),(K.cells x z).length=K.size
 |.int _,_,_=>rfl
 |.bool,_,_=>rfl
 |.str,_,_=>rfl
 |.un,_,_=>rfl
 |.unit,_,_=>rfl
 |.pair a b,x,z=>by simp[cells,size,cells_length a,cells_length b]
 |.arr n e,x,z=>by
  show ((List.range n).flatMap fun i=>e.cells (x.getD i e.dft) (z i)).length=n*e.size
  rw[length_flatMap_const _ _ e.size (fun i _=>cells_length e _ _),List.length_range]
 |.sl _ _ _ _,_,_=>rfl
 |.tree _ e,x,z=>by simp[cells,size,cells_length e]
 |.tl _ _,_,_=>rfl
 |.mp _ _ _,_,_=>rfl
 |.ep _,_,_=>rfl
def free:Kd→Bool
 |.pair a b=>a.free&&b.free
 |.arr _ e=>e.free
 |.sl own _ e h=>!own&&e.free&&h.isNone
 |.tree _ e=>e.free
 |.tl _ e=>e.free
 |.mp o _ _=>!o
 |.ep e=>e.free
 |_=>true
end Kd
inductive Blk where
 |cel (c:Array Value) (t:TypeId)
 |mp (es:Array MapEntry) (clk:Nat)
abbrev HF:=Nat→Option Blk
namespace HF
def emp:HF:=fun _=>none
def one (b:Nat) (c:Array Value) (t:TypeId):HF:=fun k=>if k=b then some (.cel c t) else none
def onem (b:Nat) (es:Array MapEntry) (clk:Nat):HF:=fun k=>if k=b then some (.mp es clk) else none
def un (g h:HF):HF:=fun k=>(g k).or (h k)
def dj (g h:HF):Prop:=∀k,g k=none∨h k=none
def has (h:HF) (b:Nat):Prop:=h b≠none
theorem dj.symm {g h:HF} (d:dj g h):dj h g:=fun k=>(d k).symm
theorem dj_emp (g:HF):dj g emp:=fun _=>.inr rfl
theorem emp_dj (g:HF):dj emp g:=fun _=>.inl rfl
theorem un_emp (g:HF):un g emp=g:=by funext k; simp[un,emp]
theorem emp_un (g:HF):un emp g=g:=by funext k; simp[un,emp]
theorem un_comm {g h:HF} (d:dj g h):un g h=un h g:=by
 funext k
 rcases d k with e | e<;>simp[un,e]
theorem un_assoc (f g h:HF):un (un f g) h=un f (un g h):=by
 funext k; simp[un,Option.or_assoc]
theorem dj_un {f g h:HF}:dj f (un g h)↔dj f g∧dj f h:=by
 constructor
 ·intro d
  refine ⟨fun k=>?_,fun k=>?_⟩
  ·rcases d k with e | e
   ·exact .inl e
   ·simp[un] at e; exact .inr e.1
  ·rcases d k with e | e
   ·exact .inl e
   ·simp[un] at e; exact .inr e.2
 ·rintro ⟨d1,d2⟩ k
  rcases d1 k with e | e
  ·exact .inl e
  ·rcases d2 k with e' | e'
   ·exact .inl e'
   ·exact .inr (by simp[un,e,e'])
theorem un_dj {f g h:HF}:dj (un g h) f↔dj g f∧dj h f :=
 ⟨fun d=>let ⟨a,b⟩:=dj_un.1 d.symm; ⟨a.symm,b.symm⟩,fun ⟨a,b⟩=>(dj_un.2 ⟨a.symm,b.symm⟩).symm⟩
theorem has_un {g h:HF} {b:Nat}:(un g h).has b↔g.has b∨h.has b:=by
 unfold has un
 cases g b<;>cases h b<;>simp
theorem has_one {b b':Nat} {c:Array Value} {t:TypeId}:(one b c t).has b'↔b'=b:=by
 unfold has one
 by_cases h:b'=b<;>simp[h]
theorem has_onem {b b':Nat} {es:Array MapEntry} {clk:Nat}:(onem b es clk).has b'↔b'=b:=by
 unfold has onem
 by_cases h:b'=b<;>simp[h]
theorem dj_iff {g h:HF}:dj g h↔∀b,g.has b→¬h.has b:=by
 unfold dj has
 constructor
 ·intro d b hb
  rcases d b with e | e
  ·exact absurd e hb
  ·simp[e]
 ·intro d b
  cases hg:g b with
  |none=>exact .inl rfl
  |some x =>
   refine .inr ?_
   have:=d b (by simp[hg])
   simpa using this
end HF
def Blk.lies (w:World) (b:Nat):Blk→Prop
 |.cel c t=>∃lo hi,w.heap[b]? = some (.cells c t (lo,hi))∧∀o,o<c.size→¬(lo≤o∧o<hi)
 |.mp es clk=>w.heap[b]? = some (.map es clk)
def Blk.liesR (w:World) (b:Nat):Blk→Prop
 |.cel c t=>∃f,w.heap[b]? = some (.cells c t f)
 |.mp es clk=>w.heap[b]? = some (.map es clk)
theorem Blk.lies.r {x:Blk} {w:World} {b:Nat} (h:x.lies w b):x.liesR w b:=by
 cases x with
 |cel c t =>
  obtain ⟨lo,hi,q,_⟩:=h
  exact ⟨_,q⟩
 |mp es clk=>exact h
theorem Blk.liesR.some {x:Blk} {w:World} {b:Nat} (h:x.liesR w b):∃o,w.heap[b]? = some o:=by
 cases x with
 |cel c t =>
  obtain ⟨f,q⟩:=h
  exact ⟨_,q⟩
 |mp es clk=>exact ⟨_,h⟩
theorem Blk.lies.same {x:Blk} {w w':World} {b:Nat} (h:x.lies w b) (e:w'.heap[b]? = w.heap[b]?):x.lies w' b:=by
 cases x with
 |cel c t =>
  obtain ⟨lo,hi,q,n⟩:=h
  exact ⟨lo,hi,e.trans q,n⟩
 |mp es clk=>exact e.trans h
theorem Blk.liesR.same {x:Blk} {w w':World} {b:Nat} (h:x.liesR w b) (e:w'.heap[b]? = w.heap[b]?):x.liesR w' b:=by
 cases x with
 |cel c t =>
  obtain ⟨f,q⟩:=h
  exact ⟨f,e.trans q⟩
 |mp es clk=>exact e.trans h
def Mem (h:HF) (w:World):Prop:=∀b x,h b=some x→x.lies w b
def MemR (h:HF) (w:World):Prop:=∀b x,h b=some x→x.liesR w b
theorem Mem.cel {h:HF} {w:World} (m:Mem h w) (b:Nat) (c:Array Value) (t:TypeId) (e:h b=some (.cel c t)):∃lo hi,w.heap[b]? = some (.cells c t (lo,hi))∧∀o,o<c.size→¬(lo≤o∧o<hi):=m b _ e
theorem MemR.cel {h:HF} {w:World} (m:MemR h w) (b:Nat) (c:Array Value) (t:TypeId) (e:h b=some (.cel c t)):∃f,w.heap[b]? = some (.cells c t f):=m b _ e
theorem Mem.un {g h:HF} {w:World} (d:HF.dj g h):Mem (g.un h) w↔Mem g w∧Mem h w:=by
 constructor
 ·intro m
  refine ⟨fun b x e=>m b x (by simp[HF.un,e]),fun b x e=>m b x ?_⟩
  rcases d b with e' | e'
  ·simp[HF.un,e,e']
  ·rw[e'] at e; cases e
 ·rintro ⟨m1,m2⟩ b x e
  cases hg:g b with
  |none=>exact m2 b x (by simpa[HF.un,hg] using e)
  |some y=>exact m1 b x (by simpa[HF.un,hg] using e)
theorem Mem.one {b:Nat} {c:Array Value} {t:TypeId} {w:World}:Mem (HF.one b c t) w↔∃lo hi,w.heap[b]? = some (.cells c t (lo,hi))∧∀o,o<c.size→¬(lo≤o∧o<hi):=by
 constructor
 ·intro m; exact m b _ (by simp[HF.one]; rfl)
 ·intro m b' x e
  simp only[HF.one] at e
  split at e
  ·rename_i hb; subst hb; simp only[Option.some.injEq] at e; subst e; exact m
  ·cases e
theorem Mem.onem {b:Nat} {es:Array MapEntry} {clk:Nat} {w:World}:Mem (HF.onem b es clk) w↔w.heap[b]? = some (.map es clk):=by
 constructor
 ·intro m; exact m b (.mp es clk) (by simp[HF.onem])
 ·intro m b' x e
  simp only[HF.onem] at e
  split at e
  ·rename_i hb; subst hb; simp only[Option.some.injEq] at e; subst e; exact m
  ·cases e
theorem Mem.emp (w:World):Mem HF.emp w:=fun b x e=>by simp[HF.emp] at e
def Lie (c:Array Value) (o:Nat) (cs:List Value):Prop:=∀j,j<cs.length→c[o+j]? = cs[j]?
namespace Kd
def Each (p:Nat→HF→Prop):Nat→HF→Prop
 |0,h=>h=HF.emp
 |n+1,h=>∃h1 h2,HF.dj h1 h2∧h=HF.un h1 h2∧Each p n h1∧p n h2
inductive TOwn {α ζ:Type} (pO:α→ζ→Prop) (pc:α→ζ→List Value) (n:Nat) (d:Tree α) (Γ:HF):Tree α→ζ→Option (Addr×Nat)→Prop where
 |nil {a:α} {z:ζ} (h:pO a z):TOwn pO pc n d Γ (.mk a []) z none
 |void {a:α} {z:ζ} {x:Addr} (h:pO a z):TOwn pO pc n d Γ (.mk a []) z (some (x,0))
 |row {a:α} {z:ζ} {l:List (Tree α)} {b off cap:Nat} {c:Array Value} {t':TypeId} (zf:Nat→ζ) (hf:Nat→Option (Addr×Nat)) (h:pO a z)
   (h1:l.length≤cap) (h2:cap≤9223372036854775807) (h3:off+cap*n≤c.size) (h4:Γ b=some (.cel c t'))
   (h5:∀i,i<l.length→Lie c (off+i*n) (pc (l.getD i d).a (zf i)++[hdrT (hf i) (l.getD i d).l.length]))
   (h6:∀i,i<l.length→TOwn pO pc n d Γ (l.getD i d) (zf i) (hf i)):TOwn pO pc n d Γ (.mk a l) z (some (⟨b,off,none⟩,cap))
def EntsP (k:IntKind) (l:List (ByteArray×Int)) (es:Array MapEntry):Prop:=(es.toList.map fun e=>(e.key,e.val))=(l.map fun p=>(Value.string p.1,Value.int k p.2))∧∀p∈l,p.1.size≤9223372036854775807∧k.min≤p.2∧p.2≤k.max
def LOwn {α ζ:Type} (pO:α→ζ→Prop) (pc:α→ζ→List Value) (n:Nat) (d:Tree α) (Γ:HF) (l:List (Tree α)) (z:Option (Addr×Nat)):Prop :=
 match z with
 |none=>l=[]
 |some (x,cap)=>(l=[]∧cap=0)∨(x.spot=none∧∃(c:Array Value) (t':TypeId) (zf:Nat→ζ) (hf:Nat→Option (Addr×Nat)),l.length≤cap∧cap≤9223372036854775807∧x.off+cap*n≤c.size∧Γ x.block=some (.cel c t') ∧
   (∀i,i<l.length→Lie c (x.off+i*n) (pc (l.getD i d).a (zf i)++[hdrT (hf i) (l.getD i d).l.length]))∧∀i,i<l.length→TOwn pO pc n d Γ (l.getD i d) (zf i) (hf i))
theorem TOwn.parts {α ζ:Type} {pO:α→ζ→Prop} {pc:α→ζ→List Value} {n:Nat} {d:Tree α} {Γ:HF} {x:Tree α} {z:ζ} {h:Option (Addr×Nat)} (o:TOwn pO pc n d Γ x z h):pO x.a z∧LOwn pO pc n d Γ x.l h:=by
 cases o with
 |nil h=>exact ⟨h,rfl⟩
 |void h=>exact ⟨h,.inl ⟨rfl,rfl⟩⟩
 |row zf hf h h1 h2 h3 h4 h5 h6=>exact ⟨h,.inr ⟨rfl,_,_,zf,hf,h1,h2,h3,h4,h5,h6⟩⟩
theorem LOwn.tree {α ζ:Type} {pO:α→ζ→Prop} {pc:α→ζ→List Value} {n:Nat} {d:Tree α} {Γ:HF} {a:α} {l:List (Tree α)} {z:ζ} {h:Option (Addr×Nat)} (p:pO a z) (o:LOwn pO pc n d Γ l h):TOwn pO pc n d Γ (.mk a l) z h:=by
 cases h with
 |none=>have:l=[]:=o; subst this; exact .nil p
 |some y =>
  obtain ⟨⟨b,off,sp⟩,cap⟩:=y
  rcases o with ⟨rfl,rfl⟩ | ⟨h0,c,t',zf,hf,h1,h2,h3,h4,h5,h6⟩
  ·exact .void p
  ·have:sp=none:=h0
   subst this
   exact .row zf hf p h1 h2 h3 h4 h5 h6
def Own (Γ:HF):(K:Kd)→K.T→K.Z→HF→Prop
 |.int k,x,_,h=>h=HF.emp∧k.min≤x∧x≤k.max
 |.bool,_,_,h=>h=HF.emp
 |.str,x,_,h=>h=HF.emp∧x.size≤9223372036854775807
 |.un,_,_,h=>h=HF.emp
 |.unit,_,_,h=>h=HF.emp
 |.pair a b,x,z,h=>∃h1 h2,HF.dj h1 h2∧h=HF.un h1 h2∧a.Own Γ x.1 z.1 h1∧b.Own Γ x.2 z.2 h2
 |.arr n e,x,z,h=>x.length=n∧Each (fun i=>e.Own Γ (x.getD i e.dft) (z i)) n h
 |.sl own t e hole,x,z,h =>
  match z.1 with
  |none=>x=[]∧h=HF.emp
  |some (b,off,cap)=>∃c h2,
    x.length≤cap∧cap≤9223372036854775807∧off+cap*e.size≤c.size ∧
    (∀i,i<x.length→Lie c (off+i*e.size) (e.cells (x.getD i e.dft) (z.2 i))) ∧
    Each (fun i hi=>if hole=some i then hi=HF.emp else e.Own Γ (x.getD i e.dft) (z.2 i) hi) x.length h2 ∧
    (if own then HF.dj (HF.one b c t) h2∧h=HF.un (HF.one b c t) h2 else (∃t',Γ b=some (.cel c t'))∧h=h2)
 |.tree t e,x,z,h=>h=HF.emp∧TOwn (fun a y=>e.Own Γ a y HF.emp) e.cells (e.size+1) (.mk e.dft []) Γ x z.1 z.2
 |.tl t e,x,z,h=>h=HF.emp∧LOwn (fun a y=>e.Own Γ a y HF.emp) e.cells (e.size+1) (.mk e.dft []) Γ x z
 |.mp o t k,x,z,h=>match x with
  |none=>h=HF.emp
  |some l=>∃es clk,(if o=true then h=HF.onem z es clk else Γ z=some (.mp es clk)∧h=HF.emp)∧EntsP k l es
 |.ep e,x,z,h=>h=HF.emp∧match x with
  |none=>True
  |some y=>e.Own Γ y z.1 HF.emp∧∃c t,Γ z.2.1=some (.cel c t)∧Lie c z.2.2 (e.cells y z.1)
end Kd
def wr (c:Array Value):Nat→List Value→Array Value
 |_,[]=>c
 |o,v::vs=>wr (c.setIfInBounds o v) (o+1) vs
theorem wr_size:∀(vs:List Value) (c:Array Value) (o:Nat),(wr c o vs).size=c.size
 | [],_,_=>rfl
 |v::vs,c,o=>by rw[wr,wr_size vs]; simp
theorem wr_out:∀(vs:List Value) (c:Array Value) (o k:Nat),k<o∨o+vs.length≤k→(wr c o vs)[k]? = c[k]?
 | [],_,_,_,_=>rfl
 |v::vs,c,o,k,h=>by
  rw[wr,wr_out vs _ _ _ (by simp at h; omega),Array.getElem?_setIfInBounds_ne (by simp at h; omega)]
theorem wr_in:∀(vs:List Value) (c:Array Value) (o j:Nat),j<vs.length→o+vs.length≤c.size→(wr c o vs)[o+j]? = vs[j]?
 |v::vs,c,o,j,hj,hs=>by
  rw[wr]
  rcases j with _ | j
  ·rw[wr_out vs _ _ _ (by omega)]
   simp only[List.length_cons] at hs
   simp[Array.getElem?_setIfInBounds_self,show o<c.size from by omega]
  ·have:=wr_in vs (c.setIfInBounds o v) (o+1) j (by simpa using hj) (by simp at hs ⊢; omega)
   rw[show o+(j+1)=o+1+j from by omega,this]
   simp
theorem Lie.left {c:Array Value} {o:Nat} {a b:List Value} (h:Lie c o (a++b)):Lie c o a:=fun j hj=>by
 rw[h j (by simp; omega),List.getElem?_append_left hj]
theorem Lie.right {c:Array Value} {o:Nat} {a b:List Value} (h:Lie c o (a++b)):Lie c (o+a.length) b:=fun j hj=>by
 rw[Nat.add_assoc,h (a.length+j) (by simp; omega),List.getElem?_append_right (by omega)]
 simp
theorem Lie.append {c:Array Value} {o:Nat} {a b:List Value} (h:Lie c o a) (k:Lie c (o+a.length) b):Lie c o (a++b):=fun j hj=>by
 rcases Nat.lt_or_ge j a.length with h' | h'
 ·rw[h j h',List.getElem?_append_left h']
 ·rw[List.getElem?_append_right h',←k (j-a.length) (by simp at hj; omega)]
  congr 1
  omega
theorem Lie.fits {c:Array Value} {o:Nat} {cs:List Value} (h:Lie c o cs) (hp:0<cs.length):o+cs.length≤c.size:=by
 have:=h (cs.length-1) (by omega)
 rw[getElem?_eq_getElem (by omega)] at this
 have:=(Array.getElem?_eq_some_iff.1 this).1
 omega
theorem Lie.wr_self {c:Array Value} {o:Nat} {vs:List Value} (h:vs.length=0∨o+vs.length≤c.size):Lie (wr c o vs) o vs:=fun j hj=>wr_in vs c o j hj (by omega)
theorem Lie.wr_other {c:Array Value} {o o':Nat} {cs vs:List Value} (h:Lie c o cs) (hd:o+cs.length≤o'∨o'+vs.length≤o):Lie (wr c o' vs) o cs:=fun j hj=>by
 rw[wr_out _ _ _ _ (by omega),h j hj]
theorem lie_flat {c:Array Value} {o n s:Nat} {f:Nat→List Value} (hs:∀i,(f i).length=s):Lie c o ((List.range n).flatMap f)↔∀i,i<n→Lie c (o+i*s) (f i):=by
 induction n with
 |zero=>simp[Lie]
 |succ n ih =>
  have hl:((List.range n).flatMap f).length=n*s:=by rw[Kd.length_flatMap_const _ _ s (fun i _=>hs i),List.length_range]
  rw[List.range_succ,List.flatMap_append]
  simp only[flatMap_cons,List.flatMap_nil,List.append_nil]
  constructor
  ·intro h i hi
   rcases Nat.lt_or_ge i n with h' | h'
   ·exact ih.1 h.left i h'
   ·obtain rfl:i=n:=by omega
    have:=h.right
    rwa [hl] at this
  ·intro h
   refine Lie.append (ih.2 fun i hi=>h i (by omega)) ?_
   rw[hl]
   exact h n (by omega)
namespace HF
def wrB (off:Nat) (vs:List Value):Blk→Blk
 |.cel c t=>.cel (wr c off vs) t
 |.mp es clk=>.mp es clk
def upd (g:HF) (b off:Nat) (vs:List Value):HF:=fun k=>if k=b then (g k).map (wrB off vs) else g k
theorem upd_has {g:HF} {b off k:Nat} {vs:List Value}:(g.upd b off vs).has k↔g.has k:=by
 by_cases h:k=b
 ·simp only[upd,has,h,if_true]; cases g b<;>simp
 ·simp only[upd,has,h,if_false]
theorem upd_dj {g h:HF} {b off:Nat} {vs:List Value}:dj (g.upd b off vs) h↔dj g h:=by
 rw[dj_iff,dj_iff]; simp only[upd_has]
theorem dj_upd {g h:HF} {b off:Nat} {vs:List Value}:dj h (g.upd b off vs)↔dj h g:=by
 rw[dj_iff,dj_iff]; simp only[upd_has]
theorem upd_un {g h:HF} {b off:Nat} {vs:List Value}:(g.un h).upd b off vs=(g.upd b off vs).un (h.upd b off vs):=by
 funext k
 by_cases e:k=b
 ·simp only[upd,un,e,if_true]; cases g b<;>simp
 ·simp only[upd,un,e,if_false]
theorem upd_not {g:HF} {b off:Nat} {vs:List Value} (h:¬g.has b):g.upd b off vs=g:=by
 funext k
 unfold upd
 split
 ·rename_i e
  subst e
  unfold has at h
  simp at h
  simp[h]
 ·rfl
theorem upd_one {b off:Nat} {vs:List Value} {c:Array Value} {t:TypeId}:(one b c t).upd b off vs=one b (wr c off vs) t:=by
 funext k
 unfold upd one
 by_cases h:k=b<;>simp[h,wrB]
end HF
theorem heap_setCells (b:Nat):∀(vs:List Value) (o:Nat) (w:World) (c:Array Value) (t:TypeId) (f:Nat×Nat),w.heap[b]? = some (.cells c t f)→(w.setCells b o vs).heap[b]? = some (.cells (wr c o vs) t f)
 | [],_,_,_,_,_,h=>h
 |v::vs,o,w,c,t,f,h=>by
  rw[World.setCells,wr]
  refine heap_setCells b vs (o+1) _ _ t f ?_
  simp[World.setCell,Array.getElem?_modify,h]
theorem heap_setCells_ne (b:Nat):∀(vs:List Value) (o:Nat) (w:World) (k:Nat),k≠b→(w.setCells b o vs).heap[k]? = w.heap[k]?
 | [],_,_,_,_=>rfl
 |v::vs,o,w,k,h=>by
  rw[World.setCells,heap_setCells_ne b vs (o+1) _ k h]
  simp[World.setCell,Array.getElem?_modify,Ne.symm h]
theorem setCells_same (b:Nat):∀(vs:List Value) (o:Nat) (w:World),(w.setCells b o vs).os=w.os∧(w.setCells b o vs).tape=w.tape∧(w.setCells b o vs).drawn=w.drawn∧(w.setCells b o vs).output=w.output∧(w.setCells b o vs).heap.size=w.heap.size
 | [],_,_=>⟨rfl,rfl,rfl,rfl,rfl⟩
 |v::vs,o,w=>by
  rw[World.setCells]
  obtain ⟨a,b',c,d,e⟩:=setCells_same b vs (o+1) (w.setCell ⟨b,o,none⟩ v)
  exact ⟨a,b',c,d,by rw[e]; simp⟩
theorem heap_setCells_map (b:Nat):∀(vs:List Value) (o:Nat) (w:World) (es:Array MapEntry) (clk:Nat),w.heap[b]? = some (.map es clk)→(w.setCells b o vs).heap[b]? = some (.map es clk)
 | [],_,_,_,_,h=>h
 |v::vs,o,w,es,clk,h=>by
  rw[World.setCells]
  refine heap_setCells_map b vs (o+1) _ es clk ?_
  simp[World.setCell,Array.getElem?_modify,h]
theorem Mem.upd {h:HF} {w:World} {b off:Nat} {vs:List Value} (m:Mem h w):Mem (h.upd b off vs) (w.setCells b off vs):=by
 intro k y e
 by_cases hk:k=b
 ·subst hk
  simp only[HF.upd,if_true] at e
  cases hh:h k with
  |none=>rw[hh] at e; cases e
  |some x =>
   rw[hh] at e
   injection e with e
   have mm:=m k x hh
   cases x with
   |cel c0 t0 =>
    subst e
    obtain ⟨lo,hi,h1,h2⟩:=mm
    exact ⟨lo,hi,heap_setCells k vs off w c0 t0 _ h1,by rw[wr_size]; exact h2⟩
   |mp es clk =>
    subst e
    exact heap_setCells_map k vs off w es clk mm
 ·simp only[HF.upd,hk,if_false] at e
  have mm:=m k y e
  have hn:=heap_setCells_ne b vs off w k hk
  cases y with
  |cel c t =>
   obtain ⟨lo,hi,h1,h2⟩:=mm
   exact ⟨lo,hi,by rw[hn,h1],h2⟩
  |mp es clk=>exact hn.trans mm
theorem MemR.upd {h:HF} {w:World} {b off:Nat} {vs:List Value} (m:MemR h w) (hb:¬h.has b):MemR h (w.setCells b off vs):=by
 intro k y e
 have hk:k≠b:=fun hk=>hb (by subst hk; unfold HF.has; simp[e])
 have mm:=m k y e
 have hn:=heap_setCells_ne b vs off w k hk
 cases y with
 |cel c t =>
  obtain ⟨f,h1⟩:=mm
  exact ⟨f,by rw[hn,h1]⟩
 |mp es clk=>exact hn.trans mm
namespace Kd
theorem Each.congr {p q:Nat→HF→Prop}:∀ {n:Nat} {h:HF},(∀i,i<n→∀h,p i h→q i h)→Each p n h→Each q n h
 |0,_,_,e=>e
 |n+1,_,hpq,⟨h1,h2,d,e,e1,p2⟩=>⟨h1,h2,d,e,Each.congr (fun i hi=>hpq i (by omega)) e1,hpq n (by omega) _ p2⟩
theorem Each.take {p:Nat→HF→Prop}:∀ {n:Nat} {h:HF} {i:Nat},i<n→Each p n h →
  ∃hr hi,HF.dj hr hi∧h=hr.un hi∧p i hi ∧
   ∀(q:Nat→HF→Prop) (f:HF→HF) (hq:∀j,j<n→j≠i→∀k,p j k→(∀b,k.has b→hr.has b)→q j (f k)) (hfu:∀a b,f (a.un b)=(f a).un (f b)) (hfe:f HF.emp=HF.emp) (hfd:∀a b,HF.dj a b→HF.dj (f a) (f b))
    (hn:HF),HF.dj (f hr) hn→q i hn→Each q n ((f hr).un hn)
 |n+1,h,i,hi,⟨h1,h2,d,e,e1,p2⟩=>by
  rcases Nat.lt_or_ge i n with h' | h'
  ·obtain ⟨hr,hh,d1,e2,pi,put⟩:=Each.take h' e1
   subst e2; subst e
   obtain ⟨da,db⟩:=HF.un_dj.1 d
   refine ⟨hr.un h2,hh,HF.un_dj.2 ⟨d1,db.symm⟩,?_,pi,?_⟩
   ·rw[HF.un_assoc,HF.un_assoc,HF.un_comm db]
   ·intro q f hq hfu hfe hfd hn dn qi
    rw[hfu] at dn ⊢
    obtain ⟨dn1,dn2⟩:=HF.un_dj.1 dn
    refine ⟨(f hr).un hn,f h2,HF.un_dj.2 ⟨hfd _ _ da,dn2.symm⟩,?_,put q f (fun j hj hji k pk hk=>hq j (by omega) hji k pk (fun b hb=>HF.has_un.2 (.inl (hk b hb)))) hfu hfe hfd hn dn1 qi,hq n (by omega) (by omega) h2 p2 (fun b hb=>HF.has_un.2 (.inr hb))⟩
    rw[HF.un_assoc,HF.un_assoc,HF.un_comm dn2]
  ·obtain rfl:i=n:=by omega
   subst e
   refine ⟨h1,h2,d,rfl,p2,?_⟩
   intro q f hq hfu hfe hfd hn dn qi
   have key:∀(m:Nat),m≤i→∀g,(∀b,g.has b→h1.has b)→Each p m g→Each q m (f g):=by
    intro m
    induction m with
    |zero=>intro _ g _ hg; exact (show f g=HF.emp by rw[show g=HF.emp from hg,hfe])
    |succ m ih =>
     rintro hm g hsub ⟨g1,g2,dg,rfl,eg,pg⟩
     exact ⟨f g1,f g2,hfd _ _ dg,hfu _ _,ih (by omega) g1 (fun b hb=>hsub b (HF.has_un.2 (.inl hb))) eg,hq m (by omega) (by omega) g2 pg (fun b hb=>hsub b (HF.has_un.2 (.inr hb)))⟩
   exact ⟨f h1,hn,dn,rfl,key i (Nat.le_refl _) h1 (fun _ h=>h) e1,qi⟩
end Kd
open Kd
inductive Chg (K1 K2:Kd):Kd→Kd→Type where
 |nil:Chg K1 K2 K1 K2
 |fst {a a' b:Kd} (c:Chg K1 K2 a a'):Chg K1 K2 (.pair a b) (.pair a' b)
 |snd {a b b':Kd} (c:Chg K1 K2 b b'):Chg K1 K2 (.pair a b) (.pair a b')
 |idx {n:Nat} {e:Kd} (i:Nat) (c:Chg K1 K2 e e):Chg K1 K2 (.arr n e) (.arr n e)
 |sidx {t:TypeId} {e:Kd} {h:Option Nat} (i:Nat) (c:Chg K1 K2 e e):Chg K1 K2 (.sl true t e h) (.sl true t e h)
 |take {t:TypeId} (i:Nat) (hk:K2=.un):Chg K1 K2 (.sl true t K1 none) (.sl true t K1 (some i))
 |fill {t:TypeId} (i:Nat) (hk:K1=.un):Chg K1 K2 (.sl true t K2 (some i)) (.sl true t K2 none)
namespace Chg
variable {K1 K2:Kd}
def get:{K K':Kd}→Chg K1 K2 K K'→K.T→K1.T
 |_,_,.nil,x=>x
 |_,_,.fst c,x=>c.get x.1
 |_,_,.snd c,x=>c.get x.2
 |.arr _ e,_,.idx i c,x=>c.get (x.getD i e.dft)
 |.sl _ _ e _,_,.sidx i c,x=>c.get (x.getD i e.dft)
 |_,_,.take i _,x=>x.getD i K1.dft
 |_,_,.fill i hk,_=>hk▸()
def getZ:{K K':Kd}→Chg K1 K2 K K'→K.T→K.Z→K1.Z
 |_,_,.nil,_,z=>z
 |_,_,.fst c,x,z=>c.getZ x.1 z.1
 |_,_,.snd c,x,z=>c.getZ x.2 z.2
 |.arr _ e,_,.idx i c,x,z=>c.getZ (x.getD i e.dft) (z i)
 |.sl _ _ e _,_,.sidx i c,x,z=>c.getZ (x.getD i e.dft) (z.2 i)
 |_,_,.take i _,_,z=>z.2 i
 |_,_,.fill i hk,x,z=>hk▸((K2.cells (x.getD i K2.dft) (z.2 i)).getD 0 undef)
def put:{K K':Kd}→Chg K1 K2 K K'→K.T→K2.T→K'.T
 |_,_,.nil,_,y=>y
 |_,_,.fst c,x,y=>(c.put x.1 y,x.2)
 |_,_,.snd c,x,y=>(x.1,c.put x.2 y)
 |.arr _ e,_,.idx i c,x,y=>x.set i (c.put (x.getD i e.dft) y)
 |.sl _ _ e _,_,.sidx i c,x,y=>x.set i (c.put (x.getD i e.dft) y)
 |_,_,.take _ _,x,_=>x
 |_,_,.fill i _,x,y=>x.set i y
def putZ:{K K':Kd}→Chg K1 K2 K K'→K.T→K.Z→K2.Z→K'.Z
 |_,_,.nil,_,_,w=>w
 |_,_,.fst c,x,z,w=>(c.putZ x.1 z.1 w,z.2)
 |_,_,.snd c,x,z,w=>(z.1,c.putZ x.2 z.2 w)
 |.arr _ e,_,.idx i c,x,z,w=>fun j=>if j=i then c.putZ (x.getD i e.dft) (z i) w else z j
 |.sl _ _ e _,_,.sidx i c,x,z,w=>(z.1,fun j=>if j=i then c.putZ (x.getD i e.dft) (z.2 i) w else z.2 j)
 |_,_,.take _ _,_,z,_=>z
 |_,_,.fill i _,_,z,w=>(z.1,fun j=>if j=i then w else z.2 j)
def valid:{K K':Kd}→Chg K1 K2 K K'→K.T→Prop
 |_,_,.nil,_=>True
 |_,_,.fst c,x=>c.valid x.1
 |_,_,.snd c,x=>c.valid x.2
 |.arr n e,_,.idx i c,x=>i<n∧c.valid (x.getD i e.dft)
 |.sl _ _ e h,_,.sidx i c,x=>i<x.length∧h≠some i∧c.valid (x.getD i e.dft)
 |_,_,.take i _,x=>i<x.length
 |_,_,.fill i _,x=>i<x.length
def loc:{K K':Kd}→Chg K1 K2 K K'→K.T→K.Z→Nat×Nat→Nat×Nat
 |_,_,.nil,_,_,a=>a
 |_,_,.fst c,x,z,a=>c.loc x.1 z.1 a
 |.pair k _,_,.snd c,x,z,a=>c.loc x.2 z.2 (a.1,a.2+k.size)
 |.arr _ e,_,.idx i c,x,z,a=>c.loc (x.getD i e.dft) (z i) (a.1,a.2+i*e.size)
 |.sl _ _ e _,_,.sidx i c,x,z,a=>match z.1 with
  |some (b,o,_)=>c.loc (x.getD i e.dft) (z.2 i) (b,o+i*e.size)
  |none=>a
 |_,_,.take i _,_,z,a=>match z.1 with
  |some (b,o,_)=>(b,o+i*K1.size)
  |none=>a
 |_,_,.fill i _,_,z,a=>match z.1 with
  |some (b,o,_)=>(b,o+i*K2.size)
  |none=>a
theorem size_eq (hs:K1.size=K2.size):{K K':Kd}→Chg K1 K2 K K'→K.size=K'.size
 |_,_,.nil=>hs
 |_,_,.fst c=>by simp[Kd.size,size_eq hs c]
 |_,_,.snd c=>by simp[Kd.size,size_eq hs c]
 |_,_,.idx _ _=>rfl
 |_,_,.sidx _ _=>rfl
 |_,_,.take _ _=>rfl
 |_,_,.fill _ _=>rfl
end Chg
theorem getD_set_self {α:Type} {l:List α} {i:Nat} {v d:α} (h:i<l.length):(l.set i v).getD i d=v:=by
 simp[getD_eq_getElem?_getD,h]
theorem getD_set_ne' {α:Type} {l:List α} {i j:Nat} {v d:α} (h:i≠j):(l.set i v).getD j d=l.getD j d:=by
 simp[getD_eq_getElem?_getD,List.getElem?_set_ne h]
def wrIf (b0:Nat) (c0:Array Value) (at_:Nat×Nat) (vs:List Value):Array Value:=if at_.1=b0 then wr c0 at_.2 vs else c0
theorem wrIf_pos {b0:Nat} {c0:Array Value} {at_:Nat×Nat} {vs:List Value} (h:at_.1=b0):wrIf b0 c0 at_ vs=wr c0 at_.2 vs:=if_pos h
theorem wrIf_neg {b0:Nat} {c0:Array Value} {at_:Nat×Nat} {vs:List Value} (h:at_.1≠b0):wrIf b0 c0 at_ vs=c0:=if_neg h
theorem lie_ite {b0:Nat} {c0:Array Value} {at_:Nat×Nat} {vs:List Value} {o:Nat} {cs:List Value} (h1:at_.1=b0→Lie (wr c0 at_.2 vs) o cs) (h2:at_.1≠b0→Lie c0 o cs):Lie (wrIf b0 c0 at_ vs) o cs:=by
 by_cases h:at_.1=b0
 ·rw[wrIf_pos h]; exact h1 h
 ·rw[wrIf_neg h]; exact h2 h
structure Spot (Γ:HF) {K1 K2 K K':Kd} (c:Chg K1 K2 K K') (x:K.T) (z:K.Z) (h:HF) (b0 o0:Nat) (c0:Array Value) (t0:TypeId) (hr ho:HF):Prop where
 dj:HF.dj hr ho
 eq:h=hr.un ho
 own:K1.Own Γ (c.get x) (c.getZ x z) ho
 at_:(c.loc x z (b0,o0)).1=b0∧o0≤(c.loc x z (b0,o0)).2∧(c.loc x z (b0,o0)).2+K1.size≤o0+K.size∨(c.loc x z (b0,o0)).1≠b0∧hr.has (c.loc x z (b0,o0)).1
 lie:∃cb tb,(HF.un (HF.one b0 c0 t0) hr) (c.loc x z (b0,o0)).1=some (.cel cb tb)∧Lie cb (c.loc x z (b0,o0)).2 (K1.cells (c.get x) (c.getZ x z))
 put:∀y zy hn,K2.Own Γ y zy hn→HF.dj (HF.un (HF.one b0 c0 t0) hr) hn →
  K'.Own Γ (c.put x y) (c.putZ x z zy) ((hr.upd (c.loc x z (b0,o0)).1 (c.loc x z (b0,o0)).2 (K2.cells y zy)).un hn) ∧
  Lie (wrIf b0 c0 (c.loc x z (b0,o0)) (K2.cells y zy)) o0 (K'.cells (c.put x y) (c.putZ x z zy))
theorem one_self {b:Nat} {c:Array Value} {t:TypeId} {g:HF}:(HF.un (HF.one b c t) g) b=some (.cel c t):=by simp[HF.un,HF.one]
section
variable {Γ:HF} {K1 K2:Kd}
theorem spot_nil (hs:K1.size=K2.size) (x:K1.T) (z:K1.Z) (h:HF) (b0 o0:Nat) (c0:Array Value) (t0:TypeId)
  (ho:K1.Own Γ x z h) (hl:Lie c0 o0 (K1.cells x z)):Spot Γ (.nil:Chg K1 K2 K1 K2) x z h b0 o0 c0 t0 HF.emp h where
 dj:=HF.emp_dj _
 eq:=(HF.emp_un h).symm
 own:=by simpa only[Chg.get,Chg.getZ] using ho
 at_:=by simp[Chg.loc]
 lie:=by simp only[Chg.loc,Chg.get,Chg.getZ]; exact ⟨c0,t0,one_self,hl⟩
 put:=by
  simp only[Chg.loc,Chg.put,Chg.putZ]
  intro y zy hn hy hd
  constructor
  ·rw[HF.upd_not (by simp[HF.has,HF.emp]),HF.emp_un]
   exact hy
  ·rw[wrIf_pos (at_:=(b0,o0)) rfl]
   refine Lie.wr_self ?_
   rw[cells_length,←hs]
   rcases Nat.eq_zero_or_pos K1.size with e | e
   ·exact .inl e
   ·refine .inr ?_
    have:=hl.fits (by rw[cells_length]; exact e)
    rwa [cells_length] at this
theorem spot_fst (hs:K1.size=K2.size) {a a' b:Kd} (c:Chg K1 K2 a a') (x:(Kd.pair a b).T) (z:(Kd.pair a b).Z) (h1 h2:HF) (b0 o0:Nat) (c0:Array Value) (t0:TypeId) {hr ho:HF}
  (d:HF.dj h1 h2) (ob:b.Own Γ x.2 z.2 h2) (hl:Lie c0 o0 ((Kd.pair a b).cells x z)) (hb:¬h2.has b0)
  (s:Spot Γ c x.1 z.1 h1 b0 o0 c0 t0 hr ho):Spot Γ (.fst c:Chg K1 K2 (.pair a b) (.pair a' b)) x z (h1.un h2) b0 o0 c0 t0 (hr.un h2) ho:=by
 obtain ⟨dj,rfl,own,at_,lie,put⟩:=s
 obtain ⟨d1,d2⟩:=HF.un_dj.1 d
 have hl2:=Lie.right (a:=a.cells x.1 z.1) (b:=b.cells x.2 z.2) hl
 rw[cells_length] at hl2
 refine ⟨HF.un_dj.2 ⟨dj,d2.symm⟩,?_,by simpa only[Chg.get,Chg.getZ] using own,?_,?_,?_⟩
 ·rw[HF.un_assoc,HF.un_assoc,HF.un_comm d2]
 ·simp only[Chg.loc]
  rcases at_ with ⟨e,f,g⟩ | ⟨e,f⟩
  ·exact .inl ⟨e,f,by simp only[Kd.size]; omega⟩
  ·exact .inr ⟨e,HF.has_un.2 (.inl f)⟩
 ·simp only[Chg.loc,Chg.get,Chg.getZ]
  obtain ⟨cb,tb,e,hh⟩:=lie
  exact ⟨cb,tb,by rw[←HF.un_assoc]; simp only[HF.un] at e ⊢; rw[e]; rfl,hh⟩
 ·simp only[Chg.loc,Chg.put,Chg.putZ]
  intro y zy hn hy hd
  rw[←HF.un_assoc] at hd
  obtain ⟨hd1,hd2⟩:=HF.un_dj.1 hd
  obtain ⟨p1,p2⟩:=put y zy hn hy hd1
  have hnb:¬h2.has (c.loc x.1 z.1 (b0,o0)).1:=by
   rcases at_ with ⟨e,_⟩ | ⟨_,f⟩
   ·rw[e]; exact hb
   ·exact HF.dj_iff.1 d1 _ f
  constructor
  ·refine ⟨_,h2,?_,?_,p1,ob⟩
   ·exact HF.un_dj.2 ⟨HF.upd_dj.2 d1,hd2.symm⟩
   ·rw[HF.upd_un,HF.upd_not hnb,HF.un_assoc,HF.un_assoc,HF.un_comm hd2]
  ·refine Lie.append p2 ?_
   rw[cells_length,←Chg.size_eq hs c]
   refine lie_ite (fun e=>?_) (fun e=>?_)
   ·refine Lie.wr_other hl2 (.inr ?_)
    rw[cells_length,←hs]
    rcases at_ with ⟨_,f,g⟩ | ⟨f,_⟩
    ·exact g
    ·exact absurd e f
   ·exact hl2
theorem spot_snd (hs:K1.size=K2.size) {a b b':Kd} (c:Chg K1 K2 b b') (x:(Kd.pair a b).T) (z:(Kd.pair a b).Z) (h1 h2:HF) (b0 o0:Nat) (c0:Array Value) (t0:TypeId) {hr ho:HF}
  (d:HF.dj h1 h2) (oa:a.Own Γ x.1 z.1 h1) (hl:Lie c0 o0 ((Kd.pair a b).cells x z)) (hb:¬h1.has b0)
  (s:Spot Γ c x.2 z.2 h2 b0 (o0+a.size) c0 t0 hr ho):Spot Γ (.snd c:Chg K1 K2 (.pair a b) (.pair a b')) x z (h1.un h2) b0 o0 c0 t0 (h1.un hr) ho:=by
 obtain ⟨dj,rfl,own,at_,lie,put⟩:=s
 obtain ⟨d1,d2⟩:=HF.dj_un.1 d
 have hl1:=Lie.left (a:=a.cells x.1 z.1) (b:=b.cells x.2 z.2) hl
 refine ⟨HF.un_dj.2 ⟨d2,dj⟩,(HF.un_assoc _ _ _).symm,by simpa only[Chg.get,Chg.getZ] using own,?_,?_,?_⟩
 ·simp only[Chg.loc]
  rcases at_ with ⟨e,f,g⟩ | ⟨e,f⟩
  ·exact .inl ⟨e,by omega,by simp only[Kd.size]; omega⟩
  ·exact .inr ⟨e,HF.has_un.2 (.inr f)⟩
 ·simp only[Chg.loc,Chg.get,Chg.getZ]
  obtain ⟨cb,tb,e,hh⟩:=lie
  refine ⟨cb,tb,?_,hh⟩
  have hnb:¬h1.has (c.loc x.2 z.2 (b0,o0+a.size)).1:=by
   rcases at_ with ⟨e,_⟩ | ⟨_,f⟩
   ·rw[e]; exact hb
   ·exact fun q=>HF.dj_iff.1 d1 _ q f
  have:h1 (c.loc x.2 z.2 (b0,o0+a.size)).1=none:=by simpa[HF.has] using hnb
  simp only[HF.un,this,none_or] at e ⊢
  exact e
 ·simp only[Chg.loc,Chg.put,Chg.putZ]
  intro y zy hn hy hd
  obtain ⟨hd0,hd12⟩:=HF.un_dj.1 hd
  obtain ⟨hd1,hd2⟩:=HF.un_dj.1 hd12
  obtain ⟨p1,p2⟩:=put y zy hn hy (HF.un_dj.2 ⟨hd0,hd2⟩)
  have hnb:¬h1.has (c.loc x.2 z.2 (b0,o0+a.size)).1:=by
   rcases at_ with ⟨e,_⟩ | ⟨_,f⟩
   ·rw[e]; exact hb
   ·exact fun q=>HF.dj_iff.1 d1 _ q f
  constructor
  ·refine ⟨h1,_,?_,?_,oa,p1⟩
   ·exact HF.dj_un.2 ⟨HF.dj_upd.2 d1,hd1⟩
   ·rw[HF.upd_un,HF.upd_not hnb,HF.un_assoc]
  ·refine Lie.append ?_ (by rw[cells_length]; exact p2)
   refine lie_ite (fun e=>?_) (fun e=>?_)
   ·refine Lie.wr_other hl1 (.inl ?_)
    rw[cells_length]
    rcases at_ with ⟨_,f,g⟩ | ⟨f,_⟩
    ·exact f
    ·exact absurd e f
   ·exact hl1
theorem each_put {Γ:HF} {K1 K2 e:Kd} {c:Chg K1 K2 e e} {x:e.T} {z:e.Z} {hi:HF} {b0 o0:Nat} {c0:Array Value} {t0:TypeId} {hr ho:HF}
  (s:Spot Γ c x z hi b0 o0 c0 t0 hr ho) {n i:Nat} {p q:Nat→HF→Prop} {hR:HF} (dR:HF.dj hR hi) (hb:¬hR.has b0)
  (put:∀(q:Nat→HF→Prop) (f:HF→HF) (_:∀j,j<n→j≠i→∀k,p j k→(∀b,k.has b→hR.has b)→q j (f k)) (_:∀a b,f (a.un b)=(f a).un (f b)) (_:f HF.emp=HF.emp) (_:∀a b,HF.dj a b→HF.dj (f a) (f b))
    (hn:HF),HF.dj (f hR) hn→q i hn→Each q n ((f hR).un hn))
  (y:K2.T) (zy:K2.Z) (hn:HF) (hy:K2.Own Γ y zy hn) (hd:HF.dj (HF.un (HF.one b0 c0 t0) (hR.un hr)) hn)
  (hq:∀j,j<n→j≠i→∀k,p j k→q j k)
  (hqi:∀k,e.Own Γ (c.put x y) (c.putZ x z zy) k→q i k) :
  Each q n (((hR.un hr).upd (c.loc x z (b0,o0)).1 (c.loc x z (b0,o0)).2 (K2.cells y zy)).un hn):=by
 obtain ⟨dj,rfl,own,at_,lie,put'⟩:=s
 obtain ⟨d1,d2⟩:=HF.dj_un.1 dR
 obtain ⟨hd0,hd12⟩:=HF.un_dj.1 hd
 obtain ⟨hd1,hd2⟩:=HF.un_dj.1 hd12
 obtain ⟨p1,_⟩:=put' y zy hn hy (HF.un_dj.2 ⟨hd0,hd2⟩)
 have hnb:¬hR.has (c.loc x z (b0,o0)).1:=by
  rcases at_ with ⟨e,_⟩ | ⟨_,f⟩
  ·rw[e]; exact hb
  ·exact fun q=>HF.dj_iff.1 d1 _ q f
 have:=put q (fun k=>k.upd (c.loc x z (b0,o0)).1 (c.loc x z (b0,o0)).2 (K2.cells y zy))
  (fun j hj hji k pk hk=>by
   have:¬k.has (c.loc x z (b0,o0)).1:=fun hh=>hnb (hk _ hh)
   simp only[HF.upd_not this]
   exact hq j hj hji k pk)
  (fun a b=>HF.upd_un) (HF.upd_not (by simp[HF.has,HF.emp])) (fun a b d=>HF.upd_dj.2 (HF.dj_upd.2 d))
  ((hr.upd (c.loc x z (b0,o0)).1 (c.loc x z (b0,o0)).2 (K2.cells y zy)).un hn)
  (HF.upd_dj.2 (HF.dj_un.2 ⟨HF.dj_upd.2 d1,hd1⟩)) (hqi _ p1)
 rw[HF.upd_un,HF.un_assoc]
 exact this
theorem spot_idx {Γ:HF} {K1 K2:Kd} (hs:K1.size=K2.size) {n:Nat} {e:Kd} (i:Nat) (hi:i<n) (c:Chg K1 K2 e e) (x:(Kd.arr n e).T) (z:(Kd.arr n e).Z) (h:HF) (b0 o0:Nat) (c0:Array Value) (t0:TypeId)
  (ho:(Kd.arr n e).Own Γ x z h) (hl:Lie c0 o0 ((Kd.arr n e).cells x z)) (hb:¬h.has b0)
  (sub:∀h',e.Own Γ (x.getD i e.dft) (z i) h'→Lie c0 (o0+i*e.size) (e.cells (x.getD i e.dft) (z i))→¬h'.has b0→∃hr ho,Spot Γ c (x.getD i e.dft) (z i) h' b0 (o0+i*e.size) c0 t0 hr ho) :
  ∃hr ho,Spot Γ (.idx i c:Chg K1 K2 (.arr n e) (.arr n e)) x z h b0 o0 c0 t0 hr ho:=by
 obtain ⟨hx,he⟩:=ho
 obtain ⟨hR,hi',dR,rfl,oi,put⟩:=Each.take hi he
 have hlf:=(lie_flat (c:=c0) (o:=o0) (n:=n) (s:=e.size) (f:=fun i=>e.cells (x.getD i e.dft) (z i)) (fun i=>cells_length e _ _)).1 hl
 obtain ⟨hr,ho,s⟩:=sub hi' oi (hlf i hi) (fun hh=>hb (HF.has_un.2 (.inr hh)))
 have hbR:¬hR.has b0:=fun hh=>hb (HF.has_un.2 (.inl hh))
 have s':=s
 obtain ⟨dj,rfl,own,at_,lie,put'⟩:=s
 obtain ⟨d1,d2⟩:=HF.dj_un.1 dR
 have hmul:i*e.size+e.size≤n*e.size:=by
  have:=mul_le_mul_right e.size (succ_le_of_lt hi)
  rw[succ_mul] at this
  exact this
 refine ⟨hR.un hr,ho,HF.un_dj.2 ⟨d2,dj⟩,(HF.un_assoc _ _ _).symm,by simpa only[Chg.get,Chg.getZ] using own,?_,?_,?_⟩
 ·simp only[Chg.loc]
  rcases at_ with ⟨e1,f,g⟩ | ⟨e1,f⟩
  ·exact .inl ⟨e1,by omega,by simp only[Kd.size]; omega⟩
  ·exact .inr ⟨e1,HF.has_un.2 (.inr f)⟩
 ·simp only[Chg.loc,Chg.get,Chg.getZ]
  obtain ⟨cb,tb,e1,hh⟩:=lie
  refine ⟨cb,tb,?_,hh⟩
  have hnb:¬hR.has (c.loc (x.getD i e.dft) (z i) (b0,o0+i*e.size)).1:=by
   rcases at_ with ⟨e,_⟩ | ⟨_,f⟩
   ·rw[e]; exact hbR
   ·exact fun q=>HF.dj_iff.1 d1 _ q f
  have:hR (c.loc (x.getD i e.dft) (z i) (b0,o0+i*e.size)).1=none:=by simpa[HF.has] using hnb
  simp only[HF.un,this,none_or] at e1 ⊢
  exact e1
 ·simp only[Chg.loc,Chg.put,Chg.putZ]
  intro y zy hn hy hd
  obtain ⟨_,p2⟩:=put' y zy hn hy (by
   obtain ⟨a,b⟩:=HF.un_dj.1 hd
   exact HF.un_dj.2 ⟨a,(HF.un_dj.1 b).2⟩)
  have hix:i<x.length:=by rw[hx]; exact hi
  constructor
  ·refine ⟨by rw[length_set]; exact hx,?_⟩
   refine each_put (c:=c) s' dR hbR put y zy hn hy hd ?_ ?_
   ·intro j hj hji k pk
    dsimp only
    rw[if_neg hji,getD_set_ne' (Ne.symm hji)]
    exact pk
   ·intro k hk
    dsimp only
    rw[if_pos rfl,getD_set_self hix]
    exact hk
  ·refine (lie_flat (s:=e.size) (fun i=>cells_length e _ _)).2 ?_
   intro j hj
   by_cases hji:j=i
   ·subst hji
    rw[if_pos rfl,getD_set_self hix]
    exact p2
   ·skip
    rw[if_neg hji,getD_set_ne' (Ne.symm hji)]
    refine lie_ite (fun e1=>?_) (fun e1=>hlf j hj)
    refine Lie.wr_other (hlf j hj) ?_
    rw[cells_length,cells_length,←hs]
    rcases at_ with ⟨_,f,g⟩ | ⟨f,_⟩
    ·rcases Nat.lt_or_ge j i with q | q
     ·have:=mul_le_mul_right e.size (succ_le_of_lt q)
      rw[succ_mul] at this
      exact .inl (by omega)
     ·have:=mul_le_mul_right e.size (succ_le_of_lt (show i<j by omega))
      rw[succ_mul] at this
      exact .inr (by omega)
    ·exact absurd e1 f
end
theorem one_upd {b:Nat} {c:Array Value} {t:TypeId} {l:Nat×Nat} {vs:List Value}:(HF.one b c t).upd l.1 l.2 vs=HF.one b (wrIf b c l vs) t:=by
 by_cases h:l.1=b
 ·rw[wrIf_pos h,h,HF.upd_one]
 ·rw[wrIf_neg h,HF.upd_not]
  rw[HF.has_one]
  exact h
theorem wrIf_size {b:Nat} {c:Array Value} {l:Nat×Nat} {vs:List Value}:(wrIf b c l vs).size=c.size:=by
 unfold wrIf
 split
 ·exact wr_size _ _ _
 ·rfl
theorem spot_sidx {Γ:HF} {K1 K2:Kd} (hs:K1.size=K2.size) {t:TypeId} {e:Kd} {hole:Option Nat} (i:Nat) (c:Chg K1 K2 e e) (x:List e.T) (zo:Option (Nat×Nat×Nat)) (zf:Nat→e.Z) (h:HF) (b0 o0:Nat) (c0:Array Value) (t0:TypeId)
  (hi:i<x.length) (hh:hole≠some i) (ho:(Kd.sl true t e hole).Own Γ x (zo,zf) h) (hl:Lie c0 o0 ((Kd.sl true t e hole).cells x (zo,zf))) (hb:¬h.has b0)
  (sub:∀b o c1 h',e.Own Γ (x.getD i e.dft) (zf i) h'→Lie c1 o (e.cells (x.getD i e.dft) (zf i))→¬h'.has b→∃hr ho,Spot Γ c (x.getD i e.dft) (zf i) h' b o c1 t hr ho) :
  ∃hr ho,Spot Γ (.sidx i c:Chg K1 K2 (.sl true t e hole) (.sl true t e hole)) x (zo,zf) h b0 o0 c0 t0 hr ho:=by
 cases zo with
 |none=>obtain ⟨hx,_⟩:=ho; rw[hx] at hi; simp at hi
 |some q =>
 obtain ⟨b,off,cap⟩:=q
 obtain ⟨cc,h2,hle,hcap,hfit,hlies,he,hd0⟩:=ho
 simp only[if_true] at hd0
 obtain ⟨hd0,rfl⟩:=hd0
 obtain ⟨hR,hi',dR,rfl,oi,put⟩:=Each.take hi he
 rw[if_neg hh] at oi
 obtain ⟨dbR,dbi⟩:=HF.dj_un.1 hd0
 have hbi:¬hi'.has b:=fun q=>HF.dj_iff.1 dbi b (HF.has_one.2 rfl) q
 have hbR:¬hR.has b:=fun q=>HF.dj_iff.1 dbR b (HF.has_one.2 rfl) q
 obtain ⟨hr,ho,s⟩:=sub b (off+i*e.size) cc hi' oi (hlies i hi) hbi
 have s':=s
 obtain ⟨dj,rfl,own,at_,lie,put'⟩:=s
 obtain ⟨d1,d2⟩:=HF.dj_un.1 dR
 obtain ⟨e1,e2⟩:=HF.dj_un.1 dbi
 have hne:(c.loc (x.getD i e.dft) (zf i) (b,off+i*e.size)).1≠b0:=by
  intro hq
  refine hb ?_
  rw[←hq]
  rcases at_ with ⟨g,_⟩ | ⟨_,g⟩
  ·rw[g]; exact HF.has_un.2 (.inl (HF.has_one.2 rfl))
  ·exact HF.has_un.2 (.inr (HF.has_un.2 (.inr (HF.has_un.2 (.inl g)))))
 have hnR:¬hR.has (c.loc (x.getD i e.dft) (zf i) (b,off+i*e.size)).1:=by
  rcases at_ with ⟨g,_⟩ | ⟨_,g⟩
  ·rw[g]; exact hbR
  ·exact fun q=>HF.dj_iff.1 d1 _ q g
 refine ⟨(HF.one b cc t).un (hR.un hr),ho,?_,?_,by simpa only[Chg.get,Chg.getZ] using own,?_,?_,?_⟩
 ·exact HF.un_dj.2 ⟨e2,HF.un_dj.2 ⟨d2,dj⟩⟩
 ·simp only[HF.un_assoc]
 ·simp only[Chg.loc]
  refine .inr ⟨hne,?_⟩
  rcases at_ with ⟨g,_⟩ | ⟨_,g⟩
  ·rw[g]; exact HF.has_un.2 (.inl (HF.has_one.2 rfl))
  ·exact HF.has_un.2 (.inr (HF.has_un.2 (.inr g)))
 ·simp only[Chg.loc,Chg.get,Chg.getZ]
  obtain ⟨cb,tb,e3,hh⟩:=lie
  refine ⟨cb,tb,?_,hh⟩
  have h1:hR (c.loc (x.getD i e.dft) (zf i) (b,off+i*e.size)).1=none:=by simpa[HF.has] using hnR
  have h2:(HF.one b0 c0 t0) (c.loc (x.getD i e.dft) (zf i) (b,off+i*e.size)).1=none:=if_neg hne
  simp only[HF.un,h1,h2,none_or] at e3 ⊢
  exact e3
 ·simp only[Chg.loc,Chg.put,Chg.putZ]
  intro y zy hn hy hd
  obtain ⟨hdz,hdy⟩:=HF.un_dj.1 hd
  obtain ⟨hdb,hdR⟩:=HF.un_dj.1 hdy
  obtain ⟨_,p2⟩:=put' y zy hn hy (HF.un_dj.2 ⟨hdb,(HF.un_dj.1 hdR).2⟩)
  constructor
  ·refine ⟨wrIf b cc (c.loc (x.getD i e.dft) (zf i) (b,off+i*e.size)) (K2.cells y zy),((hR.un hr).upd (c.loc (x.getD i e.dft) (zf i) (b,off+i*e.size)).1 (c.loc (x.getD i e.dft) (zf i) (b,off+i*e.size)).2 (K2.cells y zy)).un hn,?_,hcap,by rw[wrIf_size]; exact hfit,?_,?_,?_⟩
   ·rw[length_set]; exact hle
   ·intro j hj
    rw[length_set] at hj
    by_cases hji:j=i
    ·subst hji
     try dsimp only
     rw[if_pos rfl,getD_set_self hi]
     exact p2
    ·try dsimp only
     rw[if_neg hji,getD_set_ne' (Ne.symm hji)]
     refine lie_ite (fun g1=>?_) (fun _=>hlies j hj)
     refine Lie.wr_other (hlies j hj) ?_
     rw[cells_length,cells_length,←hs]
     rcases at_ with ⟨_,f,g⟩ | ⟨f,_⟩
     ·rcases Nat.lt_or_ge j i with q | q
      ·have:=mul_le_mul_right e.size (succ_le_of_lt q)
       rw[succ_mul] at this
       exact .inl (by omega)
      ·have:=mul_le_mul_right e.size (succ_le_of_lt (show i<j by omega))
       rw[succ_mul] at this
       exact .inr (by omega)
     ·exact absurd g1 f
   ·rw[length_set]
    refine each_put (c:=c) s' dR hbR put y zy hn hy (HF.un_dj.2 ⟨hdb,hdR⟩) ?_ ?_
    ·intro j hj hji k pk
     try dsimp only
     rw[if_neg hji,getD_set_ne' (Ne.symm hji)]
     exact pk
    ·intro k hk
     try dsimp only
     rw[if_neg hh,if_pos rfl,getD_set_self hi]
     exact hk
   ·simp only[if_true]
    have hone:=one_upd (b:=b) (c:=cc) (t:=t) (l:=c.loc (x.getD i e.dft) (zf i) (b,off+i*e.size)) (vs:=K2.cells y zy)
    have d3:HF.dj (HF.one b cc t) (hR.un hr):=HF.dj_un.2 ⟨dbR,e1⟩
    refine ⟨?_,?_⟩
    ·rw[←hone]
     exact HF.dj_un.2 ⟨HF.upd_dj.2 (HF.dj_upd.2 d3),HF.upd_dj.2 hdb⟩
    ·rw[←hone,HF.upd_un,HF.un_assoc]
  ·rw[wrIf_neg hne]
   simp only[Kd.cells,length_set] at hl ⊢
   exact hl
theorem getElem?_zero_getD {α:Type} {l:List α} (h:0<l.length) (d:α):l[0]? = some (l.getD 0 d):=by
 cases l with
 |nil=>simp at h
 |cons a l=>rfl
theorem spot_take {Γ:HF} {K1 K2:Kd} (hs:K1.size=K2.size) {t:TypeId} (i:Nat) (hk:K2=.un) (x:List K1.T) (zo:Option (Nat×Nat×Nat)) (zf:Nat→K1.Z) (h:HF) (b0 o0:Nat) (c0:Array Value) (t0:TypeId)
  (hi:i<x.length) (ho:(Kd.sl true t K1 none).Own Γ x (zo,zf) h) :
  ∃hr ho b off cap cc,zo=some (b,off,cap)∧HF.dj hr ho∧h=hr.un ho∧K1.Own Γ (x.getD i K1.dft) (zf i) ho∧hr.has b∧hr b=some (.cel cc t)∧Lie cc (off+i*K1.size) (K1.cells (x.getD i K1.dft) (zf i)) ∧
   (Kd.sl true t K1 (some i)).Own Γ x (zo,zf) hr:=by
 cases zo with
 |none=>obtain ⟨hx,_⟩:=ho; rw[hx] at hi; simp at hi
 |some q =>
 obtain ⟨b,off,cap⟩:=q
 obtain ⟨cc,h2,hle,hcap,hfit,hlies,he,hd0⟩:=ho
 simp only[if_true] at hd0
 obtain ⟨hd0,rfl⟩:=hd0
 obtain ⟨hR,hi',dR,rfl,oi,put⟩:=Each.take hi he
 rw[if_neg (by simp)] at oi
 obtain ⟨dbR,dbi⟩:=HF.dj_un.1 hd0
 refine ⟨(HF.one b cc t).un hR,hi',b,off,cap,cc,rfl,HF.un_dj.2 ⟨dbi,dR⟩,(HF.un_assoc _ _ _).symm,oi,HF.has_un.2 (.inl (HF.has_one.2 rfl)),one_self,hlies i hi,cc,hR,hle,hcap,hfit,hlies,?_,?_⟩
 ·have:=put (fun j hj=>if some i=some j then hj=HF.emp else K1.Own Γ (x.getD j K1.dft) (zf j) hj) id (fun j hj hji k pk _=>by
   rw[if_neg (by simp)] at pk
   rw[if_neg (by simp; exact fun q=>hji q.symm)]
   exact pk) (fun _ _=>rfl) rfl (fun _ _ d=>d) HF.emp (HF.dj_emp _) (by rw[if_pos rfl])
  simpa only[id,HF.un_emp] using this
 ·simp only[if_true]
  exact ⟨dbR,trivial⟩
theorem spot_fill {Γ:HF} {K1 K2:Kd} (hs:K1.size=K2.size) {t:TypeId} (i:Nat) (hk:K1=.un) (x:List K2.T) (zo:Option (Nat×Nat×Nat)) (zf:Nat→K2.Z) (h:HF) (b0 o0:Nat) (c0:Array Value) (t0:TypeId)
  (hi:i<x.length) (ho:(Kd.sl true t K2 (some i)).Own Γ x (zo,zf) h) (hl:Lie c0 o0 ((Kd.sl true t K2 (some i)).cells x (zo,zf))) (hb:¬h.has b0) :
  Spot Γ (.fill i hk:Chg K1 K2 (.sl true t K2 (some i)) (.sl true t K2 none)) x (zo,zf) h b0 o0 c0 t0 h HF.emp:=by
 subst hk
 cases zo with
 |none=>obtain ⟨hx,_⟩:=ho; rw[hx] at hi; simp at hi
 |some q =>
 obtain ⟨b,off,cap⟩:=q
 obtain ⟨cc,h2,hle,hcap,hfit,hlies,he,hd0⟩:=ho
 simp only[if_true] at hd0
 obtain ⟨hd0,rfl⟩:=hd0
 have hs1:K2.size=1:=hs.symm
 have hbe:b≠b0:=fun q=>hb (HF.has_un.2 (.inl (HF.has_one.2 q.symm)))
 have hb2:¬h2.has b:=fun q=>HF.dj_iff.1 hd0 b (HF.has_one.2 rfl) q
 refine ⟨HF.dj_emp _,(HF.un_emp _).symm,rfl,?_,?_,?_⟩
 ·simp only[Chg.loc]
  exact .inr ⟨hbe,HF.has_un.2 (.inl (HF.has_one.2 rfl))⟩
 ·simp only[Chg.loc,Chg.get,Chg.getZ]
  refine ⟨cc,t,?_,?_⟩
  ·simp[HF.un,HF.one,hbe]
  ·intro j hj
   simp only[Kd.cells,List.length_singleton] at hj
   obtain rfl:j=0:=by omega
   have:=hlies i hi 0 (by rw[cells_length,hs1]; omega)
   rw[this]
   exact getElem?_zero_getD (by rw[cells_length,hs1]; omega) undef
 ·simp only[Chg.loc,Chg.put,Chg.putZ]
  intro y zy hn hy hd
  obtain ⟨hdz,hdy⟩:=HF.un_dj.1 hd
  obtain ⟨hdb,hd2⟩:=HF.un_dj.1 hdy
  constructor
  ·refine ⟨wrIf b cc (b,off+i*K2.size) (K2.cells y zy),h2.un hn,?_,hcap,by rw[wrIf_size]; exact hfit,?_,?_,?_⟩
   ·rw[length_set]; exact hle
   ·intro j hj
    rw[length_set] at hj
    rw[wrIf_pos (at_:=(b,off+i*K2.size)) rfl]
    by_cases hji:j=i
    ·subst hji
     try dsimp only
     rw[if_pos rfl,getD_set_self hi]
     refine Lie.wr_self (.inr ?_)
     rw[cells_length]
     have:=(hlies j hi).fits (by rw[cells_length,hs1]; omega)
     rwa [cells_length] at this
    ·try dsimp only
     rw[if_neg hji,getD_set_ne' (Ne.symm hji)]
     refine Lie.wr_other (hlies j hj) ?_
     rw[cells_length,cells_length,hs1]
     omega
   ·rw[length_set]
    obtain ⟨hR,hi',dR,rfl,oi,put⟩:=Each.take hi he
    rw[if_pos rfl] at oi
    subst oi
    rw[HF.un_emp] at hd2 ⊢
    exact put (fun j hj=>if none=some j then hj=HF.emp else K2.Own Γ ((x.set i y).getD j K2.dft) (if j=i then zy else zf j) hj) id (fun j hj hji k pk _=>by
     try dsimp only at pk ⊢
     rw[if_neg (by simp; exact fun q=>hji q.symm)] at pk
     rw[if_neg (by simp),if_neg hji,getD_set_ne' (Ne.symm hji)]
     exact pk) (fun _ _=>rfl) rfl (fun _ _ d=>d) hn hd2 (by
      try dsimp only
      rw[if_neg (by simp),if_pos rfl,getD_set_self hi]
      exact hy)
   ·simp only[if_true]
    rw[wrIf_pos (at_:=(b,off+i*K2.size)) rfl]
    refine ⟨?_,?_⟩
    ·refine HF.dj_un.2 ⟨?_,?_⟩
     ·rw[←HF.upd_one]; exact HF.upd_dj.2 hd0
     ·rw[←HF.upd_one]; exact HF.upd_dj.2 hdb
    ·rw[HF.upd_un,HF.upd_one,HF.upd_not hb2,HF.un_assoc]
  ·rw[wrIf_neg hbe]
   simp only[Kd.cells,length_set] at hl ⊢
   exact hl
def Chg.writes {K1 K2:Kd}:{K K':Kd}→Chg K1 K2 K K'→Bool
 |_,_,.nil=>true
 |_,_,.fst c=>c.writes
 |_,_,.snd c=>c.writes
 |_,_,.idx _ c=>c.writes
 |_,_,.sidx _ c=>c.writes
 |_,_,.take _ _=>false
 |_,_,.fill _ _=>true
theorem chg_own {Γ:HF} {K1 K2:Kd} (hs:K1.size=K2.size) {K K':Kd} (c:Chg K1 K2 K K'):∀(x:K.T) (z:K.Z) (h:HF) (b0 o0:Nat) (c0:Array Value) (t0:TypeId),
  c.writes=true→c.valid x→K.Own Γ x z h→Lie c0 o0 (K.cells x z)→¬h.has b0→∃hr ho,Spot Γ c x z h b0 o0 c0 t0 hr ho:=by
 induction c with
 |nil=>intro x z h b0 o0 c0 t0 hw hv ho hl hb; exact ⟨_,_,spot_nil hs x z h b0 o0 c0 t0 ho hl⟩
 |@fst a a' b c ih =>
  intro x z h b0 o0 c0 t0 hw hv ho hl hb
  obtain ⟨h1,h2,d,rfl,oa,ob⟩:=ho
  have hl1:=Lie.left (a:=a.cells x.1 z.1) (b:=b.cells x.2 z.2) hl
  obtain ⟨hr,hq,s⟩:=ih x.1 z.1 h1 b0 o0 c0 t0 hw hv oa hl1 (fun hh=>hb (HF.has_un.2 (.inl hh)))
  exact ⟨_,_,spot_fst hs c x z h1 h2 b0 o0 c0 t0 d ob hl (fun hh=>hb (HF.has_un.2 (.inr hh))) s⟩
 |@snd a b b' c ih =>
  intro x z h b0 o0 c0 t0 hw hv ho hl hb
  obtain ⟨h1,h2,d,rfl,oa,ob⟩:=ho
  have hl2:=Lie.right (a:=a.cells x.1 z.1) (b:=b.cells x.2 z.2) hl
  rw[cells_length] at hl2
  obtain ⟨hr,hq,s⟩:=ih x.2 z.2 h2 b0 (o0+a.size) c0 t0 hw hv ob hl2 (fun hh=>hb (HF.has_un.2 (.inr hh)))
  exact ⟨_,_,spot_snd hs c x z h1 h2 b0 o0 c0 t0 d oa hl (fun hh=>hb (HF.has_un.2 (.inl hh))) s⟩
 |@idx n e i c ih =>
  intro x z h b0 o0 c0 t0 hw hv ho hl hb
  exact spot_idx hs i hv.1 c x z h b0 o0 c0 t0 ho hl hb (fun h' o1 l1 b1=>ih _ _ h' b0 _ c0 t0 hw hv.2 o1 l1 b1)
 |@sidx t e hole i c ih =>
  intro x z h b0 o0 c0 t0 hw hv ho hl hb
  exact spot_sidx hs i c x z.1 z.2 h b0 o0 c0 t0 hv.1 hv.2.1 ho hl hb (fun b o c1 h' o1 l1 b1=>ih _ _ h' b o c1 t hw hv.2.2 o1 l1 b1)
 |take i hk=>intro x z h b0 o0 c0 t0 hw; cases hw
 |fill i hk=>intro x z h b0 o0 c0 t0 hw hv ho hl hb; exact ⟨_,_,spot_fill hs i hk x z.1 z.2 h b0 o0 c0 t0 hv ho hl hb⟩
inductive Tk (K1:Kd):Kd→Kd→Type where
 |nil:Tk K1 K1 .un
 |fst {a a' b:Kd} (c:Tk K1 a a'):Tk K1 (.pair a b) (.pair a' b)
 |snd {a b b':Kd} (c:Tk K1 b b'):Tk K1 (.pair a b) (.pair a b')
 |take {t:TypeId} (i:Nat):Tk K1 (.sl true t K1 none) (.sl true t K1 (some i))
namespace Tk
variable {K1:Kd}
def get:{K K':Kd}→Tk K1 K K'→K.T→K1.T
 |_,_,.nil,x=>x
 |_,_,.fst c,x=>c.get x.1
 |_,_,.snd c,x=>c.get x.2
 |_,_,.take i,x=>x.getD i K1.dft
def getZ:{K K':Kd}→Tk K1 K K'→K.Z→K1.Z
 |_,_,.nil,z=>z
 |_,_,.fst c,z=>c.getZ z.1
 |_,_,.snd c,z=>c.getZ z.2
 |_,_,.take i,z=>z.2 i
def rest:{K K':Kd}→Tk K1 K K'→K.T→K'.T
 |_,_,.nil,_=>()
 |_,_,.fst c,x=>(c.rest x.1,x.2)
 |_,_,.snd c,x=>(x.1,c.rest x.2)
 |_,_,.take _,x=>x
def restZ:{K K':Kd}→Tk K1 K K'→K.T→K.Z→K'.Z
 |_,_,.nil,x,z=>(K1.cells x z).getD 0 undef
 |_,_,.fst c,x,z=>(c.restZ x.1 z.1,z.2)
 |_,_,.snd c,x,z=>(z.1,c.restZ x.2 z.2)
 |_,_,.take _,_,z=>z
def valid:{K K':Kd}→Tk K1 K K'→K.T→Prop
 |_,_,.nil,_=>True
 |_,_,.fst c,x=>c.valid x.1
 |_,_,.snd c,x=>c.valid x.2
 |_,_,.take i,x=>i<x.length
end Tk
theorem tk_own {Γ:HF} {K1:Kd} (hs:K1.size=1) {K K':Kd} (c:Tk K1 K K'):∀(x:K.T) (z:K.Z) (h:HF),c.valid x→K.Own Γ x z h →
  ∃hr ho,HF.dj hr ho∧h=hr.un ho∧K1.Own Γ (c.get x) (c.getZ z) ho∧K'.Own Γ (c.rest x) (c.restZ x z) hr∧K'.cells (c.rest x) (c.restZ x z)=K.cells x z:=by
 induction c with
 |nil =>
  intro x z h hv ho
  refine ⟨HF.emp,h,HF.emp_dj _,(HF.emp_un _).symm,by simpa only[Tk.get,Tk.getZ] using ho,rfl,?_⟩
  simp only[Tk.rest,Tk.restZ,Kd.cells]
  have hl:=cells_length K1 x z
  rw[hs] at hl
  match hc:K1.cells x z,hl with
  | [v],_=>rfl
 |@fst a a' b c ih =>
  intro x z h hv ho
  obtain ⟨h1,h2,d,rfl,oa,ob⟩:=ho
  obtain ⟨hr,hq,d1,rfl,o1,o2,ec⟩:=ih x.1 z.1 h1 hv oa
  obtain ⟨d2,d3⟩:=HF.un_dj.1 d
  refine ⟨hr.un h2,hq,HF.un_dj.2 ⟨d1,d3.symm⟩,?_,by simpa only[Tk.get,Tk.getZ] using o1,⟨hr,h2,d2,rfl,o2,ob⟩,?_⟩
  ·rw[HF.un_assoc,HF.un_assoc,HF.un_comm d3]
  ·simp only[Tk.rest,Tk.restZ,Kd.cells,ec]
 |@snd a b b' c ih =>
  intro x z h hv ho
  obtain ⟨h1,h2,d,rfl,oa,ob⟩:=ho
  obtain ⟨hr,hq,d1,rfl,o1,o2,ec⟩:=ih x.2 z.2 h2 hv ob
  obtain ⟨d2,d3⟩:=HF.dj_un.1 d
  refine ⟨h1.un hr,hq,HF.un_dj.2 ⟨d3,d1⟩,(HF.un_assoc _ _ _).symm,by simpa only[Tk.get,Tk.getZ] using o1,⟨h1,hr,d2,rfl,oa,o2⟩,?_⟩
  simp only[Tk.rest,Tk.restZ,Kd.cells,ec]
 |@take t i =>
  intro x z h hv ho
  obtain ⟨hr,hq,b,off,cap,cc,e1,d1,e2,o1,_,_,_,o2⟩:=spot_take (K2:=.un) (by rw[hs]; rfl) i rfl x z.1 z.2 h 0 0 #[] 0 hv ho
  exact ⟨hr,hq,d1,e2,o1,o2,rfl⟩
inductive Sel where
 |fst | snd | idx (i:Nat)
 deriving Inhabited
inductive SV where
 |val (K:Kd) (x:K.T)
 |ptr (id:Nat) (p:List Sel)
 |at (id:Nat) (p:List Sel)
 |slc (id:Nat) (p:List Sel) (off len:Nat)
 |eptr (K:Kd) (x:K.T)
 |nilS | nilP
 |clo (f:Nat) (caps:List Nat)
 |bnd (f:Nat) (K:Kd) (x:K.T)
inductive AV where
 |one (v:SV)
 |tup (l:List SV)
structure Ck where
 box:Option TypeId
 K:Kd
 x:K.T
structure RC where
 box:Option (Nat×TypeId)
 K:Kd
 x:K.T
 z:K.Z
def RC.ck (r:RC):Ck:=⟨r.box.map (·.2),r.K,r.x⟩
structure St where
 tm:List (Nat×AV)
 ck:List (Nat×Ck)
def single:Kd→Bool
 |.pair _ _ | .arr _ _ | .unit | .tree _ _=>false
 |_=>true
def toV (K:Kd) (cs:List Value):Value:=if single K then cs.getD 0 undef else .agg cs.toArray
def RC.Own (Γ:HF) (r:RC) (h:HF):Prop :=
 match r.box with
 |some (b,t)=>∃c h2,HF.dj (HF.one b c t) h2∧h=HF.un (HF.one b c t) h2∧r.K.Own Γ r.x r.z h2∧c.toList=r.K.cells r.x r.z
 |none=>r.K.Own Γ r.x r.z h
def Star (Γ:HF):List (Nat×RC)→HF→Prop
 | [],h=>h=HF.emp
 |r::l,h=>∃h1 h2,HF.dj h1 h2∧h=HF.un h1 h2∧r.2.Own Γ h1∧Star Γ l h2
def sub:Kd→List Sel→Option Kd
 |K,[]=>some K
 |.pair a _,.fst::p=>sub a p
 |.pair _ b,.snd::p=>sub b p
 |.arr _ e,.idx _::p=>sub e p
 |.sl true _ e none,.idx _::p=>sub e p
 |.sl true _ e (some _),[.idx _]=>if e.size=1 then some .un else none
 |_,_::_=>none
def thru:Kd→List Sel→Bool
 |.pair a _,.fst::p=>thru a p
 |.pair _ b,.snd::p=>thru b p
 |.arr _ e,.idx _::p=>thru e p
 |.sl true _ _ _,.idx _::_=>true
 |_,_=>false
def getP:(K:Kd)→K.T→List Sel→Option ((K':Kd)×K'.T)
 |K,x,[]=>some ⟨K,x⟩
 |.pair a _,x,.fst::p=>getP a x.1 p
 |.pair _ b,x,.snd::p=>getP b x.2 p
 |.arr _ e,x,.idx i::p=>getP e (getD x i e.dft) p
 |.sl true _ e none,x,.idx i::p=>getP e (getD x i e.dft) p
 |.sl true _ e (some _),_,[.idx _]=>if e.size=1 then some ⟨.un,()⟩ else none
 |_,_,_::_=>none
structure At where
 K:Kd
 x:K.T
 z:K.Z
 a:Nat×Nat
def pl:(K:Kd)→K.T→K.Z→List Sel→Nat×Nat→Option At
 |K,x,z,[],a=>some ⟨K,x,z,a⟩
 |.pair k _,x,z,.fst::p,a=>pl k x.1 z.1 p a
 |.pair k b,x,z,.snd::p,a=>pl b x.2 z.2 p (a.1,a.2+k.size)
 |.arr n e,x,z,.idx i::p,a=>if i<n then pl e (getD x i e.dft) (z i) p (a.1,a.2+i*e.size) else none
 |.sl true _ e none,x,z,.idx i::p,_ =>
  match z.1 with
  |some (b,o,_)=>if i<length x then pl e (getD x i e.dft) (z.2 i) p (b,o+i*e.size) else none
  |none=>none
 |.sl true _ e (some _),x,z,[.idx i],_ =>
  match z.1 with
  |some (b,o,_)=>if i<length x∧e.size=1 then some ⟨.un,(),(e.cells (getD x i e.dft) (z.2 i)).getD 0 undef,(b,o+i*e.size)⟩ else none
  |none=>none
 |_,_,_,_::_,_=>none
def look {α:Type}:List (Nat×α)→Nat→Option α
 | [],_=>none
 |(k,v)::l,n=>if k==n then some v else look l n
def del {α:Type} (l:List (Nat×α)) (n:Nat):List (Nat×α):=l.filter fun x=>x.1 != n
theorem look_mem {α:Type} {l:List (Nat×α)} {n:Nat} {v:α} (h:look l n=some v):(n,v)∈l:=by
 induction l with
 |nil=>cases h
 |cons a l ih =>
  obtain ⟨k,u⟩:=a
  simp only[look] at h
  split at h
  ·rename_i e
   simp at e h
   subst e; subst h
   exact mem_cons_self
  ·exact mem_cons_of_mem _ (ih h)
def SV.is (Γ:HF) (rcs:List (Nat×RC)) (v:Value):SV→Prop
 |.val K x=>K.free=true∧∃z,K.Own Γ x z HF.emp∧v=toV K (K.cells x z)
 |.ptr id p=>∃r q,look rcs id=some r∧pl r.K r.x r.z p ((r.box.getD (0,0)).1,0)=some q∧(r.box=none→thru r.K p=true)∧v=.pointer (some ⟨q.a.1,q.a.2,none⟩)
 |.at id p=>∃r q,look rcs id=some r∧pl r.K r.x r.z p ((r.box.getD (0,0)).1,0)=some q∧v=toV q.K (q.K.cells q.x q.z)
 |.slc id p off len=>∃r t e hole x' z' a,look rcs id=some r∧pl r.K r.x r.z p ((r.box.getD (0,0)).1,0)=some ⟨.sl true t e hole,x',z',a⟩∧off+len≤length x' ∧
   ((len=0∧(v=.slice none 0 0∨∃b o cap off2 cap2,z'.1=some (b,o,cap)∧v=.slice (some ⟨b,off2,none⟩) 0 cap2∧cap2≤cap∧off2+cap2*e.size≤o+cap*e.size))∨∃b o cap,z'.1=some (b,o,cap)∧v=.slice (some ⟨b,o+off*e.size,none⟩) len (cap-off))
 |.eptr K x=>K.free=true∧∃z b o c t,K.Own Γ x z HF.emp∧Γ b=some (.cel c t)∧Lie c o (K.cells x z)∧v=.pointer (some ⟨b,o,none⟩)
 |.nilS=>v=.slice none 0 0
 |.nilP=>v=.pointer none
 |.bnd f K x=>K.free=true∧∃z,K.Own HF.emp x z HF.emp∧v=.func (.func f) #[toV K (K.cells x z)] #[]
 |.clo f caps=>∃vs:List Value,v=.func (.func f) #[] vs.toArray∧vs.length=caps.length∧∀(i id:Nat),caps[i]? = some id→∃r b t,look rcs id=some r∧r.box=some (b,t)∧vs[i]? = some (.pointer (some ⟨b,0,none⟩))
def AV.is (Γ:HF) (rcs:List (Nat×RC)) (v:Value):AV→Prop
 |.one s=>s.is Γ rcs v
 |.tup l=>∃vs:List Value,v=.tuple vs.toArray∧vs.length=l.length∧∀(i:Nat) (s:SV),l[i]? = some s→∃u,vs[i]? = some u∧s.is Γ rcs u
structure Ent where
 id:Option Nat
 b:Nat
 ob:Option Obj
structure Lim where
 n:Nat
 lo:Nat
 nb:Bool
 hz:Bool
 fz:List Nat
 kd:List (Nat×Kd)
structure Fr where
 w0:World
 lent:HF
 Γ0:HF
 n:Lim
 B:List Ent
 M:List (Nat×Value)
 /-- Read, and never written again. -/
 G:List (Nat×Array Value×TypeId)
 hM:∀m∈M,(m.1<n.lo∨n.n≤m.1)∧m.1<1000000
def Ent.ok (e:Ent) (w:World) (rcs:List (Nat×RC)):Prop:=(w.heap[e.b]? = e.ob∧e.b<w.heap.size)∧∀id,e.id=some id→∃r t,look rcs id=some r∧r.box=some (e.b,t)
def RC.head (r:RC):Value:=match r.box with
 |some (b,_)=>.pointer (some ⟨b,0,none⟩)
 |none=>toV r.K (r.K.cells r.x r.z)
structure Good (F:Fr) (s:St) (a:Act) (w:World) (Γ:HF) (rcs:List (Nat×RC)) (h:HF):Prop where
 ck:rcs.map (fun r=>(r.1,r.2.ck))=s.ck
 nodup:(rcs.map (·.1)).Nodup
 star:Star Γ rcs h
 mem:Mem h w
 memR:MemR Γ w
 dj:HF.dj Γ h
 defers:a.defers=[]
 tsz:a.tmps.size=F.n.n
 tm:∀t av,(t,av)∈s.tm→∃v,a.tmps[t]? = some v∧av.is Γ rcs v
 size:F.w0.heap.size≤w.heap.size
 keep:∀b,b<F.w0.heap.size→¬F.lent.has b→w.heap[b]? = F.w0.heap[b]?
 own:∀b,h.has b→F.lent.has b∨F.w0.heap.size≤b
 ro:∀b,Γ.has b→F.Γ0.has b∨F.lent.has b∨F.w0.heap.size≤b
 ro0:∀b x,F.Γ0 b=some x→Γ b=some x
 os:w.os=F.w0.os
 tape:w.tape=F.w0.tape
 output:w.output=F.w0.output
 sg:∀x∈F.G,Γ x.1=some (.cel x.2.1 x.2.2)
 bx:∀e∈F.B,e.ok w rcs
 md:∀m∈F.M,∀r,look rcs m.1=some r→r.head=m.2
def R (F:Fr) (s:St) (a:Act) (w:World):Prop:=∃Γ rcs h,Good F s a w Γ rcs h
theorem Mem.drew {h:HF} {w:World} (m:Mem h w):Mem h w.drew:=m
theorem Good.drew {F:Fr} {s:St} {a:Act} {w:World} {Γ:HF} {rcs:List (Nat×RC)} {h:HF} (g:Good F s a w Γ rcs h):Good F s a w.drew Γ rcs h :=
 ⟨g.ck,g.nodup,g.star,g.mem,g.memR,g.dj,g.defers,g.tsz,g.tm,g.size,g.keep,g.own,g.ro,g.ro0,g.os,g.tape,g.output,g.sg,g.bx,g.md⟩
theorem R.drew {F:Fr} {s:St} {a:Act} {w:World} (r:R F s a w):R F s a w.drew:=let ⟨Γ,rcs,h,g⟩:=r; ⟨Γ,rcs,h,g.drew⟩
theorem R.weaken {F:Fr} {s:St} {a:Act} {w:World} {tm:List (Nat×AV)} (r:R F s a w) (h:∀x,x∈tm→x∈s.tm):R F ⟨tm,s.ck⟩ a w :=
 let ⟨Γ,rcs,hh,g⟩:=r
 ⟨Γ,rcs,hh,g.ck,g.nodup,g.star,g.mem,g.memR,g.dj,g.defers,g.tsz,fun t av hm=>g.tm t av (h _ hm),g.size,g.keep,g.own,g.ro,g.ro0,g.os,g.tape,g.output,g.sg,g.bx,g.md⟩
theorem Good.put {F:Fr} {s:St} {a:Act} {w:World} {Γ:HF} {rcs:List (Nat×RC)} {h:HF} (g:Good F s a w Γ rcs h) {d:Nat} (hd:d<F.n.n) {v:Value} {av:AV} (hv:av.is Γ rcs v) :
  Good F ⟨(d,av)::del s.tm d,s.ck⟩ (a.put (some d) v) w Γ rcs h :=
 ⟨g.ck,g.nodup,g.star,g.mem,g.memR,g.dj,g.defers,by simp[Act.put,g.tsz],fun t av' hm=>by
  rcases List.mem_cons.1 hm with e | e
  ·injection e with e1 e2
   subst e1; subst e2
   exact ⟨v,by simp[Act.put,g.tsz,hd],hv⟩
  ·obtain ⟨e1,e2⟩:=List.mem_filter.1 e
   simp at e2
   obtain ⟨u,hu,hi⟩:=g.tm t av' e1
   exact ⟨u,by simp only[Act.put]; rw[Array.getElem?_setIfInBounds_ne (Ne.symm e2)]; exact hu,hi⟩,g.size,g.keep,g.own,g.ro,g.ro0,g.os,g.tape,g.output,g.sg,g.bx,g.md⟩
theorem Good.forget {F:Fr} {s:St} {a:Act} {w:World} {Γ:HF} {rcs:List (Nat×RC)} {h:HF} (g:Good F s a w Γ rcs h) (d:Nat) (v:Value) :
  Good F ⟨del s.tm d,s.ck⟩ (a.put (some d) v) w Γ rcs h :=
 ⟨g.ck,g.nodup,g.star,g.mem,g.memR,g.dj,g.defers,by simp[Act.put,g.tsz],fun t av' hm=>by
  obtain ⟨e1,e2⟩:=List.mem_filter.1 hm
  simp at e2
  obtain ⟨u,hu,hi⟩:=g.tm t av' e1
  exact ⟨u,by simp only[Act.put]; rw[Array.getElem?_setIfInBounds_ne (Ne.symm e2)]; exact hu,hi⟩,g.size,g.keep,g.own,g.ro,g.ro0,g.os,g.tape,g.output,g.sg,g.bx,g.md⟩
section
variable {P:Program} {md:Region.Mode} {ops:Array Oper} {Q:Exit→Act→World→Prop}
def edgeMask (md:Region.Mode) (ms:List Nat) (o:Oper):Nat:=o.after.toList.foldl (fun m e=>if Region.binds md e then m ||| (1 <<< e.on ||| ms.getD e.on 0) else m) 0
def masksL (md:Region.Mode):List Oper→List Nat→List Nat
 | [],ms=>ms
 |o::l,ms=>masksL md l (ms++[edgeMask md ms o])
def dep (md:Region.Mode) (ops:Array Oper) (j i:Nat):Bool:=((masksL md ops.toList []).getD j 0).testBit i
theorem edgeMask_spec {ms:List Nat} {o:Oper} {i:Nat} (h:(edgeMask md ms o).testBit i=true):∃e∈o.after,Region.binds md e=true∧(e.on=i∨(ms.getD e.on 0).testBit i=true):=by
 have key:∀(l:List Edge) (m:Nat),(l.foldl (fun m e=>if Region.binds md e then m ||| (1 <<< e.on ||| ms.getD e.on 0) else m) m).testBit i=true→m.testBit i=true∨∃e∈l,Region.binds md e=true∧(e.on=i∨(ms.getD e.on 0).testBit i=true):=by
  intro l
  induction l with
  |nil=>intro m h; exact .inl h
  |cons e l ih =>
   intro m h
   rw[List.foldl_cons] at h
   rcases ih _ h with h' | ⟨e',he,h'⟩
   ·split at h'
    ·rename_i hb
     rw[Nat.testBit_or,Nat.testBit_or,Bool.or_eq_true,Bool.or_eq_true] at h'
     rcases h' with h' | h' | h'
     ·exact .inl h'
     ·refine .inr ⟨e,mem_cons_self,hb,.inl ?_⟩
      rw[Nat.testBit_shiftLeft] at h'
      simp only[Bool.and_eq_true,decide_eq_true_eq] at h'
      have h2:=h'.2
      rcases Nat.eq_or_lt_of_le h'.1 with q | q
      ·exact q
      ·obtain ⟨n,hn⟩:∃n,i-e.on=n+1:=⟨i-e.on-1,by omega⟩
       rw[hn,Nat.testBit_succ] at h2
       simp at h2
     ·exact .inr ⟨e,mem_cons_self,hb,.inr h'⟩
    ·exact .inl h'
   ·exact .inr ⟨e',mem_cons_of_mem _ he,h'⟩
 rcases key _ _ h with h' | ⟨e,he,h'⟩
 ·simp at h'
 ·exact ⟨e,Array.mem_toList_iff.1 he,h'⟩
theorem masksL_pre:∀(l:List Oper) (ms:List Nat) (q:Nat),q<ms.length→(masksL md l ms).getD q 0=ms.getD q 0
 | [],_,_,_=>rfl
 |o::l,ms,q,h=>by
  rw[masksL,masksL_pre l _ q (by simp; omega)]
  simp[getD_eq_getElem?_getD,List.getElem?_append_left h]
theorem masksL_spec:∀(l:List Oper) (ms:List Nat) (i k:Nat),((masksL md l ms).getD (ms.length+k) 0).testBit i=true →
  ∃o,l[k]? = some o∧∃e∈o.after,Region.binds md e=true∧(e.on=i∨e.on<ms.length+k∧((masksL md l ms).getD e.on 0).testBit i=true)
 | [],ms,i,k,h=>by
  rw[masksL,getD_eq_getElem?_getD,getElem?_eq_none (by omega)] at h
  simp at h
 |o::l,ms,i,0,h=>by
  rw[masksL,masksL_pre l _ _ (by simp)] at h
  have:(ms++[edgeMask md ms o]).getD (ms.length+0) 0=edgeMask md ms o:=by simp[getD_eq_getElem?_getD]
  rw[this] at h
  obtain ⟨e,he,hb,h'⟩:=edgeMask_spec h
  refine ⟨o,rfl,e,he,hb,h'.imp id fun h2=>?_⟩
  have hlt:e.on<ms.length:=by
   rcases Nat.lt_or_ge e.on ms.length with q | q
   ·exact q
   ·rw[getD_eq_getElem?_getD,getElem?_eq_none q] at h2; simp at h2
  refine ⟨by omega,?_⟩
  rw[masksL,masksL_pre l _ _ (by simp; omega)]
  simpa[getD_eq_getElem?_getD,List.getElem?_append_left hlt] using h2
 |o::l,ms,i,k+1,h=>by
  rw[masksL] at h
  have hk:ms.length+(k+1)=(ms++[edgeMask md ms o]).length+k:=by simp; omega
  rw[hk] at h
  obtain ⟨o',ho,e,he,hb,h'⟩:=masksL_spec l _ i k h
  refine ⟨o',by simpa using ho,e,he,hb,?_⟩
  rw[masksL,hk]
  exact h'
def Closed (md:Region.Mode) (ops:Array Oper) (listed:Array Bool):Prop:=∀k o,ops[k]? = some o→listed.getD k false=true→∀e∈o.after,Region.binds md e=true→listed.getD e.on false=true
theorem closed_dep {listed:Array Bool} (hc:Closed md ops listed) {i:Nat}:∀(j:Nat) (o:Oper),ops[j]? = some o→(∀e∈o.after,Region.binds md e=true→listed.getD e.on false=true)→dep md ops j i=true→listed.getD i false=true:=by
 intro j
 induction j using Nat.strongRecOn with
 |_ j ih =>
  intro o ho hp hd
  obtain ⟨o',ho',e,he,hb,h'⟩:=masksL_spec (md:=md) ops.toList [] i j (by simpa[dep] using hd)
  have:o'=o:=by
   rw[Array.getElem?_toList] at ho'
   rw[ho] at ho'
   exact (Option.some.inj ho').symm
  subst this
  have hl:=hp e he hb
  rcases h' with h' | ⟨hlt,h'⟩
  ·rw[←h']; exact hl
  ·simp only[List.length_nil,Nat.zero_add] at hlt
   have hd':dep md ops e.on i=true:=h'
   cases hoe:ops[e.on]? with
   |none =>
    obtain ⟨o2,ho2,_⟩:=masksL_spec (md:=md) ops.toList [] i e.on (by simpa[dep] using hd')
    rw[Array.getElem?_toList,hoe] at ho2
    cases ho2
   |some oe=>exact ih e.on hlt oe hoe (hc e.on oe hoe hl) hd'
theorem getD_flip {listed:Array Bool} {i:Nat} (h:listed.getD i true=false):listed.getD i false=false:=by
 rcases Nat.lt_or_ge i listed.size with q | q
 ·simpa[q] using h
 ·simp[Array.getElem?_eq_none q] at h
theorem ready_dep {listed:Array Bool} (hc:Closed md ops listed) {i j:Nat} (hj:j∈Region.ready md ops listed) (hi:listed.getD i true=false):dep md ops j i=false:=by
 obtain ⟨_,o,ho,hall⟩:=mem_ready.1 hj
 cases hd:dep md ops j i with
 |false=>rfl
 |true =>
  have:=closed_dep hc j o ho hall hd
  rw[getD_flip hi] at this
  cases this
theorem Closed.put {listed:Array Bool} (hc:Closed md ops listed) {j:Nat} (hj:j∈Region.ready md ops listed):Closed md ops (listed.setIfInBounds j true):=by
 obtain ⟨_,oj,hoj,hall⟩:=mem_ready.1 hj
 have up:∀x,listed.getD x false=true→(listed.setIfInBounds j true).getD x false=true:=fun x hx=>by
  by_cases e:j=x
  ·subst e
   rcases Nat.lt_or_ge j listed.size with q | q
   ·simp[q]
   ·simp[Array.getElem?_eq_none q] at hx
  ·rw[getD_set_ne false e]; exact hx
 intro k o ho hk e he hb
 by_cases e':j=k
 ·subst e'
  rw[hoj] at ho
  injection ho with ho
  subst ho
  exact up _ (hall e he hb)
 ·rw[getD_set_ne false e'] at hk
  exact up _ (hc k o ho hk e he hb)
theorem Closed.none (n:Nat):Closed md ops (Array.replicate n false):=fun k o _ hk=>by
 rcases Nat.lt_or_ge k n with q | q<;>simp[q] at hk
def nextD (md:Region.Mode) (ops:Array Oper) (D:List (Nat×(World→Prop))) (j:Nat):List (Nat×(World→Prop)):=D.filter fun x=>!dep md ops j x.1
def wpL (P:Program) (md:Region.Mode) (ops:Array Oper) (Q:Exit→Act→World→Prop):Nat→List (Nat×(World→Prop))→Array Bool→Act→World→Prop
 |0,_,listed,a,w=>Region.ready md ops listed=[]∧Q .normal a w
 |fuel+1,D,listed,a,w =>
  (Region.ready md ops listed=[]→Q .normal a w) ∧
  ∀j∈Region.ready md ops listed,wpOp P ops Q j (fun a' w'=>(∀x∈nextD md ops D j,x.2 w')∧wpL P md ops Q fuel (nextD md ops D j) (listed.setIfInBounds j true) a' w') a w
theorem wpAny_of_wpL:∀(fuel:Nat) (D:List (Nat×(World→Prop))) (listed:Array Bool) (a:Act) (w:World),wpL P md ops Q fuel D listed a w→wpAny P md ops Q fuel listed a w
 |0,_,_,_,_,h=>h
 |fuel+1,D,listed,a,w,h=>⟨h.1,fun j hj=>wpOp_mono (fun a' w' h'=>wpAny_of_wpL fuel _ _ a' w' h'.2) (h.2 j hj)⟩
theorem nextD_sub {D D':List (Nat×(World→Prop))} (h:∀i,i∈D'→i∈D) (j:Nat):∀i,i∈nextD md ops D' j→i∈nextD md ops D j:=fun i hi=>by
 obtain ⟨a,b⟩:=List.mem_filter.1 hi
 exact List.mem_filter.2 ⟨h i a,b⟩
theorem wpL_sub:∀(fuel:Nat) {D D':List (Nat×(World→Prop))} (listed:Array Bool) (a:Act) (w:World),(∀i,i∈D'→i∈D)→wpL P md ops Q fuel D listed a w→wpL P md ops Q fuel D' listed a w
 |0,_,_,_,_,_,_,h=>h
 |fuel+1,D,D',listed,a,w,hs,h=>⟨h.1,fun j hj=>wpOp_mono (fun a' w' h'=>⟨fun x hx=>h'.1 x (nextD_sub hs j x hx),wpL_sub fuel _ a' w' (nextD_sub hs j) h'.2⟩) (h.2 j hj)⟩
theorem wpL_first {i:Nat} {oi:Oper} {v:Value} (W:World→Prop) (hi:ops[i]? = some oi) (hsel:∀(j:Nat) (o:Oper) cs b,ops[j]? = some o→o.op≠.select cs b)
  (hQ:∀c a w,Q (.panic c) (a.put oi.dst v) w→Q (.panic c) a w) :
  ∀(fuel:Nat) (D:List (Nat×(World→Prop))) (listed:Array Bool) (a:Act) (w:World),Closed md ops listed→(∀x∈D,x.2 w) →
   (∀j oj,ops[j]? = some oj→j≠i→listed.getD j true=false→dep md ops j i=false→oi.apart ops oj=true) →
   i∈Region.ready md ops listed→YieldsIf P ops W oi v a→W w →
   wpL P md ops Q fuel ((i,W)::D) (listed.setIfInBounds i true) (a.put oi.dst v) w→wpL P md ops Q (fuel+1) D listed a w:=by
 intro fuel
 induction fuel with
 |zero =>
  intro D listed a w hcl hD _ hr hy hW H
  refine ⟨fun h=>(by rw[h] at hr; cases hr),fun j hj=>?_⟩
  by_cases hji:j=i
  ·subst hji
   exact hy.wpOp hi hW ⟨fun x hx=>hD x (List.mem_filter.1 hx).1,H.1,H.2⟩
  ·have:=ready_mono hj hji
   rw[H.1] at this
   cases this
 |succ fuel ih =>
  intro D listed a w hcl hD hfree hr hy hW H
  refine ⟨fun h=>(by rw[h] at hr; cases hr),fun j hj=>?_⟩
  by_cases hji:j=i
  ·subst hji
   exact hy.wpOp hi hW ⟨fun x hx=>hD x (List.mem_filter.1 hx).1,wpL_sub _ _ _ _ (fun k hk=>mem_cons_of_mem _ (List.mem_filter.1 hk).1) H⟩
  ·have h1:=H.2 j (ready_mono hj hji)
   obtain ⟨hjun,oj,hoj,hall⟩:=mem_ready.1 hj
   have hiun:=(mem_ready.1 hr).1
   have hnot:dep md ops j i=false:=ready_dep hcl hj hiun
   have h2:=wpOp_putIf hoj (hfree j oj hoj hji hjun hnot) (fun cs b=>hsel i oi cs b hi) (fun cs b=>hsel j oj cs b hoj) hQ hy h1
   have hfree':∀k ok,ops[k]? = some ok→k≠i→(listed.setIfInBounds j true).getD k true=false →
     dep md ops k i=false→oi.apart ops ok=true:=fun k ok hk hki hun hno=>by
    refine hfree k ok hk hki ?_ hno
    by_cases hjk:j=k
    ·subst hjk; exact hjun
    ·rw[getD_set_ne true hjk] at hun; exact hun
   have hnx:nextD md ops ((i,W)::D) j=(i,W)::nextD md ops D j:=by simp[nextD,hnot]
   refine wpOp_mono (fun a' w' h3=>?_) h2
   rw[hnx] at h3
   have hD':∀x∈nextD md ops D j,x.2 w':=fun x hx=>h3.2.1 x (mem_cons_of_mem _ hx)
   refine ⟨hD',ih (nextD md ops D j) (listed.setIfInBounds j true) a' w' (hcl.put hj) hD' hfree' (ready_mono hr (Ne.symm hji)) h3.1 (h3.2.1 _ mem_cons_self) ?_⟩
   rw[Array.setIfInBounds_comm _ _ hji]
   exact h3.2.2
end
variable {α:Type}
inductive Tr (α:Type):Type 1 where
 |leaf (x:α)
 |need (p:Prop) [d:Decidable p] (t:Tr α)
 |split (b:Bool) (t f:Tr α)
 |bind {β:Type} (o:Option β) (k:β→Tr α)
 |alt {β γ:Type} (x:β⊕γ) (f:β→Tr α) (g:γ→Tr α)
 |both (a b:Tr α)
 |bad
 /-- What an operation asks. -/
 |tag (i:Nat) (t:Tr α)
structure PD where
 p:Prop
 d:Decidable p
namespace Tr
def sat (K:α→Prop):Tr α→Prop
 |.leaf s=>K s
 |@Tr.need _ p d t=>p∧t.sat K
 |.split b t f=>(b=true→t.sat K)∧(b=false→f.sat K)
 |.bind o k=>∃r,o=some r∧(k r).sat K
 |.alt x f g=>(∀b,x=.inl b→(f b).sat K)∧(∀c,x=.inr c→(g c).sat K)
 |.both a b=>a.sat K∧b.sat K
 |.bad=>False
 |.tag _ t=>t.sat K
def eval:Tr α→Option α
 |.leaf s=>some s
 |@Tr.need _ p d t=>if p then t.eval else none
 |.split b t f=>bif b then t.eval else f.eval
 |.bind o k=>o.bind fun r=>(k r).eval
 |.alt x f g=>match x with
  |.inl b=>(f b).eval
  |.inr c=>(g c).eval
 |.both a _=>a.eval
 |.bad=>none
 |.tag _ t=>t.eval
def insN (x:Nat×PD):List (Nat×PD)→List (Nat×PD)
 | []=>[x]
 |y::l=>if x.1≤y.1 then x::y::l else y::insN x l
def sortN:List (Nat×PD)→List (Nat×PD)
 | []=>[]
 |x::l=>insN x (sortN l)
def needs:List (Nat×PD)→Tr α→Tr α
 | [],t=>t
 |x::l,t=>@Tr.need _ x.2.p x.2.d (needs l t)
noncomputable def nf:Tr α→Nat→List (Nat×PD)→Tr α
 |.leaf s,_,L=>needs (sortN L) (.leaf s)
 |@Tr.need _ p d t,i,L=>t.nf i ((i,⟨p,d⟩)::L)
 |.split b t f,i,L=>.split b (@Bool.rec (fun _=>Tr α) .bad (t.nf i L) b) (@Bool.rec (fun _=>Tr α) (f.nf i L) .bad b)
 |.bind o k,i,L=>.bind o fun r=>(k r).nf i L
 |.alt x f g,i,L=>.alt x (fun b=>(f b).nf i L) (fun c=>(g c).nf i L)
 |.both a _,i,L=>a.nf i L
 |.bad,_,_=>.bad
 |.tag i t,_,L=>t.nf i L
noncomputable def left:Tr α→Tr α
 |.leaf s=>.leaf s
 |@Tr.need _ p d t=>@Tr.need _ p d t.left
 |.split b t f=>.split b (@Bool.rec (fun _=>Tr α) .bad t.left b) (@Bool.rec (fun _=>Tr α) f.left .bad b)
 |.bind o k=>.bind o fun r=>(k r).left
 |.alt x f g=>.alt x (fun b=>(f b).left) (fun c=>(g c).left)
 |.both a b=>.both (.both a.left b.left) (a.nf 0 [])
 |.bad=>.bad
 |.tag _ t=>t.left
noncomputable def right:Tr α→Tr α
 |.leaf s=>.leaf s
 |@Tr.need _ p d t=>@Tr.need _ p d t.right
 |.split b t f=>.split b (@Bool.rec (fun _=>Tr α) .bad t.right b) (@Bool.rec (fun _=>Tr α) f.right .bad b)
 |.bind o k=>.bind o fun r=>(k r).right
 |.alt x f g=>.alt x (fun b=>(f b).right) (fun c=>(g c).right)
 |.both a b=>.both (.both a.right b.right) (b.nf 0 [])
 |.bad=>.bad
 |.tag _ t=>t.right
def allN (L:List (Nat×PD)):Prop:=∀x∈L,x.2.p
theorem allN_ins {x:Nat×PD}:∀ {L:List (Nat×PD)},allN (insN x L)↔x.2.p∧allN L
 | []=>by simp[insN,allN]
 |y::L=>by
  unfold insN
  split
  ·simp[allN]
  ·have:=allN_ins (x:=x) (L:=L)
   simp only[allN,mem_cons,forall_eq_or_imp] at this ⊢
   rw[this]
   exact ⟨fun ⟨h1,h2,h3⟩=>⟨h2,h1,h3⟩,fun ⟨h1,h2,h3⟩=>⟨h2,h1,h3⟩⟩
theorem allN_sort:∀ {L:List (Nat×PD)},allN (sortN L)↔allN L
 | []=>Iff.rfl
 |x::L=>by
  rw[sortN,allN_ins,allN_sort]
  simp[allN]
theorem needs_eval {L:List (Nat×PD)} {t:Tr α} {r:α}:(needs L t).eval=some r↔allN L∧t.eval=some r:=by
 induction L with
 |nil=>simp[needs,allN]
 |cons x L ih =>
  simp only[needs,eval]
  split
  ·rename_i hp
   rw[ih]
   simp only[allN,mem_cons,forall_eq_or_imp]
   exact ⟨fun ⟨h1,h2⟩=>⟨⟨hp,h1⟩,h2⟩,fun ⟨⟨_,h1⟩,h2⟩=>⟨h1,h2⟩⟩
  ·rename_i hp
   exact ⟨fun (h:none=some r)=>absurd h (by simp),fun ⟨h,_⟩=>absurd (h x mem_cons_self) hp⟩
theorem nf_eval (t:Tr α):∀(i:Nat) (L:List (Nat×PD)) (r:α),(t.nf i L).eval=some r↔allN L∧t.eval=some r:=by
 induction t with
 |leaf s=>intro i L r; rw[nf,needs_eval,allN_sort]
 |@need p d t ih =>
  intro i L r
  rw[nf,ih]
  simp only[eval,allN,mem_cons,forall_eq_or_imp]
  split
  ·rename_i hp; exact ⟨fun ⟨⟨_,h1⟩,h2⟩=>⟨h1,h2⟩,fun ⟨h1,h2⟩=>⟨⟨hp,h1⟩,h2⟩⟩
  ·rename_i hp; exact ⟨fun ⟨⟨h,_⟩,_⟩=>absurd h hp,fun ⟨_,h⟩=>by cases h⟩
 |split b t f ih1 ih2 =>
  intro i L r
  cases b with
  |true=>exact ih1 i L r
  |false=>exact ih2 i L r
 |bind o k ih =>
  intro i L r
  simp only[nf,eval]
  cases o with
  |none=>simp
  |some x=>exact ih x i L r
 |alt x f g ih1 ih2 =>
  intro i L r
  simp only[nf,eval]
  cases x with
  |inl b=>exact ih1 b i L r
  |inr c=>exact ih2 c i L r
 |both a b ih1 _=>intro i L r; exact ih1 i L r
 |bad=>intro i L r; simp[nf,eval]
 |tag j t ih=>intro i L r; exact ih j L r
theorem eval_sat (t:Tr α) (h:t.left=t.right) {r:α} (he:t.eval=some r) {K:α→Prop} (hK:K r):t.sat K:=by
 induction t with
 |leaf s =>
  simp only[eval,Option.some.injEq] at he
  subst he
  exact hK
 |need p t ih =>
  have h':t.left=t.right:=by
   simp only[left,right] at h
   injection h
  simp only[eval] at he
  split at he
  ·rename_i hp
   exact ⟨hp,ih h' he⟩
  ·cases he
 |split b t f ih1 ih2 =>
  simp only[left,right,Tr.split.injEq,true_and] at h
  simp only[eval] at he
  refine ⟨fun hb=>?_,fun hb=>?_⟩<;>subst hb
  ·exact ih1 h.1 he
  ·exact ih2 h.2 he
 |bind o k ih =>
  simp only[left,right,bind.injEq,heq_eq_eq,true_and] at h
  simp only[eval] at he
  cases o with
  |none=>cases he
  |some x=>exact ⟨x,rfl,ih x (congrFun h x) he⟩
 |alt x f g ih1 ih2 =>
  simp only[left,right,alt.injEq,heq_eq_eq,true_and] at h
  refine ⟨fun b e=>?_,fun c e=>?_⟩<;>subst e
  ·exact ih1 b (congrFun h.1 b) he
  ·exact ih2 c (congrFun h.2 c) he
 |both a b ih1 ih2 =>
  simp only[left,right,both.injEq] at h
  obtain ⟨⟨h1,h2⟩,h3⟩:=h
  simp only[eval] at he
  refine ⟨ih1 h1 he,ih2 h2 ?_⟩
  have h4:=(nf_eval a 0 [] r).2 ⟨fun x hx=>(List.not_mem_nil hx).elim,he⟩
  rw[h3] at h4
  exact ((nf_eval b 0 [] r).1 h4).2
 |bad=>cases he
 |tag i t ih=>exact ih h he
def all:List (Tr α)→Tr α
 | []=>.bad
 | [t]=>t
 |t::l=>.both t (all l)
theorem sat_all {K:α→Prop}:∀ {l:List (Tr α)},(all l).sat K→∀t∈l,t.sat K
 | [],h,_,_=>h.elim
 | [t],h,u,hu=>by rw[List.mem_singleton] at hu; subst hu; exact h
 |t::t'::l,h,u,hu=>by
  rcases List.mem_cons.1 hu with e | e
  ·subst e; exact h.1
  ·exact sat_all (l:=t'::l) h.2 u e
end Tr
inductive Cls where
 |pure | read | world
 deriving DecidableEq
structure Eff where
 all:Bool
 ids:List Nat
structure Stepper where
 cls:Oper→Cls
 /-- What is read: nothing that may change; a box; anything. -/
 rd:Oper→St→Option (Option Nat)
 eff:Oper→St→Eff
 step:{α:Type}→Oper→St→(St→Tr α)→Tr α
 /-- How many temporaries. -/
 nt:Nat
 /-- May it write to what is not its own result? -/
 risky:Oper→St→Bool
 hz:Bool
def Eff.ok (e:Eff) (B:List Ent):Prop:=∀x∈B,match x.id with
 |none=>e.all=true
 |some id=>id∉e.ids
def Fr.with (F:Fr) (B:List Ent):Fr:={ F with B:=B }
def Fr.withG (F:Fr) (G:List (Nat×Array Value×TypeId)):Fr:={ F with G:=G }
def stab (x:Nat×Array Value×TypeId) (w:World):Prop:=∃f,w.heap[x.1]? = some (.cells x.2.1 x.2.2 f)
theorem R.stab {F:Fr} {s:St} {a:Act} {w:World} (r:R F s a w):∀x∈F.G,stab x w:=fun x hx=>by
 obtain ⟨Γ,rcs,hh,g⟩:=r
 exact g.memR.cel _ _ _ (g.sg x hx)
def StepOK (P:Program) (F:Fr) (S:Stepper):Prop:=S.nt=F.n.n∧∀(B:List Ent) (G:List (Nat×Array Value×TypeId)) (α:Type) (o:Oper) (s:St) (k:St→Tr α) (K:α→Prop) (a:Act) (w:World),R ((F.withG G).with B) s a w→(S.step o s k).sat K →
 match S.cls o with
 |.pure=>∃v s',(∀w',(execOp a.eval o).run P w'=.ok (.value v) w')∧R ((F.withG G).with B) s' (a.put o.dst v) w∧(k s').sat K
 |.read=>∃v s' E G',(∀e∈E,S.rd o s=some e.id∧w.heap[e.b]? = e.ob)∧(∀w',(∀e∈E,w'.heap[e.b]? = e.ob)→(∀x∈G',stab x w')→(execOp a.eval o).run P w'=.ok (.value v) w')∧R ((F.withG (G'++G)).with (E++B)) s' (a.put o.dst v) w∧(k s').sat K
 |.world=>(S.eff o s).ok B→∀Q,o.wp P a w (fun a' w'=>∃s',R ((F.withG G).with B) s' a' w'∧(k s').sat K) Q
def St.drop (s:St) (n:Nat) (d:Option Nat):St:=match d with
 |some d=>if d<n then ⟨(d,.tup [])::del s.tm d,s.ck⟩ else ⟨del s.tm d,s.ck⟩
 |none=>s
def undefAt (s:St) (t:Nat):Bool:=match look s.tm t with
 |some (.tup [])=>true
 |_=>false
def St.setB (s:St) (t:Nat) (b:Bool):St:=⟨(t,.one (.val .bool b))::del s.tm t,s.ck⟩
def boolAt (s:St) (t:Nat):Option Bool:=match look s.tm t with
 |some (.one (.val .bool b))=>some b
 |_=>none
def guardT (ops:Array Oper) (j:Nat):Option Nat:=(ops[j]?).bind (·.dst)
def exec (S:Stepper) (ops:Array Oper) (i:Nat) (s:St) (k:St→Tr α):Tr α:=match ops[i]? with
 |none=>.bad
 |some o=>match o.guard with
  |none=>S.step o s k
  |some (j,want)=>match guardT ops j with
   |none=>.bad
   |some t=>match boolAt s t with
    |some b=>match want with
     |true=>.split b (S.step o (s.setB t true) k) (k ((s.setB t false).drop S.nt o.dst))
     |false=>.split b (k ((s.setB t true).drop S.nt o.dst)) (S.step o (s.setB t false) k)
    |none=>if undefAt s t then k (s.drop S.nt o.dst) else .bad
def hoistB (S:Stepper) (ops:Array Oper) (listed:Array Bool) (s:St) (i:Nat):Bool:=match ops[i]? with
 |none=>false
 |some oi=>(!S.hz||S.cls oi != .read||S.rd oi s != some none||(List.range ops.size).all fun j=>j==i||listed.getD j true||dep .any ops j i||(match ops[j]? with
  |some oj=>!S.risky oj s
  |none=>true))&&(S.cls oi != .world)&&(List.range ops.size).all fun j=>j==i||listed.getD j true||dep .any ops j i||(match ops[j]? with
  |some oj=>oi.apart ops oj
  |none=>true)
def tagOf (S:Stepper) (ops:Array Oper) (i:Nat) (s:St):Option (Option Nat):=match ops[i]? with
 |some o=>match S.cls o with
  |.read=>S.rd o s
  |_=>none
 |none=>none
def pend (ops:Array Oper) (D:List (Nat×Option (Option Nat))) (j:Nat):List (Nat×Option (Option Nat)):=D.filter fun x=>!dep .any ops j x.1
def okP (e:Eff) (D:List (Nat×Option (Option Nat))):Bool:=D.all fun x=>match x.2 with
 |none=>true
 |some none=>e.all
 |some (some id)=>!e.ids.contains id
def okAt (S:Stepper) (ops:Array Oper) (D:List (Nat×Option (Option Nat))) (s:St) (i:Nat):Bool:=match ops[i]? with
 |some o=>S.cls o != .world||okP (S.eff o s) (pend ops D i)
 |none=>false
def go (S:Stepper) (ops:Array Oper):Nat→List (Nat×Option (Option Nat))→Array Bool→St→(St→Tr α)→Tr α
 |0,D,listed,s,k=>match Region.ready .any ops listed with
  | []=>k s
  |_=>.bad
 |fuel+1,D,listed,s,k=>match Region.ready .any ops listed with
  | []=>k s
  |rs=>match rs.find? (hoistB S ops listed s) with
   |some i=>.tag i <| exec S ops i s fun s'=>go S ops fuel ((i,tagOf S ops i s)::D) (listed.setIfInBounds i true) s' k
   |none=>Tr.all (rs.map fun i=>if okAt S ops D s i then .tag i <| exec S ops i s fun s'=>go S ops fuel (pend ops D i) (listed.setIfInBounds i true) s' k else .bad)
theorem boolAt_is {F:Fr} {s:St} {a:Act} {w:World} (r:R F s a w) {t:Nat} {b:Bool} (h:boolAt s t=some b):a.tmps[t]? = some (.bool b):=by
 unfold boolAt at h
 split at h
 ·rename_i x hl
  injection h with h
  subst h
  obtain ⟨Γ,rcs,hh,g⟩:=r
  obtain ⟨v,hv,hi⟩:=g.tm t _ (look_mem hl)
  obtain ⟨_,z,_,e⟩:=hi
  rw[hv,e]
  rfl
 ·cases h
theorem R.setB {F:Fr} {s:St} {a:Act} {w:World} (r:R F s a w) {t:Nat} {b:Bool} (h:a.tmps[t]? = some (.bool b)):R F (s.setB t b) a w:=by
 obtain ⟨Γ,rcs,hh,g⟩:=r
 refine ⟨Γ,rcs,hh,g.ck,g.nodup,g.star,g.mem,g.memR,g.dj,g.defers,g.tsz,fun t' av hm=>?_,g.size,g.keep,g.own,g.ro,g.ro0,g.os,g.tape,g.output,g.sg,g.bx,g.md⟩
 rcases List.mem_cons.1 hm with e | e
 ·injection e with e1 e2
  subst e1; subst e2
  exact ⟨_,h,rfl,(),rfl,rfl⟩
 ·exact g.tm t' av (List.mem_filter.1 e).1
theorem R.drop {F:Fr} {s:St} {a:Act} {w:World} (r:R F s a w) {n:Nat} (hn:n=F.n.n) (d:Option Nat):R F (s.drop n d) (a.put d undef) w:=by
 cases d with
 |none=>exact r
 |some d =>
  obtain ⟨Γ,rcs,h,g⟩:=r
  unfold St.drop
  simp only
  split
  ·rename_i hd
   exact ⟨Γ,rcs,h,g.put (hn▸hd) ⟨[],rfl,rfl,fun i s h=>by simp at h⟩⟩
  ·exact ⟨Γ,rcs,h,g.forget d undef⟩
theorem undefAt_is {F:Fr} {s:St} {a:Act} {w:World} (r:R F s a w) {t:Nat} (h:undefAt s t=true):a.tmps[t]? = some undef:=by
 unfold undefAt at h
 split at h
 ·rename_i hl
  obtain ⟨Γ,rcs,hh,g⟩:=r
  obtain ⟨v,hv,vs,e,hlen,_⟩:=g.tm t _ (look_mem hl)
  have:vs=[]:=List.eq_nil_of_length_eq_zero hlen
  subst this
  rw[hv,e]
  rfl
 ·cases h
theorem R.less {F:Fr} {B B':List Ent} {s:St} {a:Act} {w:World} (r:R (F.with B) s a w) (h:∀e∈B',e∈B):R (F.with B') s a w:=by
 obtain ⟨Γ,rcs,hh,g⟩:=r
 exact ⟨Γ,rcs,hh,g.ck,g.nodup,g.star,g.mem,g.memR,g.dj,g.defers,g.tsz,g.tm,g.size,g.keep,g.own,g.ro,g.ro0,g.os,g.tape,g.output,g.sg,fun e he=>g.bx e (h e he),g.md⟩
theorem R.lessG {F:Fr} {G G':List (Nat×Array Value×TypeId)} {B:List Ent} {s:St} {a:Act} {w:World} (r:R ((F.withG G).with B) s a w) (h:∀e∈G',e∈G):R ((F.withG G').with B) s a w:=by
 obtain ⟨Γ,rcs,hh,g⟩:=r
 exact ⟨Γ,rcs,hh,g.ck,g.nodup,g.star,g.mem,g.memR,g.dj,g.defers,g.tsz,g.tm,g.size,g.keep,g.own,g.ro,g.ro0,g.os,g.tape,g.output,(fun x hx=>g.sg x (h x hx)),g.bx,g.md⟩
theorem R.watch {F:Fr} {B:List Ent} {s:St} {a:Act} {w:World} (r:R (F.with B) s a w) {e:Ent} (h:e∈B):w.heap[e.b]? = e.ob:=by
 obtain ⟨Γ,rcs,hh,g⟩:=r
 exact (g.bx e h).1.1
def endQ (F:Fr) (k:St→Tr α) (K:α→Prop):Exit→Act→World→Prop
 |.normal,a,w=>∃s,R F s a w∧(k s).sat K
 |_,_,_=>False
section
variable {P:Program} {F:Fr} {S:Stepper} {ops:Array Oper} {K:α→Prop}
theorem exec_sound (hnt:S.nt=F.n.n) {B:List Ent} {i:Nat} {o:Oper} (hi:ops[i]? = some o) {s:St} {k:St→Tr α} {a:Act} {w:World} (r:R (F.with B) s a w) (h:(exec S ops i s k).sat K) :
  (Region.wanted o (yielded ops a.tmps)=true∧∃s1,(s1=s∨∃t b,boolAt s t=some b∧s1=s.setB t b)∧R (F.with B) s1 a w∧(S.step o s1 k).sat K) ∨
  (Region.wanted o (yielded ops a.tmps)=false∧∃s1,R (F.with B) s1 (a.put o.dst undef) w∧(k s1).sat K):=by
 simp only[exec,hi] at h
 cases hg:o.guard with
 |none =>
  rw[hg] at h
  exact .inl ⟨by simp[Region.wanted,hg],s,.inl rfl,r,h⟩
 |some jw =>
  obtain ⟨j,want⟩:=jw
  rw[hg] at h
  simp only at h
  cases ht:guardT ops j with
  |none=>rw[ht] at h; exact h.elim
  |some t =>
   rw[ht] at h
   simp only at h
   cases hb:boolAt s t with
   |none =>
    rw[hb] at h
    simp only at h
    split at h
    ·rename_i hu
     have hv:=undefAt_is r hu
     have hy:yielded ops a.tmps j=none:=by
      unfold yielded
      unfold guardT at ht
      simp only[ht,bind_some,hv]
      rfl
     exact .inr ⟨by simp[Region.wanted,hg,hy],_,r.drop (F:=F.with B) hnt _,h⟩
    ·exact h.elim
   |some b =>
    rw[hb] at h
    have hv:=boolAt_is r hb
    have hy:yielded ops a.tmps j=some b:=by
     unfold yielded
     unfold guardT at ht
     simp only[ht,bind_some,hv]
    cases want<;>cases b<;>simp only[Tr.sat] at h
    ·exact .inl ⟨by simp[Region.wanted,hg,hy],_,.inr ⟨_,_,hb,rfl⟩,r.setB hv,h.2 trivial⟩
    ·exact .inr ⟨by simp[Region.wanted,hg,hy],_,(r.setB hv).drop (F:=F.with B) hnt _,h.1 trivial⟩
    ·exact .inr ⟨by simp[Region.wanted,hg,hy],_,(r.setB hv).drop (F:=F.with B) hnt _,h.2 trivial⟩
    ·exact .inl ⟨by simp[Region.wanted,hg,hy],_,.inr ⟨_,_,hb,rfl⟩,r.setB hv,h.1 trivial⟩
structure Pd where
 i:Nat
 tag:Option (Option Nat)
 E:List Ent
 G:List (Nat×Array Value×TypeId)
def Pd.ok (x:Pd):Prop:=match x.tag with
 |none=>x.E=[]
 |some id=>∀e∈x.E,e.id=id
def Pd.W (x:Pd):World→Prop:=fun w=>(∀e∈x.E,w.heap[e.b]? = e.ob)∧∀y∈x.G,stab y w
def pdB (T:List Pd):List Ent:=T.flatMap (·.E)
def pdG (T:List Pd):List (Nat×Array Value×TypeId):=T.flatMap (·.G)
def pdD (T:List Pd):List (Nat×Option (Option Nat)):=T.map fun x=>(x.i,x.tag)
def pdW (T:List Pd):List (Nat×(World→Prop)):=T.map fun x=>(x.i,x.W)
theorem pd_next (T:List Pd) (j:Nat):nextD .any ops (pdW T) j=pdW (T.filter fun x=>!dep .any ops j x.i):=by
 simp only[nextD,pdW,filter_map]; rfl
theorem pd_pend (T:List Pd) (j:Nat):pend ops (pdD T) j=pdD (T.filter fun x=>!dep .any ops j x.i):=by
 simp only[pend,pdD,filter_map]; rfl
theorem pd_W {T:List Pd} {s:St} {a:Act} {w:World} (r:R ((F.withG (pdG T++F.G)).with (pdB T)) s a w):∀x∈pdW T,x.2 w:=fun x hx=>by
 obtain ⟨y,hy,rfl⟩:=List.mem_map.1 hx
 exact ⟨fun e he=>r.watch (List.mem_flatMap.2 ⟨y,hy,he⟩),fun e he=>r.stab e (mem_append_left _ (List.mem_flatMap.2 ⟨y,hy,he⟩))⟩
theorem pd_ok {T:List Pd} (hT:∀x∈T,x.ok) {e:Eff} (h:okP e (pdD T)=true):e.ok (pdB T):=fun x hx=>by
 obtain ⟨y,hy,he⟩:=List.mem_flatMap.1 hx
 have h1:=List.all_eq_true.1 h _ (List.mem_map.2 ⟨y,hy,rfl⟩)
 have h2:=hT y hy
 unfold Pd.ok at h2
 simp only at h1
 cases ht:y.tag with
 |none=>rw[ht] at h2; simp only at h2; rw[h2] at he; cases he
 |some id =>
  rw[ht] at h1 h2
  simp only at h1 h2
  rw[h2 x he]
  cases id with
  |none=>exact h1
  |some id=>simpa using h1
theorem endG {G:List (Nat×Array Value×TypeId)} {s:St} {a:Act} {w:World} (r:R ((F.withG (G++F.G)).with []) s a w):R (F.with []) s a w:=r.lessG (G':=F.G) fun e he=>mem_append_right _ he
theorem go_sound (hs:StepOK P F S) (hrd:∀o s t b,boolAt s t=some b→S.rd o (s.setB t b)=S.rd o s) (hef:∀o s t b,boolAt s t=some b→S.eff o (s.setB t b)=S.eff o s) (hsel:Region.noSelect ops=true) {k:St→Tr α}:∀(fuel:Nat) (T:List Pd) (listed:Array Bool) (s:St) (a:Act) (w:World),
  (∀x∈T,x.ok)→Closed .any ops listed→R ((F.withG (pdG T++F.G)).with (pdB T)) s a w→(go S ops fuel (pdD T) listed s k).sat K →
  wpL P .any ops (endQ (F.with []) k K) fuel (pdW T) listed a w:=by
 intro fuel
 induction fuel with
 |zero =>
  intro T listed s a w hT hc r h
  simp only[go] at h
  split at h
  ·rename_i hr
   exact ⟨hr,s,endG (r.less (fun e he=>by cases he)),h⟩
  ·exact h.elim
 |succ fuel ih =>
  intro T listed s a w hT hc r h
  simp only[go] at h
  split at h
  ·rename_i hr
   exact ⟨fun _=>⟨s,endG (r.less (fun e he=>by cases he)),h⟩,fun j hj=>by rw[hr] at hj; cases hj⟩
  ·rename_i _ hnil
   split at h
   ·rename_i i hf
    have hmem:=List.mem_of_find?_eq_some hf
    have hho:=List.find?_some hf
    obtain ⟨hiun,o,hi,hall⟩:=mem_ready.1 hmem
    simp only[hoistB,hi,Bool.and_eq_true,bne_iff_ne,ne_eq,List.all_eq_true,List.mem_range,Bool.or_eq_true,beq_iff_eq] at hho
    obtain ⟨⟨_,hcw⟩,hfree⟩:=hho
    have hfree':∀j oj,ops[j]? = some oj→j≠i→listed.getD j true=false→dep .any ops j i=false→o.apart ops oj=true:=by
     intro j oj hj hne hun hd
     have:=hfree j (Array.getElem?_eq_some_iff.1 hj).1
     simpa only[hne,hun,hd,hj,Bool.false_eq_true,or_false,false_or] using this
    have first:∀(v:Value) (s':St) (E:List Ent) (G':List (Nat×Array Value×TypeId)),(Pd.mk i (tagOf S ops i s) E G').ok→YieldsIf P ops (Pd.mk i (tagOf S ops i s) E G').W o v a→R ((F.withG (G'++(pdG T++F.G))).with (E++pdB T)) s' (a.put o.dst v) w →
      (go S ops fuel ((i,tagOf S ops i s)::pdD T) (listed.setIfInBounds i true) s' k).sat K→wpL P .any ops (endQ (F.with []) k K) (fuel+1) (pdW T) listed a w:=by
     intro v s' E G' hok hy r' h'
     refine wpL_first (Pd.mk i (tagOf S ops i s) E G').W hi (Region.noSelect_spec hsel) (fun _ _ _ q=>q.elim) fuel (pdW T) listed a w hc (pd_W r) hfree' hmem hy ?_ ?_
     ·exact ⟨fun e he=>r'.watch (mem_append_left _ he),fun e he=>r'.stab e (mem_append_left _ he)⟩
     ·exact ih (Pd.mk i (tagOf S ops i s) E G'::T) _ s' _ w (fun x hx=>by
       rcases List.mem_cons.1 hx with e | e
       ·subst e; exact hok
       ·exact hT x e) (hc.put hmem) (by
        have e1:pdG (Pd.mk i (tagOf S ops i s) E G'::T)++F.G=G'++(pdG T++F.G):=by simp[pdG]
        rw[e1]; exact r') h'
    have okn:(Pd.mk i (tagOf S ops i s) [] []).ok:=by
     unfold Pd.ok
     split
     ·rfl
     ·exact fun e he=>by cases he
    rcases exec_sound (F:=F.withG (pdG T++F.G)) hs.1 hi r h with ⟨hw,s1,hs1,r1,h1⟩ | ⟨hw,s1,r',h1⟩
    ·have:=hs.2 (pdB T) (pdG T++F.G) _ o s1 _ K a w r1 h1
     cases hcl:S.cls o with
     |world=>exact absurd hcl hcw
     |pure =>
      rw[hcl] at this
      obtain ⟨v,s',hv,r',h'⟩:=this
      exact first v s' [] [] okn (.inl ⟨hw,fun w' _=>hv w'⟩) r' h'
     |read =>
      rw[hcl] at this
      obtain ⟨v,s',E,G',hE,hv,r',h'⟩:=this
      have htag:tagOf S ops i s=S.rd o s:=by simp only[tagOf,hi,hcl]
      have hrd':S.rd o s1=S.rd o s:=by
       rcases hs1 with q | ⟨t,b,hbq,q⟩
       ·rw[q]
       ·rw[q,hrd _ _ _ _ hbq]
      refine first v s' E G' ?_ (.inl ⟨hw,fun w' hw'=>hv w' hw'.1 hw'.2⟩) r' h'
      rw[htag]
      unfold Pd.ok
      cases ht:S.rd o s with
      |none =>
       cases E with
       |nil=>rfl
       |cons e E =>
        have:=(hE e mem_cons_self).1
        rw[hrd',ht] at this
        cases this
      |some id =>
       intro e he
       have:=(hE e he).1
       rw[hrd',ht] at this
       injection this with this
       exact this.symm
    ·exact first undef s1 [] [] okn (.inr ⟨hw,rfl⟩) r' h1
   ·rename_i hne
    refine ⟨fun hr=>(hnil hr).elim,fun j hj=>?_⟩
    have hj':=Tr.sat_all h _ (List.mem_map.2 ⟨j,hj,rfl⟩)
    obtain ⟨hjun,o,ho,hall⟩:=mem_ready.1 hj
    split at hj'
    ·rename_i hok
     simp only[okAt,ho,Bool.or_eq_true,bne_iff_ne,ne_eq] at hok
     rw[pd_pend] at hj' hok
     rw[pd_next]
     have hT':∀x∈T.filter (fun x=>!dep .any ops j x.i),x.ok:=fun x hx=>hT x (List.mem_filter.1 hx).1
     have hB':∀e∈pdB (T.filter fun x=>!dep .any ops j x.i),e∈pdB T:=fun e he=>by
      obtain ⟨y,hy,he⟩:=List.mem_flatMap.1 he
      exact List.mem_flatMap.2 ⟨y,(List.mem_filter.1 hy).1,he⟩
     have hG':∀e∈pdG (T.filter fun x=>!dep .any ops j x.i)++F.G,e∈pdG T++F.G:=fun e he=>by
      rcases List.mem_append.1 he with he | he
      ·obtain ⟨y,hy,he⟩:=List.mem_flatMap.1 he
       exact mem_append_left _ (List.mem_flatMap.2 ⟨y,(List.mem_filter.1 hy).1,he⟩)
      ·exact mem_append_right _ he
     generalize T.filter (fun x=>!dep .any ops j x.i)=T' at hj' hok hT' hB' hG' ⊢
     have r0:=(r.less hB').lessG hG'
     unfold wpOp
     simp only[ho]
     have fin:∀s' a' w',R ((F.withG (pdG T'++F.G)).with (pdB T')) s' a' w'→(go S ops fuel (pdD T') (listed.setIfInBounds j true) s' k).sat K →
       (∀x∈pdW T',x.2 w')∧wpL P .any ops (endQ (F.with []) k K) fuel (pdW T') (listed.setIfInBounds j true) a' w' :=
      fun s' a' w' r' h'=>⟨pd_W r',ih T' _ s' a' w' hT' (hc.put hj) r' h'⟩
     rcases exec_sound (F:=F.withG (pdG T'++F.G)) hs.1 ho r0 hj' with ⟨hw,s1,hs1,r1,h1⟩ | ⟨hw,s1,r',h1⟩
     ·rw[if_pos hw]
      refine .inl ?_
      have:=hs.2 (pdB T') (pdG T'++F.G) _ o s1 _ K a w r1 h1
      cases hcl:S.cls o with
      |world =>
       rw[hcl] at this
       have heff:(S.eff o s1).ok (pdB T'):=by
        have:S.eff o s1=S.eff o s:=by
         rcases hs1 with q | ⟨t,b,hbq,q⟩
         ·rw[q]
         ·rw[q,hef _ _ _ _ hbq]
        rw[this]
        exact pd_ok hT' (hok.resolve_left (by simp[hcl]))
       refine Oper.wp_mono ?_ (this heff _)
       rintro a' w' ⟨s',r',h'⟩
       exact fin s' a' w' r' h'
      |pure =>
       rw[hcl] at this
       obtain ⟨v,s',hv,r',h'⟩:=this
       unfold Oper.wp
       rw[hv w,Oper.upon_value]
       exact fin s' _ w r' h'
      |read =>
       rw[hcl] at this
       obtain ⟨v,s',E,G',hE,hv,r',h'⟩:=this
       unfold Oper.wp
       rw[hv w (fun e he=>(hE e he).2) (fun x hx=>r'.stab x (mem_append_left _ hx)),Oper.upon_value]
       exact fin s' _ w ((r'.less fun e he=>mem_append_right _ he).lessG fun e he=>mem_append_right _ he) h'
     ·rw[if_neg (by simp[hw])]
      exact fin s1 _ w r' h1
    ·exact hj'.elim
end
def insK {β:Type} (x:Nat×β):List (Nat×β)→List (Nat×β)
 | []=>[x]
 |y::l=>if x.1≤y.1 then x::y::l else y::insK x l
def sortK {β:Type}:List (Nat×β)→List (Nat×β)
 | []=>[]
 |x::l=>insK x (sortK l)
def St.norm (s:St):St:=⟨sortK s.tm,sortK s.ck⟩
theorem insK_perm {β:Type} (x:Nat×β):∀l:List (Nat×β),(insK x l).Perm (x::l)
 | []=>.refl _
 |y::l=>by
  unfold insK
  split
  ·exact .refl _
  ·exact ((insK_perm x l).cons y).trans (.swap x y l)
theorem sortK_perm {β:Type}:∀l:List (Nat×β),(sortK l).Perm l
 | []=>.refl _
 |x::l=>(insK_perm x _).trans ((sortK_perm l).cons x)
theorem insK_map {β γ:Type} (f:β→γ) (x:Nat×β):∀l:List (Nat×β),(insK x l).map (fun r=>(r.1,f r.2))=insK (x.1,f x.2) (l.map fun r=>(r.1,f r.2))
 | []=>rfl
 |y::l=>by
  simp only[insK,map_cons]
  split
  ·rfl
  ·rw[map_cons,insK_map f x l]
theorem sortK_map {β γ:Type} (f:β→γ):∀l:List (Nat×β),(sortK l).map (fun r=>(r.1,f r.2))=sortK (l.map fun r=>(r.1,f r.2))
 | []=>rfl
 |x::l=>by rw[sortK,insK_map,sortK_map f l]; rfl
theorem star_perm {Γ:HF} {l l':List (Nat×RC)} (p:l.Perm l'):∀ {h:HF},Star Γ l h→Star Γ l' h:=by
 induction p with
 |nil=>exact fun h=>h
 |cons x _ ih=>rintro h ⟨h1,h2,d,e,o,st⟩; exact ⟨h1,h2,d,e,o,ih st⟩
 |swap x y l =>
  rintro h ⟨h1,h2,d,rfl,o,g1,g2,d',rfl,o',st⟩
  obtain ⟨d1,d2⟩:=HF.dj_un.1 d
  refine ⟨g1,h1.un g2,HF.dj_un.2 ⟨d1.symm,d'⟩,?_,o',h1,g2,d2,rfl,o,st⟩
  rw[←HF.un_assoc,←HF.un_assoc,HF.un_comm d1]
 |trans _ _ ih1 ih2=>exact fun h=>ih2 (ih1 h)
theorem look_perm {β:Type} {l l':List (Nat×β)} (p:l.Perm l'):(l.map (·.1)).Nodup→∀n,look l n=look l' n:=by
 induction p with
 |nil=>exact fun _ _=>rfl
 |cons x _ ih =>
  intro nd n
  rw[map_cons,nodup_cons] at nd
  simp only[look,ih nd.2 n]
 |swap x y l =>
  intro nd n
  simp only[map_cons,nodup_cons,mem_cons,not_or] at nd
  simp only[look]
  split<;>split<;>first | rfl | (rename_i h1 h2; simp at h1 h2; exact absurd (h1.trans h2.symm) nd.1.1)
 |trans p _ ih1 ih2=>exact fun nd n=>(ih1 nd n).trans (ih2 ((p.map (·.1)).nodup_iff.1 nd) n)
theorem SV.is_look {Γ:HF} {rcs rcs':List (Nat×RC)} (h:∀n,look rcs n=look rcs' n) {v:Value}:∀ {s:SV},s.is Γ rcs v→s.is Γ rcs' v
 |.val _ _,i=>i
 |.ptr _ _,⟨r,q,e,i⟩=>⟨r,q,(h _).symm.trans e,i⟩
 |.at _ _,⟨r,q,e,i⟩=>⟨r,q,(h _).symm.trans e,i⟩
 |.slc _ _ _ _,⟨r,t,e,hole,x',z',a,e1,i⟩=>⟨r,t,e,hole,x',z',a,(h _).symm.trans e1,i⟩
 |.eptr _ _,i=>i
 |.nilS,i=>i
 |.nilP,i=>i
 |.bnd _ _ _,i=>i
 |.clo _ _,⟨vs,e,hl,i⟩=>⟨vs,e,hl,fun j id hj=>let ⟨r,b,t,e1,i1⟩:=i j id hj; ⟨r,b,t,(h _).symm.trans e1,i1⟩⟩
theorem AV.is_look {Γ:HF} {rcs rcs':List (Nat×RC)} (h:∀n,look rcs n=look rcs' n) {v:Value}:∀ {s:AV},s.is Γ rcs v→s.is Γ rcs' v
 |.one _,i=>SV.is_look h i
 |.tup _,⟨vs,e,hl,i⟩=>⟨vs,e,hl,fun j s hj=>let ⟨u,hu,i1⟩:=i j s hj; ⟨u,hu,SV.is_look h i1⟩⟩
theorem R.norm {F:Fr} {s:St} {a:Act} {w:World} (r:R F s a w):R F s.norm a w:=by
 obtain ⟨Γ,rcs,h,g⟩:=r
 have hl:∀n,look rcs n=look (sortK rcs) n:=look_perm (sortK_perm rcs).symm g.nodup
 refine ⟨Γ,sortK rcs,h,?_,((sortK_perm rcs).map (·.1)).nodup_iff.2 g.nodup,star_perm (sortK_perm rcs).symm g.star,g.mem,g.memR,g.dj,g.defers,g.tsz,?_,g.size,g.keep,g.own,g.ro,g.ro0,g.os,g.tape,g.output,g.sg,?_,?_⟩
 ·show (sortK rcs).map (fun r=>(r.1,r.2.ck))=sortK s.ck
  rw[sortK_map RC.ck,g.ck]
 ·intro t av hm
  obtain ⟨v,hv,hi⟩:=g.tm t av ((sortK_perm s.tm).mem_iff.1 hm)
  exact ⟨v,hv,AV.is_look hl hi⟩
 ·intro e he
  obtain ⟨h1,h2⟩:=g.bx e he
  exact ⟨h1,fun id hid=>by rw[←hl]; exact h2 id hid⟩
 ·intro m hm r hr
  rw[←hl] at hr
  exact g.md m hm r hr
section
variable {P:Program} {F:Fr} {S:Stepper} {ops:Array Oper} {K:α→Prop}
theorem region_any (hs:StepOK P F S) (hrd:∀o s t b,boolAt s t=some b→S.rd o (s.setB t b)=S.rd o s) (hef:∀o s t b,boolAt s t=some b→S.eff o (s.setB t b)=S.eff o s) (hm:P.follows .mixedOrders=true) (hsel:Region.noSelect ops=true) {id:Nat} {s:St} {a:Act} {w:World} {Q:Exit→Act→World→Prop} {k:St→Tr α} (r:R (F.with []) s a w)
  (h:(go S ops ops.size [] (Array.replicate ops.size false) s fun s'=>k s'.norm).sat K) (hQ:∀s' a' w',R (F.with []) s' a' w'→(k s').sat K→Q .normal a' w'):(Code.region id ops true).wp P Q a w:=by
 have:=wp_region_any (id:=id) hm (wpAny_of_wpL _ _ _ _ _ (go_sound hs hrd hef hsel ops.size [] (Array.replicate ops.size false) s a w.drew (fun x hx=>by cases hx) (Closed.none _) r.drew h))
 refine wp_mono this ?_
 intro e a' w' q
 cases e with
 |normal=>obtain ⟨s',r',h'⟩:=q; exact hQ _ a' w' r'.norm h'
 |_=>exact q.elim
def goSeq (S:Stepper) (ops:Array Oper):List Nat→St→(St→Tr α)→Tr α
 | [],s,k=>k s
 |i::l,s,k=>exec S ops i s fun s'=>goSeq S ops l s' k
theorem effok_nil (e:Eff):e.ok []:=fun x hx=>by cases hx
theorem goSeq_sound (hs:StepOK P F S) {k:St→Tr α}:∀(l:List Nat) (s:St) (a:Act) (w:World),(∀i∈l,i<ops.size)→R (F.with []) s a w→(goSeq S ops l s k).sat K→wpOps P ops (endQ (F.with []) k K) l a w
 | [],s,a,w,_,r,h=>⟨s,r,h⟩
 |i::l,s,a,w,hl,r,h=>by
  obtain ⟨o,hi⟩:∃o,ops[i]? = some o:=⟨_,Array.getElem?_eq_getElem (hl i (by simp))⟩
  simp only[wpOps,hi]
  rcases exec_sound hs.1 hi r h with ⟨hw,s1,hs1,r1,h1⟩ | ⟨hw,s1,r',h1⟩
  ·rw[if_pos hw]
   refine .inl ?_
   have:=hs.2 [] F.G _ o s1 _ K a w r1 h1
   cases hc:S.cls o with
   |world =>
    rw[hc] at this
    refine Oper.wp_mono ?_ (this (effok_nil _) _)
    rintro a' w' ⟨s',r',h'⟩
    exact goSeq_sound hs l s' a' w' (fun j hj=>hl j (by simp[hj])) r' h'
   |pure =>
    rw[hc] at this
    obtain ⟨v,s',hv,r',h'⟩:=this
    unfold Oper.wp
    rw[hv w,Oper.upon_value]
    exact goSeq_sound hs l s' _ w (fun j hj=>hl j (by simp[hj])) r' h'
   |read =>
    rw[hc] at this
    obtain ⟨v,s',E,G',hE,hv,r',h'⟩:=this
    unfold Oper.wp
    rw[hv w (fun e he=>(hE e he).2) (fun x hx=>r'.stab x (mem_append_left _ hx)),Oper.upon_value]
    exact goSeq_sound hs l s' _ w (fun j hj=>hl j (by simp[hj])) (endG (r'.less fun e he=>by cases he)) h'
  ·rw[if_neg (by simp[hw])]
   exact goSeq_sound hs l s1 _ w (fun j hj=>hl j (by simp[hj])) r' h1
theorem region_seq (hs:StepOK P F S) {id:Nat} {s:St} {a:Act} {w:World} {Q:Exit→Act→World→Prop} {k:St→Tr α} (r:R (F.with []) s a w)
  (h:(goSeq S ops (List.range ops.size) s k).sat K) (hQ:∀s' a' w',R (F.with []) s' a' w'→(k s').sat K→Q .normal a' w'):(Code.region id ops false).wp P Q a w:=by
 have:=wp_region (id:=id) (goSeq_sound hs (List.range ops.size) s a w (fun i hi=>List.mem_range.1 hi) r h)
 refine wp_mono this ?_
 intro e a' w' q
 cases e with
 |normal=>obtain ⟨s',r',h'⟩:=q; exact hQ s' a' w' r' h'
 |_=>exact q.elim
end
def opv (s:St):Operand→Option AV
 |.tmp t=>look s.tm t
 |.const (.bool b)=>some (.one (.val .bool b))
 |.const (.int k n)=>if k.min≤n∧n≤k.max then some (.one (.val (.int k) n)) else none
 |.const (.string b)=>if b.size≤9223372036854775807 then some (.one (.val .str b)) else none
 |.const (.slice none 0 0)=>some (.one .nilS)
 |.const (.pointer none)=>some (.one .nilP)
 |.func f=>some (.one (.clo f []))
 |_=>none
def opo (s:St) (x:Operand):Option SV:=match opv s x with
 |some (.one v)=>some v
 |_=>none
section
variable {F:Fr} {s:St} {a:Act} {w:World} {Γ:HF} {rcs:List (Nat×RC)} {h:HF}
theorem own_free {Γ:HF}:∀ {K:Kd} {x:K.T} {z:K.Z} {h:HF},K.free=true→K.Own Γ x z h→h=HF.emp
 |.int _,_,_,_,_,o=>o.1
 |.bool,_,_,_,_,o=>o
 |.str,_,_,_,_,o=>o.1
 |.un,_,_,_,_,o=>o
 |.unit,_,_,_,_,o=>o
 |.tree _ _,_,_,_,_,o=>o.1
 |.tl _ _,_,_,_,_,o=>o.1
 |.ep _,_,_,_,_,o=>o.1
 |.mp _ _ _,none,_,_,_,o=>o
 |.mp false _ _,some _,_,_,_,o=>by
  obtain ⟨es,clk,e,_⟩:=o
  exact e.2
 |.mp true _ _,some _,_,_,f,_=>by cases f
 |.pair a b,x,z,h,f,o=>by
  obtain ⟨h1,h2,d,e,o1,o2⟩:=o
  simp only[free,Bool.and_eq_true] at f
  rw[e,own_free f.1 o1,own_free f.2 o2,HF.un_emp]
 |.arr n e,x,z,h,f,o=>by
  have key:∀m h,Each (fun i=>e.Own Γ (getD x i e.dft) (z i)) m h→h=HF.emp:=by
   intro m
   induction m with
   |zero=>exact fun h e=>e
   |succ m ih =>
    rintro h ⟨h1,h2,d,e',e1,p⟩
    rw[e',ih h1 e1,show h2=HF.emp from own_free (K:=e) f p,HF.un_emp]
  exact key n h o.2
 |.sl own t e hole,x,z,h,f,o=>by
  obtain ⟨zo,zf⟩:=z
  simp only[free,Bool.and_eq_true,Bool.not_eq_true',Option.isNone_iff_eq_none] at f
  cases zo with
  |none=>exact o.2
  |some q =>
   obtain ⟨b,off,cap⟩:=q
   obtain ⟨c,h2,_,_,_,_,he,hd⟩:=o
   rw[f.1.1] at hd
   simp only[Bool.false_eq_true,if_false] at hd
   rw[hd.2]
   have key:∀m h,Each (fun i hi=>if hole=some i then hi=HF.emp else e.Own Γ (getD x i e.dft) (zf i) hi) m h→h=HF.emp:=by
    intro m
    induction m with
    |zero=>exact fun h e=>e
    |succ m ih =>
     rintro h ⟨h1,h2,d,e',e1,p⟩
     rw[f.2] at p
     rw[e',ih h1 e1,show h2=HF.emp from own_free (K:=e) f.1.2 (by simpa using p),HF.un_emp]
   exact key _ _ he
theorem Good.tmpIs (g:Good F s a w Γ rcs h) {t:Nat} {av:AV} (hl:look s.tm t=some av):av.is Γ rcs (a.eval (.tmp t)):=by
 obtain ⟨v,hv,hi⟩:=g.tm t av (look_mem hl)
 have:a.eval (.tmp t)=v:=by simp[Act.eval,hv]
 rw[this]
 exact hi
theorem Good.opvIs (g:Good F s a w Γ rcs h) {x:Operand} {av:AV} (hx:opv s x=some av):av.is Γ rcs (a.eval x):=by
 unfold YtibammoednhnoaaE.opv at hx
 split at hx
 ·exact g.tmpIs hx
 ·injection hx with hx; subst hx; exact ⟨rfl,(),rfl,rfl⟩
 ·split at hx
  ·rename_i hr
   injection hx with hx; subst hx; exact ⟨rfl,(),⟨rfl,hr.1,hr.2⟩,rfl⟩
  ·cases hx
 ·split at hx
  ·rename_i hr
   injection hx with hx; subst hx; exact ⟨rfl,(),⟨rfl,hr⟩,rfl⟩
  ·cases hx
 ·injection hx with hx; subst hx; rfl
 ·injection hx with hx; subst hx; rfl
 ·injection hx with hx; subst hx; exact ⟨[],rfl,rfl,fun i id h=>by simp at h⟩
 ·cases hx
theorem Good.opoIs (g:Good F s a w Γ rcs h) {x:Operand} {sv:SV} (hx:opo s x=some sv):sv.is Γ rcs (a.eval x):=by
 unfold YtibammoednhnoaaE.opo at hx
 split at hx
 ·rename_i v hv
  injection hx with hx; subst hx
  exact g.opvIs hv
 ·cases hx
theorem is_int {k:IntKind} {n:Int} {v:Value} (hv:(SV.val (.int k) n).is Γ rcs v):v=.int k n∧k.min≤n∧n≤k.max:=by
 obtain ⟨_,z,o,e⟩:=hv
 exact ⟨e,o.2⟩
theorem is_bool {n:Bool} {v:Value} (hv:(SV.val .bool n).is Γ rcs v):v=.bool n:=by
 obtain ⟨_,z,o,e⟩:=hv
 exact e
theorem is_str {n:ByteArray} {v:Value} (hv:(SV.val .str n).is Γ rcs v):v=.string n∧n.size≤9223372036854775807:=by
 obtain ⟨_,z,o,e⟩:=hv
 exact ⟨e,o.2⟩
theorem int_is {k:IntKind} {n:Int} (h:k.min≤n∧n≤k.max):(SV.val (.int k) n).is Γ rcs (.int k n):=⟨rfl,(),⟨rfl,h⟩,rfl⟩
theorem bool_is {n:Bool}:(SV.val .bool n).is Γ rcs (.bool n):=⟨rfl,(),rfl,rfl⟩
theorem str_is {n:ByteArray} (h:n.size≤9223372036854775807):(SV.val .str n).is Γ rcs (.string n):=⟨rfl,(),⟨rfl,h⟩,rfl⟩
end
def set (n:Lim) (s:St) (o:Oper) (av:AV) (k:St→Tr α):Tr α:=match o.dst with
 |some d=>if d<n.n then k ⟨(d,av)::del s.tm d,s.ck⟩ else .bad
 |none=>.bad
theorem set_ok {F:Fr} {s:St} {a:Act} {w:World} {Γ:HF} {rcs:List (Nat×RC)} {h:HF} {o:Oper} {av:AV} {k:St→Tr α} {K:α→Prop} {v:Value}
  (hs:(set F.n s o av k).sat K) (g:Good F s a w Γ rcs h) (hv:av.is Γ rcs v):∃s',R F s' (a.put o.dst v) w∧(k s').sat K:=by
 unfold set at hs
 split at hs
 ·rename_i d hd
  split at hs
  ·rename_i hn
   rw[hd]
   exact ⟨_,⟨Γ,rcs,h,g.put hn hv⟩,hs⟩
  ·exact hs.elim
 ·exact hs.elim
def PureOK (P:Program) (F:Fr) (o:Oper) (s:St) (t:Tr α) (k:St→Tr α):Prop:=∀(K:α→Prop) (a:Act) (w:World) (Γ:HF) (rcs:List (Nat×RC)) (h:HF),Good F s a w Γ rcs h→t.sat K →
 ∃v s',(∀w',(execOp a.eval o).run P w'=.ok (.value v) w')∧R F s' (a.put o.dst v) w∧(k s').sat K
theorem pure_set {P:Program} {F:Fr} {o:Oper} {s:St} {av:AV} {k:St→Tr α} (hv:∀(a:Act) (w:World) (Γ:HF) (rcs:List (Nat×RC)) (h:HF),Good F s a w Γ rcs h→∃v,(∀w',(execOp a.eval o).run P w'=.ok (.value v) w')∧av.is Γ rcs v) :
  PureOK P F o s (set F.n s o av k) k:=fun K a w Γ rcs h g hs =>
 let ⟨v,hr,hi⟩:=hv a w Γ rcs h g
 let ⟨s',r,q⟩:=set_ok hs g hi
 ⟨v,s',hr,r,q⟩
theorem pure_bad {P:Program} {F:Fr} {o:Oper} {s:St} {k:St→Tr α}:PureOK P F o s .bad k:=fun _ _ _ _ _ _ _ h=>h.elim
theorem pure_need {P:Program} {F:Fr} {o:Oper} {s:St} {t:Tr α} {p:Prop} [Decidable p] {k:St→Tr α} (h:p→PureOK P F o s t k):PureOK P F o s (.need p t) k:=fun K a w Γ rcs hh g hs=>h hs.1 K a w Γ rcs hh g hs.2
theorem pure_split {P:Program} {F:Fr} {o:Oper} {s:St} {t f:Tr α} {b:Bool} {k:St→Tr α} (h1:b=true→PureOK P F o s t k) (h2:b=false→PureOK P F o s f k):PureOK P F o s (.split b t f) k:=fun K a w Γ rcs hh g hs=>by
 cases hb:b with
 |true=>exact h1 hb K a w Γ rcs hh g (hs.1 hb)
 |false=>exact h2 hb K a w Γ rcs hh g (hs.2 hb)
def stMove (n:Lim) (o:Oper) (x:Operand) (s:St) (k:St→Tr α):Tr α:=match opv s x with
 |some av=>set n s o av k
 |none=>.bad
theorem stMove_ok {P:Program} {F:Fr} {o:Oper} {x:Operand} {s:St} {k:St→Tr α} (ho:o.op=.move x∨o.op=.assign x):PureOK P F o s (stMove F.n o x s k) k:=by
 unfold stMove
 split
 ·rename_i av hav
  refine pure_set fun a w Γ rcs h g=>⟨a.eval x,fun w'=>?_,g.opvIs hav⟩
  rcases ho with e | e<;>simp only[execOp,e]<;>rfl
 ·exact pure_bad
def stPick (n:Lim) (o:Oper) (c x y:Operand) (s:St) (k:St→Tr α):Tr α:=match opo s c with
 |some (.val .bool b)=>.split b (stMove n o x s k) (stMove n o y s k)
 |_=>.bad
theorem stPick_ok {P:Program} {F:Fr} {o:Oper} {c x y:Operand} {s:St} {k:St→Tr α} (ho:o.op=.pick c x y):PureOK P F o s (stPick F.n o c x y s k) k:=by
 unfold stPick
 split
 ·rename_i b hc
  refine pure_split (fun hb=>?_) (fun hb=>?_) <;>
  ·unfold stMove
   split
   ·rename_i av hav
    refine pure_set fun a w Γ rcs h g=>⟨_,fun w'=>?_,g.opvIs hav⟩
    have:=is_bool (g.opoIs hc)
    simp[execOp,ho,this,hb,asBool]
   ·exact pure_bad
 ·exact pure_bad
def binI (op:BinOp) (k:IntKind) (a b:Int):Prop×SV:=match op with
 |.add=>(True,.val (.int k) (k.wrap (a+b)))
 |.sub=>(True,.val (.int k) (k.wrap (a-b)))
 |.mul=>(True,.val (.int k) (k.wrap (a*b)))
 |.quo=>(b≠0,.val (.int k) (k.wrap (a.tdiv b)))
 |.rem=>(b≠0,.val (.int k) (a.tmod b))
 |.and=>(True,.val (.int k) (k.wrap (BitVec.ofInt k.bits a &&& BitVec.ofInt k.bits b).toNat))
 |.or=>(True,.val (.int k) (k.wrap (BitVec.ofInt k.bits a ||| BitVec.ofInt k.bits b).toNat))
 |.xor=>(True,.val (.int k) (k.wrap (BitVec.ofInt k.bits a ^^^ BitVec.ofInt k.bits b).toNat))
 |.andNot=>(True,.val (.int k) (k.wrap (BitVec.ofInt k.bits a &&& ~~~BitVec.ofInt k.bits b).toNat))
 |.shl=>(0≤b,.val (.int k) (k.wrap (a*2^(min b.toNat k.bits))))
 |.shr=>(0≤b,.val (.int k) (a.fdiv (2^(min b.toNat k.bits))))
 |.eql=>(True,.val .bool (a==b))
 |.neq=>(True,.val .bool (a != b))
 |.lss=>(True,.val .bool (decide (a<b)))
 |.leq=>(True,.val .bool (decide (a≤b)))
 |.gtr=>(True,.val .bool (decide (a>b)))
 |.geq=>(True,.val .bool (decide (a≥b)))
instance (op:BinOp) (k:IntKind) (a b:Int):Decidable (binI op k a b).1:=match op with
 |.add | .sub | .mul | .and | .or | .xor | .andNot | .eql | .neq | .lss | .leq | .gtr | .geq=>inferInstanceAs (Decidable True)
 |.quo | .rem=>inferInstanceAs (Decidable (b≠0))
 |.shl | .shr=>inferInstanceAs (Decidable (0≤b))
theorem min_max (k:IntKind):k.min≤0∧0≤k.max:=by cases k<;>decide
theorem wrap_range (k:IntKind) (n:Int):k.min≤k.wrap n∧k.wrap n≤k.max:=by
 cases k<;>simp only[IntKind.wrap,IntKind.min,IntKind.max,IntKind.signed,IntKind.bits]<;>simp<;>(try split)<;>omega
theorem tmod_range {k:IntKind} {a b:Int} (h:k.min≤a∧a≤k.max):k.min≤a.tmod b∧a.tmod b≤k.max:=by
 have h1:=min_max k
 have h2:(a.tmod b).natAbs≤a.natAbs:=by rw[Int.natAbs_tmod]; exact Nat.mod_le _ _
 rcases Int.le_total 0 a with h0 | h0
 ·have:=Int.tmod_nonneg b h0
  omega
 ·have:a.tmod b≤0:=by
   have:=Int.tmod_nonneg b (show 0≤-a by omega)
   rw[Int.neg_tmod] at this
   omega
  omega
theorem fdiv_range {k:IntKind} {a:Int} {n:Nat} (h:k.min≤a∧a≤k.max):k.min≤a.fdiv (2^n)∧a.fdiv (2^n)≤k.max:=by
 have h1:=min_max k
 have hp:(1:Int)≤2^n:=by
  have:(0:Int)<2^n:=Int.pow_pos (by decide)
  omega
 rw[Int.fdiv_eq_ediv_of_nonneg _ (by omega)]
 rcases Int.le_total 0 a with h0 | h0
 ·have:=Int.ediv_nonneg h0 (show (0:Int)≤2^n by omega)
  have:=Int.ediv_le_self (2^n) h0
  omega
 ·have h2:a≤a/2^n:=by
   refine Int.le_ediv_of_mul_le (by omega) ?_
   have:=Int.mul_le_mul_of_nonpos_left h0 hp
   omega
  have h3:a/2^n≤0:=by
   have:=Int.ediv_le_ediv (c:=2^n) (by omega) h0
   simpa using this
  omega
theorem binI_ok {P:Program} {op:BinOp} {k k':IntKind} {a b:Int} {x y:Operand} {t:TypeId} (hk:k=k'∨op=.shl∨op=.shr) (ha:k.min≤a∧a≤k.max) (hp:(binI op k a b).1) {Γ:HF} {rcs:List (Nat×RC)} :
  ∃v,(∀w,(do eqGuard op t x y (.int k a) (.int k' b); binOp op t (.int k a) (.int k' b):Sem Value).run P w=.ok v w)∧(binI op k a b).2.is Γ rcs v:=by
 cases op<;>simp only[binI] at hp ⊢
 case shl=>exact ⟨_,fun w=>by simp[eqGuard,binOp,Op.shift,show ¬b<0 by omega],int_is (wrap_range _ _)⟩
 case shr=>exact ⟨_,fun w=>by simp[eqGuard,binOp,Op.shift,show ¬b<0 by omega],int_is (fdiv_range ha)⟩
 all_goals obtain rfl:k=k':=by rcases hk with e | e | e<;>first | exact e | cases e
 case add | sub | mul=>exact ⟨_,fun w=>by simp[eqGuard,binOp,Op.intArith],int_is (wrap_range _ _)⟩
 case quo=>exact ⟨_,fun w=>by simp only[binOp,ne_eq,not_true_eq_false,if_false,Op.intDiv,hp]; rfl,int_is (wrap_range _ _)⟩
 case rem=>exact ⟨_,fun w=>by simp only[binOp,ne_eq,not_true_eq_false,if_false,Op.intDiv,hp]; rfl,int_is (tmod_range ha)⟩
 case and | or | xor | andNot=>exact ⟨_,fun w=>by simp only[binOp,ne_eq,not_true_eq_false,if_false,Op.intBits]; rfl,int_is (wrap_range _ _)⟩
 case eql | neq | lss | leq | gtr | geq=>exact ⟨_,fun w=>by simp[eqGuard,binOp,Op.intCmp],bool_is⟩
namespace Kd
def chain:Kd→Bool
 |.unit=>true
 |.pair _ b=>chain b
 |_=>false
def app:Kd→Kd→Kd
 |.pair a b,L=>.pair a (app b L)
 |_,L=>L
def appT:(K L:Kd)→K.T→L.T→(app K L).T
 |.pair _ b,L,x,y=>(x.1,appT b L x.2 y)
 |.unit,_,_,y=>y
 |.int _,_,_,y=>y
 |.bool,_,_,y=>y
 |.str,_,_,y=>y
 |.un,_,_,y=>y
 |.arr _ _,_,_,y=>y
 |.sl _ _ _ _,_,_,y=>y
 |.tree _ _,_,_,y=>y
 |.tl _ _,_,_,y=>y
 |.mp _ _ _,_,_,y=>y
 |.ep _,_,_,y=>y
def appZ:(K L:Kd)→K.Z→L.Z→(app K L).Z
 |.pair _ b,L,x,y=>(x.1,appZ b L x.2 y)
 |.unit,_,_,y=>y
 |.int _,_,_,y=>y
 |.bool,_,_,y=>y
 |.str,_,_,y=>y
 |.un,_,_,y=>y
 |.arr _ _,_,_,y=>y
 |.sl _ _ _ _,_,_,y=>y
 |.tree _ _,_,_,y=>y
 |.tl _ _,_,_,y=>y
 |.mp _ _ _,_,_,y=>y
 |.ep _,_,_,y=>y
def splT:(K L:Kd)→(app K L).T→K.T×L.T
 |.pair _ b,L,w=>let p:=splT b L w.2; ((w.1,p.1),p.2)
 |.unit,_,y=>((),y)
 |.int _,_,y=>((0:Int),y)
 |.bool,_,y=>(false,y)
 |.str,_,y=>(ByteArray.empty,y)
 |.un,_,y=>((),y)
 |.arr _ _,_,y=>([],y)
 |.sl _ _ _ _,_,y=>([],y)
 |.tree _ e,_,y=>(.mk e.dft [],y)
 |.tl _ _,_,y=>([],y)
 |.mp _ _ _,_,y=>(none,y)
 |.ep _,_,y=>(none,y)
def splZ:(K L:Kd)→(app K L).Z→K.Z×L.Z
 |.pair _ b,L,w=>let p:=splZ b L w.2; ((w.1,p.1),p.2)
 |.unit,_,y=>((),y)
 |.int k,_,y=>((Kd.int k).zd,y)
 |.bool,_,y=>(Kd.bool.zd,y)
 |.str,_,y=>(Kd.str.zd,y)
 |.un,_,y=>(Kd.un.zd,y)
 |.arr n e,_,y=>((Kd.arr n e).zd,y)
 |.sl o t e h,_,y=>((Kd.sl o t e h).zd,y)
 |.tree t e,_,y=>((Kd.tree t e).zd,y)
 |.tl _ _,_,y=>(none,y)
 |.mp o t k,_,y=>((Kd.mp o t k).zd,y)
 |.ep e,_,y=>((Kd.ep e).zd,y)
@[reducible] def lst (t:TypeId) (e:Kd):Kd:=.pair (.tl t e) .unit
def unfK:Kd→Kd
 |.tree t e=>app e (lst t e)
 |.int k=>.int k | .bool=>.bool | .str=>.str | .un=>.un | .unit=>.unit
 |.pair a b=>.pair a b
 |.arr n e=>.arr n e
 |.sl o t e h=>.sl o t e h
 |.tl t e=>.tl t e
 |.mp o t k=>.mp o t k
 |.ep e=>.ep e
def unfT:(K:Kd)→K.T→(unfK K).T
 |.tree t e,x=>appT e (lst t e) x.a (x.l,())
 |.int _,x=>x | .bool,x=>x | .str,x=>x | .un,x=>x | .unit,x=>x
 |.pair _ _,x=>x
 |.arr _ _,x=>x
 |.sl _ _ _ _,x=>x
 |.tl _ _,x=>x
 |.mp _ _ _,x=>x
 |.ep _,x=>x
def unfOK:Kd→Bool
 |.tree _ e=>chain e&&e.free
 |_=>true
def foldT (t:TypeId) (e:Kd) (x:(app e (lst t e)).T):Tree e.T:=let p:=splT e (lst t e) x; .mk p.1 p.2.1
def tail? : Kd→Option (TypeId×Kd)
 |.pair (.tl t e) .unit=>some (t,e)
 |.pair _ b=>tail? b
 |_=>none
theorem app_own {Γ:HF}:∀(K L:Kd) (x:K.T) (y:L.T) (z:K.Z) (u:L.Z),chain K=true→K.Own Γ x z HF.emp→K.free=true→L.Own Γ y u HF.emp →
  (app K L).Own Γ (appT K L x y) (appZ K L z u) HF.emp∧(app K L).cells (appT K L x y) (appZ K L z u)=K.cells x z++L.cells y u
 |.pair a b,L,x,y,z,u,hc,o,hf,ol=>by
  obtain ⟨h1,h2,d,e,oa,ob⟩:=o
  simp only[free,Bool.and_eq_true] at hf
  have e1:=own_free hf.1 oa
  have e2:=own_free hf.2 ob
  subst e1; subst e2
  obtain ⟨p,q⟩:=app_own b L x.2 y z.2 u (by simpa[chain] using hc) ob hf.2 ol
  refine ⟨⟨HF.emp,HF.emp,HF.dj_emp _,(HF.un_emp _).symm,oa,p⟩,?_⟩
  show a.cells x.1 z.1++(app b L).cells (appT b L x.2 y) (appZ b L z.2 u)=(a.cells x.1 z.1++b.cells x.2 z.2)++L.cells y u
  rw[q,List.append_assoc]
 |.unit,L,x,y,z,u,hc,o,hf,ol=>⟨ol,rfl⟩
 |.int _,_,_,_,_,_,hc,_,_,_=>by cases hc
 |.bool,_,_,_,_,_,hc,_,_,_=>by cases hc
 |.str,_,_,_,_,_,hc,_,_,_=>by cases hc
 |.un,_,_,_,_,_,hc,_,_,_=>by cases hc
 |.arr _ _,_,_,_,_,_,hc,_,_,_=>by cases hc
 |.sl _ _ _ _,_,_,_,_,_,hc,_,_,_=>by cases hc
 |.tree _ _,_,_,_,_,_,hc,_,_,_=>by cases hc
 |.tl _ _,_,_,_,_,_,hc,_,_,_=>by cases hc
 |.mp _ _ _,_,_,_,_,_,hc,_,_,_=>by cases hc
 |.ep _,_,_,_,_,_,hc,_,_,_=>by cases hc
theorem spl_own {Γ:HF}:∀(K L:Kd) (w:(app K L).T) (z:(app K L).Z),chain K=true→K.free=true→L.free=true→(app K L).Own Γ w z HF.emp →
  K.Own Γ (splT K L w).1 (splZ K L z).1 HF.emp∧L.Own Γ (splT K L w).2 (splZ K L z).2 HF.emp∧(app K L).cells w z=K.cells (splT K L w).1 (splZ K L z).1++L.cells (splT K L w).2 (splZ K L z).2
 |.pair a b,L,w,z,hc,hf,hl,o=>by
  obtain ⟨h1,h2,d,e,oa,ob⟩:=o
  simp only[free,Bool.and_eq_true] at hf
  have e1:=own_free hf.1 oa
  subst e1
  rw[HF.emp_un] at e
  subst e
  obtain ⟨p,q,r⟩:=spl_own b L w.2 z.2 (by simpa[chain] using hc) hf.2 hl ob
  refine ⟨⟨HF.emp,HF.emp,HF.dj_emp _,(HF.un_emp _).symm,oa,p⟩,q,?_⟩
  show a.cells w.1 z.1++(app b L).cells w.2 z.2=(a.cells w.1 z.1++b.cells (splT b L w.2).1 (splZ b L z.2).1)++L.cells (splT b L w.2).2 (splZ b L z.2).2
  rw[r,List.append_assoc]
 |.unit,L,w,z,hc,hf,hl,o=>⟨rfl,o,rfl⟩
 |.int _,_,_,_,hc,_,_,_=>by cases hc
 |.bool,_,_,_,hc,_,_,_=>by cases hc
 |.str,_,_,_,hc,_,_,_=>by cases hc
 |.un,_,_,_,hc,_,_,_=>by cases hc
 |.arr _ _,_,_,_,hc,_,_,_=>by cases hc
 |.sl _ _ _ _,_,_,_,hc,_,_,_=>by cases hc
 |.tree _ _,_,_,_,hc,_,_,_=>by cases hc
 |.tl _ _,_,_,_,hc,_,_,_=>by cases hc
 |.mp _ _ _,_,_,_,hc,_,_,_=>by cases hc
 |.ep _,_,_,_,hc,_,_,_=>by cases hc
theorem app_free:∀(K L:Kd),chain K=true→(app K L).free=(K.free&&L.free)
 |.pair a b,L,hc=>by simp only[app,free,app_free b L (by simpa[chain] using hc),Bool.and_assoc]
 |.unit,L,hc=>by simp[app,free]
 |.int _,_,hc=>by cases hc
 |.bool,_,hc=>by cases hc
 |.str,_,hc=>by cases hc
 |.un,_,hc=>by cases hc
 |.arr _ _,_,hc=>by cases hc
 |.sl _ _ _ _,_,hc=>by cases hc
 |.tree _ _,_,hc=>by cases hc
 |.tl _ _,_,hc=>by cases hc
 |.mp _ _ _,_,hc=>by cases hc
 |.ep _,_,hc=>by cases hc
theorem app_single:∀(K L:Kd),single L=false→chain K=true→single (app K L)=false
 |.pair a b,L,_,_=>rfl
 |.unit,L,h,_=>h
 |.int _,_,_,hc=>by cases hc
 |.bool,_,_,hc=>by cases hc
 |.str,_,_,hc=>by cases hc
 |.un,_,_,hc=>by cases hc
 |.arr _ _,_,_,hc=>by cases hc
 |.sl _ _ _ _,_,_,hc=>by cases hc
 |.tree _ _,_,_,hc=>by cases hc
 |.tl _ _,_,_,hc=>by cases hc
 |.mp _ _ _,_,_,hc=>by cases hc
 |.ep _,_,_,hc=>by cases hc
end Kd
theorem tree_list {Γ:HF} {t:TypeId} {e:Kd} {x:Tree e.T} {z:e.Z×Option (Addr×Nat)} (o:(Kd.tree t e).Own Γ x z HF.emp) :
  e.Own Γ x.a z.1 HF.emp∧(Kd.tl t e).Own Γ x.l z.2 HF.emp:=⟨o.2.parts.1,rfl,o.2.parts.2⟩
theorem list_tree {Γ:HF} {t:TypeId} {e:Kd} {a:e.T} {l:List (Tree e.T)} {y:e.Z} {z:Option (Addr×Nat)} (h:e.Own Γ a y HF.emp) (o:(Kd.tl t e).Own Γ l z HF.emp) :
  (Kd.tree t e).Own Γ (.mk a l) (y,z) HF.emp:=⟨rfl,LOwn.tree h o.2⟩
theorem unf_own {Γ:HF}:∀ {K:Kd} {x:K.T} {z:K.Z} {h:HF},unfOK K=true→K.Own Γ x z h→∃z',(unfK K).Own Γ (unfT K x) z' h∧(unfK K).cells (unfT K x) z'=K.cells x z
 |.tree t e,x,z,h,hk,o=>by
  simp only[unfOK,Bool.and_eq_true] at hk
  obtain rfl:h=HF.emp:=o.1
  obtain ⟨oa,ol⟩:=tree_list o
  obtain ⟨p,q⟩:=app_own e (lst t e) x.a (x.l,()) z.1 (z.2,()) hk.1 oa hk.2 ⟨HF.emp,HF.emp,HF.dj_emp _,(HF.un_emp _).symm,ol,rfl⟩
  exact ⟨_,p,q⟩
 |.int _,x,z,h,_,o=>⟨z,o,rfl⟩
 |.bool,x,z,h,_,o=>⟨z,o,rfl⟩
 |.str,x,z,h,_,o=>⟨z,o,rfl⟩
 |.un,x,z,h,_,o=>⟨z,o,rfl⟩
 |.unit,x,z,h,_,o=>⟨z,o,rfl⟩
 |.pair _ _,x,z,h,_,o=>⟨z,o,rfl⟩
 |.arr _ _,x,z,h,_,o=>⟨z,o,rfl⟩
 |.sl _ _ _ _,x,z,h,_,o=>⟨z,o,rfl⟩
 |.tl _ _,x,z,h,_,o=>⟨z,o,rfl⟩
 |.mp _ _ _,x,z,h,_,o=>⟨z,o,rfl⟩
 |.ep _,x,z,h,_,o=>⟨z,o,rfl⟩
theorem fold_own {Γ:HF} {t:TypeId} {e:Kd} (hc:chain e=true) (hf:e.free=true) {x:(app e (lst t e)).T} {z:(app e (lst t e)).Z} {h:HF} (o:(app e (lst t e)).Own Γ x z h) :
  ∃z',(Kd.tree t e).Own Γ (foldT t e x) z' HF.emp∧(Kd.tree t e).cells (foldT t e x) z'=(app e (lst t e)).cells x z:=by
 have hfr:(app e (lst t e)).free=true:=by rw[app_free e _ hc]; simp[free,hf]
 have:=own_free hfr o
 subst this
 obtain ⟨oa,ol,hcl⟩:=spl_own e (lst t e) x z hc hf (by simp[free,hf]) o
 obtain ⟨h1,h2,d,e1,o1,o2⟩:=ol
 have e2:=own_free (K:=.tl t e) (by simp[free,hf]) o1
 subst e2
 refine ⟨_,list_tree oa o1,?_⟩
 rw[hcl]
 rfl
theorem each_emp' {p:Nat→HF→Prop} (hp:∀i h,p i h→h=HF.emp):∀ {n:Nat} {h:HF},Each p n h→∀i,i<n→p i HF.emp
 |n+1,h,⟨h1,h2,d,e,e1,pn⟩,i,hi=>by
  rcases Nat.lt_or_ge i n with q | q
  ·exact each_emp' hp e1 i q
  ·obtain rfl:i=n:=by omega
   have:=hp i h2 pn
   subst this
   exact pn
theorem sl_tl {Γ:HF} {te t:TypeId} {e:Kd} {l:List (Tree e.T)} {z:(Kd.sl false te (.tree t e) none).Z} {h:HF} (o:(Kd.sl false te (.tree t e) none).Own Γ l z h) :
  ∃z',(Kd.tl t e).Own Γ l z' HF.emp∧(Kd.tl t e).cells l z'=(Kd.sl false te (.tree t e) none).cells l z:=by
 obtain ⟨zo,zf⟩:=z
 cases zo with
 |none =>
  obtain ⟨hl,_⟩:=o
  exact ⟨none,⟨rfl,hl⟩,rfl⟩
 |some q =>
  obtain ⟨b,off,cap⟩:=q
  obtain ⟨c,h2,h1,h3,h4,h5,he,hd⟩:=o
  simp only[Bool.false_eq_true,if_false] at hd
  obtain ⟨⟨t',hd⟩,_⟩:=hd
  refine ⟨some (⟨b,off,none⟩,cap),⟨rfl,.inr ⟨rfl,c,t',fun i=>(zf i).1,fun i=>(zf i).2,h1,h3,h4,hd,h5,fun i hi=>?_⟩⟩,rfl⟩
  have:=each_emp' (fun i h' (p:if none=some i then h'=HF.emp else (Kd.tree t e).Own Γ (l.getD i (Kd.tree t e).dft) (zf i) h')=>by rw[if_neg (by simp)] at p; exact p.1) he i hi
  rw[if_neg (by simp)] at this
  exact this.2
def foldS:(K:Kd)→K.T→SV
 |.sl false te (.tree t e) none,x=>if e.free then .val (.tl t e) x else .val (.sl false te (.tree t e) none) x
 |.pair a b,x=>match tail? (.pair a b) with
  |some (t,e)=>if h:Kd.pair a b=app e (lst t e)∧chain e=true∧e.free=true then .val (.tree t e) (foldT t e (h.1▸x)) else .val (.pair a b) x
  |none=>.val (.pair a b) x
 |K,x=>.val K x
def isF:Kd→Bool
 |.sl false _ (.tree _ _) none=>true
 |.pair a b=>(tail? (.pair a b)).isSome
 |_=>false
theorem foldS_is {Γ:HF} {rcs:List (Nat×RC)} {v:Value} {K:Kd} {x:K.T} (hi:(SV.val K x).is Γ rcs v):(foldS K x).is Γ rcs v:=by
 unfold foldS
 split
 ·split
  ·rename_i hf
   obtain ⟨_,z,o,hv⟩:=hi
   obtain ⟨z',o',hc'⟩:=sl_tl o
   refine ⟨by simpa[free] using hf,z',o',?_⟩
   rw[hv,hc']
   rfl
  ·exact hi
 ·split
  ·rename_i t e _
   split
   ·rename_i h
    obtain ⟨hK,hc,hf⟩:=h
    have key:∀(K:Kd) (x:K.T) (hK:K=app e (lst t e)),(SV.val K x).is Γ rcs v→(SV.val (.tree t e) (foldT t e (hK▸x))).is Γ rcs v:=by
     intro K x hK hi
     subst hK
     obtain ⟨_,z,o,hv⟩:=hi
     obtain ⟨z',o',hc'⟩:=fold_own hc hf o
     refine ⟨by simpa[free] using hf,z',o',?_⟩
     rw[hv,hc']
     unfold toV
     rw[app_single e _ rfl hc]
     rfl
    exact key _ _ hK hi
   ·exact hi
  ·exact hi
 ·exact hi
def foldD (s:St) (t:Nat):St:=match look s.tm t with
 |some (.one (.val K x))=>if isF K then ⟨(t,.one (foldS K x))::del s.tm t,s.ck⟩ else s
 |_=>s
theorem foldD_ok {F:Fr} {s:St} {a:Act} {w:World} {Γ:HF} {rcs:List (Nat×RC)} {h:HF} (g:Good F s a w Γ rcs h) (t:Nat):Good F (foldD s t) a w Γ rcs h:=by
 unfold foldD
 split
 ·rename_i K x hl
  split
  ·obtain ⟨v,hv,hi⟩:=g.tm t _ (look_mem hl)
   refine ⟨g.ck,g.nodup,g.star,g.mem,g.memR,g.dj,g.defers,g.tsz,?_,g.size,g.keep,g.own,g.ro,g.ro0,g.os,g.tape,g.output,g.sg,g.bx,g.md⟩
   intro t' av hm
   rcases List.mem_cons.1 hm with e | e
   ·injection e with e1 e2
    subst e1; subst e2
    exact ⟨v,hv,foldS_is hi⟩
   ·exact g.tm t' av (List.mem_filter.1 e).1
  ·exact g
 ·exact g
theorem pl_append (p q:List Sel) {K:Kd} (x:K.T) (z:K.Z) (a:Nat×Nat) (u:At) (h:pl K x z p a=some u) (hu:u.K≠.un∨q=[]):pl K x z (p++q) a=pl u.K u.x u.z q u.a:=by
 fun_induction pl K x z p a<;>(try (simp_all [pl]; done))
 case case1=>simp at h; subst h; rfl
 all_goals
  rename_i hz hc
  simp only[hc,if_true,hz,and_self] at h
  rcases hu with hu | rfl
  ·simp_all
   exact absurd (by rw[←h]) hu
  ·simp_all [pl]
theorem pl_sub (p:List Sel) {K:Kd} (x:K.T) (z:K.Z) (a:Nat×Nat) (u:At) (h:pl K x z p a=some u):sub K p=some u.K:=by
 fun_induction pl K x z p a<;>simp_all [sub]
 all_goals (subst h; rfl)
theorem thru_append (p q:List Sel) {K:Kd} (h:thru K p=true):thru K (p++q)=true:=by
 fun_induction thru K p<;>simp_all [thru]
def fldSel:Nat→List Sel
 |0=>[.fst]
 |n+1=>.snd::fldSel n
def fldOff:Kd→Nat→Option Nat
 |.pair _ _,0=>some 0
 |.pair a b,n+1=>(fldOff b n).map (a.size + ·)
 |_,_=>none
theorem pl_fld:∀(f:Nat) {K:Kd} (x:K.T) (z:K.Z) (a:Nat×Nat) (off:Nat),fldOff K f=some off→∃u,pl K x z (fldSel f) a=some u∧u.a=(a.1,a.2+off)
 |0,.pair k b,x,z,a,off,h=>by
  simp only[fldOff,Option.some.injEq] at h
  subst h
  exact ⟨⟨k,x.1,z.1,a⟩,by simp[fldSel,pl],by simp⟩
 |n+1,.pair k b,x,z,a,off,h=>by
  simp only[fldOff,Option.map_eq_some_iff] at h
  obtain ⟨o,h1,rfl⟩:=h
  obtain ⟨u,h2,h3⟩:=pl_fld n (K:=b) x.2 z.2 (a.1,a.2+k.size) o h1
  exact ⟨u,h2,by rw[h3,Nat.add_assoc]⟩
section
variable (P:Program)
def fieldAt? (t:TypeId) (f:Nat):Option Nat:=match P.underlying t with
 |some (.struct fs)=>match fs[f]? with
  |some fd=>match P.info? fd.type with
   |some i=>if i.size=0 then none else some fd.offset
   |none=>none
  |none=>none
 |_=>none
variable {P}
theorem run_fieldAt {t:TypeId} {f off b o:Nat} (h:fieldAt? P t f=some off) (w:World):(Instr.fieldAt t (.pointer (some ⟨b,o,none⟩)) f).run P w=.ok (.pointer (some ⟨b,o+off,none⟩)) w:=by
 unfold fieldAt? at h
 split at h
 ·rename_i fs hu
  split at h
  ·rename_i fd hf
   split at h
   ·rename_i i hi
    split at h
    ·cases h
    ·rename_i hz
     injection h with h
     subst h
     simp[Instr.fieldAt,run_underlying hu,hf,Instr.sureAddr,fieldPlace,sizeOf,typeInfo,hi,hz,Addr.add]
   ·cases h
  ·cases h
 ·cases h
def stField (n:Lim) (o:Oper) (t:TypeId) (x:Operand) (f:Nat) (s:St) (k:St→Tr α):Tr α:=match opo s x,fieldAt? P t f with
 |some (.ptr id p),some off=>match look s.ck id with
  |some c=>match sub c.K p with
   |some K=>if fldOff K f=some off then set n s o (.one (.ptr id (p++fldSel f))) k else .bad
   |none=>.bad
  |none=>.bad
 |_,_=>.bad
theorem Good.chunk {F:Fr} {s:St} {a:Act} {w:World} {Γ:HF} {rcs:List (Nat×RC)} {h:HF} (g:Good F s a w Γ rcs h) (id:Nat):look s.ck id=(look rcs id).map RC.ck:=by
 rw[←g.ck]
 generalize rcs=l
 induction l with
 |nil=>rfl
 |cons x l ih =>
  simp only[map_cons,look]
  split
  ·rfl
  ·exact ih
theorem stField_ok {F:Fr} {o:Oper} {t:TypeId} {x:Operand} {f:Nat} {s:St} {k:St→Tr α} (ho:o.op=.fieldAddr t x f):PureOK P F o s (stField (P:=P) F.n o t x f s k) k:=by
 unfold stField
 split
 ·rename_i id p off hx hf
  split
  ·rename_i c hc
   split
   ·rename_i K hK
    split
    ·rename_i hoff
     refine pure_set fun a w Γ rcs h g=>?_
     obtain ⟨r,q,hr,hp,hb,hv⟩:=g.opoIs hx
     have hsub:=pl_sub p _ _ _ _ hp
     have:c=r.ck:=by
      have:=g.chunk id
      rw[hc,hr] at this
      simpa using this
     subst this
     simp only[RC.ck] at hK
     rw[hsub] at hK
     injection hK with hK
     subst hK
     obtain ⟨u,h2,h3⟩:=pl_fld f q.x q.z q.a off hoff
     refine ⟨_,fun w'=>?_,r,u,hr,by rw[pl_append p _ _ _ _ _ hp (.inl (by intro e; rw[e] at hoff; cases f<;>cases hoff))]; exact h2,fun e=>thru_append p _ (hb e),rfl⟩
     simp only[execOp,ho,hv]
     have:=run_fieldAt (P:=P) (b:=q.a.1) (o:=q.a.2) hf w'
     simp[this,h3]
    ·exact pure_bad
   ·exact pure_bad
  ·exact pure_bad
 ·exact pure_bad
end
theorem pl_get (p:List Sel) {K:Kd} (x:K.T) (z:K.Z) (a:Nat×Nat) (u:At) (h:pl K x z p a=some u):getP K x p=some ⟨u.K,u.x⟩:=by
 fun_induction pl K x z p a<;>simp_all [getP]
 all_goals (subst h; exact ⟨rfl,HEq.rfl⟩)
theorem un_right {g h:HF} (d:HF.dj g h) {b:Nat} {v:Blk} (e:h b=some v):(g.un h) b=some v:=by
 rcases d b with q | q
 ·simp[HF.un,q,e]
 ·rw[e] at q; cases q
theorem own_pl {Γ:HF} (p:List Sel) {K:Kd} (x:K.T) (z:K.Z) (a:Nat×Nat) (q:At) (h:HF) (ho:K.Own Γ x z h) (hp:pl K x z p a=some q):∃hq,(∀b v,hq b=some v→h b=some v)∧q.K.Own Γ q.x q.z hq:=by
 fun_induction pl K x z p a generalizing h
 case case1=>simp only[Option.some.injEq] at hp; subst hp; exact ⟨h,fun _ _ e=>e,ho⟩
 case case2 ih =>
  obtain ⟨h1,h2,d,rfl,o1,o2⟩:=ho
  obtain ⟨hq,s,o⟩:=ih _ o1 hp
  exact ⟨hq,fun b v e=>by simp[HF.un,s b v e],o⟩
 case case3 ih =>
  obtain ⟨h1,h2,d,rfl,o1,o2⟩:=ho
  obtain ⟨hq,s,o⟩:=ih _ o2 hp
  exact ⟨hq,fun b v e=>un_right d (s b v e),o⟩
 case case4 ih =>
  obtain ⟨hr,hi',d,rfl,oi,_⟩:=Each.take (by assumption) ho.2
  obtain ⟨hq,s,o⟩:=ih _ oi hp
  exact ⟨hq,fun b v e=>un_right d (s b v e),o⟩
 case case6 hz ih =>
  simp only[Own] at ho
  rw[hz] at ho
  obtain ⟨c,h2,_,_,_,_,he,hd⟩:=ho
  simp only[if_true] at hd
  obtain ⟨hd,rfl⟩:=hd
  obtain ⟨hr,hi',d,rfl,oi,_⟩:=Each.take (by assumption) he
  rw[if_neg (by simp)] at oi
  obtain ⟨hq,s,o⟩:=ih _ oi hp
  exact ⟨hq,fun b v e=>un_right hd (un_right d (s b v e)),o⟩
 case case9=>simp only[Option.some.injEq] at hp; subst hp; exact ⟨HF.emp,fun b v e=>by simp[HF.emp] at e,rfl⟩
 all_goals cases hp
theorem star_take {Γ:HF}:∀ {rcs:List (Nat×RC)} {h:HF} {id:Nat} {r:RC},Star Γ rcs h→look rcs id=some r →
  ∃h1 hr,HF.dj h1 hr∧h=h1.un hr∧r.Own Γ h1
 |(k,r0)::l,h,id,r,⟨g1,g2,d,e,o,st⟩,hl=>by
  simp only[look] at hl
  split at hl
  ·injection hl with hl
   subst hl
   exact ⟨g1,g2,d,e,o⟩
  ·obtain ⟨h1,hr,d1,rfl,o1⟩:=star_take st hl
   subst e
   obtain ⟨d2,d3⟩:=HF.dj_un.1 d
   refine ⟨h1,g1.un hr,HF.dj_un.2 ⟨d2.symm,d1⟩,?_,o1⟩
   rw[←HF.un_assoc,←HF.un_assoc,HF.un_comm d2]
theorem rc_own {Γ:HF} {r:RC} {h:HF} (ho:r.Own Γ h):∃h2,(∀b v,h2 b=some v→h b=some v)∧r.K.Own Γ r.x r.z h2:=by
 unfold RC.Own at ho
 split at ho
 ·obtain ⟨c,h2,d,rfl,o,_⟩:=ho
  refine ⟨h2,fun b v e=>?_,o⟩
  rcases d b with q | q
  ·simp[HF.un,q,e]
  ·rw[e] at q; cases q
 ·exact ⟨h,fun _ _ e=>e,ho⟩
abbrev inb (j n:Int):Prop:=0≤j∧j<n
section
variable (P:Program)
def arrOf? (t:TypeId):Option (Nat×Nat):=match P.underlying t with
 |some (.array n e)=>match P.info? e with
  |some i=>some (n,i.size)
  |none=>none
 |_=>none
def slOf? (t:TypeId):Option (TypeId×Nat):=match P.underlying t with
 |some (.slice e)=>match P.info? e with
  |some i=>some (e,i.size)
  |none=>none
 |_=>none
variable {P}
theorem arrOf_spec {t:TypeId} {n m:Nat} (h:arrOf? P t=some (n,m)):∃e i,P.underlying t=some (.array n e)∧P.info? e=some i∧i.size=m:=by
 unfold arrOf? at h
 split at h
 ·rename_i n' e hu
  split at h
  ·rename_i i hi
   simp only[Option.some.injEq,Prod.mk.injEq] at h
   obtain ⟨rfl,rfl⟩:=h
   exact ⟨e,i,hu,hi,rfl⟩
  ·cases h
 ·cases h
theorem slOf_spec {t e:TypeId} {m:Nat} (h:slOf? P t=some (e,m)):∃i,P.underlying t=some (.slice e)∧P.info? e=some i∧i.size=m:=by
 unfold slOf? at h
 split at h
 ·rename_i e' hu
  split at h
  ·rename_i i hi
   simp only[Option.some.injEq,Prod.mk.injEq] at h
   obtain ⟨rfl,rfl⟩:=h
   exact ⟨i,hu,hi,rfl⟩
  ·cases h
 ·cases h
theorem run_indexArr {t:TypeId} {n m b o:Nat} {k:IntKind} {j:Int} (h:arrOf? P t=some (n,m)) (h0:0≤j) (h1:j<n) (w:World) :
  (Instr.indexAt t (.pointer (some ⟨b,o,none⟩)) (.int k j)).run P w=.ok (.pointer (some ⟨b,o+j.toNat*m,none⟩)) w:=by
 obtain ⟨e,i,hu,hi,rfl⟩:=arrOf_spec h
 simp[Instr.indexAt,asIntOf,run_underlying hu,Instr.sureAddr,h0,h1,sizeOf,typeInfo,hi,Addr.add]
theorem run_indexSl {t e:TypeId} {m b o len cap:Nat} {k:IntKind} {j:Int} (h:slOf? P t=some (e,m)) (h0:0≤j) (h1:j<len) (w:World) :
  (Instr.indexAt t (.slice (some ⟨b,o,none⟩) len cap) (.int k j)).run P w=.ok (.pointer (some ⟨b,o+j.toNat*m,none⟩)) w:=by
 obtain ⟨i,hu,hi,rfl⟩:=slOf_spec h
 simp[Instr.indexAt,asIntOf,run_underlying hu,h0,h1,sizeOf,typeInfo,hi,Addr.add]
theorem own_elem {Γ:HF} {t:TypeId} {e:Kd} {x:List e.T} {z:(Kd.sl false t e none).Z} {h:HF} (f:(Kd.sl false t e none).free=true) (ho:(Kd.sl false t e none).Own Γ x z h) {i:Nat} (hi:i<x.length) :
  ∃b o cap c t',z.1=some (b,o,cap)∧Γ b=some (.cel c t')∧Lie c (o+i*e.size) (e.cells (x.getD i e.dft) (z.2 i))∧e.Own Γ (x.getD i e.dft) (z.2 i) HF.emp:=by
 obtain ⟨zo,zf⟩:=z
 cases zo with
 |none=>obtain ⟨hx,_⟩:=ho; rw[hx] at hi; simp at hi
 |some q =>
  obtain ⟨b,off,cap⟩:=q
  obtain ⟨c,h2,_,_,_,hl,he,hd⟩:=ho
  simp only[Bool.false_eq_true,if_false] at hd
  obtain ⟨_,hi',_,_,oi,_⟩:=Each.take hi he
  rw[if_neg (by simp)] at oi
  have fe:e.free=true:=by simpa[free] using f
  rw[own_free fe oi] at oi
  obtain ⟨⟨t',hd⟩,_⟩:=hd
  exact ⟨b,off,cap,c,t',rfl,hd,hl i hi,oi⟩
theorem own_item {Γ:HF} {n:Nat} {e:Kd} {x:List e.T} {z:Nat→e.Z} {h:HF} (f:e.free=true) (ho:(Kd.arr n e).Own Γ x z h) {i:Nat} (hi:i<n):e.Own Γ (x.getD i e.dft) (z i) HF.emp:=by
 obtain ⟨_,hi',_,_,oi,_⟩:=Each.take hi ho.2
 have:=own_free f oi
 subst this
 exact oi
def stIndex (n:Lim) (o:Oper) (t:TypeId) (x i:Operand) (s:St) (k:St→Tr α):Tr α:=match opo s x,opo s i with
 |some (.ptr id p),some (.val (.int _) j)=>match look s.ck id,arrOf? P t with
  |some c,some (m,z)=>match sub c.K p with
   |some (.arr m' e)=>if m=m'∧z=e.size then .need (inb j m) (set n s o (.one (.ptr id (p++[.idx j.toNat]))) k) else .bad
   |_=>.bad
  |_,_=>.bad
 |some (.at id p),some (.val (.int _) j)=>match look s.ck id,slOf? P t with
  |some c,some (_,z)=>match getP c.K c.x p with
   |some ⟨.sl true _ e none,xs⟩=>if z=e.size then .need (inb j (length xs)) (set n s o (.one (.ptr id (p++[.idx j.toNat]))) k) else .bad
   |some ⟨.sl true _ e (some _),xs⟩=>if z=e.size∧e.size=1 then .need (inb j (length xs)) (set n s o (.one (.ptr id (p++[.idx j.toNat]))) k) else .bad
   |_=>.bad
  |_,_=>.bad
 |some (.slc id p off len),some (.val (.int _) j)=>match look s.ck id,slOf? P t with
  |some c,some (_,z)=>match sub c.K p with
   |some (.sl true _ e none)=>if z=e.size then .need (inb j len) (set n s o (.one (.ptr id (p++[.idx (off+j.toNat)]))) k) else .bad
   |_=>.bad
  |_,_=>.bad
 |some (.val (.sl false _ e none) xs),some (.val (.int _) j)=>match slOf? P t with
  |some (_,z)=>if z=e.size then .need (inb j (length xs)) (set n s o (.one (.eptr e (getD xs j.toNat e.dft))) k) else .bad
  |none=>.bad
 |some (.eptr (.arr m' e) xs),some (.val (.int _) j)=>match arrOf? P t with
  |some (m,z)=>if m=m'∧z=e.size then .need (inb j m) (set n s o (.one (.eptr e (getD xs j.toNat e.dft))) k) else .bad
  |none=>.bad
 |some (.val (.tl t' e) xs),some (.val (.int _) j)=>match slOf? P t with
  |some (_,z)=>if z=e.size+1 then .need (inb j (length xs)) (set n s o (.one (.eptr (.tree t' e) (getD xs j.toNat (.mk e.dft [])))) k) else .bad
  |none=>.bad
 |_,_=>.bad
theorem thru_idx (p:List Sel) {K e:Kd} {t:TypeId} {hole:Option Nat} {i:Nat} (h:sub K p=some (.sl true t e hole)):thru K (p++[.idx i])=true:=by
 fun_induction sub K p<;>simp_all [thru]
theorem Good.same {F:Fr} {s:St} {a:Act} {w:World} {Γ:HF} {rcs:List (Nat×RC)} {h:HF} (g:Good F s a w Γ rcs h) {id:Nat} {c:Ck} {r:RC} (hc:look s.ck id=some c) (hr:look rcs id=some r):c=r.ck:=by
 have:=g.chunk id
 rw[hc,hr] at this
 simpa using this
theorem stIndex_ok {F:Fr} {o:Oper} {t:TypeId} {x i:Operand} {s:St} {k:St→Tr α} (ho:o.op=.indexAddr t x i):PureOK P F o s (stIndex (P:=P) F.n o t x i s k) k:=by
 unfold stIndex
 split
 ·rename_i id p ki j hx hi
  split
  ·rename_i c m z hc ha
   split
   ·rename_i m' e hs
    split
    ·rename_i hm
     obtain ⟨rfl,rfl⟩:=hm
     refine pure_need fun ⟨h0,h1⟩=>pure_set fun a w Γ rcs h g=>?_
     obtain ⟨r,q,hr,hp,hb,hv⟩:=g.opoIs hx
     obtain ⟨hj,_⟩:=is_int (g.opoIs hi)
     obtain rfl:=g.same hc hr
     have hsub:=pl_sub p _ _ _ _ hp
     simp only[RC.ck] at hs
     rw[hsub] at hs
     injection hs with hs
     obtain ⟨qK,qx,qz,qa⟩:=q
     simp only at hs
     subst hs
     refine ⟨_,fun w'=>?_,r,⟨e,getD qx j.toNat e.dft,qz j.toNat,(qa.1,qa.2+j.toNat*e.size)⟩,hr,?_,fun e=>thru_append p _ (hb e),rfl⟩
     ·simp only[execOp,ho,hv,hj]
      have:=run_indexArr (P:=P) (b:=qa.1) (o:=qa.2) (k:=ki) ha h0 h1 w'
      simp[this]
     ·rw[pl_append p _ _ _ _ _ hp (.inl (by simp))]
      simp only[pl]
      rw[if_pos (show j.toNat<m by omega)]
    ·exact pure_bad
   ·exact pure_bad
  ·exact pure_bad
 ·rename_i id p ki j hx hi
  split
  ·rename_i c tt z hc ha
   split
   ·rename_i t' e xs hs
    split
    ·rename_i hm
     subst hm
     refine pure_need fun ⟨h0,h1⟩=>pure_set fun a w Γ rcs h g=>?_
     obtain ⟨r,q,hr,hp,hv⟩:=g.opoIs hx
     obtain ⟨hj,_⟩:=is_int (g.opoIs hi)
     obtain rfl:=g.same hc hr
     have hsub:=pl_sub p _ _ _ _ hp
     have hget:=pl_get p _ _ _ _ hp
     simp only[RC.ck] at hs
     rw[hget] at hs
     injection hs with hs
     obtain ⟨qK,qx,qz,qa⟩:=q
     simp only[Sigma.mk.injEq] at hs
     obtain ⟨hs1,hs2⟩:=hs
     subst hs1
     obtain rfl:=eq_of_heq hs2
     obtain ⟨zo,zf⟩:=qz
     have hlt:j.toNat<length qx:=by omega
     obtain ⟨b,o',cap,rfl⟩:∃b o cap,zo=some (b,o,cap):=by
      obtain ⟨h1,hr',_,_,o1⟩:=star_take g.star hr
      obtain ⟨h2,_,o2⟩:=rc_own o1
      obtain ⟨hq,_,o3⟩:=own_pl p _ _ _ _ _ o2 hp
      cases zo with
      |some y=>exact ⟨_,_,_,rfl⟩
      |none=>rw[show qx=[] from o3.1] at hlt; simp at hlt
     refine ⟨.pointer (some ⟨b,o'+j.toNat*e.size,none⟩),fun w'=>?_,r,⟨e,getD qx j.toNat e.dft,zf j.toNat,(b,o'+j.toNat*e.size)⟩,hr,?_,fun _=>thru_idx p hsub,rfl⟩
     ·simp only[execOp,ho,hv,hj]
      have:=run_indexSl (P:=P) (b:=b) (o:=o') (len:=length qx) (cap:=cap) (k:=ki) ha h0 h1 w'
      simp[toV,single,cells,hdr,this]
     ·rw[pl_append p _ _ _ _ _ hp (.inl (by simp))]
      simp only[pl]
      rw[if_pos hlt]
    ·exact pure_bad
   ·rename_i t' e hole xs hs
    split
    ·rename_i hm
     obtain ⟨hm,hsz⟩:=hm
     subst hm
     refine pure_need fun ⟨h0,h1⟩=>pure_set fun a w Γ rcs h g=>?_
     obtain ⟨r,q,hr,hp,hv⟩:=g.opoIs hx
     obtain ⟨hj,_⟩:=is_int (g.opoIs hi)
     obtain rfl:=g.same hc hr
     have hsub:=pl_sub p _ _ _ _ hp
     have hget:=pl_get p _ _ _ _ hp
     simp only[RC.ck] at hs
     rw[hget] at hs
     injection hs with hs
     obtain ⟨qK,qx,qz,qa⟩:=q
     simp only[Sigma.mk.injEq] at hs
     obtain ⟨hs1,hs2⟩:=hs
     subst hs1
     obtain rfl:=eq_of_heq hs2
     obtain ⟨zo,zf⟩:=qz
     have hlt:j.toNat<length qx:=by omega
     obtain ⟨b,o',cap,rfl⟩:∃b o cap,zo=some (b,o,cap):=by
      obtain ⟨h1,hr',_,_,o1⟩:=star_take g.star hr
      obtain ⟨h2,_,o2⟩:=rc_own o1
      obtain ⟨hq,_,o3⟩:=own_pl p _ _ _ _ _ o2 hp
      cases zo with
      |some y=>exact ⟨_,_,_,rfl⟩
      |none=>rw[show qx=[] from o3.1] at hlt; simp at hlt
     refine ⟨.pointer (some ⟨b,o'+j.toNat*e.size,none⟩),fun w'=>?_,r,⟨.un,(),(e.cells (getD qx j.toNat e.dft) (zf j.toNat)).getD 0 undef,(b,o'+j.toNat*e.size)⟩,hr,?_,fun _=>thru_idx p hsub,rfl⟩
     ·simp only[execOp,ho,hv,hj]
      have:=run_indexSl (P:=P) (b:=b) (o:=o') (len:=length qx) (cap:=cap) (k:=ki) ha h0 h1 w'
      simp[toV,single,cells,hdr,this]
     ·rw[pl_append p _ _ _ _ _ hp (.inl (by simp))]
      simp only[pl]
      rw[if_pos ⟨hlt,hsz⟩]
    ·exact pure_bad
   ·exact pure_bad
  ·exact pure_bad
 ·rename_i id p off len ki j hx hi
  split
  ·rename_i c tt z hc ha
   split
   ·rename_i t' e hs
    split
    ·rename_i hm
     subst hm
     refine pure_need fun ⟨h0,h1⟩=>pure_set fun a w Γ rcs h g=>?_
     obtain ⟨r,t2,e2,hole,x',z',qa,hr,hp,hl,hv⟩:=g.opoIs hx
     obtain ⟨hj,_⟩:=is_int (g.opoIs hi)
     obtain rfl:=g.same hc hr
     have hsub:=pl_sub p _ _ _ _ hp
     simp only[RC.ck] at hs
     rw[hsub] at hs
     simp only[Option.some.injEq,Kd.sl.injEq,true_and] at hs
     obtain ⟨rfl,rfl,rfl⟩:=hs
     rcases hv with ⟨q,_⟩ | ⟨b,o',cap,hz,hv⟩
     ·omega
     ·refine ⟨.pointer (some ⟨b,o'+off*e2.size+j.toNat*e2.size,none⟩),fun w'=>?_,r,⟨e2,getD x' (off+j.toNat) e2.dft,z'.2 (off+j.toNat),(b,o'+(off+j.toNat)*e2.size)⟩,hr,?_,fun _=>thru_idx p hsub,?_⟩
      ·simp only[execOp,ho,hv,hj]
       have:=run_indexSl (P:=P) (b:=b) (o:=o'+off*e2.size) (len:=len) (cap:=cap-off) (k:=ki) ha h0 h1 w'
       simp[this]
      ·rw[pl_append p _ _ _ _ _ hp (.inl (by simp))]
       simp only[pl]
       rw[hz]
       simp only
       rw[if_pos (show off+j.toNat<length x' by omega)]
      ·simp only[Nat.add_mul,Nat.add_assoc]
    ·exact pure_bad
   ·exact pure_bad
  ·exact pure_bad
 ·rename_i t' e xs ki j hx hi
  split
  ·rename_i tt z ha
   split
   ·rename_i hm
    subst hm
    refine pure_need fun ⟨h0,h1⟩=>pure_set fun a w Γ rcs h g=>?_
    obtain ⟨hf,zz,how,hv⟩:=g.opoIs hx
    obtain ⟨hj,_⟩:=is_int (g.opoIs hi)
    have hlt:j.toNat<length xs:=by omega
    obtain ⟨b,o',cap,c,t2',hz,hc,hl,hown⟩:=own_elem hf how hlt
    refine ⟨.pointer (some ⟨b,o'+j.toNat*e.size,none⟩),fun w'=>?_,by simpa[free] using hf,zz.2 j.toNat,b,_,c,t2',hown,hc,hl,rfl⟩
    simp only[execOp,ho,hv,hj]
    have:=run_indexSl (P:=P) (b:=b) (o:=o') (len:=length xs) (cap:=cap) (k:=ki) ha h0 h1 w'
    simp[toV,single,cells,hdr,hz,this]
   ·exact pure_bad
  ·exact pure_bad
 ·rename_i m' e xs ki j hx hi
  split
  ·rename_i m z ha
   split
   ·rename_i hm
    obtain ⟨rfl,rfl⟩:=hm
    refine pure_need fun ⟨h0,h1⟩=>pure_set fun a w Γ rcs h g=>?_
    obtain ⟨hf,zz,b,o',c,t',how,hc,hl,hv⟩:=g.opoIs hx
    obtain ⟨hj,_⟩:=is_int (g.opoIs hi)
    have hf':e.free=true:=by simpa[free] using hf
    have hlt:j.toNat<m:=by omega
    refine ⟨.pointer (some ⟨b,o'+j.toNat*e.size,none⟩),fun w'=>?_,hf',zz j.toNat,b,_,c,t',own_item hf' how hlt,hc,(lie_flat (fun i=>cells_length e _ _)).1 hl _ hlt,rfl⟩
    simp only[execOp,ho,hv,hj]
    have:=run_indexArr (P:=P) (b:=b) (o:=o') (k:=ki) ha h0 h1 w'
    simp[this]
   ·exact pure_bad
  ·exact pure_bad
 ·rename_i t' e xs ki j hx hi
  split
  ·rename_i tt z ha
   split
   ·rename_i hm
    subst hm
    refine pure_need fun ⟨h0,h1⟩=>pure_set fun a w Γ rcs h g=>?_
    obtain ⟨hf,zz,⟨_,how⟩,hv⟩:=g.opoIs hx
    obtain ⟨hj,_⟩:=is_int (g.opoIs hi)
    have hlt:j.toNat<length xs:=by omega
    cases zz with
    |none=>rw[show xs=[] from how] at hlt; simp at hlt
    |some y =>
     obtain ⟨⟨b,o',sp⟩,cap⟩:=y
     rcases how with ⟨rfl,_⟩ | ⟨hsp,c,t2',zf,hhf,k1,k2,k3,k4,k5,k6⟩
     ·simp at hlt
     ·have hsp':sp=none:=hsp
      subst hsp'
      refine ⟨.pointer (some ⟨b,o'+j.toNat*(e.size+1),none⟩),fun w'=>?_,hf,(zf j.toNat,hhf j.toNat),b,_,c,t2',⟨rfl,k6 _ hlt⟩,k4,k5 _ hlt,rfl⟩
      simp only[execOp,ho,hv,hj]
      have:=run_indexSl (P:=P) (b:=b) (o:=o') (len:=length xs) (cap:=cap) (k:=ki) ha h0 h1 w'
      simp[toV,single,cells,hdrT,this]
   ·exact pure_bad
  ·exact pure_bad
 ·exact pure_bad
def lenOf (s:St):SV→Option Int
 |.val .str x=>some x.size
 |.val (.sl false _ _ none) x=>some (length x)
 |.at id p=>match look s.ck id with
  |some c=>match getP c.K c.x p with
   |some ⟨.sl true _ _ _,xs⟩=>some (length xs)
   |_=>none
  |none=>none
 |.slc _ _ _ len=>some len
 |.nilS=>some 0
 |.val (.tl _ _) x=>some (length x)
 |_=>none
def strT (P:Program) (t:TypeId):Bool:=match P.underlying t with
 |some .string=>true
 |_=>false
theorem sl_len {Γ:HF} {own:Bool} {t:TypeId} {e:Kd} {hole:Option Nat} {x:List e.T} {z:(Kd.sl own t e hole).Z} {h:HF} (o:(Kd.sl own t e hole).Own Γ x z h):(∃a c,hdr z.1 x.length=.slice a x.length c∧(a=none→x.length=0))∧x.length≤9223372036854775807:=by
 obtain ⟨zo,zf⟩:=z
 cases zo with
 |none=>obtain ⟨q,_⟩:=o; subst q; exact ⟨⟨none,0,rfl,fun _=>rfl⟩,by simp⟩
 |some q =>
  obtain ⟨b,off,cap⟩:=q
  obtain ⟨c,h2,h1,h3,_⟩:=o
  exact ⟨⟨_,_,rfl,fun q=>by cases q⟩,by omega⟩
theorem lenOf_is {F:Fr} {s:St} {a:Act} {w:World} {Γ:HF} {rcs:List (Nat×RC)} {h:HF} (g:Good F s a w Γ rcs h) {v:SV} {u:Value} {n:Int} (hu:v.is Γ rcs u) (hn:lenOf s v=some n) :
  ((∃b,v=.val .str b∧u=.string b∧n=b.size)∨(∀b,v≠.val .str b)∧∃m:Nat,n=m∧∃A c,u=.slice A m c∧(A=none→m=0))∧0≤n∧n≤9223372036854775807:=by
 unfold lenOf at hn
 split at hn
 ·injection hn with hn; subst hn
  obtain ⟨e,hs⟩:=is_str hu
  exact ⟨.inl ⟨_,rfl,e,rfl⟩,by omega,by omega⟩
 ·injection hn with hn; subst hn
  obtain ⟨_,z,o,e⟩:=hu
  obtain ⟨⟨A,c,q,qn⟩,hl⟩:=sl_len o
  exact ⟨.inr ⟨(fun _ q=>by cases q),_,rfl,A,c,by rw[e,←q]; rfl,qn⟩,by omega,by omega⟩
 ·rename_i id p
  split at hn
  ·rename_i c hc
   split at hn
   ·rename_i t e hole xs hg
    injection hn with hn; subst hn
    obtain ⟨r,q,hr,hp,hv⟩:=hu
    obtain rfl:=g.same hc hr
    have hget:=pl_get p _ _ _ _ hp
    simp only[RC.ck] at hg
    rw[hget] at hg
    injection hg with hg
    obtain ⟨qK,qx,qz,qa⟩:=q
    simp only[Sigma.mk.injEq] at hg
    obtain ⟨hs1,hs2⟩:=hg
    subst hs1
    obtain rfl:=eq_of_heq hs2
    obtain ⟨h1,hr',_,_,o1⟩:=star_take g.star hr
    obtain ⟨h2,_,o2⟩:=rc_own o1
    obtain ⟨hq,_,o3⟩:=own_pl p _ _ _ _ _ o2 hp
    obtain ⟨⟨A,c,q,qn⟩,hl⟩:=sl_len o3
    have hl':length qx≤9223372036854775807:=hl
    exact ⟨.inr ⟨(fun _ q=>by cases q),_,rfl,A,c,by rw[hv,←q]; rfl,qn⟩,by omega,by omega⟩
   ·cases hn
  ·cases hn
 ·injection hn with hn; subst hn
  obtain ⟨r,t,e,hole,x',z',qa,hr,hp,hl,hv⟩:=hu
  obtain ⟨h1,hr',_,_,o1⟩:=star_take g.star hr
  obtain ⟨h2,_,o2⟩:=rc_own o1
  obtain ⟨hq,_,o3⟩:=own_pl _ _ _ _ _ _ o2 hp
  obtain ⟨_,hl2⟩:=sl_len o3
  have hl3:length x'≤9223372036854775807:=hl2
  refine ⟨.inr ⟨(fun _ q=>by cases q),_,rfl,?_⟩,by omega,by omega⟩
  rcases hv with ⟨rfl,q | ⟨_,_,_,off2,cap2,_,q,_⟩⟩ | ⟨b,o,cap,_,q⟩
  ·exact ⟨none,0,q,fun _=>rfl⟩
  ·exact ⟨_,_,q,fun _=>rfl⟩
  ·exact ⟨_,_,q,fun q=>by cases q⟩
 ·injection hn with hn; subst hn
  exact ⟨.inr ⟨(fun _ q=>by cases q),0,rfl,none,0,hu,fun _=>rfl⟩,by omega,by omega⟩
 ·injection hn with hn; subst hn
  rename_i t e x
  obtain ⟨_,z,⟨_,o⟩,e'⟩:=hu
  have hl:length x≤9223372036854775807:=by
   cases z with
   |none=>rw[show x=[] from o]; exact Nat.zero_le _
   |some y =>
    rcases o with ⟨rfl,_⟩ | ⟨_,c,t',zf,hf,k1,k2,_⟩
    ·exact Nat.zero_le _
    ·exact Nat.le_trans k1 k2
  refine ⟨.inr ⟨(fun _ q=>by cases q),length x,rfl,?_⟩,by omega,by omega⟩
  cases z with
  |none =>
   have hx:x=[]:=o
   subst hx
   exact ⟨none,0,e',fun _=>rfl⟩
  |some y=>exact ⟨some y.1,y.2,e',fun q=>by cases q⟩
 ·cases hn
def stLen (n:Lim) (o:Oper) (c:Call) (s:St) (k:St→Tr α):Tr α:=match c.args.toList,c.argTypes.toList with
 | [x],[t]=>match opo s x with
  |some v=>match lenOf s v with
   |some m=>match v with
    |.val .str _=>if strT P t then set n s o (.one (.val (.int .i64) m)) k else .bad
    |_=>if (slOf? P t).isSome then set n s o (.one (.val (.int .i64) m)) k else .bad
   |none=>.bad
  |none=>.bad
 |_,_=>.bad
theorem stLen_ok {F:Fr} {o:Oper} {c:Call} {s:St} {k:St→Tr α} (ho:o.op=.call c) (hb:c.callee=.builtin .len):PureOK P F o s (stLen (P:=P) F.n o c s k) k:=by
 unfold stLen
 split
 ·rename_i x t hx ht
  have ha:c.args = #[x]:=by rw[←Array.toList_inj]; exact hx
  have ha':c.argTypes = #[t]:=by rw[←Array.toList_inj]; exact ht
  split
  ·rename_i v hv
   split
   ·rename_i m hm
    have key:∀(d:(P.underlying t=some .string∧∃b,v=.val .str b)∨((slOf? P t).isSome=true∧¬ ∃b,v=.val .str b)),PureOK P F o s (set F.n s o (.one (.val (.int .i64) m)) k) k:=by
     intro d
     refine pure_set fun a w Γ rcs h g=>?_
     obtain ⟨hk,h0,h1⟩:=lenOf_is g (g.opoIs hv) hm
     refine ⟨.int .i64 m,fun w'=>?_,int_is (rcs:=rcs) ⟨by show -(2^63:Int)≤m; omega,by show m≤(2^63-1:Int); omega⟩⟩
     rcases d with ⟨hu,b,rfl⟩ | ⟨hu,hnb⟩
     ·rcases hk with ⟨b',e1,e',hb'⟩ | ⟨hn,_⟩
      ·subst hb'
       simp[execOp,ho,resolve,hb,ha,ha',invoke,builtin,Builtin.len_,run_underlying hu,e',goInt]
      ·exact absurd rfl (hn b)
     ·obtain ⟨⟨e1,z1⟩,hs1⟩:=Option.isSome_iff_exists.1 hu
      obtain ⟨i,hu,_,_⟩:=slOf_spec hs1
      rcases hk with ⟨b',e1,e',hb'⟩ | ⟨_,m',hm',A,c',e',_⟩
      ·exact absurd ⟨b',e1⟩ hnb
      ·subst hm'
       simp[execOp,ho,resolve,hb,ha,ha',invoke,builtin,Builtin.len_,run_underlying hu,e',goInt]
    split
    ·split
     ·rename_i b hs
      refine key (.inl ⟨?_,_,rfl⟩)
      unfold strT at hs
      split at hs<;>first | assumption | cases hs
     ·exact pure_bad
    ·rename_i hne
     split
     ·rename_i hs
      exact key (.inr ⟨hs,fun ⟨b,e⟩=>hne b e⟩)
     ·exact pure_bad
   ·exact pure_bad
  ·exact pure_bad
 ·exact pure_bad
def stExtract (n:Lim) (o:Oper) (x:Operand) (i:Nat) (s:St) (k:St→Tr α):Tr α:=match opv s x with
 |some (.tup l)=>match l[i]? with
  |some v=>set n s o (.one v) k
  |none=>.bad
 |_=>.bad
theorem stExtract_ok {F:Fr} {o:Oper} {x:Operand} {i:Nat} {s:St} {k:St→Tr α} (ho:o.op=.extract x i):PureOK P F o s (stExtract F.n o x i s k) k:=by
 unfold stExtract
 split
 ·rename_i l hx
  split
  ·rename_i v hv
   refine pure_set fun a w Γ rcs h g=>?_
   obtain ⟨vs,e,hl,hall⟩:=g.opvIs hx
   obtain ⟨u,hu,hi⟩:=hall i v hv
   exact ⟨u,fun w'=>by simp[execOp,ho,Instr.extract,e,hu],hi⟩
  ·exact pure_bad
 ·exact pure_bad
def stNil (n:Lim) (o:Oper) (x:Operand) (s:St) (k:St→Tr α):Tr α:=match opo s x with
 |some (.ptr id p)=>set n s o (.one (.ptr id p)) k
 |some (.eptr K y)=>set n s o (.one (.eptr K y)) k
 |some (.val (.ep K) y)=>.need (isSome (α:=K.T) y=true) (set n s o (.one (.val (.ep K) y)) k)
 |_=>.bad
theorem stNil_ok {F:Fr} {o:Oper} {x:Operand} {s:St} {k:St→Tr α} (ho:o.op=.nilCheck x):PureOK P F o s (stNil F.n o x s k) k:=by
 unfold stNil
 split
 ·rename_i id p hx
  refine pure_set fun a w Γ rcs h g=>?_
  have hi:=g.opoIs hx
  have hi2:=hi
  obtain ⟨r,q,_,_,_,hv⟩:=hi2
  exact ⟨_,fun w'=>by simp[execOp,ho,hv],hv▸hi⟩
 ·rename_i K y hx
  refine pure_set fun a w Γ rcs h g=>?_
  have hi:=g.opoIs hx
  have hi2:=hi
  obtain ⟨_,_,b,o',c,t,_,_,_,hv⟩:=hi2
  exact ⟨_,fun w'=>by simp[execOp,ho,hv],hv▸hi⟩
 ·rename_i K y hx
  refine pure_need fun hn=>pure_set fun a w Γ rcs h g=>?_
  have hi:=g.opoIs hx
  obtain ⟨y0,rfl⟩:=Option.isSome_iff_exists.1 hn
  have hi2:=hi
  obtain ⟨_,z,_,hv⟩:=hi2
  have hv':a.eval x=.pointer (some ⟨z.2.1,z.2.2,none⟩):=hv
  exact ⟨_,fun w'=>by simp[execOp,ho,hv'],hv'▸hi⟩
 ·exact pure_bad
def stUn (n:Lim) (o:Oper) (op:UnOp) (x:Operand) (s:St) (k:St→Tr α):Tr α:=match op,opo s x with
 |.not,some (.val .bool b)=>set n s o (.one (.val .bool (!b))) k
 |.neg,some (.val (.int j) m)=>set n s o (.one (.val (.int j) (j.wrap (0-m)))) k
 |_,_=>.bad
theorem stUn_ok {F:Fr} {o:Oper} {op:UnOp} {t:TypeId} {x:Operand} {s:St} {k:St→Tr α} (ho:o.op=.unOp op t x):PureOK P F o s (stUn F.n o op x s k) k:=by
 unfold stUn
 split
 ·rename_i b hx
  refine pure_set fun a w Γ rcs h g=>⟨_,fun w'=>?_,bool_is (rcs:=rcs)⟩
  have:=is_bool (g.opoIs hx)
  simp[execOp,ho,Op.unary,this]
 ·rename_i j m hx
  refine pure_set fun a w Γ rcs h g=>⟨_,fun w'=>?_,int_is (rcs:=rcs) (wrap_range _ _)⟩
  have:=(is_int (g.opoIs hx)).1
  simp only[execOp,ho,Op.unary,this,Op.intArith]
  rfl
 ·exact pure_bad
def intT (P:Program) (t:TypeId):Option IntKind:=match P.underlying t with
 |some (.int k)=>some k
 |_=>none
def stConv (n:Lim) (o:Oper) (src dst:TypeId) (x:Operand) (s:St) (k:St→Tr α):Tr α:=match opo s x,intT P src,intT P dst with
 |some (.val (.int _) m),some _,some j=>set n s o (.one (.val (.int j) (j.wrap m))) k
 |_,_,_=>.bad
theorem stConv_ok {F:Fr} {o:Oper} {src dst:TypeId} {x:Operand} {s:St} {k:St→Tr α} (ho:o.op=.convert src dst x):PureOK P F o s (stConv (P:=P) F.n o src dst x s k) k:=by
 unfold stConv
 split
 ·rename_i j0 m j1 j hx h1 h2
  refine pure_set fun a w Γ rcs h g=>⟨_,fun w'=>?_,int_is (rcs:=rcs) (wrap_range _ _)⟩
  have:=(is_int (g.opoIs hx)).1
  have hu1:P.underlying src=some (.int j1):=by
   unfold intT at h1
   split at h1<;>simp_all
  have hu2:P.underlying dst=some (.int j):=by
   unfold intT at h2
   split at h2<;>simp_all
  simp[execOp,ho,convert,run_underlying hu1,run_underlying hu2,this,Conv.intToInt]
 ·exact pure_bad
end
theorem lie_arr {n:Nat} {e:Kd} {x:(Kd.arr n e).T} {z:(Kd.arr n e).Z} {c:Array Value} {o i:Nat} (l:Lie c o ((Kd.arr n e).cells x z)) (hi:i<n):Lie c (o+i*e.size) (e.cells (getD x i e.dft) (z i)) :=
 (lie_flat (c:=c) (o:=o) (n:=n) (s:=e.size) (f:=fun i=>e.cells (getD x i e.dft) (z i)) (fun i=>cells_length e _ _)).1 l i hi
theorem lie_pl {Γ:HF} (p:List Sel) {K:Kd} (x:K.T) (z:K.Z) (a:Nat×Nat) (q:At) (h:HF) (c0:Array Value) (t0:TypeId) (ho:K.Own Γ x z h) (hp:pl K x z p a=some q)
  (hl:thru K p=true∨Lie c0 a.2 (K.cells x z)):∃c t,((thru K p=true∧h q.a.1=some (.cel c t))∨(thru K p=false∧q.a.1=a.1∧c=c0∧t=t0))∧Lie c q.a.2 (q.K.cells q.x q.z):=by
 fun_induction pl K x z p a generalizing h c0 t0
 case case1 K x z a =>
  simp only[Option.some.injEq] at hp; subst hp
  have:thru K []=false:=by cases K<;>simp[thru]
  refine ⟨c0,t0,.inr ⟨this,rfl,rfl,rfl⟩,hl.resolve_left (by simp[this])⟩
 case case2 ih =>
  obtain ⟨h1,h2,d,rfl,o1,o2⟩:=ho
  obtain ⟨c,t,e,l⟩:=ih _ _ t0 o1 hp (hl.imp (fun e=>by simpa[thru] using e) (fun l=>Lie.left l))
  refine ⟨c,t,e.imp (fun e=>⟨by simpa[thru] using e.1,by simp[HF.un,e.2]⟩) (fun e=>⟨by simpa[thru] using e.1,e.2⟩),l⟩
 case case3 ih =>
  obtain ⟨h1,h2,d,rfl,o1,o2⟩:=ho
  obtain ⟨c,t,e,l⟩:=ih _ _ t0 o2 hp (hl.imp (fun e=>by simpa[thru] using e) (fun l=>by have:=Lie.right l; rwa [cells_length] at this))
  refine ⟨c,t,e.imp (fun e=>⟨by simpa[thru] using e.1,un_right d e.2⟩) (fun e=>⟨by simpa[thru] using e.1,e.2⟩),l⟩
 case case4 ih =>
  obtain ⟨hr,hi',d,rfl,oi,_⟩:=Each.take (by assumption) ho.2
  obtain ⟨c,t,e,l⟩:=ih _ _ t0 oi hp (hl.imp (fun e=>by simpa[thru] using e) (fun l=>lie_arr l (by assumption)))
  refine ⟨c,t,e.imp (fun e=>⟨by simpa[thru] using e.1,un_right d e.2⟩) (fun e=>⟨by simpa[thru] using e.1,e.2⟩),l⟩
 case case6 hz ih =>
  simp only[Own] at ho
  rw[hz] at ho
  obtain ⟨cc,h2,_,_,_,hls,he,hd⟩:=ho
  simp only[if_true] at hd
  obtain ⟨hd,rfl⟩:=hd
  have hlt:=‹_<_›
  obtain ⟨hr,hi',d,rfl,oi,_⟩:=Each.take hlt he
  rw[if_neg (by simp)] at oi
  obtain ⟨c,t,e,l⟩:=ih _ cc _ oi hp (.inr (hls _ hlt))
  refine ⟨c,t,.inl ⟨rfl,?_⟩,l⟩
  rcases e with ⟨_,e⟩ | ⟨_,e1,rfl,rfl⟩
  ·exact un_right hd (un_right d e)
  ·rw[e1]; exact one_self
 case case9 e v i _ b o cap x z hlt hz =>
  simp only[Option.some.injEq] at hp; subst hp
  simp only[Own] at ho
  rw[hz] at ho
  obtain ⟨cc,h2,_,_,_,hls,he,hd⟩:=ho
  simp only[if_true] at hd
  obtain ⟨hd,rfl⟩:=hd
  refine ⟨cc,_,.inl ⟨rfl,one_self⟩,?_⟩
  intro j hj
  simp only[Kd.cells,List.length_singleton] at hj
  obtain rfl:j=0:=by omega
  have hlen:0<(e.cells (getD x i e.dft) (z.2 i)).length:=by rw[cells_length,hlt.2]; exact Nat.one_pos
  rw[hls _ hlt.1 0 hlen]
  exact getElem?_zero_getD hlen undef
 all_goals cases hp
theorem cell_at {w:World} {b:Nat} {c:Array Value} {t:TypeId} {f:Nat×Nat} (h:w.heap[b]? = some (.cells c t f)) (j:Nat):w.cell? ⟨b,j,none⟩=c[j]? := by
 simp[World.cell?,h]
theorem range_of {w:World} {b o:Nat} {c:Array Value} {t:TypeId} {f:Nat×Nat} {cs:List Value} (h:w.heap[b]? = some (.cells c t f)) (l:Lie c o cs):w.rangeAt b o cs:=fun j v hv=>by
 rw[cell_at h,l j (by
  rcases Nat.lt_or_ge j cs.length with q | q
  ·exact q
  ·rw[getElem?_eq_none q] at hv; cases hv)]
 exact hv
theorem Good.place {F:Fr} {s:St} {a:Act} {w:World} {Γ:HF} {rcs:List (Nat×RC)} {h:HF} (g:Good F s a w Γ rcs h) {id:Nat} {p:List Sel} {r:RC} {q:At} (hr:look rcs id=some r)
  (hp:pl r.K r.x r.z p ((r.box.getD (0,0)).1,0)=some q) (hb:r.box=none→thru r.K p=true):∃c t lo hi,w.heap[q.a.1]? = some (.cells c t (lo,hi))∧(∀o,o<c.size→¬(lo≤o∧o<hi))∧Lie c q.a.2 (q.K.cells q.x q.z):=by
 obtain ⟨h1,hr',d,e,o1⟩:=star_take g.star hr
 have m1:Mem h1 w:=((Mem.un d).1 (e▸g.mem)).1
 cases hbx:r.box with
 |none =>
  have o2:r.K.Own Γ r.x r.z h1:=by simpa[RC.Own,hbx] using o1
  obtain ⟨c,t,hc,l⟩:=lie_pl p _ _ _ _ _ #[] 0 o2 hp (.inl (hb hbx))
  rcases hc with ⟨_,hc⟩ | ⟨hc,_⟩
  ·obtain ⟨lo,hi,m,nf⟩:=m1.cel _ _ _ hc
   exact ⟨c,t,lo,hi,m,nf,l⟩
  ·rw[hb hbx] at hc; cases hc
 |some bt =>
  obtain ⟨b,t0⟩:=bt
  simp only[RC.Own,hbx] at o1
  obtain ⟨c0,h2,d2,rfl,o2,hl⟩:=o1
  have hl':Lie c0 0 (r.K.cells r.x r.z):=fun j hj=>by rw[←hl]; simp
  rw[hbx] at hp
  obtain ⟨c,t,hc,l⟩:=lie_pl p _ _ _ _ _ c0 t0 o2 hp (.inr hl')
  rcases hc with ⟨_,hc⟩ | ⟨_,e1,rfl,rfl⟩
  ·obtain ⟨lo,hi,m,nf⟩:=m1.cel _ _ _ (un_right d2 hc)
   exact ⟨c,t,lo,hi,m,nf,l⟩
  ·simp only[getD_some] at e1
   obtain ⟨lo,hi,m,nf⟩:=m1.cel b c t one_self
   exact ⟨c,t,lo,hi,by rw[e1]; exact m,nf,l⟩
def ReadOK (P:Program) (F:Fr) (o:Oper) (s:St) (t:Tr α) (k:St→Tr α) (rd:Option (Option Nat)):Prop:=∀(K:α→Prop) (a:Act) (w:World) (Γ:HF) (rcs:List (Nat×RC)) (h:HF),Good F s a w Γ rcs h→t.sat K →
 ∃(v:Value) (s':St) (E:List Ent) (G':List (Nat×Array Value×TypeId)),(∀e∈E,rd=some e.id∧w.heap[e.b]? = e.ob)∧(∀w',(∀e∈E,w'.heap[e.b]? = e.ob)→(∀x∈G',stab x w')→(execOp a.eval o).run P w'=.ok (.value v) w')∧R ((F.withG (G'++F.G)).with (E++F.B)) s' (a.put o.dst v) w∧(k s').sat K
theorem Good.watch {F:Fr} {s:St} {a:Act} {w:World} {Γ:HF} {rcs:List (Nat×RC)} {h:HF} (g:Good F s a w Γ rcs h) {E:List Ent} {G':List (Nat×Array Value×TypeId)} (hE:∀e∈E,e.ok w rcs) (hG:∀x∈G',Γ x.1=some (.cel x.2.1 x.2.2)):Good ((F.withG (G'++F.G)).with (E++F.B)) s a w Γ rcs h :=
 ⟨g.ck,g.nodup,g.star,g.mem,g.memR,g.dj,g.defers,g.tsz,g.tm,g.size,g.keep,g.own,g.ro,g.ro0,g.os,g.tape,g.output,(fun x hx=>(List.mem_append.1 hx).elim (hG x) (g.sg x)),fun e he=>(List.mem_append.1 he).elim (hE e) (g.bx e),g.md⟩
theorem read_set {P:Program} {F:Fr} {o:Oper} {s:St} {av:AV} {k:St→Tr α} {rd:Option (Option Nat)} (hv:∀(a:Act) (w:World) (Γ:HF) (rcs:List (Nat×RC)) (h:HF),Good F s a w Γ rcs h →
   ∃(v:Value) (E:List Ent) (G':List (Nat×Array Value×TypeId)),(∀e∈E,rd=some e.id∧e.ok w rcs)∧(∀x∈G',Γ x.1=some (.cel x.2.1 x.2.2))∧(∀w',(∀e∈E,w'.heap[e.b]? = e.ob)→(∀x∈G',stab x w')→(execOp a.eval o).run P w'=.ok (.value v) w')∧av.is Γ rcs v) :
  ReadOK P F o s (set F.n s o av k) k rd:=fun K a w Γ rcs h g hs =>
 let ⟨v,E,G',hE,hG,hr,hi⟩:=hv a w Γ rcs h g
 let ⟨s',r,q⟩:=set_ok (F:=(F.withG (G'++F.G)).with (E++F.B)) hs (g.watch (fun e he=>(hE e he).2) hG) hi
 ⟨v,s',E,G',fun e he=>⟨(hE e he).1,(hE e he).2.1.1⟩,hr,r,q⟩
theorem read_bad {P:Program} {F:Fr} {o:Oper} {s:St} {k:St→Tr α} {rd:Option (Option Nat)}:ReadOK P F o s .bad k rd:=fun _ _ _ _ _ _ _ h=>h.elim
def boxAt (s:St) (x:Operand):Option Nat:=match opo s x with
 |some (.ptr id p)=>match look s.ck id with
  |some c=>if c.box.isSome&&!thru c.K p then some id else none
  |none=>none
 |_=>none
def rdB (s:St) (x:Operand):Option (Option Nat):=match opo s x with
 |some (.eptr _ _)=>none
 |_=>some (boxAt s x)
def varT (P:Program) (t:TypeId):Option (Bool×Nat):=match P.underlying t,P.info? t with
 |some d,some i=>some (!d.isRow,i.size)
 |_,_=>none
theorem run_loadT {P:Program} {t:TypeId} {w:World} {b o:Nat} {K:Kd} {cs:List Value} (hv:varT P t=some (single K,K.size)) (hl:cs.length=K.size) (h1:single K=true→K.size=1) (hr:w.rangeAt b o cs) :
  (Instr.loadAt t (.pointer (some ⟨b,o,none⟩))).run P w=.ok (toV K cs) w:=by
 unfold varT at hv
 split at hv
 ·rename_i d i hu hi
  simp only[Option.some.injEq,Prod.mk.injEq] at hv
  obtain ⟨h2,h3⟩:=hv
  cases hd:d.isRow with
  |true =>
   rw[hd] at h2
   rw[run_loadAt_mid w b o t cs d hr hu hd (by rw[hi]; simp[h3,hl])]
   simp[toV,←h2]
  |false =>
   rw[hd] at h2
   simp only[Bool.not_false] at h2
   have h4:=h1 h2.symm
   rw[h4] at hl
   match cs,hl with
   | [v],_ =>
    have hc:w.cell? ⟨b,o,none⟩=some v:=hr 0 v rfl
    have hagg:(isAgg t).run P w=.ok false w:=by
     unfold isAgg
     rw[Sem.run_bind,run_underlying hu w]
     cases d<;>simp_all
    simp[Instr.loadAt,Instr.sureAddr,loadVar,Sem.run_bind,hagg,hc,toV,←h2]
 ·cases hv
def stLoad (P:Program) (n:Lim) (o:Oper) (t:TypeId) (x:Operand) (s:St) (k:St→Tr α):Tr α:=match opo s x with
 |some (.ptr id p)=>match look s.ck id with
  |some c=>match getP c.K c.x p with
   |some ⟨K,y⟩=>if varT P t=some (single K,K.size)∧K≠.un then (if K.free then set n s o (.one (.val K y)) k else set n s o (.one (.at id p)) k) else .bad
   |none=>.bad
  |none=>.bad
 |some (.eptr K y)=>if varT P t=some (single K,K.size) then set n s o (.one (.val K y)) k else .bad
 |_=>.bad
theorem single_size:∀(K:Kd),single K=true→K.size=1
 |.int _,_=>rfl
 |.bool,_=>rfl
 |.str,_=>rfl
 |.un,_=>rfl
 |.sl _ _ _ _,_=>rfl
 |.tl _ _,_=>rfl
 |.mp _ _ _,_=>rfl
 |.ep _,_=>rfl
theorem thru_box {K:Kd} (p:List Sel):∀ {K:Kd} (x:K.T) (z:K.Z) (a:Nat×Nat) (q:At),thru K p=false→pl K x z p a=some q→q.a.1=a.1:=by
 intro K x z a q ht hp
 fun_induction pl K x z p a<;>simp_all [thru]
 all_goals (try (subst hp; rfl))
theorem stLoad_ok {P:Program} {F:Fr} {o:Oper} {t:TypeId} {x:Operand} {s:St} {k:St→Tr α} (ho:o.op=.load t x):ReadOK P F o s (stLoad P F.n o t x s k) k (rdB s x):=by
 unfold stLoad
 split
 ·rename_i id p hx
  split
  ·rename_i c hc
   split
   ·rename_i K y hg
    split
    ·rename_i hv
     obtain ⟨hv,hun⟩:=hv
     have key:∀(a:Act) (w:World) (Γ:HF) (rcs:List (Nat×RC)) (h:HF),Good F s a w Γ rcs h→∃(r:RC) (q:At),look rcs id=some r∧pl r.K r.x r.z p ((r.box.getD (0,0)).1,0)=some q∧(⟨q.K,q.x⟩:(K':Kd)×K'.T)=⟨K,y⟩ ∧
       (∃E:List Ent,(∀e∈E,rdB s x=some e.id∧e.ok w rcs)∧∀w',(∀e∈E,w'.heap[e.b]? = e.ob)→(execOp a.eval o).run P w'=.ok (.value (toV q.K (q.K.cells q.x q.z))) w')∧∃h2,q.K.Own Γ q.x q.z h2:=by
      intro a w Γ rcs h g
      obtain ⟨r,q,hr,hp,hb,hv'⟩:=g.opoIs hx
      obtain rfl:=g.same hc hr
      have hget:=pl_get p _ _ _ _ hp
      simp only[RC.ck] at hg
      rw[hget] at hg
      injection hg with hg
      obtain ⟨cc,tt,lo,hi,m,_,l⟩:=g.place hr hp hb
      obtain ⟨h1,hr',_,_,o1⟩:=star_take g.star hr
      obtain ⟨h2,_,o2⟩:=rc_own o1
      obtain ⟨hq,_,o3⟩:=own_pl p _ _ _ _ _ o2 hp
      refine ⟨r,q,hr,hp,hg,⟨[⟨boxAt s x,q.a.1,w.heap[q.a.1]?⟩],?_,?_⟩,hq,o3⟩
      ·intro e he
       rw[List.mem_singleton] at he
       subst he
       refine ⟨by simp[rdB,hx],⟨rfl,(Array.getElem?_eq_some_iff.1 m).1⟩,?_⟩
       intro id' hid'
       simp only[boxAt,hx,hc] at hid'
       split at hid'
       ·rename_i hcond
        injection hid' with hid'
        subst hid'
        simp only[RC.ck,Option.isSome_map,Bool.and_eq_true,Bool.not_eq_true'] at hcond
        obtain ⟨⟨b,t0⟩,hbx⟩:=Option.isSome_iff_exists.1 hcond.1
        refine ⟨r,t0,hr,?_⟩
        have:=thru_box (K:=r.K) p r.x r.z _ q hcond.2 hp
        rw[this,hbx]
        rfl
       ·cases hid'
      ·intro w' hw'
       have m':w'.heap[q.a.1]? = some (.cells cc tt (lo,hi)):=by
        rw[hw' _ (List.mem_singleton.2 rfl)]; exact m
       obtain ⟨qK,qx,qz,qa⟩:=q
       simp only[Sigma.mk.injEq] at hg
       obtain ⟨rfl,_⟩:=hg
       have:=run_loadT (P:=P) hv (cells_length _ _ _) (single_size _) (range_of m' l)
       simp[execOp,ho,hv',this]
     split
     ·rename_i hf
      refine read_set fun a w Γ rcs h g=>?_
      obtain ⟨r,q,hr,hp,hg,⟨E,hE,hrun⟩,h2,how⟩:=key a w Γ rcs h g
      obtain ⟨qK,qx,qz,qa⟩:=q
      simp only[Sigma.mk.injEq] at hg
      obtain ⟨rfl,hg⟩:=hg
      obtain rfl:=eq_of_heq hg
      have:=own_free hf how
      subst this
      exact ⟨_,E,[],hE,(fun x hx=>by cases hx),(fun w' h1 _=>hrun w' h1),hf,qz,how,rfl⟩
     ·refine read_set fun a w Γ rcs h g=>?_
      obtain ⟨r,q,hr,hp,hg,⟨E,hE,hrun⟩,h2,how⟩:=key a w Γ rcs h g
      exact ⟨_,E,[],hE,(fun x hx=>by cases hx),(fun w' h1 _=>hrun w' h1),r,q,hr,hp,rfl⟩
    ·exact read_bad
   ·exact read_bad
  ·exact read_bad
 ·rename_i K y hx
  split
  ·rename_i hv
   refine read_set fun a w Γ rcs h g=>?_
   obtain ⟨hf,z,b,o',c,t',how,hc,hl,hv'⟩:=g.opoIs hx
   refine ⟨_,[],[(b,c,t')],(fun e he=>by cases he),(fun x hx=>by rw[List.mem_singleton] at hx; subst hx; exact hc),fun w' _ hw'=>?_,hf,z,how,rfl⟩
   ·obtain ⟨f,m'⟩:∃f,w'.heap[b]? = some (.cells c t' f):=hw' _ (List.mem_singleton.2 rfl)
    have:=run_loadT (P:=P) hv (cells_length _ _ _) (single_size _) (range_of m' hl)
    simp[execOp,ho,hv',this]
  ·exact read_bad
 ·exact read_bad
section
variable {α:Type} {P:Program}
def stFieldE (n:Lim) (o:Oper) (t:TypeId) (x:Operand) (f:Nat) (s:St) (k:St→Tr α):Tr α:=match opo s x,fieldAt? P t f with
 |some (.eptr K y),some off=>if unfOK K=true∧fldOff (unfK K) f=some off then match getP (unfK K) (unfT K y) (fldSel f) with
  |some ⟨K',y'⟩=>if K'.free=true then set n s o (.one (.eptr K' y')) k else .bad
  |none=>.bad
  else .bad
 |_,_=>.bad
theorem field_eptr {Γ:HF} {rcs:List (Nat×RC)} {K:Kd} {y:K.T} {off f:Nat} {t:TypeId} {K':Kd} {y':K'.T} {v:Value} (hf:fieldAt? P t f=some off) (hu:unfOK K=true) (hoff:fldOff (unfK K) f=some off) (hg:getP (unfK K) (unfT K y) (fldSel f)=some ⟨K',y'⟩) (hfr:K'.free=true) (hi:(SV.eptr K y).is Γ rcs v) :
  ∃u,(∀w' (o:Oper) (x:Operand) (a:Act),o.op=.fieldAddr t x f→a.eval x=v→(execOp a.eval o).run P w'=.ok (.value u) w')∧(SV.eptr K' y').is Γ rcs u:=by
 obtain ⟨fk,z0,b,o',c,t',ho0,hc,hl0,hv⟩:=hi
 obtain ⟨z,ho',hcu⟩:=unf_own hu ho0
 have hl:Lie c o' ((unfK K).cells (unfT K y) z):=by rw[hcu]; exact hl0
 obtain ⟨u,h2,h3⟩:=pl_fld f (unfT K y) z (b,o') off hoff
 have hget:=pl_get _ _ _ _ _ h2
 rw[hget] at hg
 injection hg with hg
 obtain ⟨uK,ux,uz,ua⟩:=u
 simp only[Sigma.mk.injEq] at hg
 obtain ⟨e1,e2⟩:=hg
 subst e1
 obtain rfl:=eq_of_heq e2
 simp only at h3
 subst h3
 obtain ⟨hq,s1,o1⟩:=own_pl _ _ _ _ _ _ ho' h2
 have:hq=HF.emp:=own_free hfr o1
 subst this
 obtain ⟨c',t'',e,l⟩:=lie_pl _ _ _ _ _ _ c t' ho' h2 (.inr hl)
 rcases e with ⟨_,e⟩ | ⟨_,e1,rfl,rfl⟩
 ·simp[HF.emp] at e
 ·refine ⟨.pointer (some ⟨b,o'+off,none⟩),fun w' o x a ho hx=>?_,hfr,uz,b,o'+off,c',t'',o1,hc,l,rfl⟩
  simp only[execOp,ho,hx,hv]
  have:=run_fieldAt (P:=P) (b:=b) (o:=o') hf w'
  simp[this]
theorem ep_eptr {Γ:HF} {rcs:List (Nat×RC)} {K:Kd} {y:Option K.T} {v:Value} (hy:y.isSome=true) (hi:(SV.val (.ep K) y).is Γ rcs v):(SV.eptr K (y.getD K.dft)).is Γ rcs v:=by
 obtain ⟨y0,rfl⟩:=Option.isSome_iff_exists.1 hy
 obtain ⟨hf,z,⟨_,o,c,t,hc,hl⟩,hv⟩:=hi
 exact ⟨hf,z.1,z.2.1,z.2.2,c,t,o,hc,hl,hv⟩
theorem stFieldE_ok {F:Fr} {o:Oper} {t:TypeId} {x:Operand} {f:Nat} {s:St} {k:St→Tr α} (ho:o.op=.fieldAddr t x f):PureOK P F o s (stFieldE (P:=P) F.n o t x f s k) k:=by
 unfold stFieldE
 split
 ·rename_i K y off hx hf
  split
  ·rename_i hoff
   obtain ⟨hu,hoff⟩:=hoff
   split
   ·rename_i K' y' hg
    split
    ·rename_i hfr
     refine pure_set fun a w Γ rcs h g=>?_
     obtain ⟨u,h1,h2⟩:=field_eptr hf hu hoff hg hfr (g.opoIs hx)
     exact ⟨u,fun w'=>h1 w' o x a ho rfl,h2⟩
    ·exact pure_bad
   ·exact pure_bad
  ·exact pure_bad
 ·exact pure_bad
def stFieldP (n:Lim) (o:Oper) (t:TypeId) (x:Operand) (f:Nat) (s:St) (k:St→Tr α):Tr α:=match opo s x,fieldAt? P t f with
 |some (.val (.ep K) y),some off=>if unfOK K=true∧fldOff (unfK K) f=some off then match getP (unfK K) (unfT K (Option.getD (α:=K.T) y K.dft)) (fldSel f) with
  |some ⟨K',y'⟩=>if K'.free=true then .need (isSome (α:=K.T) y=true) (set n s o (.one (.eptr K' y')) k) else .bad
  |none=>.bad
  else .bad
 |_,_=>.bad
theorem stFieldP_ok {F:Fr} {o:Oper} {t:TypeId} {x:Operand} {f:Nat} {s:St} {k:St→Tr α} (ho:o.op=.fieldAddr t x f):PureOK P F o s (stFieldP (P:=P) F.n o t x f s k) k:=by
 unfold stFieldP
 split
 ·rename_i K y off hx hf
  split
  ·rename_i hoff
   obtain ⟨hu,hoff⟩:=hoff
   split
   ·rename_i K' y' hg
    split
    ·rename_i hfr
     refine pure_need fun hn=>pure_set fun a w Γ rcs h g=>?_
     obtain ⟨u,h1,h2⟩:=field_eptr hf hu hoff hg hfr (ep_eptr hn (g.opoIs hx))
     exact ⟨u,fun w'=>h1 w' o x a ho rfl,h2⟩
    ·exact pure_bad
   ·exact pure_bad
  ·exact pure_bad
 ·exact pure_bad
def stFieldB (n:Lim) (o:Oper) (t:TypeId) (x:Operand) (f:Nat) (s:St) (k:St→Tr α):Tr α:=match opo s x with
 |some (.eptr _ _)=>stFieldE (P:=P) n o t x f s k
 |some (.val (.ep _) _)=>stFieldP (P:=P) n o t x f s k
 |_=>stField (P:=P) n o t x f s k
theorem stFieldB_ok {F:Fr} {o:Oper} {t:TypeId} {x:Operand} {f:Nat} {s:St} {k:St→Tr α} (ho:o.op=.fieldAddr t x f):PureOK P F o s (stFieldB (P:=P) F.n o t x f s k) k:=by
 unfold stFieldB
 split
 ·exact stFieldE_ok ho
 ·exact stFieldP_ok ho
 ·exact stField_ok ho
end
structure MC (K2 K:Kd) where
 K1:Kd
 K':Kd
 c:Chg K1 K2 K K'
 cond:Prop
 dec:Decidable cond
instance {K2 K:Kd} (m:MC K2 K):Decidable m.cond:=m.dec
def castC {K1 K2 e e':Kd} (h:e'=e) (c:Chg K1 K2 e e'):Chg K1 K2 e e:=by subst h; exact c
def castF {K2 e:Kd} (t:TypeId) (j:Nat) (h:K2=e):Chg .un K2 (.sl true t e (some j)) (.sl true t e none):=by subst h; exact .fill j rfl
theorem castF_rfl {K2:Kd} (t:TypeId) (j:Nat):castF (K2:=K2) t j rfl=.fill j rfl:=rfl
theorem castC_rfl {K1 K2 e:Kd} (c:Chg K1 K2 e e):castC rfl c=c:=rfl
def mkC (K2:Kd):(K:Kd)→List Sel→Option (MC K2 K)
 |K,[]=>some ⟨K,K2,.nil,True,inferInstance⟩
 |.pair a b,.fst::p=>match mkC K2 a p with
  |some m=>some ⟨m.K1,.pair m.K' b,.fst m.c,m.cond,m.dec⟩
  |none=>none
 |.pair a b,.snd::p=>match mkC K2 b p with
  |some m=>some ⟨m.K1,.pair a m.K',.snd m.c,m.cond,m.dec⟩
  |none=>none
 |.arr n e,.idx i::p=>match mkC K2 e p with
  |some m=>if h:m.K'=e then some ⟨m.K1,.arr n e,.idx i (castC h m.c),m.cond,m.dec⟩ else none
  |none=>none
 |.sl true t e none,.idx i::p=>match mkC K2 e p with
  |some m=>if h:m.K'=e then some ⟨m.K1,.sl true t e none,.sidx i (castC h m.c),m.cond,m.dec⟩ else none
  |none=>none
 |.sl true t e (some j),[.idx i]=>if h:K2=e then some ⟨.un,.sl true t e none,castF t j h,i=j,inferInstance⟩ else none
 |_,_::_=>none
theorem mkC_spec {K2:Kd}:∀(p:List Sel) {K:Kd} {m:MC K2 K},mkC K2 K p=some m→∀(x:K.T) (z:K.Z) (a:Nat×Nat) (q:At),pl K x z p a=some q→m.cond→m.c.writes=true∧m.c.valid x∧m.c.loc x z a=q.a∧m.K1=q.K
 | [],K,m,h,x,z,a,q,hp,hc=>by
  simp only[mkC,Option.some.injEq] at h
  subst h
  simp only[pl,Option.some.injEq] at hp
  subst hp
  exact ⟨rfl,trivial,rfl,rfl⟩
 |.fst::p,.pair k b,m,h,x,z,a,q,hp,hc=>by
  simp only[mkC] at h
  split at h
  ·rename_i m0 hm
   injection h with h
   subst h
   exact mkC_spec p hm x.1 z.1 a q hp hc
  ·cases h
 |.snd::p,.pair k b,m,h,x,z,a,q,hp,hc=>by
  simp only[mkC] at h
  split at h
  ·rename_i m0 hm
   injection h with h
   subst h
   exact mkC_spec p hm x.2 z.2 _ q hp hc
  ·cases h
 |.idx i::p,.arr n e,m,h,x,z,a,q,hp,hc=>by
  simp only[mkC] at h
  split at h
  ·rename_i m0 hm
   split at h
   ·rename_i he
    injection h with h
    subst h
    simp only[pl] at hp
    split at hp
    ·rename_i hi
     obtain ⟨K1,K',c,cond,dec⟩:=m0
     simp only at he
     subst he
     obtain ⟨h1,h2,h3⟩:=mkC_spec p hm _ _ _ q hp hc
     exact ⟨h1,⟨hi,h2⟩,h3⟩
    ·cases hp
   ·cases h
  ·cases h
 |.idx i::p,.sl true t e none,m,h,x,z,a,q,hp,hc=>by
  simp only[mkC] at h
  split at h
  ·rename_i m0 hm
   split at h
   ·rename_i he
    injection h with h
    subst h
    obtain ⟨zo,zf⟩:=z
    cases zo with
    |none=>simp only[pl] at hp; cases hp
    |some y =>
     simp only[pl] at hp
     split at hp
     ·rename_i hi
      obtain ⟨K1,K',c,cond,dec⟩:=m0
      simp only at he
      subst he
      obtain ⟨h1,h2,h3⟩:=mkC_spec p hm _ _ _ q hp hc
      exact ⟨h1,⟨hi,by simp,h2⟩,h3⟩
     ·cases hp
   ·cases h
  ·cases h
 | [.idx i],.sl true t e (some j),m,h,x,z,a,q,hp,hc=>by
  simp only[mkC] at h
  split at h
  ·rename_i he
   subst he
   injection h with h
   subst h
   simp only at hc
   subst hc
   obtain ⟨zo,zf⟩:=z
   cases zo with
   |none=>simp only[pl] at hp; cases hp
   |some y =>
    simp only[pl] at hp
    split at hp
    ·rename_i hi
     injection hp with hp
     subst hp
     exact ⟨rfl,hi.1,rfl,rfl⟩
    ·cases hp
  ·cases h
def div:List Sel→List Sel→Bool
 |.fst::_,.snd::_=>true
 |.snd::_,.fst::_=>true
 |.fst::p,.fst::q=>div p q
 |.snd::p,.snd::q=>div p q
 |.idx _::p,.idx _::q=>div p q
 |_,_=>false
def beg:List Sel→List Sel→Bool
 |_,[]=>true
 |.fst::p,.fst::q=>beg p q
 |.snd::p,.snd::q=>beg p q
 |.idx _::p,.idx _::q=>beg p q
 |_,_=>false
def sameHdr (q q':At):Prop:=∀o t e hole x z a,q=⟨.sl o t e hole,x,z,a⟩→∃hole' x' z',q'=⟨.sl o t e hole',x',z',a⟩∧z'.1=z.1∧length x'=length x
theorem sameHdr.refl (q:At):sameHdr q q:=fun o t e hole x z a h=>⟨hole,x,z,h,rfl,rfl⟩
structure Left (p p':List Sel) (q q':At):Prop where
 a:q'.a=q.a
 div:div p p'=true→q'=q
 hdr:beg p p'=true→p'.length<p.length→sameHdr q q'
theorem Left.fst {p p':List Sel} {q q':At} (l:Left p p' q q'):Left (.fst::p) (.fst::p') q q':=⟨l.a,fun h=>l.div h,fun h k=>l.hdr h (by simpa using k)⟩
theorem Left.snd {p p':List Sel} {q q':At} (l:Left p p' q q'):Left (.snd::p) (.snd::p') q q':=⟨l.a,fun h=>l.div h,fun h k=>l.hdr h (by simpa using k)⟩
theorem Left.idx {p p':List Sel} {q q':At} {i j:Nat} (l:Left p p' q q'):Left (.idx i::p) (.idx j::p') q q':=⟨l.a,fun h=>l.div h,fun h k=>l.hdr h (by simpa using k)⟩
theorem Left.same {p p':List Sel} {q:At}:Left p p' q q:=⟨rfl,fun _=>rfl,fun _ _=>sameHdr.refl q⟩
theorem pl_put {Γ:HF} {K2:Kd} (p:List Sel):∀(p':List Sel) {K:Kd} {m:MC K2 K},mkC K2 K p=some m→m.K1.size=K2.size→(div p p'=true∨beg p p'=true)→∀(x:K.T) (y:K2.T) (z:K.Z) (zy:K2.Z) (a:Nat×Nat) (q:At) (h:HF),K.Own Γ x z h→m.c.valid x→pl K x z p' a=some q →
  ∃q',pl m.K' (m.c.put x y) (m.c.putZ x z zy) p' a=some q'∧Left p p' q q':=by
 induction p with
 |nil =>
  intro p' K m h hs hd x y z zy a q hh ho hv hp
  simp only[mkC,Option.some.injEq] at h
  subst h
  cases p' with
  |nil =>
   simp only[pl,Option.some.injEq] at hp
   subst hp
   exact ⟨⟨K2,y,zy,a⟩,by simp only[pl,Chg.put,Chg.putZ],rfl,fun h=>by simp[div] at h,fun _ h=>by simp at h⟩
  |cons s' p'=>simp[div,beg] at hd
 |cons s p ih =>
  intro p' K m h hs hd x y z zy a q hh ho hv hp
  cases p' with
  |nil =>
   simp only[pl,Option.some.injEq] at hp
   subst hp
   refine ⟨⟨m.K',m.c.put x y,m.c.putZ x z zy,a⟩,by simp only[pl],rfl,fun h=>by cases s<;>simp[div] at h,fun _ _=>?_⟩
   intro o t e hole x0 z0 a0 hq
   injection hq with h1 h2 h3 h4
   subst h1; subst h4
   obtain rfl:=eq_of_heq h2
   obtain rfl:=eq_of_heq h3
   cases s with
   |fst=>simp[mkC] at h
   |snd=>simp[mkC] at h
   |idx i =>
    cases o with
    |false=>simp[mkC] at h
    |true =>
     cases hole with
     |none =>
      simp only[mkC] at h
      split at h
      ·rename_i m0 hm
       split at h
       ·rename_i he
        injection h with h
        subst h
        obtain ⟨K1,K',c,cond,dec⟩:=m0
        simp only at he
        subst he
        exact ⟨none,_,_,rfl,rfl,length_set⟩
       ·cases h
      ·cases h
     |some j =>
      cases p with
      |cons _ _=>simp[mkC] at h
      |nil =>
       simp only[mkC] at h
       split at h
       ·rename_i he
        subst he
        injection h with h
        subst h
        exact ⟨none,_,_,rfl,rfl,length_set⟩
       ·cases h
  |cons s' p' =>
   cases s with
   |fst =>
    cases K with
    |pair k b =>
     simp only[mkC] at h
     split at h
     ·rename_i m0 hm
      injection h with h
      subst h
      cases s' with
      |fst =>
       obtain ⟨h1,h2,_,_,o1,o2⟩:=ho
       obtain ⟨q',e,l⟩:=ih p' hm hs (by simpa[div,beg] using hd) x.1 y z.1 zy a q h1 o1 hv hp
       exact ⟨q',e,l.fst⟩
      |snd =>
       simp only[pl] at hp ⊢
       rw[←Chg.size_eq hs m0.c]
       exact ⟨q,hp,Left.same⟩
      |idx j=>simp[pl] at hp
     ·cases h
    |_=>simp[mkC] at h
   |snd =>
    cases K with
    |pair k b =>
     simp only[mkC] at h
     split at h
     ·rename_i m0 hm
      injection h with h
      subst h
      cases s' with
      |snd =>
       obtain ⟨h1,h2,_,_,o1,o2⟩:=ho
       obtain ⟨q',e,l⟩:=ih p' hm hs (by simpa[div,beg] using hd) x.2 y z.2 zy _ q h2 o2 hv hp
       exact ⟨q',e,l.snd⟩
      |fst=>exact ⟨q,hp,Left.same⟩
      |idx j=>simp[pl] at hp
     ·cases h
    |_=>simp[mkC] at h
   |idx i =>
    cases s' with
    |fst=>simp[div,beg] at hd
    |snd=>simp[div,beg] at hd
    |idx j =>
     cases K with
     |arr n e =>
      simp only[mkC] at h
      split at h
      ·rename_i m0 hm
       split at h
       ·rename_i he
        injection h with h
        subst h
        obtain ⟨K1,K',c,cond,dec⟩:=m0
        simp only at he
        subst he
        simp only[pl] at hp ⊢
        split at hp
        ·rename_i hj
         rw[if_pos hj]
         simp only[Chg.put,Chg.putZ,castC_rfl]
         by_cases hij:j=i
         ·subst hij
          rw[if_pos rfl,getD_set_self (by rw[ho.1]; exact hj)]
          obtain ⟨_,hi',_,_,oi,_⟩:=Each.take hj ho.2
          obtain ⟨q',e,l⟩:=ih p' hm hs (by simpa[div,beg] using hd) _ y _ zy _ q hi' oi hv.2 hp
          exact ⟨q',e,l.idx⟩
         ·rw[if_neg hij,getD_set_ne' (Ne.symm hij)]
          exact ⟨q,hp,Left.same⟩
        ·cases hp
       ·cases h
      ·cases h
     |sl o t e hole =>
      cases o with
      |false=>simp[mkC] at h
      |true =>
       obtain ⟨zo,zf⟩:=z
       cases hole with
       |none =>
        simp only[mkC] at h
        split at h
        ·rename_i m0 hm
         split at h
         ·rename_i he
          injection h with h
          subst h
          obtain ⟨K1,K',c,cond,dec⟩:=m0
          simp only at he
          subst he
          cases zo with
          |none=>simp only[pl] at hp; cases hp
          |some yy =>
           simp only[pl] at hp ⊢
           split at hp
           ·rename_i hj
            simp only[Chg.put,Chg.putZ,castC_rfl,length_set]
            rw[if_pos hj]
            by_cases hij:j=i
            ·subst hij
             rw[if_pos rfl,getD_set_self hj]
             obtain ⟨cc,h2,_,_,_,_,he,_⟩:=ho
             obtain ⟨_,hi',_,_,oi,_⟩:=Each.take hj he
             rw[if_neg (by simp)] at oi
             obtain ⟨q',e,l⟩:=ih p' hm hs (by simpa[div,beg] using hd) _ y _ zy _ q hi' oi hv.2.2 hp
             exact ⟨q',e,l.idx⟩
            ·rw[if_neg hij,getD_set_ne' (Ne.symm hij)]
             exact ⟨q,hp,Left.same⟩
           ·cases hp
         ·cases h
        ·cases h
       |some j0 =>
        cases p with
        |cons _ _=>simp[mkC] at h
        |nil =>
         cases p' with
         |cons _ _=>simp[div,beg] at hd
         |nil =>
          simp only[mkC] at h
          split at h
          ·rename_i he
           subst he
           injection h with h
           subst h
           cases zo with
           |none=>simp only[pl] at hp; cases hp
           |some yy =>
            simp only[pl] at hp ⊢
            split at hp
            ·rename_i hj
             injection hp with hp
             subst hp
             refine ⟨⟨K2,getD (List.set x j0 y) j K2.dft,if j=j0 then zy else zf j,(yy.1,yy.2.1+j*K2.size)⟩,?_,rfl,fun h=>by simp[div] at h,fun _ h=>by simp at h⟩
             simp only[castF_rfl,Chg.put,Chg.putZ,length_set]
             rw[if_pos hj.1]
            ·cases hp
          ·cases h
     |_=>simp[mkC] at h
def updL {α:Type}:List (Nat×α)→Nat→α→List (Nat×α)
 | [],_,_=>[]
 |(k,v)::l,n,u=>if k==n then (k,u)::l else (k,v)::updL l n u
theorem updL_keys {α:Type} (l:List (Nat×α)) (n:Nat) (u:α):(updL l n u).map (·.1)=l.map (·.1):=by
 induction l with
 |nil=>rfl
 |cons x l ih =>
  simp only[updL]
  split
  ·rfl
  ·simp only[map_cons,ih]
theorem updL_map {α β:Type} (l:List (Nat×α)) (n:Nat) (u:α) (f:α→β):(updL l n u).map (fun x=>(x.1,f x.2))=updL (l.map fun x=>(x.1,f x.2)) n (f u):=by
 induction l with
 |nil=>rfl
 |cons x l ih =>
  simp only[updL,map_cons]
  split
  ·rfl
  ·simp only[map_cons,ih]
theorem look_updL {α:Type} {l:List (Nat×α)} {n:Nat} {u:α} (v:α) (h:look l n=some v) (k:Nat):look (updL l n u) k=if k=n then some u else look l k:=by
 induction l with
 |nil=>cases h
 |cons x l ih =>
  obtain ⟨j,y⟩:=x
  simp only[look] at h
  simp only[updL]
  by_cases hj:j=n
  ·subst hj
   simp only[beq_self_eq_true,if_true,look]
   by_cases hk:k=j
   ·subst hk; simp
   ·rw[if_neg hk,if_neg (by simp; exact fun e=>hk e.symm),if_neg (by simp; exact fun e=>hk e.symm)]
  ·rw[if_neg (by simpa using hj)] at h
   rw[if_neg (by simpa using hj)]
   simp only[look]
   by_cases hk:k=j
   ·subst hk; rw[if_neg hj]; simp
   ·have hjk:(j==k)=false:=by simp; exact fun e=>hk e.symm
    simp only[hjk,Bool.false_eq_true,if_false]
    exact ih h
theorem look_del {α:Type} (l:List (Nat×α)) {n k:Nat} (h:k≠n):look (del l n) k=look l k:=by
 induction l with
 |nil=>rfl
 |cons x l ih =>
  obtain ⟨j,y⟩:=x
  simp only[del,filter_cons]
  by_cases hj:j=n
  ·subst hj
   simp only[bne_self_eq_false,Bool.false_eq_true,if_false,look]
   rw[if_neg (by simp; exact fun e=>h e.symm)]
   exact ih
  ·rw[if_pos (by simpa using hj)]
   simp only[look]
   split
   ·rfl
   ·exact ih
theorem del_none {α:Type} {l:List (Nat×α)} {n:Nat} (h:n∉l.map (·.1)):del l n=l:=by
 refine List.filter_eq_self.2 fun x hx=>?_
 simp only[bne_iff_ne,ne_eq]
 exact fun e=>h (e▸List.mem_map_of_mem hx)
theorem star_upd {Γ:HF}:∀ {rcs:List (Nat×RC)} {h:HF} {id:Nat} {r:RC},Star Γ rcs h→look rcs id=some r→(rcs.map (·.1)).Nodup →
  ∃h1 hr,HF.dj h1 hr∧h=h1.un hr∧r.Own Γ h1∧(∀r' h1',HF.dj h1' hr→r'.Own Γ h1'→Star Γ (updL rcs id r') (h1'.un hr))∧Star Γ (del rcs id) hr
 |(k,r0)::l,h,id,r,⟨g1,g2,d,e,o,st⟩,hl,nd=>by
  simp only[look] at hl
  rw[map_cons,nodup_cons] at nd
  by_cases hk:k=id
  ·subst hk
   simp only[beq_self_eq_true,if_true,Option.some.injEq] at hl
   subst hl
   refine ⟨g1,g2,d,e,o,?_,?_⟩
   ·intro r' h1' d' o'
    simp only[updL,beq_self_eq_true,if_true]
    exact ⟨h1',g2,d',rfl,o',st⟩
   ·simp only[del,filter_cons,bne_self_eq_false,Bool.false_eq_true,if_false]
    have:=del_none nd.1
    unfold del at this
    rw[this]
    exact st
  ·rw[if_neg (by simpa using hk)] at hl
   obtain ⟨h1,hr,d1,rfl,o1,put,dl⟩:=star_upd st hl nd.2
   subst e
   obtain ⟨d2,d3⟩:=HF.dj_un.1 d
   refine ⟨h1,g1.un hr,HF.dj_un.2 ⟨d2.symm,d1⟩,?_,o1,?_,?_⟩
   ·rw[←HF.un_assoc,←HF.un_assoc,HF.un_comm d2]
   ·intro r' h1' d' o'
    obtain ⟨d4,d5⟩:=HF.dj_un.1 d'
    simp only[updL]
    rw[if_neg (by simpa using hk)]
    refine ⟨g1,h1'.un hr,HF.dj_un.2 ⟨d4.symm,d3⟩,?_,o,put r' h1' d5 o'⟩
    rw[←HF.un_assoc,←HF.un_assoc,HF.un_comm d4]
   ·simp only[del,filter_cons]
    rw[if_pos (by simpa using hk)]
    exact ⟨g1,hr,d3,rfl,o,dl⟩
theorem Mem.mono {h h':HF} {w:World} (m:Mem h w) (s:∀b v,h' b=some v→h b=some v):Mem h' w:=fun b x e=>m b x (s b _ e)
theorem un_left {g h:HF} {b:Nat} {v:Blk} (e:g b=some v):(g.un h) b=some v:=by simp[HF.un,e]
theorem un_mono {g g' h h':HF} (d:HF.dj g h) (s1:∀b v,g' b=some v→g b=some v) (s2:∀b v,h' b=some v→h b=some v):∀b v,(g'.un h') b=some v→(g.un h) b=some v:=by
 intro b v e
 simp only[HF.un] at e
 cases hg:g' b with
 |some x=>rw[hg] at e; simp at e; subst e; exact un_left (s1 b _ hg)
 |none=>rw[hg] at e; simp at e; exact un_right d (s2 b _ e)
theorem not_has {h:HF} {w:World} (m:Mem h w) (n:Nat):¬h.has (w.heap.size+n):=by
 intro hh
 cases e:h (w.heap.size+n) with
 |none=>exact hh e
 |some x =>
  obtain ⟨o,q⟩:=(m _ x e).r.some
  rw[Array.getElem?_eq_none (by omega)] at q
  cases q
theorem loc_thru:∀(p:List Sel) {K:Kd} (x:K.T) (z:K.Z) (a a':Nat×Nat) (q:At),thru K p=true→pl K x z p a=some q→pl K x z p a'=some q:=by
 intro p K x z a a' q ht hp
 fun_induction pl K x z p a generalizing a'<;>simp_all [thru,pl]
theorem write_star {Γ:HF} {rcs:List (Nat×RC)} {h0 hn:HF} {w:World} {id:Nat} {r:RC} {p:List Sel} {q:At} {K2:Kd} {m:MC K2 r.K} {y:K2.T} {zy:K2.Z}
  (st:Star Γ rcs h0) (nd:(rcs.map (·.1)).Nodup) (dn:HF.dj h0 hn) (mem:Mem (h0.un hn) w) (hr:look rcs id=some r)
  (hp:pl r.K r.x r.z p ((r.box.getD (0,0)).1,0)=some q) (hb:r.box=none→thru r.K p=true) (hm:mkC K2 r.K p=some m) (hc:m.cond) (hs:m.K1.size=K2.size) (hy:K2.Own Γ y zy hn) :
  ∃h',Star Γ (updL rcs id ⟨r.box,m.K',m.c.put r.x y,m.c.putZ r.x r.z zy⟩) h'∧Mem h' (w.setCells q.a.1 q.a.2 (K2.cells y zy))∧(∀b,h'.has b→(h0.un hn).has b)∧(h0.un hn).has q.a.1:=by
 obtain ⟨h1,hR,d1,rfl,o1,put,_⟩:=star_upd st hr nd
 obtain ⟨dn1,dnR⟩:=HF.un_dj.1 dn
 cases hbx:r.box with
 |none =>
  have o2:r.K.Own Γ r.x r.z h1:=by simpa[RC.Own,hbx] using o1
  have hth:=hb hbx
  have hp':=loc_thru p _ _ _ (w.heap.size,0) _ hth hp
  have hnb:¬h1.has w.heap.size:=fun e=>not_has mem 0 (HF.has_un.2 (.inl (HF.has_un.2 (.inl e))))
  obtain ⟨hw,hv,hloc,_⟩:=mkC_spec p hm r.x r.z _ q hp' hc
  obtain ⟨hr',ho',s⟩:=chg_own hs m.c r.x r.z h1 w.heap.size 0 (r.K.cells r.x r.z).toArray 0 hw hv o2 (fun j hj=>by simp) hnb
  obtain ⟨_,_,hqh,_⟩:=lie_pl p _ _ _ _ _ #[] 0 o2 hp (.inl hth)
  have hqh1:h1.has q.a.1:=by
   rcases hqh with ⟨_,e⟩ | ⟨e,_⟩
   ·unfold HF.has; rw[e]; simp
   ·rw[hth] at e; cases e
  obtain ⟨sd,rfl,sown,sat,slie,sput⟩:=s
  rw[hloc] at sat slie sput
  obtain ⟨d7,d8⟩:=HF.un_dj.1 dn1
  obtain ⟨e3,e4⟩:=HF.un_dj.1 d1
  have hqr:hr'.has q.a.1:=by
   rcases sat with ⟨e,_⟩ | ⟨_,e⟩
   ·rw[e] at hqh1; exact absurd hqh1 hnb
   ·exact e
  have hdn:HF.dj (HF.one w.heap.size (r.K.cells r.x r.z).toArray 0) hn:=HF.dj_iff.2 fun bb hbb hh=>by
   rw[HF.has_one] at hbb
   subst hbb
   exact not_has mem 0 (HF.has_un.2 (.inr hh))
  obtain ⟨p1,p2⟩:=sput y zy hn hy (HF.un_dj.2 ⟨hdn,d7⟩)
  have hqR:¬hR.has q.a.1:=fun f=>HF.dj_iff.1 e3 _ hqr f
  have hqn:¬hn.has q.a.1:=fun f=>HF.dj_iff.1 d7 _ hqr f
  refine ⟨((hr'.upd q.a.1 q.a.2 (K2.cells y zy)).un hn).un hR,put _ _ ?_ ?_,?_,?_,?_⟩
  ·exact HF.un_dj.2 ⟨HF.upd_dj.2 e3,dnR.symm⟩
  ·simpa only[RC.Own] using p1
  ·have hm':=Mem.upd (b:=q.a.1) (off:=q.a.2) (vs:=K2.cells y zy) mem
   refine Mem.mono hm' ?_
   rw[HF.upd_un,HF.upd_un,HF.upd_un,HF.upd_not hqR,HF.upd_not hqn]
   intro bb v e
   simp only[HF.un] at e ⊢
   cases e1_:(hr'.upd q.a.1 q.a.2 (K2.cells y zy)) bb with
   |some x=>simp only[e1_] at e ⊢; simpa using e
   |none =>
    simp only[e1_,none_or] at e ⊢
    cases e3':hn bb with
    |some x =>
     simp only[e3'] at e ⊢
     have q1:hR bb=none:=by rcases dnR bb with q | q; exact q; rw[e3'] at q; cases q
     have q2:(ho'.upd q.a.1 q.a.2 (K2.cells y zy)) bb=none:=by
      have:=(HF.upd_dj (b:=q.a.1) (off:=q.a.2) (vs:=K2.cells y zy)).2 d8
      rcases this bb with q | q; exact q; rw[e3'] at q; cases q
     rw[q1,q2]
     simpa using e
    |none =>
     simp only[e3'] at e ⊢
     simp only[none_or] at e
     have q2:(ho'.upd q.a.1 q.a.2 (K2.cells y zy)) bb=none:=by
      have:=(HF.upd_dj (b:=q.a.1) (off:=q.a.2) (vs:=K2.cells y zy)).2 e4
      rcases this bb with q | q; exact q; rw[e] at q; cases q
     rw[q2,e]
     rfl
  ·intro bb hbb
   simp only[HF.has_un,HF.upd_has] at hbb ⊢
   rcases hbb with (e | e) | e
   ·exact .inl (.inl (.inl e))
   ·exact .inr e
   ·exact .inl (.inr e)
  ·simp only[HF.has_un]
   exact .inl (.inl (.inl hqr))
 |some bt =>
  obtain ⟨b,t0⟩:=bt
  simp only[RC.Own,hbx] at o1
  obtain ⟨c0,h2,d2,rfl,o2,hl⟩:=o1
  have hl':Lie c0 0 (r.K.cells r.x r.z):=fun j hj=>by rw[←hl]; simp
  rw[hbx] at hp
  simp only[getD_some] at hp
  obtain ⟨hw,hv,hloc,_⟩:=mkC_spec p hm r.x r.z (b,0) q hp hc
  have hb2:¬h2.has b:=fun e=>HF.dj_iff.1 d2 b (HF.has_one.2 rfl) e
  obtain ⟨hr',ho',s⟩:=chg_own hs m.c r.x r.z h2 b 0 c0 t0 hw hv o2 hl' hb2
  obtain ⟨sd,rfl,sown,sat,slie,sput⟩:=s
  rw[hloc] at sat slie sput
  obtain ⟨d3,d4⟩:=HF.dj_un.1 d2
  obtain ⟨d5,d6⟩:=HF.un_dj.1 dn1
  obtain ⟨d7,d8⟩:=HF.un_dj.1 d6
  obtain ⟨e1,e2⟩:=HF.un_dj.1 d1
  obtain ⟨e3,e4⟩:=HF.un_dj.1 e2
  obtain ⟨p1,p2⟩:=sput y zy hn hy (HF.un_dj.2 ⟨d5,d7⟩)
  have hone:(HF.one b c0 t0).upd q.a.1 q.a.2 (K2.cells y zy)=HF.one b (wrIf b c0 q.a (K2.cells y zy)) t0:=one_upd
  have hqR:¬hR.has q.a.1:=by
   rcases sat with ⟨e,_⟩ | ⟨_,e⟩
   ·rw[e]; exact fun f=>HF.dj_iff.1 e1 b (HF.has_one.2 rfl) f
   ·exact fun f=>HF.dj_iff.1 e3 _ e f
  have hqn:¬hn.has q.a.1:=by
   rcases sat with ⟨e,_⟩ | ⟨_,e⟩
   ·rw[e]; exact fun f=>HF.dj_iff.1 d5 b (HF.has_one.2 rfl) f
   ·exact fun f=>HF.dj_iff.1 d7 _ e f
  refine ⟨((HF.one b (wrIf b c0 q.a (K2.cells y zy)) t0).un ((hr'.upd q.a.1 q.a.2 (K2.cells y zy)).un hn)).un hR,put _ _ ?_ ?_,?_,?_,?_⟩
  ·refine HF.un_dj.2 ⟨?_,HF.un_dj.2 ⟨HF.upd_dj.2 e3,dnR.symm⟩⟩
   rw[←hone]; exact HF.upd_dj.2 e1
  ·simp only[RC.Own]
   refine ⟨_,_,?_,rfl,p1,?_⟩
   ·rw[←hone]
    exact HF.dj_un.2 ⟨HF.upd_dj.2 (HF.dj_upd.2 d3),HF.upd_dj.2 d5⟩
   ·have hsz:c0.size=(m.K'.cells (m.c.put r.x y) (m.c.putZ r.x r.z zy)).length:=by
     rw[cells_length,←Chg.size_eq hs m.c,←cells_length r.K r.x r.z,←hl]; simp
    refine List.ext_getElem? fun j=>?_
    rcases Nat.lt_or_ge j (m.K'.cells (m.c.put r.x y) (m.c.putZ r.x r.z zy)).length with hj | hj
    ·have:=p2 j hj
     rw[Nat.zero_add] at this
     rw[←this]; simp
    ·rw[getElem?_eq_none hj,getElem?_eq_none (by simp[wrIf_size]; omega)]
  ·have hm':=Mem.upd (b:=q.a.1) (off:=q.a.2) (vs:=K2.cells y zy) mem
   refine Mem.mono hm' ?_
   rw[HF.upd_un,HF.upd_un,HF.upd_un,HF.upd_un,hone,HF.upd_not hqR,HF.upd_not hqn]
   intro bb v e
   simp only[HF.un] at e ⊢
   cases e1_:(HF.one b (wrIf b c0 q.a (K2.cells y zy)) t0) bb with
   |some x=>simp only[e1_] at e ⊢; simpa using e
   |none =>
    simp only[e1_,none_or] at e ⊢
    cases e1_:(hr'.upd q.a.1 q.a.2 (K2.cells y zy)) bb with
    |some x=>simp only[e1_] at e ⊢; simpa using e
    |none =>
     simp only[e1_,none_or] at e ⊢
     cases e3':hn bb with
     |some x =>
      simp only[e3'] at e ⊢
      have q1:hR bb=none:=by rcases dnR bb with q | q; exact q; rw[e3'] at q; cases q
      have q2:(ho'.upd q.a.1 q.a.2 (K2.cells y zy)) bb=none:=by
       have:=(HF.upd_dj (b:=q.a.1) (off:=q.a.2) (vs:=K2.cells y zy)).2 d8
       rcases this bb with q | q; exact q; rw[e3'] at q; cases q
      rw[q1,q2]
      simpa using e
     |none =>
      simp only[e3'] at e ⊢
      simp only[none_or] at e
      have q2:(ho'.upd q.a.1 q.a.2 (K2.cells y zy)) bb=none:=by
       have:=(HF.upd_dj (b:=q.a.1) (off:=q.a.2) (vs:=K2.cells y zy)).2 e4
       rcases this bb with q | q; exact q; rw[e] at q; cases q
      rw[q2,e]
      rfl
  ·intro bb hbb
   simp only[HF.has_un,HF.upd_has,HF.has_one] at hbb ⊢
   rcases hbb with (e | e | e) | e
   ·exact .inl (.inl (.inl e))
   ·exact .inl (.inl (.inr (.inl e)))
   ·exact .inr e
   ·exact .inl (.inr e)
  ·simp only[HF.has_un,HF.has_one]
   rcases sat with ⟨e,_⟩ | ⟨_,e⟩
   ·exact .inl (.inl (.inl e))
   ·exact .inl (.inl (.inr (.inl e)))
theorem thru_put {K2:Kd} (p:List Sel):∀(p':List Sel) {K:Kd} {m:MC K2 K},mkC K2 K p=some m→(div p p'=true∨beg p p'=true)→thru K p'=true→thru m.K' p'=true:=by
 induction p with
 |nil =>
  intro p' K m h hd ht
  cases p' with
  |nil=>cases K<;>simp[thru] at ht
  |cons s' p'=>simp[div,beg] at hd
 |cons s p ih =>
  intro p' K m h hd ht
  cases p' with
  |nil=>cases K<;>simp[thru] at ht
  |cons s' p' =>
   cases s with
   |fst =>
    cases K with
    |pair a b =>
     simp only[mkC] at h
     split at h
     ·rename_i m0 hm
      injection h with h
      subst h
      cases s' with
      |fst=>exact ih p' hm (by simpa[div,beg] using hd) ht
      |snd=>exact ht
      |idx j=>simp[thru] at ht
     ·cases h
    |_=>simp[mkC] at h
   |snd =>
    cases K with
    |pair a b =>
     simp only[mkC] at h
     split at h
     ·rename_i m0 hm
      injection h with h
      subst h
      cases s' with
      |snd=>exact ih p' hm (by simpa[div,beg] using hd) ht
      |fst=>exact ht
      |idx j=>simp[thru] at ht
     ·cases h
    |_=>simp[mkC] at h
   |idx i =>
    cases K with
    |arr n e =>
     simp only[mkC] at h
     split at h
     ·rename_i m0 hm
      split at h
      ·injection h with h
       subst h
       exact ht
      ·cases h
     ·cases h
    |sl o t e hole =>
     cases o with
     |false=>simp[mkC] at h
     |true =>
      cases hole with
      |none =>
       simp only[mkC] at h
       split at h
       ·split at h
        ·injection h with h
         subst h
         exact ht
        ·cases h
       ·cases h
      |some j =>
       cases p with
       |cons _ _=>simp[mkC] at h
       |nil =>
        simp only[mkC] at h
        split at h
        ·injection h with h
         subst h
         cases s'<;>simp_all [thru]
        ·cases h
    |_=>simp[mkC] at h
def isSl:Option Kd→Bool
 |some (.sl _ _ _ _)=>true
 |_=>false
def keepS (id:Nat) (p:List Sel) (K:Kd):SV→Bool
 |.ptr i p'=>i != id||div p p'||beg p p'
 |.at i p'=>i != id||div p p'||(beg p p'&&decide (p'.length<p.length)&&isSl (sub K p'))
 |.slc i p' _ _=>i != id||div p p'||(beg p p'&&decide (p'.length<p.length))
 |_=>true
def keepA (id:Nat) (p:List Sel) (K:Kd):AV→Bool
 |.one v=>keepS id p K v
 |.tup l=>l.all (keepS id p K)
theorem keepS_is {Γ:HF} {rcs:List (Nat×RC)} {h0:HF} {id:Nat} {r:RC} {p:List Sel} {K2:Kd} {m:MC K2 r.K} {y:K2.T} {zy:K2.Z} {v:SV} {u:Value}
  (st:Star Γ rcs h0) (hr:look rcs id=some r) (hm:mkC K2 r.K p=some m) (hs:m.K1.size=K2.size) (hval:m.c.valid r.x)
  (hk:keepS id p r.K v=true) (hi:v.is Γ rcs u):v.is Γ (updL rcs id ⟨r.box,m.K',m.c.put r.x y,m.c.putZ r.x r.z zy⟩) u:=by
 have hl:=look_updL (u:=(⟨r.box,m.K',m.c.put r.x y,m.c.putZ r.x r.z zy⟩:RC)) r hr
 obtain ⟨h1,_,_,_,o1⟩:=star_take st hr
 obtain ⟨h2,_,o2⟩:=rc_own o1
 cases v with
 |val K x=>exact hi
 |eptr K x=>exact hi
 |nilS=>exact hi
 |nilP=>exact hi
 |bnd f K x=>exact hi
 |clo f caps =>
  obtain ⟨vs,e,hlen,hall⟩:=hi
  refine ⟨vs,e,hlen,fun j id' hj=>?_⟩
  obtain ⟨r0,b,t,hr0,hb,hv⟩:=hall j id' hj
  by_cases hii:id'=id
  ·subst hii
   rw[hr] at hr0
   injection hr0 with hr0
   subst hr0
   exact ⟨⟨r.box,m.K',m.c.put r.x y,m.c.putZ r.x r.z zy⟩,b,t,by rw[hl,if_pos rfl],hb,hv⟩
  ·exact ⟨r0,b,t,by rw[hl,if_neg hii]; exact hr0,hb,hv⟩
 |ptr i p' =>
  obtain ⟨r0,q,hr0,hp,hb,e⟩:=hi
  by_cases hii:i=id
  ·subst hii
   rw[hr] at hr0
   injection hr0 with hr0
   subst hr0
   have hd:div p p'=true∨beg p p'=true:=by simpa[keepS] using hk
   obtain ⟨q',hq',l⟩:=pl_put p p' hm hs hd r.x y r.z zy _ q h2 o2 hval hp
   refine ⟨⟨r.box,m.K',m.c.put r.x y,m.c.putZ r.x r.z zy⟩,q',by rw[hl,if_pos rfl],hq',fun e=>thru_put p p' hm hd (hb e),?_⟩
   rw[l.a]; exact e
  ·exact ⟨r0,q,by rw[hl,if_neg hii]; exact hr0,hp,hb,e⟩
 | «at» i p' =>
  obtain ⟨r0,q,hr0,hp,e⟩:=hi
  by_cases hii:i=id
  ·subst hii
   rw[hr] at hr0
   injection hr0 with hr0
   subst hr0
   have hd:div p p'=true∨(beg p p'=true∧p'.length<p.length)∧isSl (sub r.K p')=true:=by simpa[keepS] using hk
   obtain ⟨q',hq',l⟩:=pl_put p p' hm hs (hd.imp id (fun q=>q.1.1)) r.x y r.z zy _ q h2 o2 hval hp
   refine ⟨⟨r.box,m.K',m.c.put r.x y,m.c.putZ r.x r.z zy⟩,q',by rw[hl,if_pos rfl],hq',?_⟩
   rcases hd with hd | ⟨⟨hd,hlt⟩,hsl⟩
   ·rw[l.div hd]; exact e
   ·rw[pl_sub p' _ _ _ _ hp] at hsl
    obtain ⟨qK,qx,qz,qa⟩:=q
    cases qK<;>simp only[isSl,Bool.false_eq_true] at hsl
    obtain ⟨hole',x',z',rfl,e1,e2⟩:=l.hdr hd hlt _ _ _ _ _ _ _ rfl
    rw[e]
    simp only[toV,single,cells,e1,e2]
  ·exact ⟨r0,q,by rw[hl,if_neg hii]; exact hr0,hp,e⟩
 |slc i p' off len =>
  obtain ⟨r0,t,e,hole,x',z',qa,hr0,hp,hle,hv⟩:=hi
  by_cases hii:i=id
  ·subst hii
   rw[hr] at hr0
   injection hr0 with hr0
   subst hr0
   have hd:div p p'=true∨(beg p p'=true∧p'.length<p.length):=by simpa[keepS] using hk
   obtain ⟨q',hq',l⟩:=pl_put p p' hm hs (hd.imp id (fun q=>q.1)) r.x y r.z zy _ _ h2 o2 hval hp
   rcases hd with hd | ⟨hd,hlt⟩
   ·rw[l.div hd] at hq'
    exact ⟨⟨r.box,m.K',m.c.put r.x y,m.c.putZ r.x r.z zy⟩,t,e,hole,x',z',qa,by rw[hl,if_pos rfl],hq',hle,hv⟩
   ·obtain ⟨hole',x2,z2,rfl,e1,e2⟩:=l.hdr hd hlt _ _ _ _ _ _ _ rfl
    exact ⟨⟨r.box,m.K',m.c.put r.x y,m.c.putZ r.x r.z zy⟩,t,e,hole',x2,z2,qa,by rw[hl,if_pos rfl],hq',by rw[e2]; exact hle,by rw[e1]; exact hv⟩
  ·exact ⟨r0,t,e,hole,x',z',qa,by rw[hl,if_neg hii]; exact hr0,hp,hle,hv⟩
theorem keepA_is {Γ:HF} {rcs:List (Nat×RC)} {h0:HF} {id:Nat} {r:RC} {p:List Sel} {K2:Kd} {m:MC K2 r.K} {y:K2.T} {zy:K2.Z} {v:AV} {u:Value}
  (st:Star Γ rcs h0) (hr:look rcs id=some r) (hm:mkC K2 r.K p=some m) (hs:m.K1.size=K2.size) (hval:m.c.valid r.x)
  (hk:keepA id p r.K v=true) (hi:v.is Γ rcs u):v.is Γ (updL rcs id ⟨r.box,m.K',m.c.put r.x y,m.c.putZ r.x r.z zy⟩) u:=by
 cases v with
 |one v=>exact keepS_is st hr hm hs hval hk hi
 |tup l =>
  obtain ⟨vs,e,hl,hall⟩:=hi
  refine ⟨vs,e,hl,fun i s hs'=>?_⟩
  obtain ⟨u',hu,h'⟩:=hall i s hs'
  exact ⟨u',hu,keepS_is st hr hm hs hval (List.all_eq_true.1 hk s (mem_of_getElem? hs')) h'⟩
theorem cells_thru {Γ:HF} {K2:Kd} (p:List Sel):∀ {K:Kd} {m:MC K2 K},mkC K2 K p=some m→thru K p=true→∀(x:K.T) (y:K2.T) (z:K.Z) (zy:K2.Z) (h:HF),K.Own Γ x z h→m.K'.cells (m.c.put x y) (m.c.putZ x z zy)=K.cells x z∧single m.K'=single K:=by
 induction p with
 |nil=>intro K m h ht; cases K<;>simp[thru] at ht
 |cons s p ih =>
  intro K m h ht x y z zy hh ho
  cases s with
  |fst =>
   cases K with
   |pair a b =>
    simp only[mkC] at h
    split at h
    ·rename_i m0 hm
     injection h with h
     subst h
     obtain ⟨h1,h2,_,_,o1,_⟩:=ho
     have:=(ih hm ht x.1 y z.1 zy h1 o1).1
     exact ⟨by simp only[Chg.put,Chg.putZ,Kd.cells,this],rfl⟩
    ·cases h
   |_=>simp[mkC] at h
  |snd =>
   cases K with
   |pair a b =>
    simp only[mkC] at h
    split at h
    ·rename_i m0 hm
     injection h with h
     subst h
     obtain ⟨h1,h2,_,_,_,o2⟩:=ho
     have:=(ih hm ht x.2 y z.2 zy h2 o2).1
     exact ⟨by simp only[Chg.put,Chg.putZ,Kd.cells,this],rfl⟩
    ·cases h
   |_=>simp[mkC] at h
  |idx i =>
   cases K with
   |arr n e =>
    simp only[mkC] at h
    split at h
    ·rename_i m0 hm
     split at h
     ·rename_i he
      injection h with h
      subst h
      obtain ⟨K1,K',c,cond,dec⟩:=m0
      simp only at he
      subst he
      refine ⟨?_,rfl⟩
      simp only[Chg.put,Chg.putZ,Kd.cells,castC_rfl]
      have key:∀l:List Nat,(∀j∈l,j<n)→l.flatMap (fun j=>K'.cells (getD (List.set x i (c.put (getD x i K'.dft) y)) j K'.dft) (if j=i then c.putZ (getD x i K'.dft) (z i) zy else z j))=l.flatMap fun j=>K'.cells (getD x j K'.dft) (z j):=by
       intro l
       induction l with
       |nil=>intro _; rfl
       |cons j l ihl =>
        intro hl
        have hjn:=hl j mem_cons_self
        rw[flatMap_cons,flatMap_cons,ihl fun k hk=>hl k (mem_cons_of_mem _ hk)]
        congr 1
        by_cases hji:j=i
        ·subst hji
         obtain ⟨hx,he⟩:=ho
         obtain ⟨_,hi',_,_,oi,_⟩:=Each.take hjn he
         have h1:=(ih hm ht (getD x j K'.dft) y (z j) zy hi' oi).1
         rw[if_pos rfl,getD_set_self (by rw[hx]; exact hjn)]
         exact h1
        ·rw[if_neg hji,getD_set_ne' (Ne.symm hji)]
      exact key _ fun j hj=>List.mem_range.1 hj
     ·cases h
    ·cases h
   |sl o t e hole =>
    cases o with
    |false=>simp[mkC] at h
    |true =>
     cases hole with
     |none =>
      simp only[mkC] at h
      split at h
      ·split at h
       ·rename_i he
        injection h with h
        subst h
        refine ⟨?_,rfl⟩
        simp only[Chg.put,Chg.putZ,Kd.cells,length_set]
       ·cases h
      ·cases h
     |some j =>
      cases p with
      |cons _ _=>simp[mkC] at h
      |nil =>
       simp only[mkC] at h
       split at h
       ·rename_i he
        subst he
        injection h with h
        subst h
        refine ⟨?_,rfl⟩
        simp only[castF_rfl,Chg.put,Chg.putZ,Kd.cells,length_set]
       ·cases h
   |_=>simp[mkC] at h
theorem place_has {Γ:HF} {r:RC} {h:HF} (ho:r.Own Γ h) {p:List Sel} {q:At} (hp:pl r.K r.x r.z p ((r.box.getD (0,0)).1,0)=some q) (hb:r.box=none→thru r.K p=true):h.has q.a.1:=by
 cases hbx:r.box with
 |none =>
  have o2:r.K.Own Γ r.x r.z h:=by simpa[RC.Own,hbx] using ho
  obtain ⟨c,t,hc,l⟩:=lie_pl p _ _ _ _ _ #[] 0 o2 hp (.inl (hb hbx))
  rcases hc with ⟨_,hc⟩ | ⟨hc,_⟩
  ·unfold HF.has; rw[hc]; simp
  ·rw[hb hbx] at hc; cases hc
 |some bt =>
  obtain ⟨b,t0⟩:=bt
  simp only[RC.Own,hbx] at ho
  obtain ⟨c0,h2,d2,rfl,o2,hl⟩:=ho
  have hl':Lie c0 0 (r.K.cells r.x r.z):=fun j hj=>by rw[←hl]; simp
  rw[hbx] at hp
  obtain ⟨c,t,hc,l⟩:=lie_pl p _ _ _ _ _ c0 t0 o2 hp (.inr hl')
  rcases hc with ⟨_,hc⟩ | ⟨_,e1,_⟩
  ·exact HF.has_un.2 (.inr (by unfold HF.has; rw[hc]; simp))
  ·simp only[getD_some] at e1
   rw[e1]
   exact HF.has_un.2 (.inl (HF.has_one.2 rfl))
theorem box_has {Γ:HF} {r:RC} {h:HF} (ho:r.Own Γ h) {b:Nat} {t:TypeId} (hb:r.box=some (b,t)):h.has b:=by
 simp only[RC.Own,hb] at ho
 obtain ⟨c0,h2,d2,rfl,_⟩:=ho
 exact HF.has_un.2 (.inl (HF.has_one.2 rfl))
theorem star_two {Γ:HF}:∀ {rcs:List (Nat×RC)} {h:HF} {i j:Nat} {r r':RC},Star Γ rcs h→look rcs i=some r→look rcs j=some r'→i≠j→∃h1 h2,HF.dj h1 h2∧r.Own Γ h1∧r'.Own Γ h2
 |(k,r0)::l,h,i,j,r,r',⟨g1,g2,d,e,o,st⟩,hi,hj,hne=>by
  simp only[look] at hi hj
  by_cases hki:k=i
  ·subst hki
   simp only[beq_self_eq_true,if_true,Option.some.injEq] at hi
   subst hi
   rw[if_neg (by simpa using hne)] at hj
   obtain ⟨h1,hr,d1,rfl,o1⟩:=star_take st hj
   exact ⟨g1,h1,(HF.dj_un.1 d).1,o,o1⟩
  ·rw[if_neg (by simpa using hki)] at hi
   by_cases hkj:k=j
   ·subst hkj
    simp only[beq_self_eq_true,if_true,Option.some.injEq] at hj
    subst hj
    obtain ⟨h1,hr,d1,rfl,o1⟩:=star_take st hi
    exact ⟨h1,g1,(HF.dj_un.1 d).1.symm,o1,o⟩
   ·rw[if_neg (by simpa using hkj)] at hj
    exact star_two st hi hj hne
def Off (F:Fr) (ids:List Nat) (rcs0:List (Nat×RC)):Prop:=∀e∈F.B,∃id,e.id=some id∧id∉ids∧∃r t,look rcs0 id=some r∧r.box=some (e.b,t)
def OffP (F:Fr) (id:Nat) (th:Bool) (rcs0:List (Nat×RC)):Prop:=∀e∈F.B,∃id',e.id=some id'∧(id'≠id∨th=true)∧∃r t,look rcs0 id'=some r∧r.box=some (e.b,t)
theorem Good.write {F:Fr} {s:St} {a:Act} {w:World} {Γ:HF} {rcs rcs0:List (Nat×RC)} {h h0 hn:HF} (g:Good F s a w Γ rcs h)
  (hh:h=h0.un hn) (dn:HF.dj h0 hn) (st:Star Γ rcs0 h0) (nd:(rcs0.map (·.1)).Nodup) {id:Nat} {r:RC} {p:List Sel} {q:At} {K2:Kd} {m:MC K2 r.K} {y:K2.T} {zy:K2.Z}
  (hr:look rcs0 id=some r) (hp:pl r.K r.x r.z p ((r.box.getD (0,0)).1,0)=some q) (hb:r.box=none→thru r.K p=true) (hm:mkC K2 r.K p=some m) (hc:m.cond) (hs:m.K1.size=K2.size) (hy:K2.Own Γ y zy hn)
  {tm:List (Nat×AV)} (htm:∀t av,(t,av)∈tm→keepA id p r.K av=true∧∃v,a.tmps[t]? = some v∧av.is Γ rcs0 v)
  (hB:OffP F id (thru r.K p) rcs0) (hsubL:∀n r,look rcs0 n=some r→look rcs n=some r) :
  R F ⟨tm,updL (rcs0.map fun r=>(r.1,r.2.ck)) id ⟨r.ck.box,m.K',m.c.put r.x y⟩⟩ a (w.setCells q.a.1 q.a.2 (K2.cells y zy)):=by
 subst hh
 obtain ⟨h',st',mem',sub',has'⟩:=write_star st nd dn g.mem hr hp hb hm hc hs hy
 obtain ⟨_,hval,_⟩:=mkC_spec p hm r.x r.z _ q hp hc
 obtain ⟨e1,e2,e3,e4,e5⟩:=setCells_same q.a.1 (K2.cells y zy) q.a.2 w
 refine ⟨Γ,updL rcs0 id ⟨r.box,m.K',m.c.put r.x y,m.c.putZ r.x r.z zy⟩,h',?_,?_,st',mem',?_,?_,g.defers,g.tsz,?_,?_,?_,?_,g.ro,g.ro0,?_,?_,?_,g.sg,?_,?_⟩
 ·exact updL_map rcs0 id (⟨r.box,m.K',m.c.put r.x y,m.c.putZ r.x r.z zy⟩:RC) RC.ck
 ·rw[updL_keys]; exact nd
 ·exact MemR.upd g.memR fun e=>HF.dj_iff.1 g.dj _ e has'
 ·exact HF.dj_iff.2 fun b hb1 hb2=>HF.dj_iff.1 g.dj b hb1 (sub' b hb2)
 ·intro t av hm'
  obtain ⟨hk,v,hv,hi⟩:=htm t av hm'
  exact ⟨v,hv,keepA_is st hr hm hs hval hk hi⟩
 ·rw[e5]; exact g.size
 ·intro b hb1 hb2
  have hne:b≠q.a.1:=fun e=>by
   subst e
   rcases g.own _ has' with f | f
   ·exact hb2 f
   ·omega
  rw[heap_setCells_ne _ _ _ _ _ hne]
  exact g.keep b hb1 hb2
 ·exact fun b hb'=>g.own b (sub' b hb')
 ·rw[e1]; exact g.os
 ·rw[e2]; exact g.tape
 ·rw[e4]; exact g.output
 ·intro e he
  obtain ⟨id',hid,hn,r',t',hr',hbx⟩:=hB e he
  have hbn:e.b≠q.a.1:=fun f=>by
   by_cases hne:id'=id
   ·subst hne
    rw[hr] at hr'
    injection hr' with hr'
    subst hr'
    have hth:thru r.K p=true:=hn.resolve_left fun q=>q rfl
    obtain ⟨h1,_,_,_,o1⟩:=star_take st hr
    simp only[RC.Own,hbx] at o1
    obtain ⟨c0,h2,d2,_,o2,_⟩:=o1
    obtain ⟨c,t,hc',_⟩:=lie_pl p _ _ _ _ _ #[] 0 o2 hp (.inl hth)
    rcases hc' with ⟨_,hc'⟩ | ⟨hc',_⟩
    ·exact HF.dj_iff.1 d2 e.b (HF.has_one.2 rfl) (by unfold HF.has; rw[f,hc']; simp)
    ·rw[hth] at hc'; cases hc'
   ·obtain ⟨h1,h2,d,o1,o2⟩:=star_two st hr' hr hne
    have f1:=box_has o1 hbx
    rw[f] at f1
    exact HF.dj_iff.1 d _ f1 (place_has o2 hp hb)
  refine ⟨⟨?_,by rw[e5]; exact (g.bx e he).1.2⟩,fun id2 hid2=>?_⟩
  ·rw[heap_setCells_ne _ _ _ _ _ hbn]
   exact (g.bx e he).1.1
  ·rw[hid] at hid2
   injection hid2 with hid2
   subst hid2
   by_cases hne:id'=id
   ·subst hne
    rw[hr] at hr'
    injection hr' with hr'
    subst hr'
    exact ⟨⟨r.box,m.K',m.c.put r.x y,m.c.putZ r.x r.z zy⟩,t',by rw[look_updL r hr,if_pos rfl],hbx⟩
   ·exact ⟨r',t',by rw[look_updL r hr,if_neg hne]; exact hr',hbx⟩
 ·intro m' hm' r' hr'
  rw[look_updL r hr] at hr'
  by_cases hid:m'.1=id
  ·rw[if_pos hid] at hr'
   injection hr' with hr'
   subst hr'
   rw[←g.md m' hm' r (hsubL _ _ (hid▸hr))]
   unfold RC.head
   cases hbx:r.box with
   |some bt=>rfl
   |none =>
    simp only
    obtain ⟨h1,_,_,_,o1⟩:=star_take st hr
    have o2:r.K.Own Γ r.x r.z h1:=by simpa[RC.Own,hbx] using o1
    obtain ⟨c1,c2⟩:=cells_thru p hm (hb hbx) r.x y r.z zy h1 o2
    unfold toV
    rw[c1,c2]
  ·rw[if_neg hid] at hr'
   exact g.md m' hm' r' (hsubL _ _ hr')
def noUn:Kd→Bool
 |.un=>false
 |.pair a b=>noUn a&&noUn b
 |.arr _ e=>noUn e
 |.tree _ e=>noUn e
 |_=>true
theorem cells_one:∀(K:Kd) (x:K.T) (z:K.Z),noUn K=true→∀v∈K.cells x z,v.oneCell'=true
 |.int _,_,_,_,v,h=>by simp[cells] at h; subst h; rfl
 |.bool,_,_,_,v,h=>by simp[cells] at h; subst h; rfl
 |.str,_,_,_,v,h=>by simp[cells] at h; subst h; rfl
 |.un,_,_,h,_,_=>by cases h
 |.unit,_,_,_,v,h=>by simp[cells] at h
 |.tree t e,x,z,hu,v,h=>by
  rcases List.mem_append.1 h with q | q
  ·exact cells_one e _ _ hu v q
  ·obtain rfl:=List.mem_singleton.1 q
   cases z.2 with
   |none=>rfl
   |some y=>rfl
 |.tl t e,x,z,hu,v,h=>by
  obtain rfl:=List.mem_singleton.1 h
  cases z with
  |none=>rfl
  |some y=>rfl
 |.mp o t k,x,z,hu,v,h=>by
  obtain rfl:=List.mem_singleton.1 h
  rfl
 |.ep e,x,z,hu,v,h=>by
  obtain rfl:=List.mem_singleton.1 h
  rfl
 |.pair a b,x,z,hu,v,h=>by
  simp only[noUn,Bool.and_eq_true] at hu
  rcases List.mem_append.1 h with e | e
  ·exact cells_one a _ _ hu.1 v e
  ·exact cells_one b _ _ hu.2 v e
 |.arr n e,x,z,hu,v,h=>by
  obtain ⟨i,_,hi⟩:=List.mem_flatMap.1 h
  exact cells_one e _ _ hu v hi
 |.sl own t e hole,x,z,_,v,h=>by
  have:v=hdr z.1 (length x):=by simpa[cells] using h
  subst this
  rcases z.1 with _ | ⟨b,o,c⟩<;>rfl
theorem toV_cells (K:Kd) (x:K.T) (z:K.Z) (hu:noUn K=true):(toV K (K.cells x z)).cells.toList=K.cells x z:=by
 cases K with
 |un=>cases hu
 |sl own t e hole =>
  show (hdr z.1 (length x)).cells.toList=[hdr z.1 (length x)]
  rcases z.1 with _ | ⟨b,o,c⟩<;>rfl
 |tl t e =>
  show (hdrT z (length x)).cells.toList=[hdrT z (length x)]
  cases z<;>rfl
 |_=>rfl
theorem run_storeT {P:Program} {t:TypeId} {w:World} {b o:Nat} {v:Value} {cs:List Value} {sz:Nat} {bb:Bool} (hv:varT P t=some (bb,sz)) (hl:cs.length=sz) (hvc:v.cells.toList=cs)
  (ht:w.there b o cs.length) (h1:∀u∈cs,u.oneCell'=true):(Instr.storeAt t (.pointer (some ⟨b,o,none⟩)) v).run P w=.ok () (w.setCells b o cs):=by
 have:=run_storeCells_cells (P:=P) b o cs 0 w (fun j hj=>by simpa using (ht j hj).1) (fun j hj=>by simpa using (ht j hj).2) h1
 unfold varT at hv
 split at hv
 ·rename_i d i hu hi
  simp only[Option.some.injEq,Prod.mk.injEq] at hv
  have hs:v.cells.size=i.size:=by rw[←Array.length_toList,hvc]; omega
  simp only[Nat.add_zero] at this
  simp[Instr.storeAt,Instr.sureAddr,storeVar,sizeOf,typeInfo,hi,hs,hvc,this]
 ·cases hv
def WorldOK (P:Program) (F:Fr) (o:Oper) (s:St) (t:Tr α) (k:St→Tr α) (e:Eff):Prop:=∀(K:α→Prop) (a:Act) (w:World) (Γ:HF) (rcs:List (Nat×RC)) (h:HF) (Q:Exit→Act→World→Prop),Good F s a w Γ rcs h→e.ok F.B→t.sat K →
 o.wp P a w (fun a' w'=>∃s',R F s' a' w'∧(k s').sat K) Q
theorem world_bad {P:Program} {F:Fr} {o:Oper} {s:St} {k:St→Tr α} {e:Eff}:WorldOK P F o s .bad k e:=fun _ _ _ _ _ _ _ _ _ h=>h.elim
theorem off_of {F:Fr} {s:St} {a:Act} {w:World} {Γ:HF} {rcs:List (Nat×RC)} {h:HF} (g:Good F s a w Γ rcs h) {ids:List Nat} (he:(Eff.mk false ids).ok F.B):Off F ids rcs:=fun e hm=>by
 have h1:=he e hm
 cases hid:e.id with
 |none=>rw[hid] at h1; cases h1
 |some id=>rw[hid] at h1; exact ⟨id,rfl,h1,(g.bx e hm).2 id hid⟩
theorem off_del {F:Fr} {rcs:List (Nat×RC)} {ids:List Nat} (hB:Off F ids rcs) {id2:Nat} {r2:RC} (hr:look rcs id2=some r2) (hb:r2.box=none):Off F ids (del rcs id2):=fun e hm=>by
 obtain ⟨id,h1,h2,r,t,h3,h4⟩:=hB e hm
 refine ⟨id,h1,h2,r,t,?_,h4⟩
 rw[look_del]
 ·exact h3
 ·intro q
  subst q
  rw[hr] at h3
  injection h3 with h3
  subst h3
  rw[hb] at h4
  cases h4
theorem del_look {β:Type} (l:List (Nat×β)) (id n:Nat) (r:β) (h:look (del l id) n=some r):look l n=some r:=by
 by_cases e:n=id
 ·subst e
  have:n∈(del l n).map (·.1):=List.mem_map.2 ⟨_,look_mem h,rfl⟩
  exfalso
  obtain ⟨x,hx,hn⟩:=List.mem_map.1 this
  have:=(List.mem_filter.1 hx).2
  simp[hn] at this
 ·rwa [look_del _ e] at h
def ptrId (s:St) (x:Operand):List Nat:=match opo s x with
 |some (.ptr id _)=>[id]
 |_=>[]
def wrId (s:St) (x:Operand):List Nat:=match opo s x with
 |some (.ptr id p)=>match look s.ck id with
  |some c=>if thru c.K p=true then [] else [id]
  |none=>[id]
 |_=>[]
theorem offP_of {F:Fr} {s:St} {a:Act} {w:World} {Γ:HF} {rcs:List (Nat×RC)} {h:HF} (g:Good F s a w Γ rcs h) {x:Operand} {id:Nat} {p:List Sel} (hx:opo s x=some (.ptr id p)) (hB:Off F (wrId s x) rcs):∀r,look rcs id=some r→OffP F id (thru r.K p) rcs:=by
 intro r hr e he
 obtain ⟨id',h1,h2,h3⟩:=hB e he
 refine ⟨id',h1,?_,h3⟩
 have hck:look s.ck id=some r.ck:=by
  rw[←g.ck]
  have:∀(l:List (Nat×RC)),look (l.map fun r=>(r.1,r.2.ck)) id=(look l id).map RC.ck:=by
   intro l
   induction l with
   |nil=>rfl
   |cons x l ih=>simp only[map_cons,look]; split<;>first | rfl | exact ih
  rw[this,hr]
  rfl
 unfold wrId at h2
 rw[hx] at h2
 simp only[hck] at h2
 by_cases ht:thru r.K p=true
 ·exact .inr ht
 ·left
  rw[if_neg (show ¬thru r.ck.K p=true from ht)] at h2
  simpa using h2
theorem offP_del {F:Fr} {rcs:List (Nat×RC)} {id:Nat} {th:Bool} (hB:OffP F id th rcs) {id2:Nat} {r2:RC} (hr:look rcs id2=some r2) (hb:r2.box=none):OffP F id th (del rcs id2):=fun e hm=>by
 obtain ⟨id',h1,h2,r,t,h3,h4⟩:=hB e hm
 refine ⟨id',h1,h2,r,t,?_,h4⟩
 rw[look_del]
 ·exact h3
 ·intro q
  subst q
  rw[hr] at h3
  injection h3 with h3
  subst h3
  rw[hb] at h4
  cases h4
def offS (id:Nat):SV→Bool
 |.ptr i _=>i != id
 |.at i _=>i != id
 |.slc i _ _ _=>i != id
 |.clo _ caps=>!caps.contains id
 |_=>true
def offA (id:Nat):AV→Bool
 |.one v=>offS id v
 |.tup l=>l.all (offS id)
theorem offS_is {Γ:HF} {rcs:List (Nat×RC)} {id:Nat} {v:SV} {u:Value} (hk:offS id v=true) (hi:v.is Γ rcs u):v.is Γ (del rcs id) u:=by
 cases v with
 |ptr i p=>obtain ⟨r,q,hr,x⟩:=hi; exact ⟨r,q,by rw[look_del _ (by simpa[offS] using hk)]; exact hr,x⟩
 | «at» i p => obtain ⟨r, q, hr, x⟩ := hi; exact ⟨r, q, by rw [look_del _ (by simpa [offS] using hk)]; exact hr, x⟩
 |slc i p off len=>obtain ⟨r,t,e,hole,x',z',a,hr,x⟩:=hi; exact ⟨r,t,e,hole,x',z',a,by rw[look_del _ (by simpa[offS] using hk)]; exact hr,x⟩
 |val K x=>exact hi
 |eptr K x=>exact hi
 |nilS=>exact hi
 |nilP=>exact hi
 |bnd f K x=>exact hi
 |clo f caps =>
  obtain ⟨vs,e,hl,hall⟩:=hi
  refine ⟨vs,e,hl,fun j i hj=>?_⟩
  obtain ⟨r,b,t,hr,x⟩:=hall j i hj
  refine ⟨r,b,t,?_,x⟩
  rw[look_del]
  ·exact hr
  ·intro q
   subst q
   simp only[offS,Bool.not_eq_true',List.contains_eq_mem,decide_eq_false_iff_not] at hk
   exact hk (mem_of_getElem? hj)
theorem offA_is {Γ:HF} {rcs:List (Nat×RC)} {id:Nat} {v:AV} {u:Value} (hk:offA id v=true) (hi:v.is Γ rcs u):v.is Γ (del rcs id) u:=by
 cases v with
 |one v=>exact offS_is hk hi
 |tup l =>
  obtain ⟨vs,e,hl,hall⟩:=hi
  refine ⟨vs,e,hl,fun i s hs'=>?_⟩
  obtain ⟨u',hu,h'⟩:=hall i s hs'
  exact ⟨u',hu,offS_is (List.all_eq_true.1 hk s (mem_of_getElem? hs')) h'⟩
def putAt (P:Program) (t:TypeId) (id:Nat) (p:List Sel) (K2:Kd) (y:K2.T) (s:St) (k:St→Tr α):Tr α:=match look s.ck id with
 |some c=>match mkC K2 c.K p with
  |some m=>if m.K1.size=K2.size∧varT P t=some (single K2,K2.size)∧noUn K2=true then
    .need m.cond (k ⟨s.tm.filter fun x=>keepA id p c.K x.2,updL s.ck id ⟨c.box,m.K',m.c.put c.x y⟩⟩) else .bad
  |none=>.bad
 |none=>.bad
def stStore (P:Program) (o:Oper) (t:TypeId) (x y:Operand) (s:St) (k:St→Tr α):Tr α:=match o.dst,opo s x,opo s y with
 |none,some (.ptr id p),some (.val K2 v)=>putAt P t id p K2 v s k
 |none,some (.ptr id p),some .nilS=>match look s.ck id with
  |some c=>match sub c.K p with
   |some (.sl true t' e none)=>putAt P t id p (.sl true t' e none) [] s k
   |some (.sl false t' e none)=>putAt P t id p (.sl false t' e none) [] s k
   |_=>.bad
  |none=>.bad
 |none,some (.ptr id p),some (.at id2 [])=>if id=id2 then .bad else match look s.ck id2 with
  |some c2=>match c2.box with
   |none=>putAt P t id p c2.K c2.x ⟨s.tm.filter fun x=>offA id2 x.2,del s.ck id2⟩ k
   |some _=>.bad
  |none=>.bad
 |_,_,_=>.bad
theorem put_ok {P:Program} {F:Fr} {s s0:St} {a:Act} {w:World} {Γ:HF} {rcs rcs0:List (Nat×RC)} {h h0 hn:HF} (g:Good F s a w Γ rcs h)
  (hh:h=h0.un hn) (dn:HF.dj h0 hn) (st:Star Γ rcs0 h0) (nd:(rcs0.map (·.1)).Nodup) (hck:s0.ck=rcs0.map fun r=>(r.1,r.2.ck)) (htm:∀x,x∈s0.tm→∃v,a.tmps[x.1]? = some v∧x.2.is Γ rcs0 v)
  {o:Oper} {t:TypeId} {x y:Operand} (ho:o.op=.store t x y) (hd:o.dst=none) {id:Nat} {p:List Sel} {K2:Kd} {v:K2.T} {zv:K2.Z} {k:St→Tr α} {K:α→Prop} {Q:Exit→Act→World→Prop}
  (hx:(SV.ptr id p).is Γ rcs0 (a.eval x)) (hpl:∀r q,look rcs0 id=some r→pl r.K r.x r.z p ((r.box.getD (0,0)).1,0)=some q→(r.box=none→thru r.K p=true)→∃c t lo hi,w.heap[q.a.1]? = some (.cells c t (lo,hi))∧(∀o,o<c.size→¬(lo≤o∧o<hi))∧Lie c q.a.2 (q.K.cells q.x q.z))
  (hy:K2.Own Γ v zv hn) (hyv:a.eval y=toV K2 (K2.cells v zv)) (hB:∀r,look rcs0 id=some r→OffP F id (thru r.K p) rcs0) (hsubL:∀n r,look rcs0 n=some r→look rcs n=some r) (hs:(putAt P t id p K2 v s0 k).sat K) :
  o.wp P a w (fun a' w'=>∃s',R F s' a' w'∧(k s').sat K) Q:=by
 unfold putAt at hs
 split at hs
 ·rename_i c hc
  split at hs
  ·rename_i m hm
   split at hs
   ·rename_i hcond
    obtain ⟨hsz,hvt,hnu⟩:=hcond
    obtain ⟨hmc,hk⟩:=hs
    obtain ⟨r,q,hr,hp,hb,hv⟩:=hx
    have hcr:c=r.ck:=by
     rw[hck] at hc
     have:∀(l:List (Nat×RC)),look (l.map fun r=>(r.1,r.2.ck)) id=(look l id).map RC.ck:=by
      intro l
      induction l with
      |nil=>rfl
      |cons x l ih=>simp only[map_cons,look]; split<;>first | rfl | exact ih
     rw[this,hr] at hc
     simpa using hc.symm
    subst hcr
    have hm':mkC K2 r.K p=some m:=hm
    obtain ⟨cc,tt,lo,hi,hw,hnf,hlie⟩:=hpl r q hr hp hb
    obtain ⟨hw1,hval,hloc,hKq⟩:=mkC_spec p hm' r.x r.z _ q hp hmc
    have hqs:q.K.size=K2.size:=by
     rw[←hsz,hKq]
    have hth:w.there q.a.1 q.a.2 (K2.cells v zv).length:=by
     intro j hj
     rw[cells_length,←hqs,←cells_length q.K q.x q.z] at hj
     have h1:=hlie j hj
     rw[cell_at hw,h1,getElem?_eq_getElem hj]
     refine ⟨rfl,?_⟩
     have hlt:q.a.2+j<cc.size:=by
      rcases Nat.lt_or_ge (q.a.2+j) cc.size with z | z
      ·exact z
      ·rw[Array.getElem?_eq_none z,getElem?_eq_getElem hj] at h1; cases h1
     have:=hnf _ hlt
     simp only[World.frozen?,hw]
     simpa using this
    have hrun:=run_storeT (P:=P) (w:=w) (b:=q.a.1) (o:=q.a.2) (v:=a.eval y) hvt (cells_length _ _ _) (by rw[hyv]; exact toV_cells K2 v zv hnu) hth (cells_one K2 v zv hnu)
    have hR:=g.write (p:=p) (q:=q) (m:=m) (y:=v) (zy:=zv) (tm:=s0.tm.filter fun x=>keepA id p r.K x.2) hh dn st nd hr hp hb hm' hmc hsz hy (fun t av hmem=>by
     obtain ⟨h1,h2⟩:=List.mem_filter.1 hmem
     exact ⟨h2,htm _ h1⟩) (hB r hr) hsubL
    unfold Oper.wp
    simp only[execOp,ho,hv]
    have hsem:(do Instr.storeAt t (.pointer (some ⟨q.a.1,q.a.2,none⟩)) (a.eval y); pure Next.skip:Sem Next).run P w=.ok .skip (w.setCells q.a.1 q.a.2 (K2.cells v zv)):=by
     simp[hrun]
    rw[hsem,Oper.upon_skip,hd]
    refine ⟨_,hR,?_⟩
    rw[←hck]
    exact hk
   ·exact hs.elim
  ·exact hs.elim
 ·exact hs.elim
theorem stStore_ok {P:Program} {F:Fr} {o:Oper} {t:TypeId} {x y:Operand} {s:St} {k:St→Tr α} (ho:o.op=.store t x y):WorldOK P F o s (stStore P o t x y s k) k ⟨false,wrId s x⟩:=by
 unfold stStore
 split
 ·rename_i id p K2 v hd hx hy
  intro K a w Γ rcs h Q g he hs
  have hBo:=offP_of g hx (off_of g he)
  obtain ⟨hf,zv,how,hyv⟩:=g.opoIs hy
  exact put_ok g (HF.un_emp h).symm (HF.dj_emp h) g.star g.nodup g.ck.symm (fun x hx=>g.tm x.1 x.2 hx) ho hd (g.opoIs hx) (fun r q hr hp hb=>g.place hr hp hb) how hyv hBo (fun _ _ e=>e) hs
 ·rename_i id p hd hx hy
  split
  ·rename_i c hc
   split
   ·rename_i t' e hsub
    intro K a w Γ rcs h Q g he hs
    have hBo:=offP_of g hx (off_of g he)
    have hyv:a.eval y=.slice none 0 0:=g.opoIs hy
    exact put_ok (K2:=.sl true t' e none) (v:=[]) (zv:=(none,fun _=>e.zd)) g (HF.un_emp h).symm (HF.dj_emp h) g.star g.nodup g.ck.symm (fun x hx=>g.tm x.1 x.2 hx) ho hd (g.opoIs hx) (fun r q hr hp hb=>g.place hr hp hb) ⟨rfl,rfl⟩ hyv hBo (fun _ _ e=>e) hs
   ·rename_i t' e hsub
    intro K a w Γ rcs h Q g he hs
    have hBo:=offP_of g hx (off_of g he)
    have hyv:a.eval y=.slice none 0 0:=g.opoIs hy
    exact put_ok (K2:=.sl false t' e none) (v:=[]) (zv:=(none,fun _=>e.zd)) g (HF.un_emp h).symm (HF.dj_emp h) g.star g.nodup g.ck.symm (fun x hx=>g.tm x.1 x.2 hx) ho hd (g.opoIs hx) (fun r q hr hp hb=>g.place hr hp hb) ⟨rfl,rfl⟩ hyv hBo (fun _ _ e=>e) hs
   ·exact world_bad
  ·exact world_bad
 ·rename_i id p id2 hd hx hy
  split
  ·exact world_bad
  ·rename_i hne
   split
   ·rename_i c2 hc2
    split
    ·rename_i hbox
     intro K a w Γ rcs h Q g he hs
     have hBo:=offP_of g hx (off_of g he)
     obtain ⟨r2,q2,hr2,hp2,hyv⟩:=g.opoIs hy
     obtain rfl:=g.same hc2 hr2
     simp only[pl,Option.some.injEq] at hp2
     subst hp2
     have hb2:r2.box=none:=by
      cases hb:r2.box with
      |none=>rfl
      |some bt=>simp[RC.ck,hb] at hbox
     obtain ⟨h1,hr',d1,hh,o1,_,dl⟩:=star_upd g.star hr2 g.nodup
     have o2:r2.K.Own Γ r2.x r2.z h1:=by simpa[RC.Own,hb2] using o1
     have hxi:=offS_is (id:=id2) (by simp[offS,hne]) (g.opoIs hx)
     have nd':((del rcs id2).map (·.1)).Nodup:=by
      refine List.Nodup.sublist ?_ g.nodup
      exact List.Sublist.map _ (List.filter_sublist)
     refine put_ok (h0:=hr') (hn:=h1) (rcs0:=del rcs id2) (s0:=⟨s.tm.filter fun x=>offA id2 x.2,del s.ck id2⟩) g (by rw[hh,HF.un_comm d1]) d1.symm dl nd' ?_ ?_ ho hd hxi ?_ o2 hyv (fun r hr=>offP_del (hBo r (del_look rcs id2 id r hr)) hr2 hb2) (del_look rcs id2) hs
     ·show del s.ck id2=_
      rw[←g.ck]
      simp only[del,filter_map]
      rfl
     ·intro x hx
      obtain ⟨e1,e2⟩:=List.mem_filter.1 hx
      obtain ⟨v,hv,hi⟩:=g.tm x.1 x.2 e1
      exact ⟨v,hv,offA_is e2 hi⟩
     ·intro r q hr hp hb
      by_cases hid:id=id2
      ·exact absurd hid hne
      ·rw[look_del _ hid] at hr
       exact g.place hr hp hb
    ·exact world_bad
   ·exact world_bad
 ·exact world_bad
theorem setCell_same {w:World} {b o:Nat} {v:Value} (h:w.cell? ⟨b,o,none⟩=some v):w.setCell ⟨b,o,none⟩ v=w:=by
 unfold World.setCell
 have:w.heap.modify b (fun
   |.cells c elem frozen=>.cells (if (none:Option Nat).isSome then c else c.setIfInBounds o v) elem frozen
   |o=>o)=w.heap:=by
  refine Array.ext (by simp) fun i h1 h2=>?_
  rw[Array.getElem_modify]
  split
  ·rename_i hi
   subst hi
   unfold World.cell? at h
   simp only[Array.getElem?_eq_getElem h2] at h
   split
   ·rename_i c elem fr hc
    rw[hc] at h
    have h':c[o]? = some v:=by simpa using h
    simp only[Option.isSome_none,Bool.false_eq_true,if_false]
    obtain ⟨hlt,hv⟩:=Array.getElem?_eq_some_iff.1 h'
    subst hv
    rw[hc]
    congr 1
    refine Array.ext (by simp) fun j h3 h4=>?_
    rw[Array.getElem_setIfInBounds]
    split
    ·rename_i e; subst e; rfl
    ·rfl
   ·rfl
  ·rfl
 exact congrArg (fun q=>{ w with heap:=q }) this
theorem setCells_back {w:World} {b:Nat}:∀ {cs:List Value} {o:Nat},w.rangeAt b o cs→w.setCells b o cs=w
 | [],o,_=>rfl
 |v::cs,o,h=>by
  have h0:=h 0 v rfl
  rw[Nat.add_zero] at h0
  rw[World.setCells,setCell_same h0]
  exact setCells_back fun j u hu=>by
   have:=h (j+1) u (by simpa using hu)
   rwa [show o+(j+1)=o+1+j by omega] at this
def selfId (s:St) (x y:Operand):Option Nat:=match opo s x,opo s y with
 |some (.ptr id []),some (.at id2 [])=>if id=id2 then some id else none
 |_,_=>none
theorem selfId_ok {s:St} {x y:Operand} {id:Nat} (h:selfId s x y=some id):opo s x=some (.ptr id [])∧opo s y=some (.at id []):=by
 unfold selfId at h
 split at h
 ·rename_i i i2 h1 h2
  split at h
  ·rename_i e
   injection h with h
   subst h
   subst e
   exact ⟨h1,h2⟩
  ·cases h
 ·cases h
def stSelf (P:Program) (o:Oper) (t:TypeId) (id:Nat) (s:St) (k:St→Tr α):Tr α:=match look s.ck id with
 |some c=>if varT P t=some (single c.K,c.K.size)∧noUn c.K=true∧o.dst=none then k s else .bad
 |none=>.bad
theorem stSelf_ok {P:Program} {F:Fr} {o:Oper} {t:TypeId} {x y:Operand} {s:St} {k:St→Tr α} {id:Nat} {e:Eff} (ho:o.op=.store t x y) (hi:selfId s x y=some id):WorldOK P F o s (stSelf P o t id s k) k e:=by
 unfold stSelf
 split
 ·rename_i c hc
  split
  ·rename_i hcond
   obtain ⟨hvt,hnu,hd⟩:=hcond
   obtain ⟨hx,hy⟩:=selfId_ok hi
   intro K a w Γ rcs h Q g _ hk
   obtain ⟨r,q,hr,hp,hb,hv⟩:=g.opoIs hx
   obtain ⟨r2,q2,hr2,hp2,hyv⟩:=g.opoIs hy
   rw[hr] at hr2
   injection hr2 with hr2
   subst hr2
   rw[hp] at hp2
   injection hp2 with hp2
   subst hp2
   obtain rfl:=g.same hc hr
   obtain ⟨cc,tt,lo,hi',hw,hnf,hlie⟩:=g.place hr hp hb
   simp only[pl,Option.some.injEq] at hp
   subst hp
   have hra:=range_of hw hlie
   have hth:w.there ((r.box.getD (0,0)).1) 0 (r.K.cells r.x r.z).length:=by
    intro j hj
    have h1:=hlie j hj
    rw[cell_at hw,h1,getElem?_eq_getElem hj]
    refine ⟨rfl,?_⟩
    have hlt:0+j<cc.size:=by
     rcases Nat.lt_or_ge (0+j) cc.size with z | z
     ·exact z
     ·rw[Array.getElem?_eq_none z,getElem?_eq_getElem hj] at h1; cases h1
    have:=hnf _ hlt
    simp only[World.frozen?,hw]
    simpa using this
   have e2:w.setCells (r.box.getD (0,0)).1 0 (r.K.cells r.x r.z)=w:=setCells_back hra
   have hrun:(Instr.storeAt t (.pointer (some ⟨(r.box.getD (0,0)).1,0,none⟩)) (a.eval y)).run P w=.ok () (w.setCells (r.box.getD (0,0)).1 0 (r.K.cells r.x r.z)):=run_storeT (P:=P) (w:=w) (b:=(r.box.getD (0,0)).1) (o:=0) (v:=a.eval y) hvt (cells_length _ _ _) (by rw[hyv]; exact toV_cells r.K r.x r.z hnu) hth (cells_one r.K r.x r.z hnu)
   rw[e2] at hrun
   unfold Oper.wp
   simp only[execOp,ho,hv]
   have hsem:(do Instr.storeAt t (.pointer (some ⟨(r.box.getD (0,0)).1,0,none⟩)) (a.eval y); pure Next.skip:Sem Next).run P w=.ok .skip w:=by
    simp[hrun]
   rw[hsem,Oper.upon_skip,hd]
   exact ⟨s,⟨Γ,rcs,h,g⟩,hk⟩
  ·exact world_bad
 ·exact world_bad
theorem heap_alloc (w:World) (o:Obj) (b:Nat) (h:b≠w.heap.size):(w.alloc o).heap[b]? = w.heap[b]? := by
 show (w.heap.push o)[b]? = _
 rw[Array.getElem?_push,if_neg h]
theorem heap_alloc_new (w:World) (o:Obj):(w.alloc o).heap[w.heap.size]? = some o:=by
 show (w.heap.push o)[w.heap.size]? = _
 rw[Array.getElem?_push,if_pos rfl]
theorem Mem.lt {h:HF} {w:World} (m:Mem h w) {b:Nat} (hb:h.has b):b<w.heap.size:=by
 cases e:h b with
 |none=>exact absurd e hb
 |some x =>
  obtain ⟨o,q⟩:=(m b x e).r.some
  rcases Nat.lt_or_ge b w.heap.size with g | g
  ·exact g
  ·rw[Array.getElem?_eq_none g] at q; cases q
theorem MemR.lt {h:HF} {w:World} (m:MemR h w) {b:Nat} (hb:h.has b):b<w.heap.size:=by
 cases e:h b with
 |none=>exact absurd e hb
 |some x =>
  obtain ⟨o,q⟩:=(m b x e).some
  rcases Nat.lt_or_ge b w.heap.size with g | g
  ·exact g
  ·rw[Array.getElem?_eq_none g] at q; cases q
theorem Mem.alloc {h:HF} {w:World} (m:Mem h w) (o:Obj):Mem h (w.alloc o):=fun b x e =>
 (m b x e).same (heap_alloc _ _ _ (ne_of_lt (m.lt (b:=b) (by unfold HF.has; rw[e]; simp))))
theorem MemR.alloc {h:HF} {w:World} (m:MemR h w) (o:Obj):MemR h (w.alloc o):=fun b x e =>
 (m b x e).same (heap_alloc _ _ _ (ne_of_lt (m.lt (b:=b) (by unfold HF.has; rw[e]; simp))))
theorem star_del {Γ:HF} {rcs:List (Nat×RC)} {h:HF} (st:Star Γ rcs h) (nd:(rcs.map (·.1)).Nodup) (id:Nat):∃h',Star Γ (del rcs id) h'∧∀b v,h' b=some v→h b=some v:=by
 cases hl:look rcs id with
 |none =>
  refine ⟨h,?_,fun _ _ e=>e⟩
  have:del rcs id=rcs:=by
   refine del_none fun hm=>?_
   obtain ⟨x,hx,e⟩:=List.mem_map.1 hm
   have key:∀(l:List (Nat×RC)),x∈l→look l id≠none:=by
    intro l
    induction l with
    |nil=>intro q; cases q
    |cons y l ih =>
     intro q
     simp only[look]
     split
     ·simp
     ·rename_i hne
      rcases List.mem_cons.1 q with q | q
      ·subst q; simp[e] at hne
      ·exact ih q
   exact key rcs hx hl
  rw[this]
  exact st
 |some r =>
  obtain ⟨h1,hr,d,rfl,_,_,dl⟩:=star_upd st hl nd
  exact ⟨hr,dl,fun b v e=>un_right d e⟩
theorem del_nodup {rcs:List (Nat×RC)} (nd:(rcs.map (·.1)).Nodup) (id:Nat):((del rcs id).map (·.1)).Nodup :=
 List.Nodup.sublist (List.Sublist.map _ (List.filter_sublist)) nd
theorem del_not {α:Type} (l:List (Nat×α)) (id:Nat):id∉(del l id).map (·.1):=by
 intro h
 obtain ⟨x,hx,e⟩:=List.mem_map.1 h
 have:=(List.mem_filter.1 hx).2
 simp[e] at this
theorem del_ck {F:Fr} {s:St} {a:Act} {w:World} {Γ:HF} {rcs:List (Nat×RC)} {h:HF} (g:Good F s a w Γ rcs h) (id:Nat):(del rcs id).map (fun r=>(r.1,r.2.ck))=del s.ck id:=by
 rw[←g.ck]
 simp only[del,filter_map]
 rfl
theorem cons_is {Γ:HF} {rcs:List (Nat×RC)} {id:Nat} {r:RC} {v:AV} {u:Value} (hk:offA id v=true) (hi:v.is Γ rcs u):v.is Γ ((id,r)::rcs) u:=by
 have one:∀ {v:SV} {u:Value},offS id v=true→v.is Γ rcs u→v.is Γ ((id,r)::rcs) u:=by
  intro v u hk hi
  have hl:∀i,(i != id)=true→look ((id,r)::rcs) i=look rcs i:=fun i h=>by
   simp only[look]
   rw[if_neg]
   simp at h ⊢
   exact fun e=>h e.symm
  cases v with
  |ptr i p=>obtain ⟨r,q,hr,x⟩:=hi; exact ⟨r,q,by rw[hl i hk]; exact hr,x⟩
  | «at» i p => obtain ⟨r, q, hr, x⟩ := hi; exact ⟨r, q, by rw [hl i hk]; exact hr, x⟩
  |slc i p off len=>obtain ⟨r,t,e,hole,x',z',a,hr,x⟩:=hi; exact ⟨r,t,e,hole,x',z',a,by rw[hl i hk]; exact hr,x⟩
  |val K x=>exact hi
  |eptr K x=>exact hi
  |nilS=>exact hi
  |nilP=>exact hi
  |bnd f K x=>exact hi
  |clo f caps =>
   obtain ⟨vs,e,hlen,hall⟩:=hi
   refine ⟨vs,e,hlen,fun j i hj=>?_⟩
   obtain ⟨r,b,t,hr,x⟩:=hall j i hj
   refine ⟨r,b,t,?_,x⟩
   rw[hl i]
   ·exact hr
   ·simp only[offS,Bool.not_eq_true',List.contains_eq_mem,decide_eq_false_iff_not] at hk
    simp only[bne_iff_ne,ne_eq]
    intro q
    subst q
    exact hk (mem_of_getElem? hj)
 cases v with
 |one v=>exact one hk hi
 |tup l =>
  obtain ⟨vs,e,hl,hall⟩:=hi
  refine ⟨vs,e,hl,fun i s hs'=>?_⟩
  obtain ⟨u',hu,h'⟩:=hall i s hs'
  exact ⟨u',hu,one (List.all_eq_true.1 hk s (mem_of_getElem? hs')) h'⟩
def Off' (F:Fr) (d:Nat) (rcs0:List (Nat×RC)):Prop:=∀e∈F.B,∀id,e.id=some id→id≠d∧∃r t,look rcs0 id=some r∧r.box=some (e.b,t)
theorem off'_of {F:Fr} {s:St} {a:Act} {w:World} {Γ:HF} {rcs:List (Nat×RC)} {h:HF} (g:Good F s a w Γ rcs h) {d:Nat} {b:Bool} (he:(Eff.mk b [d]).ok F.B):Off' F d rcs:=fun e hm id hid=>by
 have h1:=he e hm
 rw[hid] at h1
 exact ⟨by simpa using h1,(g.bx e hm).2 id hid⟩
theorem off'_del {F:Fr} {rcs:List (Nat×RC)} {d:Nat} (hB:Off' F d rcs) {id2:Nat} {r2:RC} (hr:look rcs id2=some r2) (hb:r2.box=none):Off' F d (del rcs id2):=fun e hm id hid=>by
 obtain ⟨h2,r,t,h3,h4⟩:=hB e hm id hid
 refine ⟨h2,r,t,?_,h4⟩
 rw[look_del]
 ·exact h3
 ·intro q
  subst q
  rw[hr] at h3
  injection h3 with h3
  subst h3
  rw[hb] at h4
  cases h4
theorem look_cons_ne {β:Type} {l:List (Nat×β)} {d n:Nat} {r:β} (h:n≠d):look ((d,r)::del l d) n=look l n:=by
 simp only[look]
 rw[if_neg (by simpa using Ne.symm h),look_del _ h]
theorem bx_new {F:Fr} {d:Nat} {rcs0:List (Nat×RC)} {r:RC} {w':World} (hB:Off' F d rcs0) (hw:∀e∈F.B,w'.heap[e.b]? = e.ob∧e.b<w'.heap.size):∀e∈F.B,e.ok w' ((d,r)::del rcs0 d):=fun e he=>by
 refine ⟨hw e he,fun id hid=>?_⟩
 obtain ⟨hne,r',t,h1,h2⟩:=hB e he id hid
 exact ⟨r',t,by rw[look_cons_ne hne]; exact h1,h2⟩
theorem md_new {F:Fr} {s:St} {a:Act} {w:World} {Γ:HF} {rcs rcs0:List (Nat×RC)} {h:HF} (g:Good F s a w Γ rcs h) {d:Nat} (hlo:(F.n.lo≤d∧d<F.n.n)∨1000000≤d) {r:RC} (hsubL:∀n r,look rcs0 n=some r→look rcs n=some r) :
  ∀m∈F.M,∀r',look ((d,r)::del rcs0 d) m.1=some r'→r'.head=m.2:=fun m hm r' hr'=>by
 have hne:m.1≠d:=fun e=>by have:=F.hM m hm; omega
 rw[look_cons_ne hne] at hr'
 exact g.md m hm r' (hsubL _ _ hr')
theorem Good.allocX {F:Fr} {s:St} {a:Act} {w:World} {Γ:HF} {rcs rcs0:List (Nat×RC)} {h h0 hn:HF} (g:Good F s a w Γ rcs h)
  (hsub:∀b v,(h0.un hn) b=some v→h b=some v) (dn:HF.dj h0 hn) (st:Star Γ rcs0 h0) (nd:(rcs0.map (·.1)).Nodup)
  {d:Nat} (hd:d<F.n.n) (hlo:F.n.lo≤d) (hB:Off' F d rcs0) (hsubL:∀n r,look rcs0 n=some r→look rcs n=some r) {r:RC} {c:Array Value} {t:TypeId} (hr:∀hb,hb=HF.one w.heap.size c t→HF.dj hb hn→r.Own Γ (hb.un hn)) {v:Value} {av:SV} (hav:av.is Γ ((d,r)::del rcs0 d) v)
  {tm:List (Nat×AV)} (htm:∀t av,(t,av)∈tm→t≠d∧∃v,a.tmps[t]? = some v∧av.is Γ ((d,r)::del rcs0 d) v) :
  R F ⟨(d,.one av)::tm,(d,r.ck)::del (rcs0.map fun r=>(r.1,r.2.ck)) d⟩ (a.put (some d) v) (w.alloc (.cells c t)):=by
 obtain ⟨h1,st1,sub1⟩:=star_del st nd d
 have m0:Mem (h0.un hn) w:=g.mem.mono hsub
 have dnew:∀x:HF,Mem x w→HF.dj (HF.one w.heap.size c t) x:=fun x m=>HF.dj_iff.2 fun b hb hx=>by
  rw[HF.has_one] at hb
  subst hb
  exact Nat.lt_irrefl _ (m.lt hx)
 have mn:Mem hn w:=((Mem.un dn).1 m0).2
 have m1:Mem h1 w:=((Mem.un dn).1 m0).1.mono sub1
 have d1n:HF.dj h1 hn:=HF.dj_iff.2 fun b hb hx=>by
  refine HF.dj_iff.1 dn b ?_ hx
  cases e:h1 b with
  |none=>exact absurd e hb
  |some x=>unfold HF.has; rw[sub1 b x e]; simp
 have hsz:(w.alloc (.cells c t)).heap.size=w.heap.size+1:=by simp
 have has_sub:∀b,((((HF.one w.heap.size c t).un hn)).un h1).has b→b=w.heap.size∨h.has b:=by
  intro b hb
  rcases HF.has_un.1 hb with hb | hb
  ·rcases HF.has_un.1 hb with hb | hb
   ·exact .inl (HF.has_one.1 hb)
   ·right
    cases e:hn b with
    |none=>exact absurd e hb
    |some x=>unfold HF.has; rw[hsub b x (un_right dn e)]; simp
  ·right
   cases e:h1 b with
   |none=>exact absurd e hb
   |some x=>unfold HF.has; rw[hsub b x (un_left (sub1 b x e))]; simp
 refine ⟨Γ,(d,r)::del rcs0 d,((HF.one w.heap.size c t).un hn).un h1,?_,?_,?_,?_,g.memR.alloc _,?_,g.defers,by simp[Act.put,g.tsz],?_,?_,?_,?_,?_,g.ro0,g.os,g.tape,g.output,g.sg,bx_new hB fun e he=>?_,md_new g (.inl ⟨hlo,hd⟩) hsubL⟩
 ·simp only[map_cons,List.cons.injEq,true_and,del,filter_map]
  rfl
 ·rw[map_cons,nodup_cons]
  exact ⟨del_not _ _,del_nodup nd d⟩
 ·exact ⟨_,h1,HF.un_dj.2 ⟨dnew h1 m1,d1n.symm⟩,rfl,hr _ rfl (dnew hn mn),st1⟩
 ·refine (Mem.un (HF.un_dj.2 ⟨dnew h1 m1,d1n.symm⟩)).2 ⟨(Mem.un (dnew hn mn)).2 ⟨Mem.one.2 ⟨0,0,heap_alloc_new w _,fun o _=>by omega⟩,mn.alloc _⟩,m1.alloc _⟩
 ·refine HF.dj_iff.2 fun b hb hx=>?_
  rcases has_sub b hx with e | e
  ·subst e; exact Nat.lt_irrefl _ (g.memR.lt hb)
  ·exact HF.dj_iff.1 g.dj b hb e
 ·intro t' av' hm
  rcases List.mem_cons.1 hm with e | e
  ·injection e with e1 e2
   subst e1; subst e2
   exact ⟨v,by simp[Act.put,g.tsz,hd],hav⟩
  ·obtain ⟨hne,u,hu,hi⟩:=htm t' av' e
   exact ⟨u,by simp only[Act.put]; rw[Array.getElem?_setIfInBounds_ne (Ne.symm hne)]; exact hu,hi⟩
 ·rw[hsz]; exact Nat.le_succ_of_le g.size
 ·intro b hb1 hb2
  rw[heap_alloc _ _ _ (ne_of_lt (Nat.lt_of_lt_of_le hb1 g.size))]
  exact g.keep b hb1 hb2
 ·intro b hb
  rcases has_sub b hb with e | e
  ·right; rw[e]; exact g.size
  ·exact g.own b e
 ·exact g.ro
 ·have h1:=(g.bx e he).1
  exact ⟨by rw[heap_alloc _ _ _ (ne_of_lt h1.2)]; exact h1.1,by rw[hsz]; omega⟩
theorem Good.alloc {F:Fr} {s:St} {a:Act} {w:World} {Γ:HF} {rcs rcs0:List (Nat×RC)} {h h0 hn:HF} (g:Good F s a w Γ rcs h)
  (hsub:∀b v,(h0.un hn) b=some v→h b=some v) (dn:HF.dj h0 hn) (st:Star Γ rcs0 h0) (nd:(rcs0.map (·.1)).Nodup)
  {d:Nat} (hd:d<F.n.n) (hlo:F.n.lo≤d) (hB:Off' F d rcs0) (hsubL:∀n r,look rcs0 n=some r→look rcs n=some r) {r:RC} {c:Array Value} {t:TypeId} (hr:∀hb,hb=HF.one w.heap.size c t→HF.dj hb hn→r.Own Γ (hb.un hn)) {v:Value} {av:SV} (hav:av.is Γ ((d,r)::del rcs0 d) v)
  {tm:List (Nat×AV)} (htm:∀t av,(t,av)∈tm→offA d av=true∧t≠d∧∃v,a.tmps[t]? = some v∧av.is Γ rcs0 v) :
  R F ⟨(d,.one av)::tm,(d,r.ck)::del (rcs0.map fun r=>(r.1,r.2.ck)) d⟩ (a.put (some d) v) (w.alloc (.cells c t)) :=
 g.allocX hsub dn st nd hd hlo hB hsubL hr hav fun t av hm=>let ⟨ho,hne,u,hu,hi⟩:=htm t av hm; ⟨hne,u,hu,cons_is ho (offA_is ho hi)⟩
def recT (P:Program) (t:TypeId) (fs:List TypeId):Bool:=match fs.getLast? with
 |some e=>match P.underlying e with
  |some (.slice u)=>u==t
  |_=>false
 |none=>false
def kdChain (g:TypeId→Option Kd) (fs:List TypeId):Option Kd:=fs.foldr (fun fd r=>match g fd,r with
 |some K,some L=>some (.pair K L)
 |_,_=>none) (some .unit)
def kdOf (P:Program):Nat→TypeId→Option Kd
 |0,_=>none
 |f+1,t=>match P.underlying t with
  |some .bool=>some .bool
  |some (.int k)=>some (.int k)
  |some .string=>some .str
  |some (.slice e)=>(kdOf P f e).map fun K=>match K with
   |.tree t K'=>.tl t K'
   |K=>.sl true e K none
  |some (.map kt et)=>match P.underlying kt,P.underlying et with
   |some .string,some (.int k)=>some (.mp true t k)
   |_,_=>none
  |some (.array n e)=>(kdOf P f e).map (.arr n)
  |some (.struct fs)=>if recT P t (fs.toList.map (·.type)) then (kdChain (kdOf P f) (fs.toList.map (·.type)).dropLast).map (.tree t) else kdChain (kdOf P f) (fs.toList.map (·.type))
  |_=>none
def zv:(K:Kd)→K.T
 |.int _=>(0:Int) | .bool=>false | .str=>ByteArray.empty | .un=>() | .unit=>()
 |.pair a b=>(zv a,zv b)
 |.arr n e=>replicate n (zv e)
 |.sl _ _ _ _=>[]
 |.tree _ e=>.mk (zv e) []
 |.tl _ _=>[]
 |.mp _ _ _=>none
 |.ep _=>none
theorem zero_own {Γ:HF}:∀(K:Kd),K.Own Γ (zv K) K.zd HF.emp
 |.int k=>⟨rfl,min_max k⟩
 |.bool=>rfl
 |.str=>⟨rfl,by decide⟩
 |.un=>rfl
 |.unit=>rfl
 |.pair a b=>⟨HF.emp,HF.emp,HF.dj_emp _,(HF.un_emp _).symm,zero_own a,zero_own b⟩
 |.arr n e=>by
  refine ⟨List.length_replicate,?_⟩
  have key:∀m,m≤n→Each (fun i=>e.Own Γ (getD (replicate n (zv e)) i e.dft) ((Kd.arr n e).zd i)) m HF.emp:=by
   intro m
   induction m with
   |zero=>exact fun _=>rfl
   |succ m ih =>
    intro hm
    refine ⟨HF.emp,HF.emp,HF.dj_emp _,(HF.un_emp _).symm,ih (by omega),?_⟩
    have:getD (replicate n (zv e)) m e.dft=zv e:=by
     rw[getD_eq_getElem?_getD,List.getElem?_replicate,if_pos (by omega)]; rfl
    show e.Own Γ (getD (replicate n (zv e)) m e.dft) _ HF.emp
    rw[this]
    exact zero_own e
  exact key n (Nat.le_refl _)
 |.sl own t e hole=>⟨rfl,rfl⟩
 |.tree t e=>⟨rfl,.nil (zero_own e)⟩
 |.tl t e=>⟨rfl,rfl⟩
 |.mp o t k=>rfl
 |.ep e=>⟨rfl,trivial⟩
def veq:Value→Value→Bool
 |.bool a,.bool b=>a==b
 |.int k n,.int k' n'=>decide (k=k')&&decide (n=n')
 |.string a,.string b=>decide (a=b)
 |.slice none a b,.slice none c d=>a==c&&b==d
 |.map none,.map none=>true
 |.pointer none,.pointer none=>true
 |_,_=>false
theorem veq_eq {a b:Value} (h:veq a b=true):a=b:=by
 unfold veq at h
 split at h<;>simp_all
def ceq:List Value→List Value→Bool
 | [],[]=>true
 |a::l,b::m=>veq a b&&ceq l m
 |_,_=>false
theorem ceq_eq:∀ {a b:List Value},ceq a b=true→a=b
 | [],[],_=>rfl
 |a::l,b::m,h=>by
  simp only[ceq,Bool.and_eq_true] at h
  rw[veq_eq h.1,ceq_eq h.2]
 | [],_::_,h=>by cases h
 |_::_,[],h=>by cases h
def zeroOK (P:Program) (t:TypeId) (K:Kd):Bool:=match P.info? t with
 |some i=>match i.zero with
  |some v=>ceq v.cells.toList (K.cells (zv K) K.zd)
  |none=>false
 |none=>false
theorem zeroOK_spec {P:Program} {t:TypeId} {K:Kd} (h:zeroOK P t K=true):∃i v,P.info? t=some i∧i.zero=some v∧v.cells.toList=K.cells (zv K) K.zd:=by
 unfold zeroOK at h
 split at h
 ·rename_i i hi
  split at h
  ·rename_i v hv
   exact ⟨i,v,hi,hv,ceq_eq h⟩
  ·cases h
 ·cases h
def dstL (o:Oper):List Nat:=match o.dst with
 |some d=>[d]
 |none=>[]
theorem dstL_some {o:Oper} {d:Nat} (h:o.dst=some d):dstL o=[d]:=by simp[dstL,h]
def fresh (s:St) (d:Nat):St:=⟨s.tm.filter fun x=>offA d x.2&&x.1 != d,s.ck⟩
def newBox (n:Lim) (o:Oper) (t:TypeId) (K:Kd) (x:K.T) (s:St) (k:St→Tr α):Tr α:=match o.dst with
 |some d=>if n.lo≤d∧d<n.n then k ⟨(d,.one (.ptr d []))::(fresh s d).tm,(d,⟨some t,K,x⟩)::del s.ck d⟩ else .bad
 |none=>.bad
theorem Good.fresh {F:Fr} {s:St} {a:Act} {rcs0:List (Nat×RC)} {Γ:HF} {d:Nat} (h:∀x,x∈s.tm→∃v,a.tmps[x.1]? = some v∧x.2.is Γ rcs0 v) :
  ∀t av,(t,av)∈(fresh s d).tm→offA d av=true∧t≠d∧∃v,a.tmps[t]? = some v∧av.is Γ rcs0 v:=by
 intro t av hm
 obtain ⟨h1,h2⟩:=List.mem_filter.1 hm
 simp only[Bool.and_eq_true,bne_iff_ne,ne_eq] at h2
 exact ⟨h2.1,h2.2,h _ h1⟩
theorem newBox_ok {P:Program} {F:Fr} {s s0:St} {a:Act} {w:World} {Γ:HF} {rcs rcs0:List (Nat×RC)} {h h0 hn:HF} (g:Good F s a w Γ rcs h)
  (hsub:∀b v,(h0.un hn) b=some v→h b=some v) (dn:HF.dj h0 hn) (st:Star Γ rcs0 h0) (nd:(rcs0.map (·.1)).Nodup) (hck:s0.ck=rcs0.map fun r=>(r.1,r.2.ck)) (htm:∀x,x∈s0.tm→∃v,a.tmps[x.1]? = some v∧x.2.is Γ rcs0 v)
  {o:Oper} {t:TypeId} {K2:Kd} {v:K2.T} {zv:K2.Z} {k:St→Tr α} {K:α→Prop} {Q:Exit→Act→World→Prop} {c:Array Value}
  (hrun:(execOp a.eval o).run P w=.ok (.value (.pointer (some ⟨w.heap.size,0,none⟩))) (w.alloc (.cells c t))) (hc:c.toList=K2.cells v zv)
  (hy:K2.Own Γ v zv hn) (hB:∀d,o.dst=some d→Off' F d rcs0) (hsubL:∀n r,look rcs0 n=some r→look rcs n=some r) (hs:(newBox F.n o t K2 v s0 k).sat K):o.wp P a w (fun a' w'=>∃s',R F s' a' w'∧(k s').sat K) Q:=by
 unfold newBox at hs
 split at hs
 ·rename_i d hd
  split at hs
  ·rename_i hlt
   have hR:=g.alloc (d:=d) (c:=c) (t:=t) (r:=⟨some (w.heap.size,t),K2,v,zv⟩) (v:=.pointer (some ⟨w.heap.size,0,none⟩)) (av:=.ptr d []) (tm:=(fresh s0 d).tm) hsub dn st nd hlt.2 hlt.1 (hB d hd) hsubL
    (fun hb e dj=>by subst e; exact ⟨c,hn,dj,rfl,hy,hc⟩)
    ⟨⟨some (w.heap.size,t),K2,v,zv⟩,⟨K2,v,zv,(w.heap.size,0)⟩,by simp[look],by simp[pl],fun e=>(by cases e),rfl⟩ (Good.fresh (F:=F) htm)
   unfold Oper.wp
   rw[hrun,Oper.upon_value,hd]
   rw[←hck] at hR
   exact ⟨_,hR,hs⟩
  ·exact hs.elim
 ·exact hs.elim
def kdAt (P:Program) (n:Lim) (o:Oper) (t:TypeId):Option Kd:=match o.dst with
 |some d=>match look n.kd d with
  |some K=>some K
  |none=>kdOf P 8 t
 |none=>kdOf P 8 t
def stAlloc (P:Program) (n:Lim) (o:Oper) (t:TypeId) (s:St) (k:St→Tr α):Tr α:=match kdAt P n o t with
 |some K=>if zeroOK P t K&&unfOK K then newBox n o t (unfK K) (unfT K (zv K)) s k else .bad
 |none=>.bad
theorem stAlloc_ok {P:Program} {F:Fr} {o:Oper} {t:TypeId} {s:St} {k:St→Tr α} (ho:o.op=.alloc t):WorldOK P F o s (stAlloc P F.n o t s k) k ⟨true,dstL o⟩:=by
 unfold stAlloc
 split
 ·rename_i K hK
  split
  ·rename_i hz
   rw[Bool.and_eq_true] at hz
   obtain ⟨hz,hu⟩:=hz
   intro K' a w Γ rcs h Q g he hs
   have hB:∀d,o.dst=some d→Off' F d rcs:=fun d hd=>by rw[dstL_some hd] at he; exact off'_of g he
   obtain ⟨i,v,hi,hv,hc⟩:=zeroOK_spec hz
   obtain ⟨zu,ou,cu⟩:=unf_own hu (zero_own (Γ:=Γ) K)
   refine newBox_ok g (h0:=h) (hn:=HF.emp) (c:=v.cells) (zv:=zu) (by rw[HF.un_emp]; exact fun _ _ e=>e) (HF.dj_emp h) g.star g.nodup g.ck.symm (fun x hx=>g.tm x.1 x.2 hx) ?_ (hc.trans cu.symm) ou hB (fun _ _ e=>e) hs
   simp[execOp,ho,Instr.alloc,zeroValue,typeInfo,hi,hv,newVar,newRow]
  ·exact world_bad
 ·exact world_bad
def stBox (P:Program) (n:Lim) (o:Oper) (t:TypeId) (x:Operand) (s:St) (k:St→Tr α):Tr α:=match opo s x with
 |some (.val K2 v)=>if noUn K2&&unfOK K2 then newBox n o t (unfK K2) (unfT K2 v) s k else .bad
 |some .nilS=>match kdOf P 8 t with
  |some (.sl true e K none)=>newBox n o t (.sl true e K none) [] s k
  |_=>.bad
 |some (.at id2 [])=>match look s.ck id2 with
  |some c2=>match c2.box with
   |none=>if noUn c2.K then newBox n o t c2.K c2.x ⟨s.tm.filter fun x=>offA id2 x.2,del s.ck id2⟩ k else .bad
   |some _=>.bad
  |none=>.bad
 |_=>.bad
theorem stBox_ok {P:Program} {F:Fr} {o:Oper} {t:TypeId} {x:Operand} {s:St} {k:St→Tr α} (ho:o.op=.box t x):WorldOK P F o s (stBox P F.n o t x s k) k ⟨true,dstL o⟩:=by
 have hrun:∀(a:Act) (w:World),(execOp a.eval o).run P w=.ok (.value (.pointer (some ⟨w.heap.size,0,none⟩))) (w.alloc (.cells (a.eval x).cells t)):=by
  intro a w
  simp[execOp,ho,Instr.box,newVar,newRow]
 unfold stBox
 split
 ·rename_i K2 v hx
  split
  ·rename_i hnu
   rw[Bool.and_eq_true] at hnu
   obtain ⟨hnu,hu⟩:=hnu
   intro K' a w Γ rcs h Q g he hs
   have hB:∀d,o.dst=some d→Off' F d rcs:=fun d hd=>by rw[dstL_some hd] at he; exact off'_of g he
   obtain ⟨hf,zz,how,hv⟩:=g.opoIs hx
   obtain ⟨zu,ou,cu⟩:=unf_own hu how
   exact newBox_ok g (h0:=h) (hn:=HF.emp) (by rw[HF.un_emp]; exact fun _ _ e=>e) (HF.dj_emp h) g.star g.nodup g.ck.symm (fun x hx=>g.tm x.1 x.2 hx) (hrun a w) (by rw[hv,cu]; exact toV_cells K2 v zz hnu) ou hB (fun _ _ e=>e) hs
  ·exact world_bad
 ·rename_i hx
  split
  ·rename_i e K hk
   intro K' a w Γ rcs h Q g he hs
   have hB:∀d,o.dst=some d→Off' F d rcs:=fun d hd=>by rw[dstL_some hd] at he; exact off'_of g he
   have hv:a.eval x=.slice none 0 0:=g.opoIs hx
   exact newBox_ok g (h0:=h) (hn:=HF.emp) (K2:=.sl true e K none) (v:=[]) (zv:=(none,fun _=>K.zd)) (by rw[HF.un_emp]; exact fun _ _ e=>e) (HF.dj_emp h) g.star g.nodup g.ck.symm (fun x hx=>g.tm x.1 x.2 hx) (hrun a w) (by rw[hv]; rfl) ⟨rfl,rfl⟩ hB (fun _ _ e=>e) hs
  ·exact world_bad
 ·rename_i id2 hx
  split
  ·rename_i c2 hc2
   split
   ·rename_i hbox
    split
    ·rename_i hnu
     intro K' a w Γ rcs h Q g he hs
     have hB:∀d,o.dst=some d→Off' F d rcs:=fun d hd=>by rw[dstL_some hd] at he; exact off'_of g he
     obtain ⟨r2,q2,hr2,hp2,hv⟩:=g.opoIs hx
     obtain rfl:=g.same hc2 hr2
     simp only[pl,Option.some.injEq] at hp2
     subst hp2
     have hb2:r2.box=none:=by
      cases hb:r2.box with
      |none=>rfl
      |some bt=>simp[RC.ck,hb] at hbox
     obtain ⟨h1,hr',d1,hh,o1,_,dl⟩:=star_upd g.star hr2 g.nodup
     have o2:r2.K.Own Γ r2.x r2.z h1:=by simpa[RC.Own,hb2] using o1
     refine newBox_ok (s0:=⟨s.tm.filter fun x=>offA id2 x.2,del s.ck id2⟩) g (h0:=hr') (hn:=h1) (rcs0:=del rcs id2) (by rw[hh,HF.un_comm d1]; exact fun _ _ e=>e) d1.symm dl (del_nodup g.nodup id2) (del_ck g id2).symm ?_ (hrun a w) (by rw[hv]; exact toV_cells r2.K r2.x r2.z hnu) o2 (fun d hd=>off'_del (hB d hd) hr2 hb2) (del_look rcs id2) hs
     intro x hx
     obtain ⟨e1,e2⟩:=List.mem_filter.1 hx
     obtain ⟨v,hv,hi⟩:=g.tm x.1 x.2 e1
     exact ⟨v,hv,offA_is e2 hi⟩
    ·exact world_bad
   ·exact world_bad
  ·exact world_bad
 ·exact world_bad
def newRowT (n:Lim) (o:Oper) (e:TypeId) (Ke:Kd) (xs:List Ke.T) (s:St) (k:St→Tr α):Tr α:=match o.dst with
 |some d=>if n.lo≤d∧d<n.n then k ⟨(d,.one (.at d []))::(fresh s d).tm,(d,⟨none,.sl true e Ke none,xs⟩)::del s.ck d⟩ else .bad
 |none=>.bad
theorem newRow_ok {P:Program} {F:Fr} {s s0:St} {a:Act} {w:World} {Γ:HF} {rcs rcs0:List (Nat×RC)} {h h0 hn:HF} (g:Good F s a w Γ rcs h)
  (hsub:∀b v,(h0.un hn) b=some v→h b=some v) (dn:HF.dj h0 hn) (st:Star Γ rcs0 h0) (nd:(rcs0.map (·.1)).Nodup) (hck:s0.ck=rcs0.map fun r=>(r.1,r.2.ck)) (htm:∀x,x∈s0.tm→∃v,a.tmps[x.1]? = some v∧x.2.is Γ rcs0 v)
  {o:Oper} {e:TypeId} {Ke:Kd} {xs:List Ke.T} {zf:Nat→Ke.Z} {cap:Nat} {k:St→Tr α} {K:α→Prop} {Q:Exit→Act→World→Prop} {c:Array Value}
  (hrun:(execOp a.eval o).run P w=.ok (.value (.slice (some ⟨w.heap.size,0,none⟩) xs.length cap)) (w.alloc (.cells c e))) (hle:xs.length≤cap) (hcap:cap≤9223372036854775807) (hsz:cap*Ke.size≤c.size)
  (hl:∀i,i<xs.length→Lie c (i*Ke.size) (Ke.cells (xs.getD i Ke.dft) (zf i))) (hy:Each (fun i hi=>Ke.Own Γ (xs.getD i Ke.dft) (zf i) hi) xs.length hn)
  (hB:∀d,o.dst=some d→Off' F d rcs0) (hsubL:∀n r,look rcs0 n=some r→look rcs n=some r) (hs:(newRowT F.n o e Ke xs s0 k).sat K):o.wp P a w (fun a' w'=>∃s',R F s' a' w'∧(k s').sat K) Q:=by
 unfold newRowT at hs
 split at hs
 ·rename_i d hd
  split at hs
  ·rename_i hlt
   have hR:=g.alloc (d:=d) (c:=c) (t:=e) (r:=⟨none,.sl true e Ke none,xs,(some (w.heap.size,0,cap),zf)⟩) (v:=.slice (some ⟨w.heap.size,0,none⟩) xs.length cap) (av:=.at d []) (tm:=(fresh s0 d).tm) hsub dn st nd hlt.2 hlt.1 (hB d hd) hsubL
    (fun hb e' dj=>by
     subst e'
     refine ⟨c,hn,hle,hcap,by rw[Nat.zero_add]; exact hsz,fun i hi=>by rw[Nat.zero_add]; exact hl i hi,?_,?_⟩
     ·exact Each.congr (fun i hi h' ho=>by rw[if_neg (by simp)]; exact ho) hy
     ·simp only[if_true]
      exact ⟨dj,trivial⟩)
    ⟨⟨none,.sl true e Ke none,xs,(some (w.heap.size,0,cap),zf)⟩,⟨_,xs,(some (w.heap.size,0,cap),zf),(0,0)⟩,by simp[look],by simp only[pl]; rfl,rfl⟩ (Good.fresh (F:=F) htm)
   unfold Oper.wp
   rw[hrun,Oper.upon_value,hd]
   rw[←hck] at hR
   exact ⟨_,hR,hs⟩
  ·exact hs.elim
 ·exact hs.elim
theorem each_emp {p:Nat→HF→Prop}:∀ {n:Nat},(∀i,i<n→p i HF.emp)→Each p n HF.emp
 |0,_=>rfl
 |n+1,h=>⟨HF.emp,HF.emp,HF.dj_emp _,(HF.un_emp _).symm,each_emp fun i hi=>h i (by omega),h n (by omega)⟩
def bytesOf (P:Program) (e:TypeId):Nat:=match P.info? e with
 |some i=>i.bytes
 |none=>0
def makeT (P:Program) (n:Lim) (o:Oper) (e:TypeId) (m:Nat) (x y:Int) (s:St) (k:St→Tr α):Tr α:=match kdAt P n o e with
 |some Ke=>if m=Ke.size∧zeroOK P e Ke=true then
   .need (inb x (y+1)∧y≤9223372036854775807∧(bytesOf P e:Int)*y≤281474976710656) (newRowT n o e Ke (replicate x.toNat (zv Ke)) s k) else .bad
 |none=>.bad
def stMake (P:Program) (n:Lim) (o:Oper) (t:TypeId) (l c:Operand) (s:St) (k:St→Tr α):Tr α:=match slOf? P t,opo s l,opo s c with
 |some (e,m),some (.val (.int _) x),some (.val (.int _) y)=>makeT P n o e m x y s k
 |_,_,_=>.bad
theorem makeT_ok {P:Program} {F:Fr} {o:Oper} {t e:TypeId} {m:Nat} {l c:Operand} {s:St} {k:St→Tr α} (ho:o.op=.makeSlice t l c) (hsl:slOf? P t=some (e,m)) {k1 k2:IntKind} {x y:Int}
  (K':α→Prop) (a:Act) (w:World) (Γ:HF) (rcs:List (Nat×RC)) (h:HF) (Q:Exit→Act→World→Prop) (g:Good F s a w Γ rcs h) (hlx:a.eval l=.int k1 x) (hcy:a.eval c=.int k2 y) (hB:∀d,o.dst=some d→Off' F d rcs) (hs:(makeT P F.n o e m x y s k).sat K') :
  o.wp P a w (fun a' w'=>∃s',R F s' a' w'∧(k s').sat K') Q:=by
 unfold makeT at hs
 split at hs
 ·rename_i Ke hK
  split at hs
  ·rename_i hcond
   obtain ⟨hm,hz⟩:=hcond
   obtain ⟨⟨⟨hx0,hxy⟩,hy63,hby⟩,hs⟩:=hs
   obtain ⟨i,hu,hi,hisz⟩:=slOf_spec hsl
   obtain ⟨i2,v,hi2,hv,hcs⟩:=zeroOK_spec hz
   rw[hi] at hi2
   injection hi2 with hi2
   subst hi2
   have hbb:bytesOf P e=i.bytes:=by simp[bytesOf,hi]
   rw[hbb] at hby
   have hsize:v.cells.size=Ke.size:=by rw[←Array.length_toList,hcs,cells_length]
   have wx:IntKind.i64.wrap x=x:=IntWalk.i64_in x (by omega)
   have wy:IntKind.i64.wrap y=y:=IntWalk.i64_in y (by omega)
   have hlen:(replicate x.toNat (zv Ke)).length=x.toNat:=List.length_replicate
   have hD:∀j,j<x.toNat→getD (replicate x.toNat (zv Ke)) j Ke.dft=zv Ke:=fun j hj=>by
    rw[getD_eq_getElem?_getD,List.getElem?_replicate,if_pos hj]; rfl
   refine newRow_ok g (h0:=h) (hn:=HF.emp) (zf:=fun _=>Ke.zd) (cap:=y.toNat)
    (c:=(Array.range (y.toNat*i.size)).map ((if y.toNat*i.size=0 then #[] else v.cells)[·%(if y.toNat*i.size=0 then #[] else v.cells).size]!))
    (by rw[HF.un_emp]; exact fun _ _ e=>e) (HF.dj_emp h) g.star g.nodup g.ck.symm (fun x hx=>g.tm x.1 x.2 hx) ?_ ?_ ?_ ?_ ?_ ?_ hB (fun _ _ e=>e) hs
   ·have h1:¬(281474976710656<(i.bytes:Int)*y):=by omega
    have h2:¬(y<0):=by omega
    have h3:¬(x<0):=by omega
    have h4:¬(y<x):=by omega
    by_cases hn0:y.toNat*i.size=0
    ·simp[execOp,ho,Instr.makeSlice,run_underlying hu,hlx,hcy,asInt,asIntOf,typeInfo,hi,wx,wy,h1,h2,h3,h4,askRoom,sizeOf,newRow,hn0,hlen]
    ·simp[execOp,ho,Instr.makeSlice,run_underlying hu,hlx,hcy,asInt,asIntOf,typeInfo,hi,wx,wy,h1,h2,h3,h4,askRoom,sizeOf,newRow,hn0,hlen,zeroValue,hv]
   ·rw[hlen]; exact Int.toNat_le_toNat (by omega)
   ·omega
   ·simp[hisz,hm]
   ·intro j hj
    rw[hlen] at hj
    rw[hD j hj]
    intro q hq
    rw[cells_length] at hq
    have hjy:j<y.toNat:=Nat.lt_of_lt_of_le hj (Int.toNat_le_toNat (by omega))
    have hlt:j*Ke.size+q<y.toNat*i.size:=by
     have:=mul_le_mul_right Ke.size (succ_le_of_lt hjy)
     rw[succ_mul] at this
     rw[hisz,hm]
     omega
    have hne:¬(y.toNat*i.size=0):=by omega
    simp only[if_neg hne]
    rw[Array.getElem?_map,Array.getElem?_range,if_pos hlt]
    simp only[Option.map_some,hsize]
    rw[Nat.mul_comm,Nat.mul_add_mod,Nat.mod_eq_of_lt hq]
    rw[←hcs,Array.getElem?_toList,Array.getElem?_eq_getElem (by omega)]
    simp[hsize,hq]
   ·refine each_emp fun j hj=>?_
    rw[hlen] at hj
    rw[hD j hj]
    exact zero_own Ke
  ·exact hs.elim
 ·exact hs.elim
theorem stMake_ok {P:Program} {F:Fr} {o:Oper} {t:TypeId} {l c:Operand} {s:St} {k:St→Tr α} (ho:o.op=.makeSlice t l c):WorldOK P F o s (stMake P F.n o t l c s k) k ⟨true,dstL o⟩:=by
 unfold stMake
 split
 ·rename_i e m k1 x k2 y hsl hl hc
  intro K' a w Γ rcs h Q g he hs
  exact makeT_ok ho hsl K' a w Γ rcs h Q g (is_int (g.opoIs hl)).1 (is_int (g.opoIs hc)).1 (fun d hd=>by rw[dstL_some hd] at he; exact off'_of g he) hs
 ·exact world_bad
end Go.Proofs.YtibammoednhnoaaE
