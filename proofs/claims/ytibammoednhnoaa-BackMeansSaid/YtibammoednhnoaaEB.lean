/- The engine. Conditions: none. -/
import Derived.Test.YtibammoednhnoaaEA
import Derived.Laws.IdiomCopy
import Derived.Laws.Tables
import Derived.Great.BuildSlice
import Derived.Laws.BytesString
set_option linter.unusedVariables false
set_option linter.unusedSimpArgs false
open List (drop ext_getElem? filter_map flatMap_cons getD getD_cons_zero getD_eq_getElem?_getD getElem?_eq_none isEmpty length length_append length_cons length_drop length_map length_take mapM_cons map_cons map_map mem_cons_of_mem mem_cons_self nodup_cons replicate take)
open Option (bind_eq_bind bind_eq_some_iff map_some none_or pure_def some_or)
open Nat (add_mul min_comm mul_le_mul_right ne_of_lt succ_mul zero_le)
namespace Go.Proofs.YtibammoednhnoaaE
open Kd
variable {α:Type}
theorem Good.renew {F:Fr} {s:St} {a:Act} {w w':World} {Γ:HF} {rcs rcs0:List (Nat×RC)} {h h0 hm:HF} (g:Good F s a w Γ rcs h)
  (hsub:∀b v,h0 b=some v→h b=some v) (st:Star Γ rcs0 h0) (nd:(rcs0.map (·.1)).Nodup)
  {d:Nat} (hd:d<F.n.n) (hlo:F.n.lo≤d) (hB:Off F [d] rcs0) (hsubL:∀n r,look rcs0 n=some r→look rcs n=some r) (hk0:∀b,b<w.heap.size→h0.has b→w'.heap[b]? = w.heap[b]?) {r:RC} (hr:r.Own Γ hm) (dm:HF.dj hm h0) (mm:Mem hm w') (m0:Mem h0 w') (mR:MemR Γ w') (hsz:w.heap.size≤w'.heap.size)
  (hoth:∀b,b<w.heap.size→¬h.has b→w'.heap[b]? = w.heap[b]?) (hdom:∀b,hm.has b→h.has b∨w.heap.size≤b) (hos:w'.os=w.os) (htape:w'.tape=w.tape) (hout:w'.output=w.output)
  {v:Value} {av:SV} (hav:av.is Γ ((d,r)::del rcs0 d) v)
  {tm:List (Nat×AV)} (htm:∀t av,(t,av)∈tm→offA d av=true∧t≠d∧∃v,a.tmps[t]? = some v∧av.is Γ rcs0 v) :
  R F ⟨(d,.one av)::tm,(d,r.ck)::del (rcs0.map fun r=>(r.1,r.2.ck)) d⟩ (a.put (some d) v) w':=by
 obtain ⟨h1,st1,sub1⟩:=star_del st nd d
 have d1:HF.dj hm h1:=HF.dj_iff.2 fun b hb hx=>by
  refine HF.dj_iff.1 dm b hb ?_
  cases e:h1 b with
  |none=>exact absurd e hx
  |some x=>unfold HF.has; rw[sub1 b x e]; simp
 have hh1:∀b,h1.has b→h.has b:=fun b hb=>by
  cases e:h1 b with
  |none=>exact absurd e hb
  |some x=>unfold HF.has; rw[hsub b x (sub1 b x e)]; simp
 have hdomA:∀b,(hm.un h1).has b→h.has b∨w.heap.size≤b:=fun b hb=>by
  rcases HF.has_un.1 hb with e | e
  ·exact hdom b e
  ·exact .inl (hh1 b e)
 refine ⟨Γ,(d,r)::del rcs0 d,hm.un h1,?_,?_,⟨hm,h1,d1,rfl,hr,st1⟩,(Mem.un d1).2 ⟨mm,m0.mono sub1⟩,mR,?_,g.defers,by simp[Act.put,g.tsz],?_,Nat.le_trans g.size hsz,?_,?_,g.ro,g.ro0,hos.trans g.os,htape.trans g.tape,hout.trans g.output,g.sg,bx_new (fun e he id hid=>?_) fun e he=>?_,md_new g (.inl ⟨hlo,hd⟩) hsubL⟩
 ·simp only[map_cons,List.cons.injEq,true_and,del,filter_map]
  rfl
 ·rw[map_cons,nodup_cons]
  exact ⟨del_not _ _,del_nodup nd d⟩
 ·refine HF.dj_iff.2 fun b hb hx=>?_
  rcases hdomA b hx with e | e
  ·exact HF.dj_iff.1 g.dj b hb e
  ·exact absurd (g.memR.lt hb) (Nat.not_lt.2 e)
 ·intro t' av' hm'
  rcases List.mem_cons.1 hm' with e | e
  ·injection e with e1 e2
   subst e1; subst e2
   exact ⟨v,by simp[Act.put,g.tsz,hd],hav⟩
  ·obtain ⟨ho,hne,u,hu,hi⟩:=htm t' av' e
   exact ⟨u,by simp only[Act.put]; rw[Array.getElem?_setIfInBounds_ne (Ne.symm hne)]; exact hu,cons_is ho (offA_is ho hi)⟩
 ·intro b hb1 hb2
  rw[hoth b (Nat.lt_of_lt_of_le hb1 g.size) fun e=>by
   rcases g.own b e with f | f
   ·exact hb2 f
   ·omega]
  exact g.keep b hb1 hb2
 ·intro b hb
  rcases hdomA b hb with e | e
  ·exact g.own b e
  ·exact .inr (Nat.le_trans g.size e)
 ·obtain ⟨id',h1,h2,h3⟩:=hB e he
  rw[hid] at h1
  injection h1 with h1
  subst h1
  exact ⟨by simpa using h2,h3⟩
 ·have h1:=(g.bx e he).1
  obtain ⟨id',_,_,r',t',h3,h4⟩:=hB e he
  obtain ⟨f1,_,_,ef,of⟩:=star_take st h3
  have hh:h0.has e.b:=by rw[ef]; exact HF.has_un.2 (.inl (box_has of h4))
  exact ⟨by rw[hk0 _ h1.2 hh]; exact h1.1,Nat.lt_of_lt_of_le h1.2 hsz⟩
theorem Each.append {p q r:Nat→HF→Prop} {m:Nat}:∀ {n:Nat} {h1 h2:HF},HF.dj h1 h2→Each p m h1→Each q n h2→(∀i,i<m→∀h,p i h→r i h)→(∀i,i<n→∀h,q i h→r (m+i) h)→Each r (m+n) (h1.un h2)
 |0,h1,h2,d,e1,e2,hp,hq=>by
  rw[show h2=HF.emp from e2,HF.un_emp]
  exact Each.congr hp e1
 |n+1,h1,h2,d,e1,e2,hp,hq=>by
  obtain ⟨g1,g2,dg,rfl,eg,qg⟩:=e2
  obtain ⟨da,db⟩:=HF.dj_un.1 d
  refine ⟨h1.un g1,g2,HF.un_dj.2 ⟨db,dg⟩,(HF.un_assoc _ _ _).symm,Each.append da e1 eg hp (fun i hi=>hq i (by omega)),hq n (by omega) _ qg⟩
theorem getD_append_left' {α:Type} {l m:List α} {i:Nat} {d:α} (h:i<l.length):(l++m).getD i d=l.getD i d:=by
 rw[getD_eq_getElem?_getD,List.getElem?_append_left h,getD_eq_getElem?_getD]
theorem getD_append_right' {α:Type} {l m:List α} {i:Nat} {d:α}:(l++m).getD (l.length+i) d=m.getD i d:=by
 rw[getD_eq_getElem?_getD,List.getElem?_append_right (by omega),getD_eq_getElem?_getD]
 congr 2
 omega
def joinZ {Z:Type} (m:Nat) (f g:Nat→Z):Nat→Z:=fun i=>if i<m then f i else g (i-m)
theorem own_room {Γ:HF} {t:TypeId} {e:Kd} {xs ys:List e.T} {b off cap:Nat} {zf zg:Nat→e.Z} {h hn:HF}
  (ho:(Kd.sl true t e none).Own Γ xs (some (b,off,cap),zf) h) (hy:Each (fun i hi=>e.Own Γ (ys.getD i e.dft) (zg i) hi) ys.length hn) (dn:HF.dj h hn) (hroom:xs.length+ys.length≤cap)
  {news:List Value} (hnl:news.length=ys.length*e.size) (hnews:∀i,i<ys.length→∀j,j<e.size→news[i*e.size+j]? = (e.cells (ys.getD i e.dft) (zg i))[j]?) :
  (Kd.sl true t e none).Own Γ (xs++ys) (some (b,off,cap),joinZ xs.length zf zg) ((h.upd b (off+xs.length*e.size) news).un hn)∧h.has b ∧
   ∃c t',h b=some (.cel c t')∧off+xs.length*e.size+news.length≤c.size:=by
 obtain ⟨c,h2,hle,hcap,hfit,hl,he,hd⟩:=ho
 simp only[if_true] at hd
 obtain ⟨hd,rfl⟩:=hd
 have hb2:¬h2.has b:=fun q=>HF.dj_iff.1 hd b (HF.has_one.2 rfl) q
 obtain ⟨dn1,dn2⟩:=HF.un_dj.1 dn
 have hmul:xs.length*e.size+ys.length*e.size≤cap*e.size:=by
  rw[←add_mul]; exact mul_le_mul_right _ hroom
 refine ⟨⟨wr c (off+xs.length*e.size) news,h2.un hn,?_,hcap,by rw[wr_size]; exact hfit,?_,?_,?_⟩,HF.has_un.2 (.inl (HF.has_one.2 rfl)),c,t,one_self,by omega⟩
 ·rw[length_append]; exact hroom
 ·intro i hi
  rw[length_append] at hi
  simp only[joinZ]
  rcases Nat.lt_or_ge i xs.length with h' | h'
  ·rw[if_pos h',getD_append_left' h']
   refine Lie.wr_other (hl i h') (.inl ?_)
   rw[cells_length]
   have:=mul_le_mul_right e.size (Nat.succ_le_of_lt h')
   rw[succ_mul] at this
   omega
  ·obtain ⟨j,rfl⟩:∃j,i=xs.length+j:=⟨i-xs.length,by omega⟩
   rw[if_neg (by omega),getD_append_right',Nat.add_sub_cancel_left]
   intro q hq
   rw[cells_length] at hq
   have hjl:j<ys.length:=by omega
   have hlt:j*e.size+q<news.length:=by
    have:=mul_le_mul_right e.size (Nat.succ_le_of_lt hjl)
    rw[succ_mul] at this
    rw[hnl]; omega
   rw[show off+(xs.length+j)*e.size+q=off+xs.length*e.size+(j*e.size+q) by rw[add_mul]; omega,wr_in _ _ _ _ hlt (by omega)]
   exact hnews j hjl q hq
 ·rw[length_append]
  refine Each.append dn2 he hy (fun i hi h' ho'=>?_) (fun i hi h' ho'=>?_)
  ·rw[if_neg (by simp)] at ho' ⊢
   simp only[joinZ]
   rw[if_pos hi,getD_append_left' hi]; exact ho'
  ·rw[if_neg (by simp)]
   simp only[joinZ]
   rw[if_neg (by omega),getD_append_right',Nat.add_sub_cancel_left]; exact ho'
 ·simp only[if_true]
  refine ⟨?_,?_⟩
  ·refine HF.dj_un.2 ⟨?_,?_⟩
   ·rw[←HF.upd_one]; exact HF.upd_dj.2 hd
   ·rw[←HF.upd_one]; exact HF.upd_dj.2 dn1
  ·rw[HF.upd_un,HF.upd_one,HF.upd_not hb2,HF.un_assoc]
def rowCells (e:Kd) (xs:List e.T) (zf:Nat→e.Z):List Value:=(List.range xs.length).flatMap fun i=>e.cells (xs.getD i e.dft) (zf i)
theorem rowCells_length (e:Kd) (xs:List e.T) (zf:Nat→e.Z):(rowCells e xs zf).length=xs.length*e.size:=by
 rw[rowCells,Kd.length_flatMap_const _ _ e.size (fun i _=>cells_length e _ _),List.length_range]
theorem rowCells_lie {e:Kd} {xs:List e.T} {zf:Nat→e.Z} {c:Array Value} {o:Nat}:Lie c o (rowCells e xs zf)↔∀i,i<xs.length→Lie c (o+i*e.size) (e.cells (xs.getD i e.dft) (zf i)) :=
 lie_flat fun i=>cells_length e _ _
theorem rowCells_get {e:Kd} {xs:List e.T} {zf:Nat→e.Z} {i j:Nat} (hi:i<xs.length) (hj:j<e.size):(rowCells e xs zf)[i*e.size+j]? = (e.cells (xs.getD i e.dft) (zf i))[j]? := by
 have h:Lie (rowCells e xs zf).toArray 0 (rowCells e xs zf):=fun k hk=>by simp
 have:=rowCells_lie.1 h i hi j (by rw[cells_length]; exact hj)
 rw[Nat.zero_add] at this
 simpa using this
theorem own_grow {Γ:HF} {t:TypeId} {e:Kd} {xs ys:List e.T} {zo:Option (Nat×Nat×Nat)} {zf zg:Nat→e.Z} {h hn:HF}
  (ho:(Kd.sl true t e none).Own Γ xs (zo,zf) h) (hy:Each (fun i hi=>e.Own Γ (ys.getD i e.dft) (zg i) hi) ys.length hn) (dn:HF.dj h hn) :
  ∃h2:HF,(∀b v,h2 b=some v→h b=some v)∧∀(B cap:Nat) (C:Array Value) (rest:List Value),C.toList=rowCells e xs zf++rowCells e ys zg++rest→xs.length+ys.length≤cap→cap≤9223372036854775807→cap*e.size≤C.size →
   HF.dj (HF.one B C t) (h2.un hn)→(Kd.sl true t e none).Own Γ (xs++ys) (some (B,0,cap),joinZ xs.length zf zg) ((HF.one B C t).un (h2.un hn)):=by
 have key:∃h2:HF,(∀b v,h2 b=some v→h b=some v)∧Each (fun i hi=>e.Own Γ (xs.getD i e.dft) (zf i) hi) xs.length h2:=by
  cases zo with
  |none =>
   obtain ⟨hx,rfl⟩:=ho
   subst hx
   exact ⟨HF.emp,fun _ _ e=>e,rfl⟩
  |some q =>
   obtain ⟨b,off,cap⟩:=q
   obtain ⟨c,h2,hle,hcap,hfit,hl,he,hd⟩:=ho
   simp only[if_true] at hd
   obtain ⟨hd,rfl⟩:=hd
   exact ⟨h2,fun b v e=>un_right hd e,Each.congr (fun i hi h' ho=>by rw[if_neg (by simp)] at ho; exact ho) he⟩
 obtain ⟨h2,hs,he⟩:=key
 have d2:HF.dj h2 hn:=HF.dj_iff.2 fun b hb hx=>by
  refine HF.dj_iff.1 dn b ?_ hx
  cases e:h2 b with
  |none=>exact absurd e hb
  |some x=>unfold HF.has; rw[hs b x e]; simp
 refine ⟨h2,hs,fun B cap C rest hC hle hcap hsz dB=>⟨C,h2.un hn,by rw[length_append]; exact hle,hcap,by rw[Nat.zero_add]; exact hsz,?_,?_,?_⟩⟩
 ·have hL:Lie C 0 (rowCells e xs zf++rowCells e ys zg):=fun j hj=>by
   have:C[0+j]? = C.toList[j]? := by simp
   rw[this,hC,List.getElem?_append_left hj]
  have hL1:=rowCells_lie.1 hL.left
  have hL2:=hL.right
  rw[rowCells_length] at hL2
  have hL2':=rowCells_lie.1 hL2
  intro i hi
  rw[length_append] at hi
  simp only[joinZ]
  rcases Nat.lt_or_ge i xs.length with h' | h'
  ·rw[if_pos h',getD_append_left' h']
   exact hL1 i h'
  ·obtain ⟨j,rfl⟩:∃j,i=xs.length+j:=⟨i-xs.length,by omega⟩
   rw[if_neg (by omega),getD_append_right',Nat.add_sub_cancel_left]
   have:=hL2' j (by omega)
   rw[add_mul,←Nat.add_assoc]
   exact this
 ·rw[length_append]
  refine Each.append d2 he hy (fun i hi h' ho'=>?_) (fun i hi h' ho'=>?_)
  ·rw[if_neg (by simp)]
   simp only[joinZ]
   rw[if_pos hi,getD_append_left' hi]; exact ho'
  ·rw[if_neg (by simp)]
   simp only[joinZ]
   rw[if_neg (by omega),getD_append_right',Nat.add_sub_cancel_left]; exact ho'
 ·simp only[if_true]
  exact ⟨dB,trivial⟩
theorem nextcap_le (n o:Nat) (h:o<n):Builtin.nextslicecap n o≤2*n:=by
 unfold Builtin.nextslicecap
 split
 ·omega
 ·split
  ·omega
  ·have key:∀r c,c≤2*n→Builtin.growBy n r c≤2*n:=by
    intro r
    induction r with
    |zero=>exact fun c hc=>hc
    |succ r ih =>
     intro c hc
     simp only[Builtin.growBy]
     split
     ·exact hc
     ·rename_i hlt
      refine ih _ ?_
      have:c<n:=by omega
      omega
   exact key 4 o (by omega)
theorem has_sub {h h':HF} (s:∀b v,h' b=some v→h b=some v) (b:Nat) (hb:h'.has b):h.has b:=by
 cases e:h' b with
 |none=>exact absurd e hb
 |some x=>unfold HF.has; rw[s b x e]; simp
theorem append_core {P:Program} {F:Fr} {s s0:St} {a:Act} {w:World} {Γ:HF} {rcs rcs0:List (Nat×RC)} {h hd hn hr:HF} (g:Good F s a w Γ rcs h)
  (hh:∀b v,((hd.un hn).un hr) b=some v→h b=some v) (d1:HF.dj hd hn) (d2:HF.dj (hd.un hn) hr) (st:Star Γ rcs0 hr) (nd:(rcs0.map (·.1)).Nodup) (hck:s0.ck=rcs0.map fun r=>(r.1,r.2.ck)) (htm:∀x,x∈s0.tm→∃v,a.tmps[x.1]? = some v∧x.2.is Γ rcs0 v)
  {o:Oper} {c:Call} {x y:Operand} {t t2:TypeId} (ho:o.op=.call c) (hb:c.callee=.builtin .append) (ha:c.args = #[x,y]) (hat:c.argTypes = #[t,t2])
  {te:TypeId} {e:Kd} {xs ys:List e.T} {zo:Option (Nat×Nat×Nat)} {zf zg:Nat→e.Z} (hsl:slOf? P t=some (te,e.size)) (hnu:noUn e=true)
  (hx:a.eval x=hdr zo xs.length) (hox:(Kd.sl true te e none).Own Γ xs (zo,zf) hd) {u:Value} (hu:a.eval y=u) (hsrc:∀i,P.info? te=some i→Src P i.size t2 u ys.length (rowCells e ys zg) w)
  (hoy:Each (fun i hi=>e.Own Γ (ys.getD i e.dft) (zg i) hi) ys.length hn)
  (hsz:(xs.length+ys.length)*(bytesOf P te*2)≤281474976710656) (h63:xs.length+ys.length≤9223372036854775807) (hz:∃i v,P.info? te=some i∧i.zero=some v∧v.cells.size=e.size)
  (hB:∀d,o.dst=some d→Off F [d] rcs0) (hsubL:∀n r,look rcs0 n=some r→look rcs n=some r)
  {k:St→Tr α} {K:α→Prop} {Q:Exit→Act→World→Prop} (hs:(newRowT F.n o te e (xs++ys) s0 k).sat K):o.wp P a w (fun a' w'=>∃s',R F s' a' w'∧(k s').sat K) Q:=by
 obtain ⟨i,hun,hi,hisz⟩:=slOf_spec hsl
 have hsr:=hsrc i hi
 unfold newRowT at hs
 split at hs
 ·rename_i d hd'
  split at hs
  ·rename_i hlt
   have hmem:Mem ((hd.un hn).un hr) w:=g.mem.mono hh
   have mdn:=(Mem.un d2).1 hmem
   have md:=(Mem.un d1).1 mdn.1
   have hsub:∀b v,hr b=some v→h b=some v:=fun b v e'=>hh b v (un_right d2 e')
   obtain ⟨d3,d4⟩:=HF.un_dj.1 d2
   have hexec:∀(v:Value) (w':World),(Builtin.append_ #[t,t2] o.type #[a.eval x,a.eval y]).run P w=.ok v w'→(execOp a.eval o).run P w=.ok (.value v) w':=by
    intro v w' hrun
    simp[execOp,ho,resolve,hb,ha,hat,invoke,builtin,hrun]
   have fin:∀(z':Option (Nat×Nat×Nat)) (zj:Nat→e.Z) (hm:HF) (w':World) (v:Value),v=hdr z' (xs++ys).length→(Kd.sl true te e none).Own Γ (xs++ys) (z',zj) hm→HF.dj hm hr→Mem hm w'→Mem hr w'→MemR Γ w'→w.heap.size≤w'.heap.size →
     (∀b,b<w.heap.size→¬h.has b→w'.heap[b]? = w.heap[b]?)→(∀b,hm.has b→h.has b∨w.heap.size≤b)→(∀b,b<w.heap.size→hr.has b→w'.heap[b]? = w.heap[b]?)→w'.os=w.os→w'.tape=w.tape→w'.output=w.output →
     (Builtin.append_ #[t,t2] o.type #[a.eval x,a.eval y]).run P w=.ok v w'→o.wp P a w (fun a' w'=>∃s',R F s' a' w'∧(k s').sat K) Q:=by
    intro z' zj hm w' v hv how dm mm m0 mR hss hoth hdom hk0 ho1 ho2 ho3 hrun
    have hR:=g.renew (d:=d) (r:=⟨none,.sl true te e none,xs++ys,(z',zj)⟩) (v:=v) (av:=.at d []) (tm:=(fresh s0 d).tm) hsub st nd hlt.2 hlt.1 (hB d hd') hsubL hk0
     (by simpa only[RC.Own] using how) dm mm m0 mR hss hoth hdom ho1 ho2 ho3
     ⟨⟨none,.sl true te e none,xs++ys,(z',zj)⟩,⟨.sl true te e none,xs++ys,(z',zj),(0,0)⟩,by simp[look],by simp[pl],hv⟩ (Good.fresh (F:=F) htm)
    unfold Oper.wp
    rw[hexec v w' hrun,Oper.upon_value,hd']
    rw[←hck] at hR
    exact ⟨_,hR,hs⟩
   have hasd:∀b,hd.has b→h.has b:=fun b hb=>has_sub hh b (HF.has_un.2 (.inl (HF.has_un.2 (.inl hb))))
   have hasn:∀b,hn.has b→h.has b:=fun b hb=>has_sub hh b (HF.has_un.2 (.inl (HF.has_un.2 (.inr hb))))
   have grow:∀(base:Option Addr) (sCap:Nat),a.eval x=.slice base xs.length sCap→sCap<xs.length+ys.length →
     (Builtin.firstCells i.size xs.length (.slice base xs.length sCap)).run P w.drew=.ok (rowCells e xs zf).toArray w.drew→o.wp P a w (fun a' w'=>∃s',R F s' a' w'∧(k s').sat K) Q:=by
    intro base sCap hxv hlt' hold
    obtain ⟨zi,zv0,hzi,hzv,hzs⟩:=hz
    rw[hi] at hzi
    injection hzi with hzi
    subst hzi
    have hbytes:bytesOf P te=i.bytes:=by simp[bytesOf,hi]
    have hfit:Builtin.nextslicecap (xs.length+ys.length) sCap*i.bytes≤281474976710656:=by
     have h1:=nextcap_le _ _ hlt'
     have h2:=mul_le_mul_right i.bytes h1
     rw[hbytes] at hsz
     have h3:2*(xs.length+ys.length)*i.bytes=(xs.length+ys.length)*(i.bytes*2):=by
      rw[Nat.mul_comm 2,Nat.mul_assoc,Nat.mul_comm 2]
     omega
    have hrun:=run_append_grow_src (P:=P) w t t2 o.type te i zv0 hun hi hzv base xs.length sCap (rowCells e xs zf) hold u ys.length (rowCells e ys zg) hsr hlt' (by omega) hfit
    rw[←hxv,←hu] at hrun
    obtain ⟨h2,hs2,mk⟩:=own_grow (t:=te) hox hoy d1
    have hcapv:xs.length+ys.length≤grownCap w (xs.length+ys.length) sCap te∧grownCap w (xs.length+ys.length) sCap te≤9223372036854775807:=by
     have hq:grownCap w (xs.length+ys.length) sCap te=(xs.length+ys.length)+w.tape w.drawn (.appendCap (xs.length+ys.length) sCap te)%(2^63-(xs.length+ys.length)):=rfl
     rw[hq]
     have:=Nat.mod_lt (w.tape w.drawn (.appendCap (xs.length+ys.length) sCap te)) (show 0<2^63-(xs.length+ys.length) by omega)
     omega
    generalize grownCap w (xs.length+ys.length) sCap te=cap at hrun hcapv
    have hzl:(Builtin.zeroCells zv0.cells (cap-(xs.length+ys.length))).size=(cap-(xs.length+ys.length))*e.size:=by simp[Builtin.zeroCells,hzs]
    generalize Builtin.zeroCells zv0.cells (cap-(xs.length+ys.length))=rest at hrun hzl
    have lt2:∀ {x:HF},Mem x w→HF.dj (HF.one w.heap.size ((rowCells e xs zf++rowCells e ys zg).toArray++rest) te) x:=fun {x} m=>HF.dj_iff.2 fun b hb hx=>by
     rw[HF.has_one] at hb
     subst hb
     exact Nat.lt_irrefl _ (m.lt hx)
    have d2n:HF.dj h2 hn:=HF.dj_iff.2 fun b hb hx=>by
     refine HF.dj_iff.1 d1 b ?_ hx
     cases e':h2 b with
     |none=>exact absurd e' hb
     |some x=>unfold HF.has; rw[hs2 b x e']; simp
    have d2r:HF.dj h2 hr:=HF.dj_iff.2 fun b hb hx=>by
     refine HF.dj_iff.1 d3 b ?_ hx
     cases e':h2 b with
     |none=>exact absurd e' hb
     |some x=>unfold HF.has; rw[hs2 b x e']; simp
    have m2:Mem h2 w:=md.1.mono hs2
    have m2n:Mem (h2.un hn) w:=(Mem.un d2n).2 ⟨m2,md.2⟩
    have how:=mk w.heap.size cap ((rowCells e xs zf++rowCells e ys zg).toArray++rest) rest.toList (by simp) hcapv.1 hcapv.2 (by
     simp only[Array.size_append,List.size_toArray,length_append,rowCells_length,hzl]
     rw[←add_mul,←add_mul]
     exact mul_le_mul_right _ (by omega)) (lt2 m2n)
    refine fin (some (w.heap.size,0,cap)) _ _ (w.drew.alloc (Obj.cells ((rowCells e xs zf++rowCells e ys zg).toArray++rest) te)) (Value.slice (some { block:=w.heap.size,off:=0 }) (xs.length+ys.length) cap) ?_ how ?_ ?_ ?_ ?_ ?_ ?_ ?_ (fun b hb _=>heap_alloc w.drew _ _ (ne_of_lt hb)) rfl rfl rfl hrun
    ·simp[hdr,length_append]
    ·exact HF.un_dj.2 ⟨lt2 mdn.2,HF.un_dj.2 ⟨d2r,d4⟩⟩
    ·exact (Mem.un (lt2 m2n)).2 ⟨Mem.one.2 ⟨0,0,heap_alloc_new w.drew _,fun o _=>by omega⟩,Mem.alloc (w:=w.drew) m2n _⟩
    ·exact Mem.alloc (w:=w.drew) mdn.2 _
    ·exact MemR.alloc (w:=w.drew) g.memR _
    ·simp
    ·intro b hb _
     exact heap_alloc w.drew _ _ (ne_of_lt hb)
    ·intro b hb
     rcases HF.has_un.1 hb with hb | hb
     ·rw[HF.has_one] at hb; right; omega
     ·rcases HF.has_un.1 hb with hb | hb
      ·left
       refine hasd b ?_
       cases e':h2 b with
       |none=>exact absurd e' hb
       |some x=>unfold HF.has; rw[hs2 b x e']; simp
      ·exact .inl (hasn b hb)
   cases zo with
   |none =>
    obtain ⟨hx0,hd0⟩:=hox
    have hx0':xs=[]:=hx0
    by_cases hy0:ys.length=0
    ·have hy0':ys=[]:=List.eq_nil_of_length_eq_zero hy0
     subst hx0'; subst hy0'
     have hn0:hn=HF.emp:=hoy
     refine fin none zf HF.emp w (.slice none 0 0) rfl ⟨rfl,rfl⟩ (HF.emp_dj _) (Mem.emp w) mdn.2 g.memR (Nat.le_refl _) (fun _ _ _=>rfl) (fun b hb=>by simp[HF.has,HF.emp] at hb) (fun _ _ _=>rfl) rfl rfl rfl ?_
     rw[hx,hu]
     have hlen:=hsr.len w
     have hcl:=hsr.cells
     rcases hsr.kind with ⟨e',hk⟩ | hk<;>simp[hdr,Builtin.append_,run_underlying hun,run_underlying hk,sizeOf,typeInfo,hi,hlen,hcl]<;>simp_all
    ·refine grow none 0 (by rw[hx,hx0']; rfl) (by omega) ?_
     rw[run_firstCells_none]
     subst hx0'
     rfl
   |some q =>
    obtain ⟨b,off,cap⟩:=q
    have hxv:a.eval x=.slice (some ⟨b,off,none⟩) xs.length cap:=hx
    by_cases hroom:xs.length+ys.length≤cap
    ·obtain ⟨how,hhas,c0,t0,hc0,hfits⟩:=own_room (news:=rowCells e ys zg) hox hoy d1 hroom (rowCells_length e ys zg) (fun i hi j hj=>rowCells_get hi hj)
     obtain ⟨lo,hi',hm0,hnf⟩:=md.1.cel b c0 t0 hc0
     have hrun:=run_append_room_src (P:=P) w t t2 o.type te i hun hi b off xs.length cap u ys.length (rowCells e ys zg) hsr hroom
      (fun j hj=>by rw[hisz,cell_at hm0,Array.getElem?_eq_getElem (by omega)]; rfl)
      (fun j hj=>by
       rw[hisz]
       have:=hnf (off+xs.length*e.size+j) (by omega)
       simp only[World.frozen?,hm0]
       simpa using this)
     rw[hisz,←hxv,←hu] at hrun
     obtain ⟨e1,e2,e3,e4,e5⟩:=setCells_same b (rowCells e ys zg) (off+xs.length*e.size) w
     have hbn:¬hn.has b:=fun f=>HF.dj_iff.1 d1 b hhas f
     have hbr:¬hr.has b:=fun f=>HF.dj_iff.1 d3 b hhas f
     refine fin (some (b,off,cap)) _ _ _ _ ?_ how ?_ ?_ ?_ ?_ ?_ ?_ ?_ (fun b' _ hb'=>heap_setCells_ne _ _ _ _ _ fun f=>hbr (by subst f; exact hb')) e1 e2 e4 hrun
     ·simp[hdr,length_append]
     ·exact HF.un_dj.2 ⟨HF.upd_dj.2 d3,d4⟩
     ·have:=Mem.upd (b:=b) (off:=off+xs.length*e.size) (vs:=rowCells e ys zg) mdn.1
      rw[HF.upd_un,HF.upd_not hbn] at this
      exact this
     ·have:=Mem.upd (b:=b) (off:=off+xs.length*e.size) (vs:=rowCells e ys zg) mdn.2
      rw[HF.upd_not hbr] at this
      exact this
     ·exact MemR.upd g.memR fun f=>HF.dj_iff.1 g.dj b f (hasd b hhas)
     ·rw[e5]; exact Nat.le_refl _
     ·intro b' _ hb'
      exact heap_setCells_ne _ _ _ _ _ fun f=>hb' (f▸hasd b hhas)
     ·intro b' hb'
      rcases HF.has_un.1 hb' with f | f
      ·exact .inl (hasd b' (HF.upd_has.1 f))
      ·exact .inl (hasn b' f)
    ·refine grow (some ⟨b,off,none⟩) cap hxv (by omega) ?_
     refine run_firstCells_some w.drew i.size xs.length ⟨b,off,none⟩ xs.length cap (rowCells e xs zf) (by rw[rowCells_length,hisz]) ?_
     obtain ⟨c0,h2,_,_,_,hl,_,hdd⟩:=hox
     simp only[if_true] at hdd
     obtain ⟨hdd,rfl⟩:=hdd
     obtain ⟨lo,hi',hm0,hnf⟩:=md.1.cel b c0 te one_self
     intro j v hv
     have:=range_of hm0 (rowCells_lie.2 hl) j v hv
     rw[Addr.add_mid]
     exact this
  ·exact hs.elim
 ·exact hs.elim
def srcList (s:St):SV→Option ((e:Kd)×List e.T)
 |.val (.sl false _ e none) ys=>some ⟨e,ys⟩
 |.at id p=>match look s.ck id with
  |some c=>match getP c.K c.x p with
   |some ⟨.sl true _ e none,ys⟩=>some ⟨e,ys⟩
   |_=>none
  |none=>none
 |.slc id p off len=>match look s.ck id with
  |some c=>match getP c.K c.x p with
   |some ⟨.sl true _ e none,ys⟩=>some ⟨e,(drop off ys).take len⟩
   |_=>none
  |none=>none
 |_=>none
theorem Good.ownAt {F:Fr} {s:St} {a:Act} {w:World} {Γ:HF} {rcs:List (Nat×RC)} {h:HF} (g:Good F s a w Γ rcs h) {id:Nat} {p:List Sel} {r:RC} {q:At} (hr:look rcs id=some r)
  (hp:pl r.K r.x r.z p ((r.box.getD (0,0)).1,0)=some q):∃hq,(∀b v,hq b=some v→h b=some v)∧q.K.Own Γ q.x q.z hq:=by
 obtain ⟨h1,hr',d,e,o1⟩:=star_take g.star hr
 obtain ⟨h2,s2,o2⟩:=rc_own o1
 obtain ⟨hq,s3,o3⟩:=own_pl p _ _ _ _ _ o2 hp
 exact ⟨hq,fun b v e'=>by rw[e]; exact un_left (s2 b v (s3 b v e')),o3⟩
theorem each_free {Γ:HF} {e:Kd} {xs:List e.T} {zf:Nat→e.Z} (hf:e.free=true):∀ {n:Nat} {h:HF} {hole:Option Nat},hole=none→Each (fun i hi=>if hole=some i then hi=HF.emp else e.Own Γ (xs.getD i e.dft) (zf i) hi) n h→∀i,i<n→e.Own Γ (xs.getD i e.dft) (zf i) HF.emp
 |n,h,hole,hh,he,i,hi=>by
  subst hh
  obtain ⟨_,hi',_,_,oi,_⟩:=Each.take hi he
  rw[if_neg (by simp)] at oi
  have:=own_free hf oi
  subst this
  exact oi
theorem getD_window {α:Type} {l:List α} {off len i:Nat} {d:α} (hi:i<len):((l.drop off).take len).getD i d=l.getD (off+i) d:=by
 simp[getD_eq_getElem?_getD,List.getElem?_take,hi,List.getElem?_drop]
theorem src_is {P:Program} {F:Fr} {s:St} {a:Act} {w:World} {Γ:HF} {rcs:List (Nat×RC)} {h:HF} (g:Good F s a w Γ rcs h) {v:SV} {u:Value} (hv:v.is Γ rcs u) {e:Kd} {ys:List e.T} (hs:srcList s v=some ⟨e,ys⟩) (hf:e.free=true) (hnu:noUn e=true)
  {t2 e':TypeId} (hk:P.underlying t2=some (.slice e')):∃zg:Nat→e.Z,Src P e.size t2 u ys.length (rowCells e ys zg) w∧∀i,i<ys.length→e.Own Γ (ys.getD i e.dft) (zg i) HF.emp:=by
 have one:∀(ys:List e.T) (zg:Nat→e.Z),∀x∈rowCells e ys zg,x.oneCell'=true:=fun ys zg x hx=>by
  obtain ⟨i,_,hi⟩:=List.mem_flatMap.1 hx
  exact cells_one e _ _ hnu x hi
 have nil:∀c:Nat,Src P e.size t2 (.slice none 0 c) ([]:List e.T).length (rowCells e [] fun _=>e.zd) w:=fun c=>Src.ofNil w hk c
 have some_:∀(ys:List e.T) (zg:Nat→e.Z) (b o c:Nat) (cc:Array Value) (t:TypeId) (f:Nat×Nat),w.heap[b]? = some (.cells cc t f)→(∀i,i<ys.length→Lie cc (o+i*e.size) (e.cells (ys.getD i e.dft) (zg i)))→Src P e.size t2 (.slice (some ⟨b,o,none⟩) ys.length c) ys.length (rowCells e ys zg) w:=by
  intro ys zg b o c cc t f hw hl
  refine Src.ofSlice w hk ⟨b,o,none⟩ ys.length c _ (rowCells_length e ys zg) (fun j x hx=>?_) (one ys zg)
  rw[Addr.add_mid]
  exact range_of hw (rowCells_lie.2 hl) j x hx
 unfold srcList at hs
 split at hs
 ·rename_i t e0 ys0
  simp only[Option.some.injEq,Sigma.mk.injEq] at hs
  obtain ⟨rfl,hs⟩:=hs
  obtain rfl:=eq_of_heq hs
  obtain ⟨_,⟨zo,zf⟩,o,hu⟩:=hv
  cases zo with
  |none =>
   obtain ⟨hx,_⟩:=o
   have hx':ys0=[]:=hx
   subst hx'
   exact ⟨fun _=>e0.zd,by rw[hu]; exact nil 0,fun i hi=>by simp at hi⟩
  |some q =>
   obtain ⟨b,off,cap⟩:=q
   obtain ⟨c,h2,_,_,_,hl,he,hd⟩:=o
   simp only[Bool.false_eq_true,if_false] at hd
   obtain ⟨⟨t',hd⟩,_⟩:=hd
   obtain ⟨f,hw⟩:=g.memR.cel b c t' hd
   exact ⟨zf,by rw[hu]; exact some_ ys0 zf b off cap c t' f hw hl,each_free hf rfl he⟩
 ·rename_i id p
  split at hs
  ·rename_i c hc
   split at hs
   ·rename_i t e0 ys0 hg
    simp only[Option.some.injEq,Sigma.mk.injEq] at hs
    obtain ⟨rfl,hs⟩:=hs
    obtain rfl:=eq_of_heq hs
    obtain ⟨r,q,hr,hp,hu⟩:=hv
    obtain rfl:=g.same hc hr
    have hget:=pl_get p _ _ _ _ hp
    simp only[RC.ck] at hg
    rw[hget] at hg
    injection hg with hg
    obtain ⟨hq,hsub,how⟩:=g.ownAt hr hp
    obtain ⟨qK,qx,qz,qa⟩:=q
    simp only[Sigma.mk.injEq] at hg
    obtain ⟨rfl,hg⟩:=hg
    obtain rfl:=eq_of_heq hg
    obtain ⟨zo,zf⟩:=qz
    cases zo with
    |none =>
     obtain ⟨hx,_⟩:=how
     have hx':qx=[]:=hx
     subst hx'
     exact ⟨fun _=>e0.zd,by rw[hu]; exact nil 0,fun i hi=>by simp at hi⟩
    |some q =>
     obtain ⟨b,off,cap⟩:=q
     obtain ⟨c,h2,_,_,_,hl,he,hd⟩:=how
     simp only[if_true] at hd
     obtain ⟨hd,rfl⟩:=hd
     obtain ⟨lo,hi',hw,_⟩:=g.mem.cel b c t (hsub b _ one_self)
     exact ⟨zf,by rw[hu]; exact some_ qx zf b off cap c t _ hw hl,each_free hf rfl he⟩
   ·cases hs
  ·cases hs
 ·rename_i id p off len
  split at hs
  ·rename_i c hc
   split at hs
   ·rename_i t e0 ys0 hg
    simp only[Option.some.injEq,Sigma.mk.injEq] at hs
    obtain ⟨rfl,hs⟩:=hs
    obtain rfl:=eq_of_heq hs
    obtain ⟨r,t1,e1,hole,x',z',qa,hr,hp,hle,hu⟩:=hv
    obtain rfl:=g.same hc hr
    have hget:=pl_get p _ _ _ _ hp
    simp only[RC.ck] at hg
    rw[hget] at hg
    simp only[Option.some.injEq,Sigma.mk.injEq,Kd.sl.injEq,true_and] at hg
    obtain ⟨⟨rfl,rfl,rfl⟩,hg⟩:=hg
    obtain rfl:=eq_of_heq hg
    obtain ⟨hq,hsub,how⟩:=g.ownAt hr hp
    have hlen:(take len (drop off x')).length=len:=by
     rw[length_take,length_drop]; omega
    obtain ⟨zo,zf⟩:=z'
    rcases hu with ⟨rfl,hu⟩ | ⟨b,o',cap,hz,hu⟩
    ·refine ⟨fun _=>e1.zd,?_,fun i hi=>by simp at hi⟩
     simp only[List.take_zero]
     rcases hu with hu | ⟨_,_,_,off2,cap2,_,hu,_⟩
     ·rw[hu]; exact nil 0
     ·rw[hu]; exact Src.ofSlice w hk _ 0 cap2 [] (by simp) (fun j x hx=>by simp at hx) (fun x hx=>by cases hx)
    ·simp only at hz
     subst hz
     obtain ⟨c,h2,_,_,_,hl,he,hd⟩:=how
     simp only[if_true] at hd
     obtain ⟨hd,rfl⟩:=hd
     obtain ⟨lo,hi',hw,_⟩:=g.mem.cel b c t1 (hsub b _ one_self)
     have hef:=each_free hf rfl he
     refine ⟨fun i=>zf (off+i),?_,fun i hi=>?_⟩
     ·have:=some_ (take len (drop off x')) (fun i=>zf (off+i)) b (o'+off*e1.size) (cap-off) c t1 _ hw (fun i hi=>by
       rw[hlen] at hi
       rw[getD_window hi,Nat.add_assoc,←add_mul]
       exact hl (off+i) (show off+i<length x' by omega))
      rw[hlen] at this
      rw[hu,hlen]
      exact this
     ·rw[hlen] at hi
      rw[getD_window hi]
      exact hef (off+i) (show off+i<length x' by omega)
   ·cases hs
  ·cases hs
 ·cases hs
structure TC (K:Kd) where
 t:TypeId
 e:Kd
 K':Kd
 c:Tk (.sl true t e none) K K'
def tkC:(K:Kd)→List Sel→Option (TC K)
 |.sl true t e none,[]=>some ⟨t,e,.un,.nil⟩
 |.pair a b,.fst::p=>match tkC a p with
  |some m=>some ⟨m.t,m.e,.pair m.K' b,.fst m.c⟩
  |none=>none
 |.pair a b,.snd::p=>match tkC b p with
  |some m=>some ⟨m.t,m.e,.pair a m.K',.snd m.c⟩
  |none=>none
 |.sl true t (.sl true t' e none) none,[.idx i]=>some ⟨t',e,.sl true t (.sl true t' e none) (some i),.take i⟩
 |_,_=>none
theorem tkC_idx {i:Nat} {p:List Sel} {K:Kd} {m:TC K} (h:tkC K (.idx i::p)=some m) (Q:(p:List Sel)→(K:Kd)→TC K→Prop) (hq:∀t t' e,Q [] (.sl true t (.sl true t' e none) none) ⟨t',e,.sl true t (.sl true t' e none) (some i),.take i⟩):Q p K m:=by
 cases K with
 |sl o t e hole =>
  cases o with
  |false=>simp[tkC] at h
  |true =>
   cases hole with
   |some j=>cases p<;>simp[tkC] at h
   |none =>
    cases p with
    |cons _ _=>simp[tkC] at h
    |nil =>
     cases e with
     |sl o' t' e' hole' =>
      cases o' with
      |false=>simp[tkC] at h
      |true =>
       cases hole' with
       |some j=>simp[tkC] at h
       |none =>
        simp only[tkC,Option.some.injEq] at h
        subst h
        exact hq t t' e'
     |_=>simp[tkC] at h
 |_=>simp[tkC] at h
theorem tkC_pl:∀(p:List Sel) {K:Kd} {m:TC K},tkC K p=some m→∀(x:K.T) (z:K.Z) (a:Nat×Nat) (q:At),pl K x z p a=some q→m.c.valid x∧∃a',q=⟨.sl true m.t m.e none,m.c.get x,m.c.getZ z,a'⟩
 | [],K,m,h,x,z,a,q,hp=>by
  cases K with
  |sl o t e hole =>
   cases o with
   |false=>simp[tkC] at h
   |true =>
    cases hole with
    |some j=>simp[tkC] at h
    |none =>
     simp only[tkC,Option.some.injEq] at h
     subst h
     simp only[pl,Option.some.injEq] at hp
     subst hp
     exact ⟨trivial,a,rfl⟩
  |_=>simp[tkC] at h
 |.fst::p,K,m,h,x,z,a,q,hp=>by
  cases K with
  |pair k b =>
   simp only[tkC] at h
   split at h
   ·rename_i m0 hm
    injection h with h
    subst h
    exact tkC_pl p hm x.1 z.1 a q hp
   ·cases h
  |_=>simp[tkC] at h
 |.snd::p,K,m,h,x,z,a,q,hp=>by
  cases K with
  |pair k b =>
   simp only[tkC] at h
   split at h
   ·rename_i m0 hm
    injection h with h
    subst h
    exact tkC_pl p hm x.2 z.2 _ q hp
   ·cases h
  |_=>simp[tkC] at h
 |.idx i::p,K,m,h,x,z,a,q,hp=>by
  refine tkC_idx h (fun p K m=>∀(x:K.T) (z:K.Z) (q:At),pl K x z (.idx i::p) a=some q→m.c.valid x∧∃a',q=⟨.sl true m.t m.e none,m.c.get x,m.c.getZ z,a'⟩) ?_ x z q hp
  intro t t' e x z q hp
  simp only[pl] at hp
  split at hp
  ·rename_i b o c hz
   split at hp
   ·rename_i hlt
    injection hp with hp
    subst hp
    exact ⟨hlt,_,rfl⟩
   ·cases hp
  ·cases hp
theorem Tk.size_eq {K1:Kd} (hs:K1.size=1):∀ {K K':Kd},Tk K1 K K'→K'.size=K.size
 |_,_,.nil=>by rw[hs]; rfl
 |_,_,.fst c=>by simp only[Kd.size,c.size_eq hs]
 |_,_,.snd c=>by simp only[Kd.size,c.size_eq hs]
 |_,_,.take i=>rfl
theorem tkC_single:∀(p:List Sel) {K:Kd} {m:TC K},tkC K p=some m→single m.K'=single K:=by
 intro p K m h
 cases p with
 |nil =>
  cases K with
  |sl o t e hole =>
   cases o with
   |false=>simp[tkC] at h
   |true =>
    cases hole with
    |some j=>simp[tkC] at h
    |none =>
     simp only[tkC,Option.some.injEq] at h
     subst h
     rfl
  |_=>simp[tkC] at h
 |cons s p =>
  cases s with
  |fst =>
   cases K with
   |pair k b =>
    simp only[tkC] at h
    split at h
    ·injection h with h; subst h; rfl
    ·cases h
   |_=>simp[tkC] at h
  |snd =>
   cases K with
   |pair k b =>
    simp only[tkC] at h
    split at h
    ·injection h with h; subst h; rfl
    ·cases h
   |_=>simp[tkC] at h
  |idx i=>exact tkC_idx h (fun p K m=>single m.K'=single K) fun _ _ _=>rfl
theorem thru_tk (p:List Sel):∀(p':List Sel) {K:Kd} {m:TC K},tkC K p=some m→(div p p'=true∨beg p p'=true)→thru K p'=true→thru m.K' p'=true:=by
 induction p with
 |nil =>
  intro p' K m h hd ht
  cases p' with
  |nil=>cases K<;>simp[thru] at ht
  |cons s' p'=>simp[div,beg] at hd
 |cons s p ih =>
  intro p' K m h hd ht
  cases p' with
  |nil=>cases K<;>simp[thru] at ht
  |cons s' p' =>
   cases s with
   |fst =>
    cases K with
    |pair a b =>
     simp only[tkC] at h
     split at h
     ·rename_i m0 hm
      injection h with h
      subst h
      cases s' with
      |fst=>exact ih p' hm (by simpa[div,beg] using hd) ht
      |snd=>exact ht
      |idx j=>simp[thru] at ht
     ·cases h
    |_=>simp[tkC] at h
   |snd =>
    cases K with
    |pair a b =>
     simp only[tkC] at h
     split at h
     ·rename_i m0 hm
      injection h with h
      subst h
      cases s' with
      |snd=>exact ih p' hm (by simpa[div,beg] using hd) ht
      |fst=>exact ht
      |idx j=>simp[thru] at ht
     ·cases h
    |_=>simp[tkC] at h
   |idx i =>
    refine tkC_idx h (fun p K m=>thru K (s'::p')=true→thru m.K' (s'::p')=true) ?_ ht
    intro t t' e ht
    cases s'<;>simp_all [thru]
theorem pl_tk (p:List Sel):∀(p':List Sel) {K:Kd} {m:TC K},tkC K p=some m→(div p p'=true∨beg p p'=true)→∀(x:K.T) (z:K.Z) (a:Nat×Nat) (q:At),pl K x z p' a=some q →
  ∃q',pl m.K' (m.c.rest x) (m.c.restZ x z) p' a=some q'∧Left p p' q q':=by
 induction p with
 |nil =>
  intro p' K m h hd x z a q hp
  cases p' with
  |nil =>
   simp only[pl,Option.some.injEq] at hp
   subst hp
   exact ⟨⟨m.K',m.c.rest x,m.c.restZ x z,a⟩,by simp only[pl],rfl,fun h=>by simp[div] at h,fun _ h=>by simp at h⟩
  |cons s' p'=>simp[div,beg] at hd
 |cons s p ih =>
  intro p' K m h hd x z a q hp
  cases p' with
  |nil =>
   simp only[pl,Option.some.injEq] at hp
   subst hp
   refine ⟨⟨m.K',m.c.rest x,m.c.restZ x z,a⟩,by simp only[pl],rfl,fun h=>by cases s<;>simp[div] at h,fun _ _=>?_⟩
   intro o t e hole x0 z0 a0 hq
   injection hq with h1 h2 h3 h4
   subst h1; subst h4
   obtain rfl:=eq_of_heq h2
   obtain rfl:=eq_of_heq h3
   cases s with
   |fst=>simp[tkC] at h
   |snd=>simp[tkC] at h
   |idx i =>
    have key:=tkC_idx h (fun p K m=>∀o t e hole,∀(hK:K=.sl o t e hole),∀(x:(Kd.sl o t e hole).T) (z:(Kd.sl o t e hole).Z),∃hole' x' z',(⟨m.K',m.c.rest (hK▸x),m.c.restZ (hK▸x) (hK▸z),a⟩:At)=⟨.sl o t e hole',x',z',a⟩∧z'.1=z.1∧length x'=length x) (fun t1 t2 e1 o t e hole hK x z=>by
     injection hK with q1 q2 q3 q4
     subst q1; subst q2; subst q3; subst q4
     exact ⟨some i,_,_,rfl,rfl,rfl⟩)
    exact key o t e hole rfl x z
  |cons s' p' =>
   cases s with
   |fst =>
    cases K with
    |pair k b =>
     simp only[tkC] at h
     split at h
     ·rename_i m0 hm
      injection h with h
      subst h
      cases s' with
      |fst =>
       obtain ⟨q',e,l⟩:=ih p' hm (by simpa[div,beg] using hd) x.1 z.1 a q hp
       exact ⟨q',e,l.fst⟩
      |snd =>
       simp only[pl] at hp ⊢
       rw[Tk.size_eq rfl m0.c]
       exact ⟨q,hp,Left.same⟩
      |idx j=>simp[pl] at hp
     ·cases h
    |_=>simp[tkC] at h
   |snd =>
    cases K with
    |pair k b =>
     simp only[tkC] at h
     split at h
     ·rename_i m0 hm
      injection h with h
      subst h
      cases s' with
      |snd =>
       obtain ⟨q',e,l⟩:=ih p' hm (by simpa[div,beg] using hd) x.2 z.2 _ q hp
       exact ⟨q',e,l.snd⟩
      |fst=>exact ⟨q,hp,Left.same⟩
      |idx j=>simp[pl] at hp
     ·cases h
    |_=>simp[tkC] at h
   |idx i =>
    refine tkC_idx h (fun p K m=>(div (.idx i::p) (s'::p')=true∨beg (.idx i::p) (s'::p')=true)→∀(x:K.T) (z:K.Z),pl K x z (s'::p') a=some q→∃q',pl m.K' (m.c.rest x) (m.c.restZ x z) (s'::p') a=some q'∧Left (.idx i::p) (s'::p') q q') ?_ hd x z hp
    intro t1 t2 e1 hd x z hp
    cases s' with
    |fst=>simp[div,beg] at hd
    |snd=>simp[div,beg] at hd
    |idx j =>
     cases p' with
     |cons s2 p2=>simp[div,beg] at hd
     |nil =>
      simp only[pl] at hp
      obtain ⟨zo,zf⟩:=z
      split at hp
      ·rename_i b o c hz
       simp only at hz
       subst hz
       split at hp
       ·rename_i hlt
        injection hp with hp
        subst hp
        have hc:j<length x∧(Kd.sl true t2 e1 none).size=1:=⟨hlt,rfl⟩
        exact ⟨_,if_pos hc,rfl,fun h=>by simp[div] at h,fun _ h=>by simp at h⟩
       ·cases hp
      ·cases hp
theorem toV_eq {K K':Kd} {l l':List Value} (e:l=l') (s:single K=single K'):toV K l=toV K' l':=by
 unfold toV
 rw[e,s]
theorem rc_tk {Γ:HF} {r:RC} {h1:HF} {p:List Sel} {m:TC r.K} (o:r.Own Γ h1) (hv:m.c.valid r.x) :
  ∃hA hB,HF.dj hA hB∧h1=hA.un hB∧(⟨r.box,m.K',m.c.rest r.x,m.c.restZ r.x r.z⟩:RC).Own Γ hA∧(Kd.sl true m.t m.e none).Own Γ (m.c.get r.x) (m.c.getZ r.z) hB∧m.K'.cells (m.c.rest r.x) (m.c.restZ r.x r.z)=r.K.cells r.x r.z:=by
 obtain ⟨rb,K,x,z⟩:=r
 cases rb with
 |none =>
  have o':K.Own Γ x z h1:=o
  obtain ⟨hr,ho,d,e,o1,o2,ec⟩:=tk_own rfl m.c x z h1 hv o'
  exact ⟨hr,ho,d,e,o2,o1,ec⟩
 |some bt =>
  obtain ⟨c,h2,d,rfl,o',hc⟩:=o
  obtain ⟨hr,ho,d1,rfl,o1,o2,ec⟩:=tk_own rfl m.c x z h2 hv o'
  obtain ⟨d2,d3⟩:=HF.dj_un.1 d
  refine ⟨(HF.one bt.1 c bt.2).un hr,ho,HF.un_dj.2 ⟨d3,d1⟩,(HF.un_assoc _ _ _).symm,⟨c,hr,d2,rfl,o2,hc.trans ec.symm⟩,o1,ec⟩
theorem look_of_mem {β:Type} {l:List (Nat×β)} (nd:(l.map (·.1)).Nodup) {n:Nat} {v:β} (h:(n,v)∈l):look l n=some v:=by
 induction l with
 |nil=>cases h
 |cons x l ih =>
  obtain ⟨k,u⟩:=x
  rw[map_cons,nodup_cons] at nd
  simp only[look]
  rcases List.mem_cons.1 h with e | e
  ·injection e with e1 e2; subst e1; subst e2; simp
  ·have:k≠n:=fun q=>nd.1 (List.mem_map.2 ⟨_,e,q.symm⟩)
   rw[if_neg (by simpa using this)]
   exact ih nd.2 e
theorem look_mapC (rcs:List (Nat×RC)) (id:Nat):look (rcs.map fun r=>(r.1,r.2.ck)) id=(look rcs id).map RC.ck:=by
 induction rcs with
 |nil=>rfl
 |cons x l ih=>simp only[map_cons,look]; split<;>first | rfl | exact ih
def detach (s:St) (id:Nat) (p:List Sel) (new:Nat):Option (Kd×St):=match look s.ck id with
 |some c=>match tkC c.K p with
  |some m=>if (look s.ck new).isNone then some (c.K,⟨s.tm.filter fun y=>keepA id p c.K y.2,(new,⟨none,.sl true m.t m.e none,m.c.get c.x⟩)::updL s.ck id ⟨c.box,m.K',m.c.rest c.x⟩⟩) else none
  |none=>none
 |none=>none
theorem detach_core {F:Fr} {s s':St} {a:Act} {w:World} {Γ:HF} {rcs:List (Nat×RC)} {h:HF} (g:Good F s a w Γ rcs h) {id:Nat} {p:List Sel} {new:Nat} {Kc:Kd} (hd:detach s id p new=some (Kc,s')) (hnew:1000000≤new)
  {r:RC} {q:At} (hr:look rcs id=some r) (hp:pl r.K r.x r.z p ((r.box.getD (0,0)).1,0)=some q):∃rcs' rn,Good F s' a w Γ rcs' h∧(look rcs' new=some rn∧rn.box=none∧∃a',q=⟨rn.K,rn.x,rn.z,a'⟩)∧(∀v u,keepS id p Kc v=true→v.is Γ rcs u→v.is Γ rcs' u)∧∀ids,Off F ids rcs→Off F ids rcs':=by
 unfold detach at hd
 split at hd
 ·rename_i c hc
  split at hd
  ·rename_i m hm
   split at hd
   ·rename_i hn
    injection hd with hd
    injection hd with hK hd
    subst hK; subst hd
    have hcr:c=r.ck:=by
     have:=hc
     rw[←g.ck,look_mapC,hr] at this
     simpa using this.symm
    subst hcr
    have hm':tkC r.K p=some m:=hm
    obtain ⟨hval,a',hq⟩:=tkC_pl p hm' r.x r.z _ q hp
    obtain ⟨h1,hR,d,e,o,put,dl⟩:=star_upd g.star hr g.nodup
    obtain ⟨hA,hB,dAB,e1,oA,oB,ec⟩:=rc_tk (p:=p) (m:=m) o hval
    subst e1
    have hnl:look rcs new=none:=by
     have:look s.ck new=none:=by simpa using hn
     rw[←g.ck,look_mapC] at this
     simpa using this
    have hne:new≠id:=fun f=>by rw[f,hr] at hnl; cases hnl
    obtain ⟨d1,d2⟩:=HF.un_dj.1 d
    have hlk:=look_updL (u:=(⟨r.box,m.K',m.c.rest r.x,m.c.restZ r.x r.z⟩:RC)) r hr
    have hkeys:(updL rcs id ⟨r.box,m.K',m.c.rest r.x,m.c.restZ r.x r.z⟩).map (·.1)=rcs.map (·.1):=updL_keys _ _ _
    have hlk2:∀k,k≠new→look ((new,(⟨none,.sl true m.t m.e none,m.c.get r.x,m.c.getZ r.z⟩:RC))::updL rcs id ⟨r.box,m.K',m.c.rest r.x,m.c.restZ r.x r.z⟩) k=if k=id then some ⟨r.box,m.K',m.c.rest r.x,m.c.restZ r.x r.z⟩ else look rcs k:=fun k hk=>by
     rw[look,if_neg (by simpa using Ne.symm hk),hlk]
    have hself:∀(k:Nat) (r0:RC),look rcs k=some r0→k≠new:=fun k r0 h f=>by rw[f,hnl] at h; cases h
    -- what is told stays
    have keep:∀v u,keepS id p r.K v=true→v.is Γ rcs u→v.is Γ ((new,(⟨none,.sl true m.t m.e none,m.c.get r.x,m.c.getZ r.z⟩:RC))::updL rcs id ⟨r.box,m.K',m.c.rest r.x,m.c.restZ r.x r.z⟩) u:=by
     intro v u hk hi
     cases v with
     |val K x=>exact hi
     |eptr K x=>exact hi
     |nilS=>exact hi
     |nilP=>exact hi
     |bnd f K x=>exact hi
     |clo f caps =>
      obtain ⟨vs,e,hlen,hall⟩:=hi
      refine ⟨vs,e,hlen,fun j id' hj=>?_⟩
      obtain ⟨r0,b,t,hr0,hb,hv⟩:=hall j id' hj
      rw[hlk2 _ (hself _ _ hr0)]
      by_cases hii:id'=id
      ·subst hii
       rw[hr] at hr0
       injection hr0 with hr0
       subst hr0
       exact ⟨_,b,t,if_pos rfl,hb,hv⟩
      ·exact ⟨r0,b,t,by rw[if_neg hii]; exact hr0,hb,hv⟩
     |ptr i p' =>
      obtain ⟨r0,q,hr0,hp,hb,e⟩:=hi
      have hq2:=hlk2 _ (hself _ _ hr0)
      by_cases hii:i=id
      ·subst hii
       rw[hr] at hr0
       injection hr0 with hr0
       subst hr0
       have hd:div p p'=true∨beg p p'=true:=by simpa[keepS] using hk
       obtain ⟨q',hq',l⟩:=pl_tk p p' hm' hd r.x r.z _ q hp
       refine ⟨_,q',hq2.trans (if_pos rfl),hq',fun e=>thru_tk p p' hm' hd (hb e),?_⟩
       rw[l.a]; exact e
      ·exact ⟨r0,q,(hq2.trans (if_neg hii)).trans hr0,hp,hb,e⟩
     | «at» i p' =>
      obtain ⟨r0,q,hr0,hp,e⟩:=hi
      have hq2:=hlk2 _ (hself _ _ hr0)
      by_cases hii:i=id
      ·subst hii
       rw[hr] at hr0
       injection hr0 with hr0
       subst hr0
       have hd:div p p'=true∨(beg p p'=true∧p'.length<p.length)∧isSl (sub r.K p')=true:=by simpa[keepS] using hk
       obtain ⟨q',hq',l⟩:=pl_tk p p' hm' (hd.imp id (fun q=>q.1.1)) r.x r.z _ q hp
       refine ⟨_,q',hq2.trans (if_pos rfl),hq',?_⟩
       rcases hd with hd | ⟨⟨hd,hlt⟩,hsl⟩
       ·rw[l.div hd]; exact e
       ·rw[pl_sub p' _ _ _ _ hp] at hsl
        obtain ⟨qK,qx,qz,qa⟩:=q
        cases qK<;>simp only[isSl,Bool.false_eq_true] at hsl
        obtain ⟨hole',x',z',rfl,e1,e2⟩:=l.hdr hd hlt _ _ _ _ _ _ _ rfl
        rw[e]
        simp only[toV,single,cells,e1,e2]
      ·exact ⟨r0,q,(hq2.trans (if_neg hii)).trans hr0,hp,e⟩
     |slc i p' off len =>
      obtain ⟨r0,t,e,hole,x',z',qa,hr0,hp,hle,hv⟩:=hi
      have hq2:=hlk2 _ (hself _ _ hr0)
      by_cases hii:i=id
      ·subst hii
       rw[hr] at hr0
       injection hr0 with hr0
       subst hr0
       have hd:div p p'=true∨(beg p p'=true∧p'.length<p.length):=by simpa[keepS] using hk
       obtain ⟨q',hq',l⟩:=pl_tk p p' hm' (hd.imp id (fun q=>q.1)) r.x r.z _ _ hp
       rcases hd with hd | ⟨hd,hlt⟩
       ·rw[l.div hd] at hq'
        exact ⟨_,t,e,hole,x',z',qa,hq2.trans (if_pos rfl),hq',hle,hv⟩
       ·obtain ⟨hole',x2,z2,rfl,e1,e2⟩:=l.hdr hd hlt _ _ _ _ _ _ _ rfl
        exact ⟨_,t,e,hole',x2,z2,qa,hq2.trans (if_pos rfl),hq',by rw[e2]; exact hle,by rw[e1]; exact hv⟩
      ·exact ⟨r0,t,e,hole,x',z',qa,(hq2.trans (if_neg hii)).trans hr0,hp,hle,hv⟩
    have keepAv:∀v u,keepA id p r.K v=true→v.is Γ rcs u→v.is Γ ((new,(⟨none,.sl true m.t m.e none,m.c.get r.x,m.c.getZ r.z⟩:RC))::updL rcs id ⟨r.box,m.K',m.c.rest r.x,m.c.restZ r.x r.z⟩) u:=by
     intro v u hk hi
     cases v with
     |one v=>exact keep v u hk hi
     |tup l =>
      obtain ⟨vs,e,hl,hall⟩:=hi
      refine ⟨vs,e,hl,fun i s hs'=>?_⟩
      obtain ⟨u',hu,h'⟩:=hall i s hs'
      exact ⟨u',hu,keep s u' (List.all_eq_true.1 hk s (List.mem_of_getElem? hs')) h'⟩
    refine ⟨_,⟨none,.sl true m.t m.e none,m.c.get r.x,m.c.getZ r.z⟩,⟨?_,?_,?_,g.mem,g.memR,g.dj,g.defers,g.tsz,?_,g.size,g.keep,g.own,g.ro,g.ro0,g.os,g.tape,g.output,g.sg,?_,?_⟩,?_,keep,?_⟩
    ·rw[map_cons,updL_map rcs id (⟨r.box,m.K',m.c.rest r.x,m.c.restZ r.x r.z⟩:RC) RC.ck,g.ck]
     rfl
    ·rw[map_cons,nodup_cons,hkeys]
     refine ⟨fun hmem=>?_,g.nodup⟩
     obtain ⟨y,hy,hy2⟩:=List.mem_map.1 hmem
     have:=look_of_mem g.nodup hy
     rw[hy2,hnl] at this
     cases this
    ·rw[e]
     refine ⟨hB,hA.un hR,HF.dj_un.2 ⟨dAB.symm,d2⟩,?_,oB,put _ hA d1 oA⟩
     rw[←HF.un_assoc,HF.un_comm dAB.symm]
    ·intro t av hmem
     obtain ⟨m1,m2⟩:=List.mem_filter.1 hmem
     obtain ⟨v,hv,hi⟩:=g.tm t av m1
     exact ⟨v,hv,keepAv av v m2 hi⟩
    ·intro e0 he
     obtain ⟨b1,b2⟩:=g.bx e0 he
     refine ⟨b1,fun id2 hid2=>?_⟩
     obtain ⟨r2,t2,hr2,hb2⟩:=b2 id2 hid2
     rw[hlk2 _ (hself _ _ hr2)]
     by_cases hii:id2=id
     ·subst hii
      rw[hr] at hr2
      injection hr2 with hr2
      subst hr2
      exact ⟨_,t2,if_pos rfl,hb2⟩
     ·exact ⟨r2,t2,by rw[if_neg hii]; exact hr2,hb2⟩
    ·intro m0 hm0 r2 hr2
     have hmn:m0.1≠new:=fun f=>by
      have:=(F.hM m0 hm0).2
      omega
     rw[hlk2 _ hmn] at hr2
     by_cases hii:m0.1=id
     ·rw[if_pos hii] at hr2
      injection hr2 with hr2
      subst hr2
      rw[←g.md m0 hm0 r (hii▸hr)]
      unfold RC.head
      cases hbx:r.box with
      |some bt=>rfl
      |none =>
       exact toV_eq ec (tkC_single p hm')
     ·rw[if_neg hii] at hr2
      exact g.md m0 hm0 r2 hr2
    ·exact ⟨if_pos (beq_self_eq_true new),rfl,a',hq⟩
    ·intro ids hO e0 he
     obtain ⟨id2,hid2,hni,r2,t2,hr2,hb2⟩:=hO e0 he
     refine ⟨id2,hid2,hni,?_⟩
     rw[hlk2 _ (hself _ _ hr2)]
     by_cases hii:id2=id
     ·subst hii
      rw[hr] at hr2
      injection hr2 with hr2
      subst hr2
      exact ⟨_,t2,if_pos rfl,hb2⟩
     ·exact ⟨r2,t2,by rw[if_neg hii]; exact hr2,hb2⟩
   ·cases hd
  ·cases hd
 ·cases hd
theorem detach_ok {F:Fr} {s s':St} {a:Act} {w:World} {Γ:HF} {rcs:List (Nat×RC)} {h:HF} (g:Good F s a w Γ rcs h) {id:Nat} {p:List Sel} {new:Nat} {Kc:Kd} (hd:detach s id p new=some (Kc,s')) (hnew:1000000≤new)
  {u:Value} (hu:(SV.at id p).is Γ rcs u):∃rcs',Good F s' a w Γ rcs' h∧(SV.at new []).is Γ rcs' u∧(∀v u,keepS id p Kc v=true→v.is Γ rcs u→v.is Γ rcs' u)∧∀ids,Off F ids rcs→Off F ids rcs':=by
 obtain ⟨r,q,hr,hp,hv⟩:=hu
 obtain ⟨rcs',rn,g',⟨h1,h2,a',h3⟩,h4,h5⟩:=detach_core g hd hnew hr hp
 exact ⟨rcs',g',⟨rn,⟨rn.K,rn.x,rn.z,((rn.box.getD (0,0)).1,0)⟩,h1,by simp only[pl],by rw[hv,h3]⟩,h4,h5⟩
theorem detach_win {F:Fr} {s s':St} {a:Act} {w:World} {Γ:HF} {rcs:List (Nat×RC)} {h:HF} (g:Good F s a w Γ rcs h) {id:Nat} {p:List Sel} {new:Nat} {Kc:Kd} (hd:detach s id p new=some (Kc,s')) (hnew:1000000≤new)
  {off len:Nat} {u:Value} (hu:(SV.slc id p off len).is Γ rcs u):∃rcs',Good F s' a w Γ rcs' h∧(SV.slc new [] off len).is Γ rcs' u:=by
 obtain ⟨r,t,e,hole,x',z',qa,hr,hp,hle,hv⟩:=hu
 obtain ⟨rcs',rn,g',⟨h1,h2,a',h3⟩,h4,h5⟩:=detach_core g hd hnew hr hp
 injection h3 with q1 q2 q3 q4
 obtain ⟨rb,rK,rx,rz⟩:=rn
 simp only at q1 q2 q3 h2
 subst q1; subst h2
 obtain rfl:=eq_of_heq q2
 obtain rfl:=eq_of_heq q3
 exact ⟨rcs',g',⟨none,.sl true t e hole,x',z'⟩,t,e,hole,x',z',_,h1,rfl,hle,hv⟩
def dropC (s:St) (id:Nat):St:=⟨s.tm.filter fun x=>offA id x.2,del s.ck id⟩
structure Sub (F:Fr) (s:St) (a:Act) (Γ:HF) (rcs:List (Nat×RC)) (h:HF):Prop where
 ck:s.ck=rcs.map fun r=>(r.1,r.2.ck)
 nd:(rcs.map (·.1)).Nodup
 st:Star Γ rcs h
 tm:∀x,x∈s.tm→∃v,a.tmps[x.1]? = some v∧x.2.is Γ rcs v
theorem Good.sub {F:Fr} {s:St} {a:Act} {w:World} {Γ:HF} {rcs:List (Nat×RC)} {h:HF} (g:Good F s a w Γ rcs h):Sub F s a Γ rcs h:=⟨g.ck.symm,g.nodup,g.star,fun x hx=>g.tm x.1 x.2 hx⟩
theorem look_map (rcs:List (Nat×RC)) (id:Nat):look (rcs.map fun r=>(r.1,r.2.ck)) id=(look rcs id).map RC.ck:=by
 induction rcs with
 |nil=>rfl
 |cons x l ih=>simp only[map_cons,look]; split<;>first | rfl | exact ih
theorem Sub.drop {F:Fr} {s:St} {a:Act} {Γ:HF} {rcs:List (Nat×RC)} {h:HF} (u:Sub F s a Γ rcs h) {id:Nat} {K:Kd} {x:K.T} (hl:look s.ck id=some ⟨none,K,x⟩) :
  ∃(z:K.Z) (h1 hr:HF),look rcs id=some ⟨none,K,x,z⟩∧HF.dj h1 hr∧h=h1.un hr∧K.Own Γ x z h1∧Sub F (dropC s id) a Γ (del rcs id) hr:=by
 rw[u.ck,look_map] at hl
 cases hr:look rcs id with
 |none=>rw[hr] at hl; cases hl
 |some r =>
  rw[hr] at hl
  simp only[map_some,Option.some.injEq,RC.ck,Ck.mk.injEq] at hl
  obtain ⟨rb,rK,rx,rz⟩:=r
  simp only at hl
  obtain ⟨hb,rfl,hx⟩:=hl
  obtain rfl:=eq_of_heq hx
  have hb':rb=none:=by cases rb<;>simp_all
  subst hb'
  obtain ⟨h1,hR,d,e,o,_,dl⟩:=star_upd u.st hr u.nd
  refine ⟨rz,h1,hR,rfl,d,e,o,?_,del_nodup u.nd id,dl,?_⟩
  ·show del s.ck id=_
   rw[u.ck]
   simp only[del,filter_map]
   rfl
  ·intro y hy
   obtain ⟨e1,e2⟩:=List.mem_filter.1 hy
   obtain ⟨v,hv,hi⟩:=u.tm y e1
   exact ⟨v,hv,offA_is e2 hi⟩
def zeroSz (P:Program) (te:TypeId) (m:Nat):Bool:=match P.info? te with
 |some i=>match i.zero with
  |some v=>v.cells.size==m
  |none=>false
 |none=>false
def castL {e e':Kd} (h:e'=e) (xs:List e'.T):List e.T:=by subst h; exact xs
def appT (P:Program) (n:Lim) (o:Oper) (te:TypeId) (e:Kd) (xs ys:List e.T) (s:St) (k:St→Tr α):Tr α :=
 .need ((xs.length+ys.length)*(bytesOf P te*2)≤281474976710656∧xs.length+ys.length≤9223372036854775807) (newRowT n o te e (xs++ys) s k)
def dstT (P:Program) (n:Lim) (o:Oper) (te:TypeId) (e:Kd) (ys:List e.T) (dv:SV) (s:St) (k:St→Tr α):Tr α:=match dv with
 |.nilS=>appT P n o te e [] ys s k
 |.at id []=>match look s.ck id with
  |some ⟨none,.sl true t' e' none,xs⟩=>if h:t'=te∧e'=e then appT P n o te e (castL h.2 xs) ys (dropC s id) k else .bad
  |_=>.bad
 |_=>.bad
theorem dstT_ok {P:Program} {F:Fr} {s s1:St} {a:Act} {w:World} {Γ:HF} {rcs rcs1:List (Nat×RC)} {h h1 hn:HF} (g:Good F s a w Γ rcs h) (hh:∀b v,(hn.un h1) b=some v→h b=some v) (d1:HF.dj hn h1) (u:Sub F s1 a Γ rcs1 h1)
  {o:Oper} {c:Call} {x y:Operand} {t t2:TypeId} (ho:o.op=.call c) (hb:c.callee=.builtin .append) (ha:c.args = #[x,y]) (hat:c.argTypes = #[t,t2])
  {te:TypeId} {e:Kd} {ys:List e.T} {zg:Nat→e.Z} (hsl:slOf? P t=some (te,e.size)) (hnu:noUn e=true) (hz:zeroSz P te e.size=true)
  {dv:SV} (hdv:dv.is Γ rcs1 (a.eval x)) {uu:Value} (hu:a.eval y=uu) (hsrc:Src P e.size t2 uu ys.length (rowCells e ys zg) w)
  (hoy:Each (fun i hi=>e.Own Γ (ys.getD i e.dft) (zg i) hi) ys.length hn)
  (hW:∀d,o.dst=some d→Off F [d] rcs1) (hsubL:∀n r,look rcs1 n=some r→look rcs n=some r)
  {k:St→Tr α} {K:α→Prop} {Q:Exit→Act→World→Prop} (hs:(dstT P F.n o te e ys dv s1 k).sat K):o.wp P a w (fun a' w'=>∃s',R F s' a' w'∧(k s').sat K) Q:=by
 have hz':∃i v,P.info? te=some i∧i.zero=some v∧v.cells.size=e.size:=by
  unfold zeroSz at hz
  split at hz
  ·rename_i i hi
   split at hz
   ·rename_i v hv
    exact ⟨i,v,hi,hv,by simpa using hz⟩
   ·cases hz
  ·cases hz
 have hsrc':∀i,P.info? te=some i→Src P i.size t2 uu ys.length (rowCells e ys zg) w:=by
  intro i hi
  obtain ⟨i2,_,hi2,hsz⟩:=slOf_spec hsl
  rw[hi] at hi2
  injection hi2 with hi2
  subst hi2
  rw[hsz]; exact hsrc
 unfold dstT at hs
 split at hs
 ·obtain ⟨⟨h1',h2'⟩,hs⟩:=hs
  exact append_core (xs:=[]) (zo:=none) (zf:=fun _=>e.zd) g (hd:=HF.emp) (hn:=hn) (hr:=h1) (by rw[HF.emp_un]; exact hh) (HF.emp_dj _) (by rw[HF.emp_un]; exact d1) u.st u.nd u.ck u.tm ho hb ha hat hsl hnu hdv ⟨rfl,rfl⟩ hu hsrc' hoy h1' h2' hz' hW hsubL hs
 ·rename_i id
  split at hs
  ·rename_i t' e' xs hl
   split at hs
   ·rename_i hte
    obtain ⟨rfl,rfl⟩:=hte
    obtain ⟨⟨h1',h2'⟩,hs⟩:=hs
    obtain ⟨z,hA,hB,hlr,dAB,e1,hown,u2⟩:=u.drop hl
    obtain ⟨r0,q,hr0,hp,hv⟩:=hdv
    rw[hlr] at hr0
    injection hr0 with hr0
    subst hr0
    simp only[pl,Option.some.injEq] at hp
    subst hp
    subst e1
    obtain ⟨da,db⟩:=HF.dj_un.1 d1
    obtain ⟨zo,zf⟩:=z
    exact append_core (xs:=xs) (zo:=zo) (zf:=zf) g (hd:=hA) (hn:=hn) (hr:=hB) (by rw[HF.un_comm da.symm,HF.un_assoc]; exact hh) da.symm (HF.un_dj.2 ⟨dAB,db⟩) u2.st u2.nd u2.ck u2.tm ho hb ha hat hsl hnu hv hown hu hsrc' hoy h1' h2' hz' (fun d hd=>off_del (hW d hd) hlr rfl) (fun n r e=>hsubL n r (del_look rcs1 id n r e)) hs
   ·exact hs.elim
  ·exact hs.elim
 ·exact hs.elim
def appD (P:Program) (n:Lim) (o:Oper) (te:TypeId) (m:Nat) (dv v:SV) (s:St) (k:St→Tr α):Tr α:=match srcList s v with
 |some ⟨e,ys⟩=>if m=e.size∧zeroSz P te e.size=true∧noUn e=true then
   if e.free then dstT P n o te e ys dv s k
   else match v with
    |.at id2 []=>match look s.ck id2 with
     |some ⟨none,.sl true t' e' none,zs⟩=>if h:e'=e then (if offS id2 dv then dstT P n o te e (castL h zs) dv (dropC s id2) k else .bad) else .bad
     |_=>.bad
    |_=>.bad
  else .bad
 |none=>.bad
theorem appD_ok {P:Program} {F:Fr} {o:Oper} {c:Call} {x y:Operand} {t t2:TypeId} (ho:o.op=.call c) (hb:c.callee=.builtin .append) (ha:c.args = #[x,y]) (hat:c.argTypes = #[t,t2]) {te te2:TypeId} {m m2:Nat} (hsl:slOf? P t=some (te,m)) (hsl2:slOf? P t2=some (te2,m2))
  {dv v:SV} {s:St} {k:St→Tr α} {K:α→Prop} {a:Act} {w:World} {Γ:HF} {rcs:List (Nat×RC)} {h:HF} {Q:Exit→Act→World→Prop} (g:Good F s a w Γ rcs h) (hW:∀d,o.dst=some d→Off F [d] rcs) (hdv:dv.is Γ rcs (a.eval x)) (hv:v.is Γ rcs (a.eval y))
  (hs:(appD P F.n o te m dv v s k).sat K):o.wp P a w (fun a' w'=>∃s',R F s' a' w'∧(k s').sat K) Q:=by
 obtain ⟨i2,hk2,_,_⟩:=slOf_spec hsl2
 unfold appD at hs
 split at hs
 ·rename_i e ys hsrc
  split at hs
  ·rename_i hcond
   obtain ⟨rfl,hz,hnu⟩:=hcond
   split at hs
   ·rename_i hf
    obtain ⟨zg,hS,hO⟩:=src_is g hv hsrc hf hnu hk2
    exact dstT_ok g (hn:=HF.emp) (h1:=h) (by rw[HF.emp_un]; exact fun _ _ e=>e) (HF.emp_dj h) g.sub ho hb ha hat hsl hnu hz hdv rfl hS (each_emp hO) hW (fun _ _ e=>e) hs
   ·split at hs
    ·rename_i id2
     split at hs
     ·rename_i t' e' zs hl
      split at hs
      ·rename_i he
       subst he
       split at hs
       ·rename_i hoff
        obtain ⟨z,hA,hB,hlr,dAB,e1,hown,u2⟩:=g.sub.drop hl
        obtain ⟨r0,q,hr0,hp,hvv⟩:=hv
        rw[hlr] at hr0
        injection hr0 with hr0
        subst hr0
        simp only[pl,Option.some.injEq] at hp
        subst hp
        have hdv':=offS_is hoff hdv
        obtain ⟨zo,zf⟩:=z
        have one:∀(ys:List e'.T) (zg:Nat→e'.Z),∀x∈rowCells e' ys zg,x.oneCell'=true:=fun ys zg x hx=>by
         obtain ⟨i,_,hi⟩:=List.mem_flatMap.1 hx
         exact cells_one e' _ _ hnu x hi
        cases zo with
        |none =>
         obtain ⟨hx0,hA0⟩:=hown
         have hx0':zs=[]:=hx0
         subst hx0'; subst hA0
         refine dstT_ok (ys:=[]) g (hn:=HF.emp) (h1:=hB) (zg:=zf) (by rw[e1]; exact fun _ _ e=>e) dAB u2 ho hb ha hat hsl hnu hz hdv' hvv ?_ rfl (fun d hd=>off_del (hW d hd) hlr rfl) (del_look rcs id2) hs
         exact Src.ofNil w hk2 0
        |some qz =>
         obtain ⟨b,off,cap⟩:=qz
         obtain ⟨cc,h2,_,_,_,hl',he2,hd⟩:=hown
         simp only[if_true] at hd
         obtain ⟨hd,rfl⟩:=hd
         obtain ⟨d5,d6⟩:=HF.un_dj.1 dAB
         obtain ⟨lo,hi',hw,_⟩:=g.mem.cel b cc t' (by rw[e1]; exact un_left one_self)
         refine dstT_ok g (hn:=h2) (h1:=hB) (zg:=zf) ?_ d6 u2 ho hb ha hat hsl hnu hz hdv' hvv ?_ (Each.congr (fun i hi h' ho=>by rw[if_neg (by simp)] at ho; exact ho) he2) (fun d hd=>off_del (hW d hd) hlr rfl) (del_look rcs id2) hs
         ·rw[e1]
          exact un_mono dAB (fun b v e=>un_right hd e) (fun b v e=>e)
         ·refine Src.ofSlice w hk2 ⟨b,off,none⟩ zs.length cap _ (rowCells_length e' zs zf) (fun j x hx=>?_) (one zs zf)
          rw[Addr.add_mid]
          exact range_of hw (rowCells_lie.2 hl') j x hx
       ·exact hs.elim
      ·exact hs.elim
     ·exact hs.elim
    ·exact hs.elim
  ·exact hs.elim
 ·exact hs.elim
def outId:Nat:=3000000
def isBare (s:St) (id:Nat):Bool:=match look s.ck id with
 |some ⟨none,_,_⟩=>true
 |_=>false
def stAppend (P:Program) (n:Lim) (o:Oper) (c:Call) (s:St) (k:St→Tr α):Tr α:=match c.args.toList,c.argTypes.toList with
 | [x,y],[t,t2]=>match slOf? P t,slOf? P t2,opo s x,opo s y with
  |some (te,m),some _,some dv,some v=>match dv with
   |.at id p=>if p.isEmpty&&isBare s id then appD P n o te m (.at id p) v s k else match detach s id p outId with
    |some (Kc,s')=>if keepS id p Kc v then appD P n o te m (.at outId []) v s' k else .bad
    |none=>.bad
   |dv=>appD P n o te m dv v s k
  |_,_,_,_=>.bad
 |_,_=>.bad
theorem stAppend_ok {P:Program} {F:Fr} {o:Oper} {c:Call} {s:St} {k:St→Tr α} (ho:o.op=.call c) (hb:c.callee=.builtin .append):WorldOK P F o s (stAppend P F.n o c s k) k ⟨false,dstL o⟩:=by
 unfold stAppend
 split
 ·rename_i x y t t2 hx ht
  have ha:c.args = #[x,y]:=by rw[←Array.toList_inj]; exact hx
  have hat:c.argTypes = #[t,t2]:=by rw[←Array.toList_inj]; exact ht
  split
  ·rename_i te m q2 dv v hsl hsl2 hdv hv
   obtain ⟨te2,m2⟩:=q2
   split
   ·rename_i id p
    split
    ·intro K a w Γ rcs h Q g he' hs
     have hW:∀d,o.dst=some d→Off F [d] rcs:=fun d hd=>by rw[dstL_some hd] at he'; exact off_of g he'
     exact appD_ok ho hb ha hat hsl hsl2 g hW (g.opoIs hdv) (g.opoIs hv) hs
    ·split
     ·rename_i Kc s' hd
      split
      ·rename_i hk
       intro K a w Γ rcs h Q g he' hs
       have hW:∀d,o.dst=some d→Off F [d] rcs:=fun d hd=>by rw[dstL_some hd] at he'; exact off_of g he'
       obtain ⟨rcs',g',h1,h2,h3⟩:=detach_ok g hd (by decide) (g.opoIs hdv)
       exact appD_ok ho hb ha hat hsl hsl2 g' (fun d hd=>h3 _ (hW d hd)) h1 (h2 _ _ hk (g.opoIs hv)) hs
      ·exact world_bad
     ·exact world_bad
   ·intro K a w Γ rcs h Q g he' hs
    have hW:∀d,o.dst=some d→Off F [d] rcs:=fun d hd=>by rw[dstL_some hd] at he'; exact off_of g he'
    exact appD_ok ho hb ha hat hsl hsl2 g hW (g.opoIs hdv) (g.opoIs hv) hs
  ·exact world_bad
 ·exact world_bad
def fillL:List Int→Nat→List Int→List Int
 |xs,_,[]=>xs
 |xs,i,v::vs=>fillL (List.set xs i v) (i+1) vs
def copyL (xs:List Int) (lo len:Nat) (ys:List Int):List Int:=fillL xs lo (ys.take len)
def keepC (id:Nat):AV→Bool
 |.one (.at i [])=>true
 |.one (.slc i [] _ _)=>true
 |x=>offA id x
theorem keepC_A {id i:Nat} {te:TypeId} {e:Kd} {av:AV} (h:keepC id av=true):keepA id [.idx i] (.sl true te e none) av=true:=by
 have off1:∀v:SV,offS id v=true→keepS id [.idx i] (.sl true te e none) v=true:=by
  intro v hv
  cases v<;>simp_all [offS,keepS]
 unfold keepC at h
 split at h
 ·rename_i j
  simp[keepA,keepS,beg,sub,isSl]
 ·rename_i j o l
  simp[keepA,keepS,beg]
 ·cases av with
  |one v=>exact off1 v h
  |tup l =>
   simp only[offA,List.all_eq_true] at h
   simp only[keepA,List.all_eq_true]
   exact fun v hv=>off1 v (h v hv)
theorem updL_same {β:Type}:∀ {l:List (Nat×β)} {n:Nat} {u v:β},updL (updL l n u) n v=updL l n v
 | [],_,_,_=>rfl
 |(k,w)::l,n,u,v=>by
  by_cases h:(k==n)=true
  ·simp[updL,h]
  ·simp[updL,h,updL_same]
theorem updL_self {β:Type}:∀ {l:List (Nat×β)} {n:Nat} {u:β},look l n=some u→updL l n u=l
 | [],_,_,h=>by cases h
 |(k,w)::l,n,u,h=>by
  by_cases hk:(k==n)=true
  ·simp only[look,hk,if_true,Option.some.injEq] at h
   simp[updL,hk,h]
  ·simp only[look,hk] at h
   simp only[updL,hk]
   rw[if_neg (by simp),updL_self (by simpa using h)]
theorem R.set1 {F:Fr} {s:St} {a:Act} {w:World} (r:R F s a w) {id:Nat} {te:TypeId} {kk:IntKind} {xs:List Int} (hc:look s.ck id=some ⟨none,.sl true te (.int kk) none,xs⟩) {i:Nat} {v:Int} (hi:i<xs.length) (hv:kk.min≤v∧v≤kk.max) {t off len:Nat} (ht:(t,AV.one (.slc id [] off len))∈s.tm) (hlen:0<len)
  {b o' L C:Nat} (hval:a.tmps[t]? = some (.slice (some ⟨b,o',none⟩) L C)) (hk:∀x∈s.tm,keepC id x.2=true) (he:(Eff.mk false [id]).ok F.B) :
  off≤o'∧(w.cell? ⟨b,o'-off+i,none⟩).isSome=true∧w.frozen? ⟨b,o'-off+i,none⟩=false∧R F ⟨s.tm,updL s.ck id ⟨none,.sl true te (.int kk) none,List.set xs i v⟩⟩ a (w.setCells b (o'-off+i) [.int kk v]):=by
 obtain ⟨Γ,rcs,h,g⟩:=r
 obtain ⟨rc,hr,hck⟩:∃r,look rcs id=some r∧r.ck=⟨none,.sl true te (.int kk) none,xs⟩:=by
  have:=g.chunk id
  rw[this] at hc
  cases hr:look rcs id with
  |none=>rw[hr] at hc; cases hc
  |some r=>rw[hr] at hc; simp at hc; exact ⟨r,rfl,hc⟩
 obtain ⟨rb,K,x,z⟩:=rc
 simp only[RC.ck,Ck.mk.injEq] at hck
 obtain ⟨c1,rfl,c3⟩:=hck
 obtain rfl:=eq_of_heq c3
 have hb0:rb=none:=by cases rb<;>simp_all
 subst hb0
 obtain ⟨u,hu,hi2⟩:=g.tm t _ ht
 rw[hval] at hu
 injection hu with hu
 subst hu
 obtain ⟨r0,t0,e0,hole,x',z',a',hr0,hp,hle,hcase⟩:=hi2
 rw[hr] at hr0
 injection hr0 with hr0
 subst hr0
 simp only[pl,Option.some.injEq,At.mk.injEq,Kd.sl.injEq,true_and] at hp
 obtain ⟨⟨rfl,rfl,rfl⟩,hx,hz,_⟩:=hp
 obtain rfl:=eq_of_heq hx
 obtain rfl:=eq_of_heq hz
 rcases hcase with ⟨h0,_⟩ | ⟨b1,o1,cap,hz1,hv1⟩
 ·omega
 ·simp only[Value.slice.injEq,Option.some.injEq,Addr.mk.injEq,Kd.size,Nat.mul_one] at hv1
  obtain ⟨⟨rfl,rfl,_⟩,_,_⟩:=hv1
  have ho:o1+off-off=o1:=by omega
  rw[ho]
  have hq:pl (.sl true te (.int kk) none) x z [.idx i] ((none:Option (Nat×TypeId)).getD (0,0) |>.1,0)=some ⟨.int kk,getD x i (0:Int),(),(b,o1+i*1)⟩:=by
   simp only[pl]
   rw[hz1]
   simp only
   rw[if_pos hi]
   rfl
  have hB:OffP F id (thru (.sl true te (.int kk) none) [.idx i]) rcs:=fun e hm=>by
   obtain ⟨id',q1,q2,q3⟩:=off_of g he e hm
   exact ⟨id',q1,.inl (by simpa using q2),q3⟩
  have hm:mkC (.int kk) (.sl true te (.int kk) none) [.idx i]=some ⟨.int kk,.sl true te (.int kk) none,.sidx i (castC rfl .nil),True,inferInstance⟩:=by
   simp only[mkC]
   exact dif_pos trivial
  obtain ⟨cc,tt,lo,hi3,hw,hnf,hlie⟩:=g.place (p:=[.idx i]) hr hq (fun _=>rfl)
  have h0:=hlie 0 (show 0<1 by decide)
  simp only[Nat.add_zero,Nat.mul_one] at h0 hw
  have hlt:o1+i<cc.size:=by
   rcases Nat.lt_or_ge (o1+i) cc.size with q | q
   ·exact q
   ·rw[Array.getElem?_eq_none q] at h0; cases h0
  refine ⟨by omega,by rw[cell_at hw,h0]; rfl,?_,?_⟩
  ·have:=hnf _ hlt
   simp only[World.frozen?,hw]
   simpa using this
  ·have hR:=g.write (p:=[.idx i]) (K2:=.int kk) (y:=v) (zy:=()) (hn:=HF.emp) (tm:=s.tm) (HF.un_emp h).symm (HF.dj_emp h) g.star g.nodup hr hq (fun _=>rfl) hm trivial rfl ⟨rfl,hv⟩ (fun t' av hm'=>⟨keepC_A (hk _ hm'),g.tm t' av hm'⟩) hB (fun _ _ e=>e)
   rw[g.ck] at hR
   simp only[Nat.mul_one] at hR
   exact hR
theorem setCells_cons (w:World) (b o:Nat) (v:Value) (vs:List Value):w.setCells b o (v::vs)=(w.setCells b o [v]).setCells b (o+1) vs:=rfl
theorem R.setN {F:Fr} {a:Act} {id:Nat} {te:TypeId} {kk:IntKind} {tm:List (Nat×AV)} {t off len:Nat} (ht:(t,AV.one (.slc id [] off len))∈tm) (hlen:0<len) {b o' L C:Nat} (hval:a.tmps[t]? = some (.slice (some ⟨b,o',none⟩) L C)) (hk:∀x∈tm,keepC id x.2=true) (he:(Eff.mk false [id]).ok F.B) :
  ∀(vs:List Int) {ck:List (Nat×Ck)} {w:World} {xs:List Int} {i:Nat},R F ⟨tm,ck⟩ a w→look ck id=some ⟨none,.sl true te (.int kk) none,xs⟩→(∀v∈vs,kk.min≤v∧v≤kk.max)→i+vs.length≤xs.length →
  (∀j,j<vs.length→(w.cell? ⟨b,o'-off+i+j,none⟩).isSome=true∧w.frozen? ⟨b,o'-off+i+j,none⟩=false)∧R F ⟨tm,updL ck id ⟨none,.sl true te (.int kk) none,fillL xs i vs⟩⟩ a (w.setCells b (o'-off+i) (vs.map (.int kk)))
 | [],ck,w,xs,i,r,hc,hv,hi=>⟨fun j hj=>(by cases hj),by rw[fillL,updL_self hc]; exact r⟩
 |v::vs,ck,w,xs,i,r,hc,hv,hi=>by
  have hi':i<xs.length:=by simp at hi; omega
  obtain ⟨h1,h2,h3,h4⟩:=r.set1 (s:=⟨tm,ck⟩) hc hi' (hv v mem_cons_self) ht hlen hval hk he
  have hc2:look (updL ck id ⟨none,.sl true te (.int kk) none,List.set xs i v⟩) id=some ⟨none,.sl true te (.int kk) none,List.set xs i v⟩:=by rw[look_updL _ hc,if_pos rfl]
  obtain ⟨h5,h6⟩:=R.setN ht hlen hval hk he vs (i:=i+1) h4 hc2 (fun x hx=>hv x (mem_cons_of_mem _ hx)) (by rw[List.length_set]; simp at hi; omega)
  refine ⟨fun j hj=>?_,?_⟩
  ·cases j with
   |zero=>exact ⟨by rw[Nat.add_zero]; exact h2,by rw[Nat.add_zero]; exact h3⟩
   |succ j =>
    obtain ⟨q1,q2⟩:=h5 j (by simpa using hj)
    have e:o'-off+i+(j+1)=o'-off+(i+1)+j:=by omega
    rw[e]
    refine ⟨?_,?_⟩
    ·have e2:=World.cell?_setCells_out b [.int kk v] (o'-off+i) w ⟨b,o'-off+(i+1)+j,none⟩ (fun _ _=>.inr (by simp; omega))
     rw[e2] at q1
     exact q1
    ·rw[World.frozen?_setCells] at q2
     exact q2
  ·rw[map_cons,setCells_cons,fillL]
   rw[updL_same] at h6
   have e:o'-off+i+1=o'-off+(i+1):=by omega
   rw[e]
   exact h6
theorem run_copy0 {P:Program} (w:World) (dT sT ty elem:TypeId) (base base2:Option Addr) (dLen dCap sLen sCap:Nat) (hu:P.underlying dT=some (.slice elem)) (hs:(P.info? elem).map (·.size)=some 1) (hn:Nat.min sLen dLen=0) :
  (Builtin.copy_ #[dT,sT] ty #[.slice base dLen dCap,.slice base2 sLen sCap]).run P w=.ok (goInt 0) w:=by
 cases hq:P.info? elem with
 |none=>simp[hq] at hs
 |some i =>
  have hi:i.size=1:=by simpa[hq] using hs
  cases base<;>cases base2<;>simp[Builtin.copy_,run_underlying hu,Builtin.lenOf,Builtin.firstCells,sizeOf,typeInfo,hq,hi,hn,loadCells,loadCellsFrom,storeCells]
theorem addr_add (b o i:Nat):(⟨b,o,none⟩:Addr).add i=⟨b,o+i,none⟩:=by unfold Addr.add; split<;>simp_all
def cpIds (s:St) (c:Call):List Nat:=match c.args.toList with
 | [.tmp x,_]=>match look s.tm x with
  |some (.one (.slc id _ _ _))=>[id]
  |_=>[]
 |_=>[]
def stCopy (P:Program) (n:Lim) (o:Oper) (c:Call) (s:St) (k:St→Tr α):Tr α:=match c.args.toList,c.argTypes.toList,o.dst with
 | [.tmp x,y],[dT,_],some d=>match look s.tm x,opo s y,slOf? P dT with
  |some (.one (.slc id [] lo len)),some (.val (.sl false _ (.int j) none) ys),some (_,m)=>match look s.ck id with
   |some ⟨none,.sl true te (.int j') none,xs⟩=>if j=j'∧m=1∧x≠d∧d<n.n∧offA id (.one (.val .bool true))=true then
     k ⟨(d,.one (.val (.int .i64) ((min (length ys) len:Nat):Int)))::s.tm.filter (fun t=>t.1 != d&&keepC id t.2),updL s.ck id ⟨none,.sl true te (.int j') none,copyL xs lo len ys⟩⟩ else .bad
   |_=>.bad
  |_,_,_=>.bad
 |_,_,_=>.bad
theorem stCopy_ok {P:Program} {F:Fr} {o:Oper} {c:Call} {s:St} {k:St→Tr α} (ho:o.op=.call c) (hb:c.callee=.builtin .copy):WorldOK P F o s (stCopy P F.n o c s k) k ⟨false,cpIds s c⟩:=by
 unfold stCopy
 split
 ·rename_i x y dT sT d hx ht hd
  have ha:c.args = #[.tmp x,y]:=by rw[←Array.toList_inj]; exact hx
  have hat:c.argTypes = #[dT,sT]:=by rw[←Array.toList_inj]; exact ht
  split
  ·rename_i id lo len te2 j ys te3 m hl hy hsl
   split
   ·rename_i te j' xs hck
    split
    ·rename_i hcond
     obtain ⟨rfl,rfl,hxd,hdn,_⟩:=hcond
     intro Kp a w Γ rcs h Q g he hs
     have hcp:cpIds s c=[id]:=by unfold cpIds; rw[hx]; simp only; rw[hl]
     rw[hcp] at he
     obtain ⟨it,hu,hit,hsz⟩:=slOf_spec hsl
     have hmem:=look_mem hl
     obtain ⟨v,hv,hi⟩:=g.tm x _ hmem
     have hi2:=hi
     obtain ⟨r,t0,e0,hole,x',z',a',hr,hp,hle,hcase⟩:=hi2
     have hrc:=g.same hck hr
     obtain ⟨rb,K,rx,z⟩:=r
     simp only[RC.ck,Ck.mk.injEq] at hrc
     obtain ⟨c1,rfl,c3⟩:=hrc
     obtain rfl:=eq_of_heq c3
     have hb0:rb=none:=by
      cases rb with
      |none=>rfl
      |some bt=>cases c1
     subst hb0
     simp only[pl,Option.some.injEq,At.mk.injEq,Kd.sl.injEq,true_and] at hp
     obtain ⟨⟨rfl,rfl,rfl⟩,hx2,hz2,_⟩:=hp
     obtain rfl:=eq_of_heq hx2
     obtain rfl:=eq_of_heq hz2
     have hev:a.eval (.tmp x)=v:=by simp[Act.eval,hv]
     obtain ⟨hfy,zy,howy,hyv⟩:=g.opoIs hy
     have hR0:R F ⟨s.tm.filter (fun t=>t.1 != d&&keepC id t.2),s.ck⟩ a w:=R.weaken ⟨Γ,rcs,h,g⟩ fun q hq=>(List.mem_filter.1 hq).1
     have hmem2:(x,AV.one (.slc id [] lo len))∈s.tm.filter (fun t=>t.1 != d&&keepC id t.2):=List.mem_filter.2 ⟨hmem,by simp[keepC,hxd]⟩
     have hkeep:∀q∈s.tm.filter (fun t=>t.1 != d&&keepC id t.2),keepC id q.2=true:=fun q hq=>by
      have:=(List.mem_filter.1 hq).2
      simp only[Bool.and_eq_true] at this
      exact this.2
     have hsz1:(P.info? te3).map (·.size)=some 1:=by rw[hit]; simp[hsz]
     obtain ⟨zo,zf⟩:=zy
     have hyv':a.eval y=hdr zo (length ys):=hyv
     have hlen:(take len ys).length=min len (length ys):=length_take
     have fin:∀(w2:World),(execOp a.eval o).run P w=.ok (.value (goInt (take len ys).length)) w2→R F ⟨s.tm.filter (fun t=>t.1 != d&&keepC id t.2),updL s.ck id ⟨none,.sl true te (.int j) none,copyL xs lo len ys⟩⟩ a w2→(take len ys).length≤9223372036854775807→o.wp P a w (fun a' w'=>∃s',R F s' a' w'∧(k s').sat Kp) Q:=by
      intro w2 hrun hR hbig
      unfold Oper.wp
      rw[hrun,Oper.upon_value,hd]
      refine ⟨_,?_,hs⟩
      obtain ⟨Γ2,rcs2,h2,g2⟩:=hR
      have hput:=g2.put hdn (v:=goInt (take len ys).length) (av:=.one (.val (.int .i64) ((min (length ys) len:Nat):Int))) (by
       have hmm:(take len ys).length=min (length ys) len:=by rw[hlen,min_comm]
       rw[hmm] at hbig ⊢
       refine ⟨rfl,(),⟨rfl,?_⟩,rfl⟩
       have e1:IntKind.min .i64 = -9223372036854775808:=rfl
       have e2:IntKind.max .i64=9223372036854775807:=rfl
       rw[e1,e2]
       generalize min (length ys) len=mn at hbig ⊢
       show (-9223372036854775808:Int)≤(mn:Int)∧(mn:Int)≤9223372036854775807
       omega)
      exact R.weaken ⟨Γ2,rcs2,h2,hput⟩ fun q hq=>by
       rcases List.mem_cons.1 hq with q1 | q1
       ·rw[q1]; exact mem_cons_self
       ·refine mem_cons_of_mem _ (List.mem_filter.2 ⟨q1,?_⟩)
        have:=(List.mem_filter.1 q1).2
        simp only[Bool.and_eq_true] at this
        exact this.1
     have hexec:∀(v':Value) (w':World),(Builtin.copy_ #[dT,sT] o.type #[a.eval (.tmp x),a.eval y]).run P w=.ok v' w'→(execOp a.eval o).run P w=.ok (.value v') w':=by
      intro v' w' hrun
      simp[execOp,ho,resolve,hb,ha,hat,invoke,builtin,hrun]
     by_cases hn:(take len ys).length=0
     ·have hnil:take len ys=[]:=List.eq_nil_of_length_eq_zero hn
      have hck2:updL s.ck id ⟨none,.sl true te (.int j) none,copyL xs lo len ys⟩=s.ck:=by
       unfold copyL
       rw[hnil]
       exact updL_self hck
      refine fin w ?_ (by rw[hck2]; exact hR0) (by omega)
      refine hexec _ _ ?_
      rw[hev,hyv',hn]
      have hmin:Nat.min (length ys) len=0:=by rw[hlen,min_comm] at hn; exact hn
      have hrun0:∀base dLen dCap base2 sCap,v=.slice base dLen dCap→dLen=len→(Builtin.copy_ #[dT,sT] o.type #[v,.slice base2 (length ys) sCap]).run P w=.ok (goInt 0) w:=by
       intro base dLen dCap base2 sCap e1 e2
       rw[e1,e2]
       exact run_copy0 w dT sT o.type te3 base base2 len dCap (length ys) sCap hu hsz1 hmin
      have hvs:∃base dCap,v=.slice base len dCap:=by
       rcases hcase with ⟨h0,hcase | ⟨b,o',cap,off2,cap2,_,hv2,_⟩⟩ | ⟨b,o',cap,_,hv2⟩
       ·exact ⟨none,0,by rw[hcase,h0]⟩
       ·exact ⟨_,_,by rw[hv2,h0]⟩
       ·exact ⟨_,_,hv2⟩
      obtain ⟨base,dCap,hvs⟩:=hvs
      cases zo with
      |none =>
       have hy0:ys=[]:=howy.1
       have:=hrun0 base len dCap none 0 hvs rfl
       subst hy0
       exact this
      |some q =>
       obtain ⟨b2,o2,cap2⟩:=q
       exact hrun0 base len dCap _ _ hvs rfl
     ·have hpos:0<len:=by omega
      rcases hcase with ⟨h0,_⟩ | ⟨b,o',cap,hz1,hv2⟩
      ·omega
      ·cases zo with
       |none =>
        have hy0:ys=[]:=howy.1
        subst hy0
        simp at hn
       |some q =>
        obtain ⟨b2,o2,cap2⟩:=q
        obtain ⟨cc,h2,l1,l2,l3,l4,l5,l6⟩:=howy
        simp only[Bool.false_eq_true,if_false] at l6
        obtain ⟨⟨t',hΓ⟩,he2⟩:=l6
        subst he2
        obtain ⟨fr,hheap⟩:=g.memR.cel b2 cc t' hΓ
        have hrng:∀u∈take len ys,j.min≤u∧u≤j.max:=by
         intro u hu'
         obtain ⟨i,hi',e⟩:=List.mem_iff_getElem.1 (List.mem_of_mem_take hu')
         obtain ⟨_,hi3,_,_,oi,_⟩:=Each.take hi' l5
         rw[if_neg (by simp)] at oi
         have oi2:hi3=HF.emp∧j.min≤getD ys i 0∧getD ys i 0≤j.max:=oi
         rw[getD_eq_getElem?_getD,List.getElem?_eq_getElem hi',e] at oi2
         exact oi2.2
        have hvv:a.tmps[x]? = some (.slice (some ⟨b,o'+lo*1,none⟩) len (cap-lo)):=by rw[hv,hv2]; rfl
        obtain ⟨q1,q2⟩:=R.setN hmem2 hpos hvv hkeep he (take len ys) (i:=lo) hR0 hck hrng (by rw[hlen]; have:=Nat.min_le_left len (length ys); omega)
        have hoff:o'+lo*1-lo+lo=o'+lo*1:=by omega
        rw[hoff] at q1 q2
        have hxle:len≤9223372036854775807:=by
         obtain ⟨h1,hr',d,e,o1⟩:=star_take g.star hr
         simp only[RC.Own] at o1
         obtain ⟨zo',zf'⟩:=z
         simp only at hz1
         subst hz1
         obtain ⟨_,_,m1,m2,_⟩:=o1
         omega
        refine fin _ ?_ q2 (by rw[hlen]; have:=Nat.min_le_left len (length ys); omega)
        refine hexec _ _ ?_
        rw[hev,hyv',hv2]
        have hcl:(List.map (Value.int j) (take len ys)).length=Nat.min (length ys) len:=by rw[length_map,hlen]; exact min_comm _ _
        have hrun:=run_copy_cells (P:=P) w dT sT o.type te3 b (o'+lo*1) len (cap-lo) ⟨b2,o2,none⟩ (length ys) cap2 (List.map (Value.int j) (take len ys)) hu hsz1 hcl (fun i u hu'=>by
          rw[List.getElem?_map] at hu'
          obtain ⟨u0,hu0,rfl⟩:=Option.map_eq_some_iff.1 hu'
          have hi':i<(take len ys).length:=(List.getElem?_eq_some_iff.1 hu0).1
          have hi3:i<length ys:=by rw[hlen] at hi'; omega
          have h6:=l4 i hi3 0 (show 0<1 by decide)
          have hadd:(⟨b2,o2,none⟩:Addr).add i=⟨b2,o2+i,none⟩:=addr_add b2 o2 i
          rw[hadd,cell_at hheap]
          have h7:cc[o2+i]? = some (Value.int j (getD ys i 0)):=by
           have e2:o2+i*1+0=o2+i:=by omega
           have h8:cc[o2+i*1+0]? = some (Value.int j (getD ys i 0)):=h6
           rw[e2] at h8
           exact h8
          rw[h7]
          have h9:ys[i]? = some u0:=by rw[List.getElem?_take_of_lt (by rw[hlen] at hi'; omega)] at hu0; exact hu0
          rw[getD_eq_getElem?_getD,h9]
          rfl) (fun i hi'=>(q1 i (by simpa using hi')).1) (fun i hi'=>(q1 i (by simpa using hi')).2) (fun u hu'=>by
          obtain ⟨u0,_,rfl⟩:=List.mem_map.1 hu'
          rfl)
        rw[length_map] at hrun
        exact hrun
    ·exact world_bad
   ·exact world_bad
  ·exact world_bad
 ·exact world_bad
def boolT (P:Program) (t:TypeId):Bool:=match P.underlying t with
 |some .bool=>true
 |_=>false
def ptrT (P:Program) (t:TypeId):Bool:=match P.underlying t with
 |some (.pointer _)=>true
 |_=>false
def arr3 (P:Program) (t:TypeId):Bool:=match P.underlying t with
 |some (.array 3 e)=>(match P.underlying e,P.info? e with
  |some (.int _),some i=>i.size==1
  |_,_=>false)&&!P.eqGuardType P.depth t
 |_=>false
def binS (op:BinOp) (a b:ByteArray):Option (Nat×SV):=match op with
 |.eql=>some (0,.val .bool (a.toList==b.toList))
 |.neq=>some (0,.val .bool (!(a.toList==b.toList)))
 |.add=>some (a.size+b.size,.val .str (a++b))
 |_=>none
theorem run_part_int {P:Program} {e:TypeId} {k:IntKind} (he:P.underlying e=some (.int k)) {cs:Array Value} {o:Nat} {v:Value} (h:cs[o]? = some v) (w:World):(part e cs o).run P w=.ok v w:=by
 simp[part,isAgg,run_underlying he,Sem.run_bind,h]
theorem run_equal_arr3 {P:Program} {t e:TypeId} {k j:IntKind} {i:TypeInfo} (d:Nat) (ht:P.underlying t=some (.array 3 e)) (he:P.underlying e=some (.int k)) (hi:P.info? e=some i) (hs:i.size=1) (a0 a1 a2 b0 b1 b2:Int) (w:World) :
  (Op.equalIn (d+1+1) t (.agg #[.int j a0,.int j a1,.int j a2]) (.agg #[.int j b0,.int j b1,.int j b2])).run P w=.ok ([a0,a1,a2]==[b0,b1,b2]) w:=by
 have p0:=run_part_int (P:=P) he (cs:=#[.int j a0,.int j a1,.int j a2]) (o:=0) (v:=.int j a0) rfl
 have p1:=run_part_int (P:=P) he (cs:=#[.int j a0,.int j a1,.int j a2]) (o:=1) (v:=.int j a1) rfl
 have p2:=run_part_int (P:=P) he (cs:=#[.int j a0,.int j a1,.int j a2]) (o:=2) (v:=.int j a2) rfl
 have q0:=run_part_int (P:=P) he (cs:=#[.int j b0,.int j b1,.int j b2]) (o:=0) (v:=.int j b0) rfl
 have q1:=run_part_int (P:=P) he (cs:=#[.int j b0,.int j b1,.int j b2]) (o:=1) (v:=.int j b1) rfl
 have q2:=run_part_int (P:=P) he (cs:=#[.int j b0,.int j b1,.int j b2]) (o:=2) (v:=.int j b2) rfl
 have hr:List.range' 0 3 1=[0,1,2]:=rfl
 rw[Op.equalIn]
 simp only[Sem.run_bind,run_underlying ht,Result.andThen_ok,sizeOf,typeInfo,hi,hs,Std.Legacy.Range.forIn_eq_forIn_range',Std.Legacy.Range.size,Nat.sub_zero,Nat.add_sub_cancel,Nat.div_one,hr]
 simp only[run_program,Result.andThen_ok,hi,hs,Sem.run_pure,List.forIn_cons,List.forIn_nil,Sem.run_bind,Nat.zero_mul,Nat.one_mul,Nat.mul_one,p0,p1,p2,q0,q1,q2,fun (w:World) (x y:Int)=>run_equalIn_int w d e j k x y he]
 have hq:=fun (w:World) (x y:Int)=>run_equalIn_int w d e j k x y he
 cases h0:(a0==b0) with
 |false=>simp[h0]
 |true =>
  cases h1:(a1==b1) with
  |false=>simp[h1,p1,q1,hq]
  |true=>cases h2:(a2==b2)<;>simp[h1,h2,p1,q1,p2,q2,hq]<;>(first | exact ⟨by simpa using h0,by simpa using h1,by simpa using h2⟩ | simpa using h0)
def st3 (P:Program) (t:TypeId):Bool:=match P.underlying t with
 |some (.struct fs)=>(match fs.toList with
  | [f0,f1,f2]=>(match P.underlying f0.type,P.underlying f1.type,P.underlying f2.type with
   | some (.int _), some (.int _), some (.int _) => f0.offset == 0 && f1.offset == 1 && f2.offset == 2 && f0.name != "_" && f1.name != "_" && f2.name != "_"
   |_,_,_=>false)
  |_=>false)&&!P.eqGuardType P.depth t&&!P.stoodInHeld t
 |_=>false
def eqT3 (a b:Int×(Int×(Int×Unit))):Bool:=a.1==b.1&&(a.2.1==b.2.1&&a.2.2.1==b.2.2.1)
theorem run_equal_st3 {P:Program} {t:TypeId} (d:Nat) (h:st3 P t=true) (j0 j1 j2:IntKind) (a b:Int×(Int×(Int×Unit))) (w:World) :
  (Op.equalIn (d+1+1) t (.agg #[.int j0 a.1,.int j1 a.2.1,.int j2 a.2.2.1]) (.agg #[.int j0 b.1,.int j1 b.2.1,.int j2 b.2.2.1])).run P w=.ok (eqT3 a b) w:=by
 unfold st3 at h
 split at h
 ·rename_i fs hu
  simp only[Bool.and_eq_true,Bool.not_eq_true'] at h
  obtain ⟨⟨h1,_⟩,h3⟩:=h
  have hf:P.fieldsOf t=fs:=by simp[Program.fieldsOf,hu]
  split at h1
  ·rename_i f0 f1 f2 hl
   split at h1
   ·rename_i k0 k1 k2 e0 e1 e2
    simp only[Bool.and_eq_true,beq_iff_eq,bne_iff_ne] at h1
    obtain ⟨⟨⟨⟨⟨o0,o1⟩,o2⟩,n0⟩,n1⟩,n2⟩:=h1
    have p0:=fun (x0 x1 x2:Value) w=>run_part_int (P:=P) e0 (cs:=#[x0,x1,x2]) (o:=0) (v:=x0) rfl w
    have p1:=fun (x0 x1 x2:Value) w=>run_part_int (P:=P) e1 (cs:=#[x0,x1,x2]) (o:=1) (v:=x1) rfl w
    have p2:=fun (x0 x1 x2:Value) w=>run_part_int (P:=P) e2 (cs:=#[x0,x1,x2]) (o:=2) (v:=x2) rfl w
    have q0:=fun (w:World) (x y:Int)=>run_equalIn_int w d f0.type j0 k0 x y e0
    have q1:=fun (w:World) (x y:Int)=>run_equalIn_int w d f1.type j1 k1 x y e1
    have q2:=fun (w:World) (x y:Int)=>run_equalIn_int w d f2.type j2 k2 x y e2
    rw[run_equalIn_agg w _ t _ _ (by rw[hf]; exact hu) h3,hf,hl]
    simp only[Op.eqFields,o0,o1,o2,n0,n1,n2,ne_eq,not_false_eq_true,if_true,Sem.run_bind,p0,p1,p2,Result.andThen_ok,q0,q1,q2,Sem.run_ite,Sem.run_pure]
    unfold eqT3
    generalize (a.1==b.1)=c0
    generalize (a.2.1==b.2.1)=c1
    generalize (a.2.2.1==b.2.2.1)=c2
    cases c0<;>cases c1<;>cases c2<;>simp
   ·cases h1
  ·cases h1
 ·cases h
def nilT (n:Lim) (o:Oper) (m:Int) (yes no:Bool) (s:St) (k:St→Tr α):Tr α:=match n.nb with
 |true=>.split (m==0) (.both (set n s o (.one (.val .bool yes)) k) (set n s o (.one (.val .bool no)) k)) (set n s o (.one (.val .bool no)) k)
 |false=>.need (m≠0) (set n s o (.one (.val .bool no)) k)
def stBin (P:Program) (n:Lim) (o:Oper) (op:BinOp) (t:TypeId) (x y:Operand) (s:St) (k:St→Tr α):Tr α:=match opo s x,opo s y with
 |some (.val (.int j) a),some (.val (.int j') b)=>if j=j'∨op=.shl∨op=.shr then .need (binI op j a b).1 (set n s o (.one (binI op j a b).2) k) else .bad
 |some (.val .bool a),some (.val .bool b)=>if boolT P t then (match op with
  |.eql=>set n s o (.one (.val .bool (a==b))) k
  |.neq=>set n s o (.one (.val .bool (!(a==b)))) k
  |_=>.bad) else .bad
 |some (.val .str a),some (.val .str b)=>match binS op a b with
  |some (l,v)=>.need (l≤9223372036854775807) (set n s o (.one v) k)
  |none=>.bad
 |some (.val (.arr 3 (.int j)) a),some (.val (.arr 3 (.int j')) b)=>if j=j'∧arr3 P t=true then (match op with
  |.eql=>set n s o (.one (.val .bool (a==b))) k
  |.neq=>set n s o (.one (.val .bool (!(a==b)))) k
  |_=>.bad) else .bad
 |some (.val (.pair (.int j0) (.pair (.int j1) (.pair (.int j2) .unit))) a),some (.val (.pair (.int j0') (.pair (.int j1') (.pair (.int j2') .unit))) b)=>if (j0=j0'∧j1=j1'∧j2=j2')∧st3 P t=true then (match op with
  |.eql=>set n s o (.one (.val .bool (eqT3 a b))) k
  |.neq=>set n s o (.one (.val .bool (!(eqT3 a b)))) k
  |_=>.bad) else .bad
 |some (.ptr _ _),some .nilP=>if ptrT P t then (match op with
  |.eql=>set n s o (.one (.val .bool false)) k
  |.neq=>set n s o (.one (.val .bool true)) k
  |_=>.bad) else .bad
 |some (.val .str _),some .nilS=>.bad
 |some .nilS,some .nilS=>if (slOf? P t).isSome then (match op with
  |.eql=>set n s o (.one (.val .bool true)) k
  |.neq=>set n s o (.one (.val .bool false)) k
  |_=>.bad) else .bad
 |some v,some .nilS=>match lenOf s v,slOf? P t with
  |some m,some _=>(match op with
   |.eql=>nilT n o m true false s k
   |.neq=>nilT n o m false true s k
   |_=>.bad)
  |_,_=>.bad
 |_,_=>.bad
theorem nilT_ok {P:Program} {F:Fr} {o:Oper} {m:Int} {yes no:Bool} {s:St} {k:St→Tr α} (h:∀(aa:Act) (w:World) (Γ:HF) (rcs:List (Nat×RC)) (h:HF),Good F s aa w Γ rcs h →
  ∃b:Bool,(m≠0→b=no)∧(b=yes∨b=no)∧∀w',(execOp aa.eval o).run P w'=.ok (.value (.bool b)) w'):PureOK P F o s (nilT F.n o m yes no s k) k:=by
 intro K a w Γ rcs hh g hs
 obtain ⟨b,h1,h2,h3⟩:=h a w Γ rcs hh g
 have fin:(set F.n s o (.one (.val .bool b)) k).sat K→∃v s',(∀w',(execOp a.eval o).run P w'=.ok (.value v) w')∧R F s' (a.put o.dst v) w∧(k s').sat K:=fun hs =>
  let ⟨s',r,q⟩:=set_ok hs g (bool_is (n:=b) (rcs:=rcs))
  ⟨_,s',h3,r,q⟩
 unfold nilT at hs
 split at hs
 ·by_cases hm:m=0
  ·obtain ⟨q1,q2⟩:=hs.1 (by simpa using hm)
   rcases h2 with e | e
   ·rw[←e] at q1; exact fin q1
   ·rw[←e] at q2; exact fin q2
  ·have:=hs.2 (by simpa using hm)
   rw[←h1 hm] at this
   exact fin this
 ·obtain ⟨hm,hs⟩:=hs
  rw[←h1 hm] at hs
  exact fin hs
theorem stBin_ok {P:Program} {F:Fr} {o:Oper} {op:BinOp} {t t2:TypeId} {x y:Operand} {s:St} {k:St→Tr α} (ho:o.op=.binOp op t x y t2):PureOK P F o s (stBin P F.n o op t x y s k) k:=by
 unfold stBin
 split
 ·rename_i j a j' b hx hy
  split
  ·rename_i hj
   refine pure_need fun hp=>pure_set fun aa w Γ rcs h g=>?_
   obtain ⟨ex,hra⟩:=is_int (g.opoIs hx)
   obtain ⟨ey,_⟩:=is_int (g.opoIs hy)
   obtain ⟨v,hrun,hi⟩:=binI_ok (P:=P) (x:=x) (y:=y) (t:=t) (k:=j) (k':=j') (op:=op) (a:=a) (b:=b) hj hra hp (Γ:=Γ) (rcs:=rcs)
   refine ⟨v,fun w'=>?_,hi⟩
   have:=hrun w'
   simp only[execOp,ho,ex,ey]
   simp only[Sem.run_bind] at this ⊢
   rw[this]
   rfl
  ·exact pure_bad
 ·rename_i a b hx hy
  split
  ·rename_i hb
   have hu:P.underlying t=some .bool:=by
    unfold boolT at hb
    split at hb<;>first | assumption | cases hb
   split
   ·refine pure_set fun aa w Γ rcs h g=>⟨_,fun w'=>?_,bool_is (rcs:=rcs)⟩
    have e1:=is_bool (g.opoIs hx)
    have e2:=is_bool (g.opoIs hy)
    simp[execOp,ho,e1,e2,eqGuard,binOp,run_equal_bool _ t a b hu]
   ·refine pure_set fun aa w Γ rcs h g=>⟨_,fun w'=>?_,bool_is (rcs:=rcs)⟩
    have e1:=is_bool (g.opoIs hx)
    have e2:=is_bool (g.opoIs hy)
    simp[execOp,ho,e1,e2,eqGuard,binOp,run_equal_bool _ t a b hu]
   ·exact pure_bad
  ·exact pure_bad
 ·rename_i a b hx hy
  split
  ·rename_i l v hp
   refine pure_need fun hpp=>pure_set fun aa w Γ rcs h g=>?_
   have e1:=(is_str (g.opoIs hx)).1
   have e2:=(is_str (g.opoIs hy)).1
   unfold binS at hp
   split at hp
   ·simp only[Option.some.injEq,Prod.mk.injEq] at hp
    obtain ⟨rfl,rfl⟩:=hp
    exact ⟨_,fun w'=>by simp[execOp,ho,e1,e2,eqGuard,binOp,Op.stringOp],bool_is (rcs:=rcs)⟩
   ·simp only[Option.some.injEq,Prod.mk.injEq] at hp
    obtain ⟨rfl,rfl⟩:=hp
    exact ⟨_,fun w'=>by simp[execOp,ho,e1,e2,eqGuard,binOp,Op.stringOp],bool_is (rcs:=rcs)⟩
   ·simp only[Option.some.injEq,Prod.mk.injEq] at hp
    obtain ⟨rfl,rfl⟩:=hp
    have h1:¬(((a.size+b.size:Nat):Int)>IntKind.i64.max):=by
     have:IntKind.i64.max=9223372036854775807:=by decide
     rw[this]; omega
    refine ⟨_,fun w'=>?_,str_is (rcs:=rcs) (n:=a++b) (by rw[ByteArray.size_append]; exact hpp)⟩
    simp only[execOp,ho,e1,e2,eqGuard,binOp,Op.stringOp,if_neg h1]
    rfl
   ·cases hp
  ·exact pure_bad
 ·rename_i j a j' b hx hy
  split
  ·rename_i hc
   obtain ⟨rfl,hc⟩:=hc
   have key:∀(aa:Act) (w:World) (Γ:HF) (rcs:List (Nat×RC)) (h:HF),Good F s aa w Γ rcs h→∃xs ys,aa.eval x=.agg xs∧aa.eval y=.agg ys∧∀w',(eqGuard op t x y (.agg xs) (.agg ys)).run P w'=.ok () w'∧(Op.equalIn 10000 t (.agg xs) (.agg ys)).run P w'=.ok (a==b) w':=by
    intro aa w Γ rcs h g
    obtain ⟨_,z,ho1,e1⟩:=g.opoIs hx
    obtain ⟨_,z',ho2,e2⟩:=g.opoIs hy
    unfold arr3 at hc
    split at hc
    ·rename_i te hu
     simp only[Bool.and_eq_true,Bool.not_eq_true'] at hc
     obtain ⟨hc1,hc2⟩:=hc
     split at hc1
     ·rename_i k i he hi
      have hs:i.size=1:=by simpa using hc1
      match a,b,ho1.1,ho2.1 with
      | [a0,a1,a2],[b0,b1,b2],_,_ =>
       exact ⟨_,_,e1,e2,fun w'=>⟨run_eqGuard_agg w' op t x y _ _ hc2,run_equal_arr3 9998 hu he hi hs a0 a1 a2 b0 b1 b2 w'⟩⟩
     ·cases hc1
    ·cases hc
   split
   ·refine pure_set fun aa w Γ rcs h g=>?_
    obtain ⟨xs,ys,e1,e2,e3⟩:=key aa w Γ rcs h g
    refine ⟨_,fun w'=>?_,bool_is (rcs:=rcs)⟩
    simp only[execOp,ho,e1,e2,Sem.run_bind,(e3 w').1,Result.andThen_ok,run_eql_struct,(e3 w').2]
    rfl
   ·refine pure_set fun aa w Γ rcs h g=>?_
    obtain ⟨xs,ys,e1,e2,e3⟩:=key aa w Γ rcs h g
    refine ⟨_,fun w'=>?_,bool_is (rcs:=rcs)⟩
    simp only[execOp,ho,e1,e2,Sem.run_bind,(e3 w').1,Result.andThen_ok,run_neq_struct,(e3 w').2]
    rfl
   ·exact pure_bad
  ·exact pure_bad
 ·rename_i j0 j1 j2 a j0' j1' j2' b hx hy
  split
  ·rename_i hc
   obtain ⟨⟨rfl,rfl,rfl⟩,hc⟩:=hc
   have key:∀(aa:Act) (w:World) (Γ:HF) (rcs:List (Nat×RC)) (h:HF),Good F s aa w Γ rcs h→∃xs ys,aa.eval x=.agg xs∧aa.eval y=.agg ys∧∀w',(eqGuard op t x y (.agg xs) (.agg ys)).run P w'=.ok () w'∧(Op.equalIn 10000 t (.agg xs) (.agg ys)).run P w'=.ok (eqT3 a b) w':=by
    intro aa w Γ rcs h g
    obtain ⟨_,z,ho1,e1⟩:=g.opoIs hx
    obtain ⟨_,z',ho2,e2⟩:=g.opoIs hy
    have hg:P.eqGuardType P.depth t=false:=by
     unfold st3 at hc
     split at hc
     ·simp only[Bool.and_eq_true,Bool.not_eq_true'] at hc
      exact hc.1.2
     ·cases hc
    exact ⟨_,_,e1,e2,fun w'=>⟨run_eqGuard_agg w' op t x y _ _ hg,run_equal_st3 9998 hc j0 j1 j2 a b w'⟩⟩
   split
   ·refine pure_set fun aa w Γ rcs h g=>?_
    obtain ⟨xs,ys,e1,e2,e3⟩:=key aa w Γ rcs h g
    refine ⟨_,fun w'=>?_,bool_is (rcs:=rcs)⟩
    simp only[execOp,ho,e1,e2,Sem.run_bind,(e3 w').1,Result.andThen_ok,run_eql_struct,(e3 w').2]
    rfl
   ·refine pure_set fun aa w Γ rcs h g=>?_
    obtain ⟨xs,ys,e1,e2,e3⟩:=key aa w Γ rcs h g
    refine ⟨_,fun w'=>?_,bool_is (rcs:=rcs)⟩
    simp only[execOp,ho,e1,e2,Sem.run_bind,(e3 w').1,Result.andThen_ok,run_neq_struct,(e3 w').2]
    rfl
   ·exact pure_bad
  ·exact pure_bad
 ·rename_i id p hx hy
  split
  ·rename_i hp
   obtain ⟨te,hu⟩:∃te,P.underlying t=some (.pointer te):=by
    unfold ptrT at hp
    split at hp
    ·rename_i te he
     exact ⟨te,he⟩
    ·cases hp
   have hpt:P.underlying t=some (.pointer (P.pointee t)):=by simp[Program.pointee,hu]
   split
   ·refine pure_set fun aa w Γ rcs h g=>?_
    obtain ⟨r,q,hr,hpl,hb,e1⟩:=g.opoIs hx
    have e2:aa.eval y=.pointer none:=g.opoIs hy
    exact ⟨_,fun w'=>by simp[execOp,ho,e1,e2,eqGuard,binOp,run_equal_pointer_nil _ t _ hpt],bool_is (rcs:=rcs)⟩
   ·refine pure_set fun aa w Γ rcs h g=>?_
    obtain ⟨r,q,hr,hpl,hb,e1⟩:=g.opoIs hx
    have e2:aa.eval y=.pointer none:=g.opoIs hy
    exact ⟨_,fun w'=>by simp[execOp,ho,e1,e2,eqGuard,binOp,run_equal_pointer_nil _ t _ hpt],bool_is (rcs:=rcs)⟩
   ·exact pure_bad
  ·exact pure_bad
 ·exact pure_bad
 ·rename_i hx hy
  split
  ·rename_i hsl
   obtain ⟨⟨te,sz⟩,hsl⟩:=Option.isSome_iff_exists.1 hsl
   obtain ⟨i,hu,_,_⟩:=slOf_spec hsl
   split
   ·refine pure_set fun aa w Γ rcs h g=>?_
    have e1:aa.eval x=.slice none 0 0:=g.opoIs hx
    have e2:aa.eval y=.slice none 0 0:=g.opoIs hy
    exact ⟨_,fun w'=>by simp[execOp,ho,e1,e2,eqGuard,binOp,run_equal_slice_nil _ t te none 0 0 hu],bool_is (rcs:=rcs)⟩
   ·refine pure_set fun aa w Γ rcs h g=>?_
    have e1:aa.eval x=.slice none 0 0:=g.opoIs hx
    have e2:aa.eval y=.slice none 0 0:=g.opoIs hy
    exact ⟨_,fun w'=>by simp[execOp,ho,e1,e2,eqGuard,binOp,run_equal_slice_nil _ t te none 0 0 hu],bool_is (rcs:=rcs)⟩
   ·exact pure_bad
  ·exact pure_bad
 ·rename_i v hnos hnon hx hy
  split
  ·rename_i m q hm hsl
   obtain ⟨te,sz⟩:=q
   obtain ⟨i,hu,_,_⟩:=slOf_spec hsl
   have key:∀(aa:Act) (w:World) (Γ:HF) (rcs:List (Nat×RC)) (h:HF),Good F s aa w Γ rcs h→∃A l c,aa.eval x=.slice A l c∧aa.eval y=.slice none 0 0∧(m≠0→A.isNone=false):=by
    intro aa w Γ rcs h g
    obtain ⟨hk,_,_⟩:=lenOf_is g (g.opoIs hx) hm
    have e2:aa.eval y=.slice none 0 0:=g.opoIs hy
    rcases hk with ⟨b,e1,_⟩ | ⟨_,m',hm',A,c',e',hA⟩
    ·subst e1
     exact (hnos b rfl).elim
    ·refine ⟨A,m',c',e',e2,fun hm0=>?_⟩
     cases A with
     |none=>have:=hA rfl; omega
     |some A=>rfl
   split
   ·refine nilT_ok fun aa w Γ rcs h g=>?_
    obtain ⟨A,l,c,e1,e2,hA⟩:=key aa w Γ rcs h g
    refine ⟨A.isNone,hA,by cases A.isNone<;>simp,fun w'=>?_⟩
    simp[execOp,ho,e1,e2,eqGuard,binOp,run_equal_slice_nil _ t te A l c hu]
   ·refine nilT_ok fun aa w Γ rcs h g=>?_
    obtain ⟨A,l,c,e1,e2,hA⟩:=key aa w Γ rcs h g
    refine ⟨!A.isNone,fun hm0=>by rw[hA hm0]; rfl,by cases A.isNone<;>simp,fun w'=>?_⟩
    simp[execOp,ho,e1,e2,eqGuard,binOp,run_equal_slice_nil _ t te A l c hu]
   ·exact pure_bad
  ·exact pure_bad
 ·exact pure_bad
def minI (a b:Int):Int:=if b<a then b else a
def maxI (a b:Int):Int:=if b>a then b else a
def stMin (n:Lim) (o:Oper) (c:Call) (s:St) (k:St→Tr α):Tr α:=match c.args.toList with
 | [x,y]=>match opo s x,opo s y with
  |some (.val (.int j) a),some (.val (.int j') b)=>if j=j' then set n s o (.one (.val (.int j) (minI a b))) k else .bad
  |_,_=>.bad
 |_=>.bad
def stMax (n:Lim) (o:Oper) (c:Call) (s:St) (k:St→Tr α):Tr α:=match c.args.toList with
 | [x,y]=>match opo s x,opo s y with
  |some (.val (.int j) a),some (.val (.int j') b)=>if j=j' then set n s o (.one (.val (.int j) (maxI a b))) k else .bad
  |_,_=>.bad
 |_=>.bad
theorem stMin_ok {P:Program} {F:Fr} {o:Oper} {c:Call} {s:St} {k:St→Tr α} (ho:o.op=.call c) (hb:c.callee=.builtin .min):PureOK P F o s (stMin F.n o c s k) k:=by
 unfold stMin
 split
 ·rename_i x y hx
  have ha:c.args = #[x,y]:=by rw[←Array.toList_inj]; exact hx
  split
  ·rename_i j a j' b hx hy
   split
   ·rename_i hj
    subst hj
    refine pure_set fun aa w Γ rcs h g=>?_
    obtain ⟨e1,r1⟩:=is_int (g.opoIs hx)
    obtain ⟨e2,r2⟩:=is_int (g.opoIs hy)
    refine ⟨.int j (minI a b),fun w'=>?_,int_is (rcs:=rcs) (by unfold minI; split<;>assumption)⟩
    simp[execOp,ho,resolve,hb,ha,invoke,builtin,Builtin.min_,Builtin.min2,e1,e2,minI]
   ·exact pure_bad
  ·exact pure_bad
 ·exact pure_bad
theorem stMax_ok {P:Program} {F:Fr} {o:Oper} {c:Call} {s:St} {k:St→Tr α} (ho:o.op=.call c) (hb:c.callee=.builtin .max):PureOK P F o s (stMax F.n o c s k) k:=by
 unfold stMax
 split
 ·rename_i x y hx
  have ha:c.args = #[x,y]:=by rw[←Array.toList_inj]; exact hx
  split
  ·rename_i j a j' b hx hy
   split
   ·rename_i hj
    subst hj
    refine pure_set fun aa w Γ rcs h g=>?_
    obtain ⟨e1,r1⟩:=is_int (g.opoIs hx)
    obtain ⟨e2,r2⟩:=is_int (g.opoIs hy)
    refine ⟨.int j (maxI a b),fun w'=>?_,int_is (rcs:=rcs) (by unfold maxI; split<;>assumption)⟩
    simp[execOp,ho,resolve,hb,ha,invoke,builtin,Builtin.max_,Builtin.max2,e1,e2,maxI]
   ·exact pure_bad
  ·exact pure_bad
 ·exact pure_bad
def byteAt (b:ByteArray) (i:Int):Int:=((b[i.toNat]?).map fun u=>(u.toNat:Int)).getD 0
def stIdx (P:Program) (n:Lim) (o:Oper) (t:TypeId) (x i:Operand) (s:St) (k:St→Tr α):Tr α:=match opo s x,opo s i with
 |some (.val .str b),some (.val (.int _) j)=>if strT P t then .need (inb j b.size) (set n s o (.one (.val (.int .u8) (byteAt b j))) k) else .bad
 |_,_=>.bad
theorem byteAt_range (b:ByteArray) (i:Int):IntKind.u8.min≤byteAt b i∧byteAt b i≤IntKind.u8.max:=by
 have h1:IntKind.u8.min=0:=by decide
 have h2:IntKind.u8.max=255:=by decide
 rw[h1,h2]
 unfold byteAt
 cases b[i.toNat]? with
 |none=>simp
 |some u =>
  have:=u.toNat_lt
  simp
  omega
theorem stIdx_ok {P:Program} {F:Fr} {o:Oper} {t:TypeId} {x i:Operand} {s:St} {k:St→Tr α} (ho:o.op=.index t x i):PureOK P F o s (stIdx P F.n o t x i s k) k:=by
 unfold stIdx
 split
 ·rename_i b kj j hx hi
  split
  ·rename_i ht
   have hu:P.underlying t=some .string:=by
    unfold strT at ht
    split at ht<;>first | assumption | cases ht
   refine pure_need fun ⟨h0,h1⟩=>pure_set fun aa w Γ rcs h g=>?_
   have e1:=(is_str (g.opoIs hx)).1
   have e2:=(is_int (g.opoIs hi)).1
   have h0':@LE.le Int _ 0 j:=h0
   have h1':@LT.lt Int _ j b.size:=h1
   have hlt:Int.toNat j<b.size:=by
    have:=Int.toNat_of_nonneg h0'
    exact Int.ofNat_lt.1 (by rw[this]; exact h1')
   refine ⟨_,fun w'=>?_,int_is (rcs:=rcs) (byteAt_range b (show Int from j).toNat)⟩
   have hget:b[Int.toNat j]? = some (b[Int.toNat j]'hlt):=by simp[hlt]
   have hb:byteAt b j=((b[Int.toNat j]'hlt).toNat:Int):=by
    unfold byteAt
    rw[hget]
    rfl
   rw[hb]
   simp[execOp,ho,e1,e2,Instr.index,asIntOf,run_underlying hu,h0',hget]
  ·exact pure_bad
 ·exact pure_bad
def optI (s:St) (d:Int):Option Operand→Option Int
 |none=>some d
 |some x=>match opo s x with
  |some (.val (.int _) j)=>some j
  |_=>none
theorem run_bounds {P:Program} {F:Fr} {s:St} {a:Act} {w:World} {Γ:HF} {rcs:List (Nat×RC)} {h:HF} (g:Good F s a w Γ rcs h) {lo hi:Option Operand} {l u:Int} {len cap:Nat} (hl:optI s 0 lo=some l) (hu:optI s len hi=some u)
  (h0:0≤l) (h1:l≤u) (h2:u≤len) (h3:len≤cap) (isS:Bool) (w':World):(Instr.sliceBounds isS len cap (lo.map a.eval) (hi.map a.eval) none).run P w'=.ok (l.toNat,u.toNat,cap) w':=by
 have val:∀ {x:Operand} {j d:Int},optI s d (some x)=some j→∃k,a.eval x=.int k j:=by
  intro x j d hx
  simp only[optI] at hx
  split at hx
  ·rename_i k j' hv
   injection hx with hx
   subst hx
   exact ⟨k,(is_int (g.opoIs hv)).1⟩
  ·cases hx
 have h5:u≤(cap:Int):=by omega
 have h6:0≤u:=by omega
 have h7:l≤(u.toNat:Int):=by omega
 cases hi with
 |none =>
  simp only[optI,Option.some.injEq] at hu
  subst hu
  cases lo with
  |none =>
   simp only[optI,Option.some.injEq] at hl
   subst hl
   simp[Instr.sliceBounds]
  |some x =>
   obtain ⟨k,e⟩:=val hl
   simp[Instr.sliceBounds,Instr.sliceBound,e,asIntOf,h0,h1]
 |some y =>
  obtain ⟨k2,e2⟩:=val hu
  cases lo with
  |none =>
   simp only[optI,Option.some.injEq] at hl
   subst hl
   simp[Instr.sliceBounds,Instr.sliceBound,e2,asIntOf,h6,h5]
  |some x =>
   obtain ⟨k,e⟩:=val hl
   have h8:¬(max u 0<l):=by omega
   simp[Instr.sliceBounds,Instr.sliceBound,e,e2,asIntOf,h0,h6,h5,h8]
theorem run_sl {P:Program} {t e:TypeId} {m len cap l u:Nat} {A:Option Addr} {lo hi:Option Value} (hsl:slOf? P t=some (e,m)) (w:World) (hb:(Instr.sliceBounds true len cap lo hi none).run P w=.ok (l,u,cap) w) :
  (Instr.sliceAt t (.slice A len cap) lo hi none).run P w=.ok (.slice (if cap=l then A else A.map (·.add (l*m))) (u-l) (cap-l)) w:=by
 obtain ⟨i,hu,hi',hisz⟩:=slOf_spec hsl
 simp[Instr.sliceAt,Instr.slice,run_underlying hu,hb,sizeOf,typeInfo,hi',hisz]
theorem run_slStr {P:Program} {t:TypeId} {b:ByteArray} {l u:Nat} {lo hi:Option Value} (hu:P.underlying t=some .string) (w:World) (hb:(Instr.sliceBounds false b.size b.size lo hi none).run P w=.ok (l,u,b.size) w) :
  (Instr.sliceAt t (.string b) lo hi none).run P w=.ok (.string (b.extract l u)) w:=by
 simp[Instr.sliceAt,Instr.slice,run_underlying hu,hb]
abbrev win (l u n:Int):Prop:=0≤l∧l≤u∧u≤n
def stSlice (P:Program) (n:Lim) (o:Oper) (t:TypeId) (x:Operand) (lo hi:Option Operand) (s:St) (k:St→Tr α):Tr α:=match opo s x with
 |some (.val .str b)=>match optI s 0 lo,optI s (ByteArray.size b) hi with
  |some l,some u=>if strT P t then .need (win l u (ByteArray.size b)) (set n s o (.one (.val .str (ByteArray.extract b l.toNat u.toNat))) k) else .bad
  |_,_=>.bad
 |some .nilS=>match optI s 0 lo,optI s 0 hi,slOf? P t with
  |some l,some u,some _=>.need (win l u 0) (set n s o (.one .nilS) k)
  |_,_,_=>.bad
 |some (.val (.sl false t' e none) xs)=>match optI s 0 lo,optI s (length xs) hi,slOf? P t with
  |some l,some u,some (_,m)=>if m=e.size then .need (win l u (length xs)) (set n s o (.one (.val (.sl false t' e none) ((drop l.toNat xs).take (u.toNat-l.toNat)))) k) else .bad
  |_,_,_=>.bad
 |some (.at id p)=>match look s.ck id with
  |some c=>match getP c.K c.x p with
   |some ⟨.sl true t' e hole,xs⟩=>match optI s 0 lo,optI s (length xs) hi,slOf? P t with
    |some l,some u,some (_,m)=>if m=e.size then .need (win l u (length xs)) (set n s o (.one (.slc id p l.toNat (u.toNat-l.toNat))) k) else .bad
    |_,_,_=>.bad
   |_=>.bad
  |none=>.bad
 |some (.slc id p off len)=>match look s.ck id with
  |some c=>match sub c.K p with
   |some (.sl true t' e hole)=>match optI s 0 lo,optI s len hi,slOf? P t with
    |some l,some u,some (_,m)=>if m=e.size then .need (win l u len) (set n s o (.one (.slc id p (off+l.toNat) (u.toNat-l.toNat))) k) else .bad
    |_,_,_=>.bad
   |_=>.bad
  |none=>.bad
 |_=>.bad
theorem win_own {Γ:HF} {t:TypeId} {e:Kd} {xs:List e.T} {b off cap l n:Nat} {zf:Nat→e.Z} (hf:e.free=true) (ho:(Kd.sl false t e none).Own Γ xs (some (b,off,cap),zf) HF.emp) (hl:l+n≤xs.length) :
  (Kd.sl false t e none).Own Γ ((xs.drop l).take n) (some (b,if cap=l then off else off+l*e.size,cap-l),fun i=>zf (l+i)) HF.emp:=by
 obtain ⟨c,h2,h1,h3,h4,hls,he,hd⟩:=ho
 simp only[Bool.false_eq_true,if_false] at hd
 have hlen:((xs.drop l).take n).length=n:=by rw[length_take,length_drop]; omega
 have hof:∀i,i<n→(if cap=l then off else off+l*e.size)+i*e.size=off+(l+i)*e.size:=by
  intro i hi
  rw[if_neg (by omega),add_mul,Nat.add_assoc]
 have hcl:l≤cap:=by omega
 refine ⟨c,HF.emp,by rw[hlen]; omega,by omega,?_,?_,?_,?_⟩
 ·split
  ·rename_i hc
   subst hc
   simp only[Nat.sub_self,Nat.zero_mul,Nat.add_zero]
   have:=Nat.le_add_right off (cap*e.size)
   omega
  ·have h5:l*e.size+(cap-l)*e.size=cap*e.size:=by rw[←add_mul]; congr 1; omega
   omega
 ·intro i hi
  rw[hlen] at hi
  rw[hof i hi,getD_window hi]
  exact hls (l+i) (by omega)
 ·rw[hlen]
  refine each_emp fun i hi=>?_
  rw[if_neg (by simp)]
  rw[getD_window hi]
  exact each_free hf rfl he (l+i) (by omega)
 ·simp only[Bool.false_eq_true,if_false]
  exact ⟨hd.1,trivial⟩
theorem hdr_win {b off cap l n:Nat} {sz:Nat}:hdr (some (b,if cap=l then off else off+l*sz,cap-l)) n=.slice (if cap=l then some ⟨b,off,none⟩ else (some (⟨b,off,none⟩:Addr)).map (·.add (l*sz))) n (cap-l):=by
 by_cases h:cap=l
 ·simp[hdr,h]
 ·simp[hdr,h,Addr.add_mid]
theorem stSlice_ok {P:Program} {F:Fr} {o:Oper} {t:TypeId} {x:Operand} {lo hi:Option Operand} {s:St} {k:St→Tr α} (ho:o.op=.slice t x lo hi none):PureOK P F o s (stSlice P F.n o t x lo hi s k) k:=by
 have hrun:∀(aa:Act) (v:Value) (w':World),(Instr.sliceAt t (aa.eval x) (lo.map aa.eval) (hi.map aa.eval) none).run P w'=.ok v w'→(execOp aa.eval o).run P w'=.ok (.value v) w':=by
  intro aa v w' h
  simp[execOp,ho,h]
 unfold stSlice
 split
 ·rename_i b hx
  split
  ·rename_i l u hl hu
   split
   ·rename_i ht
    have hut:P.underlying t=some .string:=by
     unfold strT at ht
     split at ht<;>first | assumption | cases ht
    refine pure_need fun ⟨h0,h1,h2⟩=>pure_set fun aa w Γ rcs h g=>?_
    obtain ⟨e1,hs⟩:=is_str (g.opoIs hx)
    refine ⟨_,fun w'=>hrun aa _ w' ?_,str_is (rcs:=rcs) ?_⟩
    ·rw[e1]
     exact run_slStr hut w' (run_bounds g hl hu h0 h1 h2 (Nat.le_refl _) false w')
    ·rw[ByteArray.size_extract]; omega
   ·exact pure_bad
  ·exact pure_bad
 ·rename_i hx
  split
  ·rename_i l u q hl hu hsl
   refine pure_need fun ⟨h0,h1,h2⟩=>pure_set fun aa w Γ rcs h g=>?_
   have e1:aa.eval x=.slice none 0 0:=g.opoIs hx
   obtain ⟨te,m⟩:=q
   refine ⟨.slice none 0 0,fun w'=>hrun aa _ w' ?_,rfl⟩
   rw[e1,run_sl hsl w' (run_bounds (len:=0) (cap:=0) g hl hu h0 h1 h2 (Nat.le_refl _) true w')]
   have:l.toNat=0∧u.toNat=0:=by omega
   simp[this.1,this.2]
  ·exact pure_bad
 ·rename_i t' e xs hx
  split
  ·rename_i l u te m hl hu hsl
   split
   ·rename_i hm
    subst hm
    refine pure_need fun ⟨h0,h1,h2⟩=>pure_set fun aa w Γ rcs h g=>?_
    obtain ⟨hf,zz,how,hv⟩:=g.opoIs hx
    have hfe:e.free=true:=by simpa[free] using hf
    obtain ⟨zo,zf⟩:=zz
    cases zo with
    |none =>
     have hx0:xs=[]:=how.1
     subst hx0
     have e1:aa.eval x=.slice none 0 0:=hv
     refine ⟨.slice none 0 0,fun w'=>hrun aa _ w' ?_,hf,(none,zf),⟨by simp,rfl⟩,by simp[toV,single,Kd.cells,hdr]⟩
     rw[e1,run_sl hsl w' (run_bounds (len:=0) (cap:=0) g hl hu h0 h1 h2 (Nat.le_refl _) true w')]
     simp only[List.length_nil] at h2
     have:l.toNat=0∧u.toNat=0:=by omega
     simp[this.1,this.2]
    |some q =>
     obtain ⟨b,off,cap⟩:=q
     have hcap:length xs≤cap:=by obtain ⟨_,_,q,_⟩:=how; exact q
     have e1:aa.eval x=.slice (some ⟨b,off,none⟩) (length xs) cap:=hv
     have hlen:((drop l.toNat xs).take (u.toNat-l.toNat)).length=u.toNat-l.toNat:=by rw[length_take,length_drop]; omega
     refine ⟨_,fun w'=>hrun aa _ w' (by rw[e1]; exact run_sl hsl w' (run_bounds (len:=length xs) (cap:=cap) g hl hu h0 h1 h2 hcap true w')),hf,_,win_own (l:=l.toNat) (n:=u.toNat-l.toNat) hfe how (by omega),?_⟩
     simp only[toV,single,if_true,Kd.cells,getD_cons_zero,hlen]
     exact hdr_win.symm
   ·exact pure_bad
  ·exact pure_bad
 ·rename_i id p hx
  split
  ·rename_i c hc
   split
   ·rename_i t' e hole xs hg
    split
    ·rename_i l u te m hl hu hsl
     split
     ·rename_i hm
      subst hm
      refine pure_need fun ⟨h0,h1,h2⟩=>pure_set fun aa w Γ rcs h g=>?_
      obtain ⟨r,q,hr,hp,hv⟩:=g.opoIs hx
      obtain rfl:=g.same hc hr
      have hget:=pl_get p _ _ _ _ hp
      simp only[RC.ck] at hg
      rw[hget] at hg
      injection hg with hg
      obtain ⟨hq,_,how⟩:=g.ownAt hr hp
      obtain ⟨qK,qx,qz,qa⟩:=q
      simp only[Sigma.mk.injEq] at hg
      obtain ⟨rfl,hg⟩:=hg
      obtain rfl:=eq_of_heq hg
      obtain ⟨zo,zf⟩:=qz
      cases zo with
      |none =>
       have hx0:qx=[]:=how.1
       subst hx0
       have e1:aa.eval x=.slice none 0 0:=hv
       simp only[List.length_nil] at h2
       have hlu:l.toNat=0∧u.toNat=0:=by omega
       refine ⟨.slice none 0 0,fun w'=>hrun aa _ w' ?_,r,t',e,hole,[],(none,zf),qa,hr,hp,by simp[hlu.1,hlu.2],.inl ⟨by omega,.inl rfl⟩⟩
       rw[e1,run_sl hsl w' (run_bounds (len:=0) (cap:=0) g hl hu h0 h1 h2 (Nat.le_refl _) true w')]
       simp[hlu.1,hlu.2]
      |some q =>
       obtain ⟨b,off,cap⟩:=q
       have hcap:length qx≤cap:=by obtain ⟨_,_,q,_⟩:=how; exact q
       have e1:aa.eval x=.slice (some ⟨b,off,none⟩) (length qx) cap:=hv
       refine ⟨_,fun w'=>hrun aa _ w' (by rw[e1]; exact run_sl hsl w' (run_bounds (len:=length qx) (cap:=cap) g hl hu h0 h1 h2 hcap true w')),r,t',e,hole,qx,(some (b,off,cap),zf),qa,hr,hp,by omega,?_⟩
       by_cases hn0:u.toNat-l.toNat=0
       ·refine .inl ⟨hn0,.inr ⟨b,off,cap,if cap=l.toNat then off else off+l.toNat*e.size,cap-l.toNat,rfl,?_,by omega,?_⟩⟩
        ·rw[hn0]
         split<;>simp[Addr.add_mid]
        ·split
         ·rename_i hc
          rw[←hc,Nat.sub_self,Nat.zero_mul]
          exact Nat.add_le_add_left (zero_le _) _
         ·rw[Nat.add_assoc,←add_mul]
          exact Nat.add_le_add_left (mul_le_mul_right _ (by omega)) _
       ·refine .inr ⟨b,off,cap,rfl,?_⟩
        rw[if_neg (by omega)]
        simp[Addr.add_mid]
     ·exact pure_bad
    ·exact pure_bad
   ·exact pure_bad
  ·exact pure_bad
 ·rename_i id p off len hx
  split
  ·rename_i c hc
   split
   ·rename_i t' e hole hg
    split
    ·rename_i l u te m hl hu hsl
     split
     ·rename_i hm
      subst hm
      refine pure_need fun ⟨h0,h1,h2⟩=>pure_set fun aa w Γ rcs h g=>?_
      obtain ⟨r,t1,e1,hole1,x',z',qa,hr,hp,hle,hv⟩:=g.opoIs hx
      obtain rfl:=g.same hc hr
      have hsub:=pl_sub p _ _ _ _ hp
      simp only[RC.ck] at hg
      rw[hsub] at hg
      simp only[Option.some.injEq,Kd.sl.injEq,true_and] at hg
      obtain ⟨rfl,rfl,rfl⟩:=hg
      obtain ⟨hq,_,how⟩:=g.ownAt hr hp
      rcases hv with ⟨h00,hv⟩ | ⟨b,o',cap,hz,hv⟩
      ·have hlu:l.toNat=0∧u.toNat=0:=by omega
       subst h00
       have hA:∃A c,aa.eval x=.slice A 0 c:=by
        rcases hv with hv | ⟨_,_,_,off2,cap2,_,hv,_⟩
        ·exact ⟨_,_,hv⟩
        ·exact ⟨_,_,hv⟩
       obtain ⟨A,c,hA⟩:=hA
       refine ⟨.slice A 0 c,fun w'=>hrun aa _ w' ?_,r,t1,e1,hole1,x',z',qa,hr,hp,by omega,.inl ⟨by omega,?_⟩⟩
       ·rw[hA,run_sl hsl w' (run_bounds (len:=0) (cap:=c) g hl hu h0 h1 h2 (zero_le _) true w')]
        simp only[hlu.1,hlu.2,Nat.zero_mul,Nat.sub_zero]
        cases A with
        |none=>simp
        |some ad=>cases ad; simp[Addr.add]
       ·rw[←hA]; exact hv
      ·obtain ⟨zo,zf⟩:=z'
       simp only at hz
       subst hz
       have hcap:length x'≤cap:=by obtain ⟨_,_,q,_⟩:=how; exact q
       refine ⟨_,fun w'=>hrun aa _ w' (by rw[hv]; exact run_sl hsl w' (run_bounds (len:=len) (cap:=cap-off) g hl hu h0 h1 h2 (by omega) true w')),r,t1,e1,hole1,x',(some (b,o',cap),zf),qa,hr,hp,by omega,?_⟩
       by_cases hn0:u.toNat-l.toNat=0
       ·refine .inl ⟨hn0,.inr ⟨b,o',cap,if cap-off=l.toNat then o'+off*e1.size else o'+off*e1.size+l.toNat*e1.size,cap-off-l.toNat,rfl,?_,by omega,?_⟩⟩
        ·rw[hn0]
         split<;>simp[Addr.add_mid]
        ·split
         ·rename_i hc
          rw[←hc,Nat.sub_self,Nat.zero_mul,Nat.add_zero]
          exact Nat.add_le_add_left (mul_le_mul_right _ (by omega)) _
         ·rw[Nat.add_assoc,Nat.add_assoc,←add_mul,←add_mul]
          exact Nat.add_le_add_left (mul_le_mul_right _ (by omega)) _
       ·refine .inr ⟨b,o',cap,rfl,?_⟩
        rw[if_neg (by omega)]
        simp only[map_some,Addr.add_mid,add_mul,Nat.sub_sub,Nat.add_assoc]
     ·exact pure_bad
    ·exact pure_bad
   ·exact pure_bad
  ·exact pure_bad
 ·exact pure_bad
theorem zip_wr:∀(l:List Value) (n off:Nat) (cs:Array Value),(l.zipIdx n).foldl (fun cs (x:Value×Nat)=>cs.setIfInBounds (off+x.2) x.1) cs=wr cs (off+n) l
 | [],_,_,_=>rfl
 |v::l,n,off,cs=>by
  rw[List.zipIdx_cons,List.foldl_cons,zip_wr l (n+1) off,wr]
  simp only[Nat.add_assoc]
theorem fill_wr (v:Value) (off:Nat) (cells:Array Value):v.cells.zipIdx.foldl (fun cs (c,j)=>cs.setIfInBounds (off+j) c) cells=wr cells off v.cells.toList:=by
 rw[←Array.foldl_toList,Array.toList_zipIdx]
 exact zip_wr v.cells.toList 0 off cells
def offOf:Kd→List Sel→Option Nat
 |_,[]=>some 0
 |.pair a _,.fst::p=>offOf a p
 |.pair a b,.snd::p=>(offOf b p).map (a.size + ·)
 |.arr n e,.idx i::p=>if i<n then (offOf e p).map (i*e.size + ·) else none
 |_,_::_=>none
theorem offOf_pl:∀(p:List Sel) {K:Kd} (x:K.T) (z:K.Z) (a:Nat×Nat) (o:Nat),offOf K p=some o→∃q,pl K x z p a=some q∧q.a=(a.1,a.2+o)
 | [],K,x,z,a,o,h=>by
  simp only[offOf,Option.some.injEq] at h
  subst h
  exact ⟨⟨K,x,z,a⟩,by simp[pl],by simp⟩
 |.fst::p,.pair k b,x,z,a,o,h=>by
  obtain ⟨q,h1,h2⟩:=offOf_pl p (K:=k) x.1 z.1 a o (by simpa[offOf] using h)
  exact ⟨q,by simpa[pl] using h1,h2⟩
 |.snd::p,.pair k b,x,z,a,o,h=>by
  simp only[offOf,Option.map_eq_some_iff] at h
  obtain ⟨o',h',rfl⟩:=h
  obtain ⟨q,h1,h2⟩:=offOf_pl p (K:=b) x.2 z.2 (a.1,a.2+k.size) o' h'
  exact ⟨q,by simpa[pl] using h1,by rw[h2,Nat.add_assoc]⟩
 |.idx i::p,.arr n e,x,z,a,o,h=>by
  simp only[offOf] at h
  split at h
  ·rename_i hi
   simp only[Option.map_eq_some_iff] at h
   obtain ⟨o',h',rfl⟩:=h
   obtain ⟨q,h1,h2⟩:=offOf_pl p (K:=e) (getD x i e.dft) (z i) (a.1,a.2+i*e.size) o' h'
   exact ⟨q,by simp only[pl,if_pos hi]; exact h1,by rw[h2,Nat.add_assoc]⟩
  ·cases h
theorem put_virtual {Γ:HF} {K K2:Kd} {p:List Sel} {m:MC K2 K} {x:K.T} {z:K.Z} {y:K2.T} {zy:K2.Z} {h hn:HF} {c0:Array Value} {b0 off:Nat}
  (hm:mkC K2 K p=some m) (hc:m.cond) (hs:m.K1.size=K2.size) (hoff:offOf K p=some off) (ho:K.Own Γ x z h) (hy:K2.Own Γ y zy hn) (hd:HF.dj h hn) (hl:c0.toList=K.cells x z)
  (hb:¬h.has b0) (hbn:¬hn.has b0) :
  ∃z' h',m.K'.Own Γ (m.c.put x y) z' h'∧(∀b v,h' b=some v→(h.un hn) b=some v)∧(wr c0 off (K2.cells y zy)).toList=m.K'.cells (m.c.put x y) z':=by
 obtain ⟨q,hp,hqa⟩:=offOf_pl p x z (b0,0) off hoff
 obtain ⟨hw,hv,hloc,_⟩:=mkC_spec p hm x z _ q hp hc
 have hl':Lie c0 0 (K.cells x z):=fun j hj=>by rw[←hl]; simp
 obtain ⟨hr,ho',s⟩:=chg_own hs m.c x z h b0 0 c0 0 hw hv ho hl' hb
 obtain ⟨sd,rfl,sown,sat,slie,sput⟩:=s
 rw[hloc,hqa] at sat slie sput
 simp only[Nat.zero_add] at sat slie sput
 obtain ⟨d1,d2⟩:=HF.un_dj.1 hd
 have hbr:¬hr.has b0:=fun e=>hb (HF.has_un.2 (.inl e))
 have done:HF.dj (HF.one b0 c0 0) hn:=HF.dj_iff.2 fun bb hbb hh=>by rw[HF.has_one] at hbb; subst hbb; exact hbn hh
 obtain ⟨p1,p2⟩:=sput y zy hn hy (HF.un_dj.2 ⟨done,d1⟩)
 rw[HF.upd_not hbr] at p1
 refine ⟨_,_,p1,?_,?_⟩
 ·exact un_mono hd (fun b v e=>un_left e) (fun b v e=>e)
 ·rw[wrIf_pos (at_:=(b0,off)) rfl] at p2
  have hsz:c0.size=(m.K'.cells (m.c.put x y) (m.c.putZ x z zy)).length:=by
   rw[cells_length,←Chg.size_eq hs m.c,←cells_length K x z,←hl]; simp
  refine ext_getElem? fun j=>?_
  rcases Nat.lt_or_ge j (m.K'.cells (m.c.put x y) (m.c.putZ x z zy)).length with hj | hj
  ·have:=p2 j hj
   rw[Nat.zero_add] at this
   rw[←this]; simp
  ·rw[getElem?_eq_none hj,getElem?_eq_none (by simp[wr_size]; omega)]
def putP (sz:Nat→Option (Nat×Nat)) (p:List Sel) (i:Nat) (K:Kd) (x:K.T) (K2:Kd) (v:K2.T) (k:(K':Kd)→K'.T→Tr α):Tr α:=match mkC K2 K p,sz i,offOf K p with
 |some m,some (off,size),some off'=>if m.K1.size=K2.size∧noUn K2=true∧off=off'∧size=K2.size then .need m.cond (k m.K' (m.c.put x v)) else .bad
 |_,_,_=>.bad
def partsT (sz:Nat→Option (Nat×Nat)) (pos:Nat→List Sel):List (Nat×Operand)→(K:Kd)→K.T→St→((K':Kd)→K'.T→St→Tr α)→Tr α
 | [],K,x,s,k=>k K x s
 |(i,y)::l,K,x,s,k=>match opo s y with
  |some (.val K2 v)=>putP sz (pos i) i K x K2 v fun K' x'=>partsT sz pos l K' x' s k
  |some .nilS=>match sub K (pos i) with
   |some (.sl own t' e none)=>putP sz (pos i) i K x (.sl own t' e none) [] fun K' x'=>partsT sz pos l K' x' s k
   |_=>.bad
  |some (.at id2 [])=>match look s.ck id2 with
   |some ⟨none,K2,v⟩=>putP sz (pos i) i K x K2 v fun K' x'=>partsT sz pos l K' x' (dropC s id2) k
   |_=>.bad
  |_=>.bad
theorem Sub.opo_is {F:Fr} {s:St} {a:Act} {w:World} {Γ:HF} {rcs:List (Nat×RC)} {h:HF} (u:Sub F s a Γ rcs h) {x:Operand} {sv:SV} (hx:opo s x=some sv):sv.is Γ rcs (a.eval x):=by
 unfold YtibammoednhnoaaE.opo at hx
 split at hx
 ·rename_i v hv
  injection hx with hx; subst hx
  have key:∀av,opv s x=some av→av.is Γ rcs (a.eval x):=by
   intro av hx
   unfold YtibammoednhnoaaE.opv at hx
   split at hx
   ·rename_i t
    obtain ⟨v,hv,hi⟩:=u.tm _ (look_mem hx)
    have:a.eval (.tmp t)=v:=by simp[Act.eval,hv]
    rw[this]
    exact hi
   ·injection hx with hx; subst hx; exact ⟨rfl,(),rfl,rfl⟩
   ·split at hx
    ·rename_i hr
     injection hx with hx; subst hx; exact ⟨rfl,(),⟨rfl,hr.1,hr.2⟩,rfl⟩
    ·cases hx
   ·split at hx
    ·rename_i hr
     injection hx with hx; subst hx; exact ⟨rfl,(),⟨rfl,hr⟩,rfl⟩
    ·cases hx
   ·injection hx with hx; subst hx; rfl
   ·injection hx with hx; subst hx; rfl
   ·injection hx with hx; subst hx; exact ⟨[],rfl,rfl,fun i id h=>by simp at h⟩
   ·cases hx
  exact key _ hv
 ·cases hx
theorem parts_ok {F:Fr} {s0:St} {a:Act} {w:World} {Γ:HF} {rcs:List (Nat×RC)} {h:HF} (g:Good F s0 a w Γ rcs h) {sz:Nat→Option (Nat×Nat)} {pos:Nat→List Sel} {od:Option Nat}
  {k:(K':Kd)→K'.T→St→Tr α} {Kp:α→Prop}:∀(l:List (Nat×Operand)) (K:Kd) (x:K.T) (z:K.Z) (hK:HF) (s:St) (rcs1:List (Nat×RC)) (h1:HF) (c0:Array Value),
  Sub F s a Γ rcs1 h1→K.Own Γ x z hK→HF.dj hK h1→(∀b v,(hK.un h1) b=some v→h b=some v)→c0.toList=K.cells x z→(∀n r,look rcs1 n=some r→look rcs n=some r) →
  (∀d,od=some d→Off' F d rcs1)→(partsT sz pos l K x s k).sat Kp →
  ∃(K':Kd) (x':K'.T) (z':K'.Z) (hK':HF) (s':St) (rcs':List (Nat×RC)) (h':HF) (c':Array Value),Instr.fill sz c0 (l.map fun y=>(y.1,a.eval y.2))=some c'∧K'.Own Γ x' z' hK'∧HF.dj hK' h'∧(∀b v,(hK'.un h') b=some v→h b=some v) ∧
   c'.toList=K'.cells x' z'∧Sub F s' a Γ rcs' h'∧(∀n r,look rcs' n=some r→look rcs n=some r)∧(∀d,od=some d→Off' F d rcs')∧(k K' x' s').sat Kp
 | [],K,x,z,hK,s,rcs1,h1,c0,u,ho,hd,hsub,hl,hL,hB,hs=>⟨K,x,z,hK,s,rcs1,h1,c0,rfl,ho,hd,hsub,hl,u,hL,hB,hs⟩
 |(i,y)::l,K,x,z,hK,s,rcs1,h1,c0,u,ho,hd,hsub,hl,hL,hB,hs=>by
  have step:∀(K2:Kd) (v:K2.T) (zv:K2.Z) (hn:HF) (s2:St) (rcs2:List (Nat×RC)) (h2:HF),K2.Own Γ v zv hn→a.eval y=toV K2 (K2.cells v zv)→HF.dj hn h2→(∀b v,(hn.un h2) b=some v→h1 b=some v)→Sub F s2 a Γ rcs2 h2 →
    (∀n r,look rcs2 n=some r→look rcs n=some r)→(∀d,od=some d→Off' F d rcs2)→(putP sz (pos i) i K x K2 v fun K' x'=>partsT sz pos l K' x' s2 k).sat Kp →
    ∃(K':Kd) (x':K'.T) (z':K'.Z) (hK':HF) (s':St) (rcs':List (Nat×RC)) (h':HF) (c':Array Value),Instr.fill sz c0 (((i,y)::l).map fun y=>(y.1,a.eval y.2))=some c'∧K'.Own Γ x' z' hK'∧HF.dj hK' h'∧(∀b v,(hK'.un h') b=some v→h b=some v) ∧
     c'.toList=K'.cells x' z'∧Sub F s' a Γ rcs' h'∧(∀n r,look rcs' n=some r→look rcs n=some r)∧(∀d,od=some d→Off' F d rcs')∧(k K' x' s').sat Kp:=by
   intro K2 v zv hn s2 rcs2 h2 hy hyv dn hsub2 u2 hL2 hB2 hs
   unfold putP at hs
   split at hs
   ·rename_i m off size off' hm hsz hoff
    split at hs
    ·rename_i hcond
     obtain ⟨hs1,hnu,rfl,rfl⟩:=hcond
     obtain ⟨hc,hs⟩:=hs
     have hn1:∀b v,hn b=some v→h1 b=some v:=fun b v e=>hsub2 b v (un_left e)
     have hfr:∀x:HF,(∀b v,x b=some v→h b=some v)→¬x.has w.heap.size:=fun x hx e=>by
      have:=g.mem.lt (has_sub hx _ e)
      omega
     have dKn:HF.dj hK hn:=HF.dj_iff.2 fun b hb hx=>HF.dj_iff.1 hd b hb (has_sub hn1 b hx)
     obtain ⟨z',h',o',s',cl⟩:=put_virtual (b0:=w.heap.size) hm hc hs1 hoff ho hy dKn hl (hfr hK fun b v e=>hsub b v (un_left e)) (hfr hn fun b v e=>hsub b v (un_right hd (hn1 b v e)))
     have d':HF.dj h' h2:=HF.dj_iff.2 fun b hb hx=>by
      rcases HF.has_un.1 (has_sub s' b hb) with e | e
      ·exact HF.dj_iff.1 hd b e (has_sub (fun b v e=>hsub2 b v (un_right dn e)) b hx)
      ·exact HF.dj_iff.1 dn b e hx
     have sub':∀b v,(h'.un h2) b=some v→h b=some v:=fun b v e=>by
      refine hsub b v ?_
      cases e1:h' b with
      |some q =>
       simp only[HF.un,e1,some_or,Option.some.injEq] at e
       subst e
       have:=s' b q e1
       cases e2:hK b with
       |some q'=>simp only[HF.un,e2,some_or] at this ⊢; exact this
       |none=>simp only[HF.un,e2,none_or] at this ⊢; exact hn1 b q this
      |none =>
       simp only[HF.un,e1,none_or] at e
       exact un_right hd (hsub2 b v (un_right dn e))
     obtain ⟨K',x',z'',hK',s'',rcs',h'',c',hf,rest⟩:=parts_ok g l m.K' (m.c.put x v) z' h' s2 rcs2 h2 (wr c0 off (K2.cells v zv)) u2 o' d' sub' cl hL2 hB2 hs
     refine ⟨K',x',z'',hK',s'',rcs',h'',c',?_,rest⟩
     have hcell:(a.eval y).cells.toList=K2.cells v zv:=by rw[hyv]; exact toV_cells K2 v zv hnu
     have hcs:(a.eval y).cells.size=K2.size:=by rw[←Array.length_toList,hcell,cells_length]
     have hfit:off+K2.size≤c0.size:=by
      obtain ⟨q,hp,hqa⟩:=offOf_pl (pos i) x z (0,0) off hoff
      have hcl:c0.size=K.size:=by rw[←Array.length_toList,hl,cells_length]
      have hb0:¬hK.has w.heap.size:=hfr hK fun b v e=>hsub b v (un_left e)
      obtain ⟨hw',hv',hloc',_⟩:=mkC_spec (pos i) hm x z _ q hp hc
      obtain ⟨q2,hp2,hqa2⟩:=offOf_pl (pos i) x z (w.heap.size,0) off hoff
      obtain ⟨hw2,hv2,hloc2,_⟩:=mkC_spec (pos i) hm x z _ q2 hp2 hc
      obtain ⟨hr2,ho2,sp⟩:=chg_own hs1 m.c x z hK w.heap.size 0 c0 0 hw2 hv2 ho (fun j hj=>by rw[←hl]; simp) hb0
      have:=sp.at_
      rw[hloc2,hqa2] at this
      simp only[Nat.zero_add] at this
      rcases this with ⟨_,_,e⟩ | ⟨e,_⟩
      ·omega
      ·exact absurd rfl e
     simp only[map_cons,Instr.fill,hsz]
     rw[if_neg (by simp[hcs]; omega),fill_wr,hcell]
     exact hf
    ·exact hs.elim
   ·exact hs.elim
  simp only[partsT] at hs
  split at hs
  ·rename_i K2 v hy
   obtain ⟨hf,zv,how,hyv⟩:=u.opo_is hy (w:=w)
   exact step K2 v zv HF.emp s rcs1 h1 how hyv (HF.emp_dj _) (by rw[HF.emp_un]; exact fun _ _ e=>e) u hL hB hs
  ·rename_i hy
   have hyv:a.eval y=.slice none 0 0:=u.opo_is hy (w:=w)
   split at hs
   ·rename_i own t' e hsub'
    exact step (.sl own t' e none) [] (none,fun _=>e.zd) HF.emp s rcs1 h1 ⟨rfl,rfl⟩ hyv (HF.emp_dj _) (by rw[HF.emp_un]; exact fun _ _ e=>e) u hL hB hs
   ·exact hs.elim
  ·rename_i id2 hy
   split at hs
   ·rename_i K2 v hck
    obtain ⟨zv,hA,hr,hlr,dA,e1,hown,u2⟩:=u.drop hck
    obtain ⟨r0,q,hr0,hp,hyv⟩:=u.opo_is hy (w:=w)
    rw[hlr] at hr0
    injection hr0 with hr0
    subst hr0
    simp only[pl,Option.some.injEq] at hp
    subst hp
    refine step K2 v zv hA (dropC s id2) (del rcs1 id2) hr hown hyv dA (by rw[e1]; exact fun _ _ e=>e) u2 (fun n r e=>hL n r (del_look rcs1 id2 n r e)) (fun d hd'=>off'_del (hB d hd') hlr rfl) hs
   ·exact hs.elim
  ·exact hs.elim
def szOf (P:Program) (t:TypeId):Option ((Nat→Option (Nat×Nat))×(Nat→List Sel)):=match P.underlying t with
 |some (.array _ e)=>match P.info? e with
  |some ie=>some (fun i=>some (i*ie.size,ie.size),fun i=>[.idx i])
  |none=>none
 |some (.struct fields)=>match fields.toList.mapM (fun f=>(P.info? f.type).map fun i=>(f.offset,i.size)) with
  |some places=>some ((places.toArray[·]?),fldSel)
  |none=>none
 |_=>none
def newBare (n:Lim) (o:Oper) (K:Kd) (x:K.T) (s:St) (k:St→Tr α):Tr α :=
 if K.free then set n s o (.one (.val K x)) k else match o.dst with
  |some d=>if n.lo≤d∧d<n.n then k ⟨(d,.one (.at d []))::(fresh s d).tm,(d,⟨none,K,x⟩)::del s.ck d⟩ else .bad
  |none=>.bad
def stBuild (P:Program) (n:Lim) (o:Oper) (t:TypeId) (parts:Array (Nat×Operand)) (s:St) (k:St→Tr α):Tr α:=match kdAt P n o t,szOf P t with
 |some K0,some (sz,pos)=>if zeroOK P t K0&&unfOK K0 then partsT sz pos parts.toList (unfK K0) (unfT K0 (zv K0)) s (fun K' x' s'=>if single K' then .bad else newBare n o K' x' s' k) else .bad
 |_,_=>.bad
theorem Good.bare {F:Fr} {s:St} {a:Act} {w:World} {Γ:HF} {rcs rcs0:List (Nat×RC)} {h h0 hn:HF} (g:Good F s a w Γ rcs h)
  (hsub:∀b v,(hn.un h0) b=some v→h b=some v) (dn:HF.dj hn h0) (st:Star Γ rcs0 h0) (nd:(rcs0.map (·.1)).Nodup)
  {d:Nat} (hd:d<F.n.n) (hlo:F.n.lo≤d) (hB:Off' F d rcs0) (hsubL:∀n r,look rcs0 n=some r→look rcs n=some r) {r:RC} (hr:r.Own Γ hn) {v:Value} {av:SV} (hav:av.is Γ ((d,r)::del rcs0 d) v)
  {tm:List (Nat×AV)} (htm:∀t av,(t,av)∈tm→offA d av=true∧t≠d∧∃v,a.tmps[t]? = some v∧av.is Γ rcs0 v) :
  R F ⟨(d,.one av)::tm,(d,r.ck)::del (rcs0.map fun r=>(r.1,r.2.ck)) d⟩ (a.put (some d) v) w:=by
 obtain ⟨h1,st1,sub1⟩:=star_del st nd d
 have d1n:HF.dj hn h1:=HF.dj_iff.2 fun b hb hx=>HF.dj_iff.1 dn b hb (has_sub sub1 b hx)
 have hs1:∀b v,(hn.un h1) b=some v→h b=some v:=fun b v e=>hsub b v (un_mono dn (fun _ _ e=>e) sub1 b v e)
 refine ⟨Γ,(d,r)::del rcs0 d,hn.un h1,?_,?_,⟨hn,h1,d1n,rfl,hr,st1⟩,g.mem.mono hs1,g.memR,?_,g.defers,by simp[Act.put,g.tsz],?_,g.size,g.keep,fun b hb=>g.own b (has_sub hs1 b hb),g.ro,g.ro0,g.os,g.tape,g.output,g.sg,bx_new hB fun e he=>(g.bx e he).1,md_new g (.inl ⟨hlo,hd⟩) hsubL⟩
 ·simp only[map_cons,List.cons.injEq,true_and,del,filter_map]
  rfl
 ·rw[map_cons,nodup_cons]
  exact ⟨del_not _ _,del_nodup nd d⟩
 ·exact HF.dj_iff.2 fun b hb hx=>HF.dj_iff.1 g.dj b hb (has_sub hs1 b hx)
 ·intro t' av' hm
  rcases List.mem_cons.1 hm with e | e
  ·injection e with e1 e2
   subst e1; subst e2
   exact ⟨v,by simp[Act.put,g.tsz,hd],hav⟩
  ·obtain ⟨ho,hne,u,hu,hi⟩:=htm t' av' e
   exact ⟨u,by simp only[Act.put]; rw[Array.getElem?_setIfInBounds_ne (Ne.symm hne)]; exact hu,cons_is ho (offA_is ho hi)⟩
theorem Good.ofSub {F:Fr} {s0 s:St} {a:Act} {w:World} {Γ:HF} {rcs rcs1:List (Nat×RC)} {h h1:HF} (g:Good F s0 a w Γ rcs h) (u:Sub F s a Γ rcs1 h1) (hsub:∀b v,h1 b=some v→h b=some v)
  (hL:∀n r,look rcs1 n=some r→look rcs n=some r) (hB:∀e∈F.B,∀id,e.id=some id→∃r t,look rcs1 id=some r∧r.box=some (e.b,t)):Good F s a w Γ rcs1 h1 :=
 ⟨u.ck.symm,u.nd,u.st,g.mem.mono hsub,g.memR,HF.dj_iff.2 fun b hb hx=>HF.dj_iff.1 g.dj b hb (has_sub hsub b hx),g.defers,g.tsz,fun t av hm=>u.tm (t,av) hm,g.size,g.keep,fun b hb=>g.own b (has_sub hsub b hb),g.ro,g.ro0,g.os,g.tape,g.output,g.sg,
  fun e he=>⟨(g.bx e he).1,hB e he⟩,fun m hm r hr=>g.md m hm r (hL _ _ hr)⟩
theorem newBare_ok {P:Program} {F:Fr} {s0 s:St} {a:Act} {w:World} {Γ:HF} {rcs rcs1:List (Nat×RC)} {h h1 hn:HF} (g:Good F s0 a w Γ rcs h) (u:Sub F s a Γ rcs1 h1) (dn:HF.dj hn h1) (hsub:∀b v,(hn.un h1) b=some v→h b=some v)
  (hL:∀n r,look rcs1 n=some r→look rcs n=some r) {o:Oper} (hB:∀d,o.dst=some d→Off' F d rcs1) {K:Kd} {x:K.T} {z:K.Z} (ho:K.Own Γ x z hn) {v:Value} (hv:v=toV K (K.cells x z))
  (hrun:(execOp a.eval o).run P w=.ok (.value v) w) {k:St→Tr α} {Kp:α→Prop} {Q:Exit→Act→World→Prop} (hs:(newBare F.n o K x s k).sat Kp) :
  o.wp P a w (fun a' w'=>∃s',R F s' a' w'∧(k s').sat Kp) Q:=by
 unfold newBare at hs
 unfold Oper.wp
 rw[hrun,Oper.upon_value]
 split at hs
 ·rename_i hf
  have:=own_free hf ho
  subst this
  rw[HF.emp_un] at hsub
  have hd:∃d,o.dst=some d:=by
   unfold set at hs
   split at hs
   ·exact ⟨_,by assumption⟩
   ·exact hs.elim
  obtain ⟨d,hd⟩:=hd
  have g':=g.ofSub u hsub hL fun e he id hid=>(hB d hd e he id hid).2
  exact set_ok hs g' ⟨hf,z,ho,hv⟩
 ·split at hs
  ·rename_i d hd
   split at hs
   ·rename_i hlt
    rw[hd]
    have hR:=g.bare (d:=d) (r:=⟨none,K,x,z⟩) (v:=v) (av:=.at d []) (tm:=(fresh s d).tm) hsub dn u.st u.nd hlt.2 hlt.1 (hB d hd) hL (by simpa only[RC.Own] using ho)
     ⟨⟨none,K,x,z⟩,⟨K,x,z,(0,0)⟩,by simp[look],by simp[pl],hv⟩ (Good.fresh (F:=F) u.tm)
    rw[←u.ck] at hR
    exact ⟨_,hR,hs⟩
   ·exact hs.elim
  ·exact hs.elim
theorem stBuild_ok {P:Program} {F:Fr} {o:Oper} {t:TypeId} {parts:Array (Nat×Operand)} {s:St} {k:St→Tr α} (ho:o.op=.build t parts):WorldOK P F o s (stBuild P F.n o t parts s k) k ⟨true,dstL o⟩:=by
 unfold stBuild
 split
 ·rename_i K0 sz pos hK hsz
  split
  ·rename_i hz
   rw[Bool.and_eq_true] at hz
   obtain ⟨hz,hu⟩:=hz
   intro Kp a w Γ rcs h Q g he hs
   obtain ⟨it,z0,hit,hz0,hcl⟩:=zeroOK_spec hz
   obtain ⟨zu,ou,cu⟩:=unf_own hu (zero_own (Γ:=Γ) K0)
   have hB:∀d,o.dst=some d→Off' F d rcs:=fun d hd=>by rw[dstL_some hd] at he; exact off'_of g he
   obtain ⟨K',x',z',hK',s',rcs',h',c',hf,o',d',sub',cl,u',hL',hB',hs'⟩:=parts_ok g (od:=o.dst) parts.toList (unfK K0) (unfT K0 (zv K0)) zu HF.emp s rcs h z0.cells g.sub ou (HF.emp_dj _) (by rw[HF.emp_un]; exact fun _ _ e=>e) (hcl.trans cu.symm) (fun _ _ e=>e) hB hs
   split at hs'
   ·exact hs'.elim
   ·rename_i hsg
    refine newBare_ok g u' d' sub' hL' hB' o' (v:=.agg c') ?_ ?_ hs'
    ·simp only[toV,hsg,Bool.false_eq_true,if_false,←cl]
    ·have hb:P.built t (parts.map fun y=>(y.1,a.eval y.2)).toList=some c':=by
      rw[Array.toList_map]
      unfold szOf at hsz
      unfold Program.built
      split at hsz
      ·rename_i n e hu
       split at hsz
       ·rename_i ie hie
        simp only[Option.some.injEq,Prod.mk.injEq] at hsz
        obtain ⟨rfl,rfl⟩:=hsz
        simp only[hit,hu,hz0,hie]
        exact hf
       ·cases hsz
      ·rename_i fields hu
       split at hsz
       ·rename_i places hpl
        simp only[Option.some.injEq,Prod.mk.injEq] at hsz
        obtain ⟨rfl,rfl⟩:=hsz
        simp only[hit,hu,hz0,hpl]
        exact hf
       ·cases hsz
      ·cases hsz
     have:=run_build w t _ c' hb
     simp only[execOp,ho]
     simp[this]
  ·exact world_bad
 ·exact world_bad
def elemKd (P:Program) (n:Lim) (o:Oper) (te:TypeId) (s:St):List (Nat×Operand)→Option Kd
 | []=>kdAt P n o te
 |(_,y)::_=>match opo s y with
  |some (.val K _)=>some K
  |some (.at id2 [])=>(look s.ck id2).map (·.K)
  |_=>kdAt P n o te
def castA {K:Kd} {n:Nat} {e:Kd} (h:K=.arr n e) (x:K.T):List e.T:=by subst h; exact x
def rowOf (n:Lim) (o:Oper) (te:TypeId) (len:Nat) (e:Kd) (k:St→Tr α) (K':Kd) (x':K'.T) (s':St):Tr α:=if h:K'=.arr len e then newRowT n o te e (castA h x') s' k else .bad
def stLit (P:Program) (n:Lim) (o:Oper) (t:TypeId) (len:Nat) (parts:Array (Nat×Operand)) (s:St) (k:St→Tr α):Tr α:=match slOf? P t with
 |some (te,m)=>match elemKd P n o te s parts.toList with
  |some e=>if m=e.size∧zeroOK P te e=true∧len*m≤16777216∧len≤16777216 then partsT (fun i=>some (i*m,m)) (fun i=>[.idx i]) parts.toList (.arr len e) (replicate len (zv e)) s (rowOf n o te len e k) else .bad
  |none=>.bad
 |none=>.bad
theorem run_lit {P:Program} (w:World) {t te:TypeId} {m len:Nat} {parts:Array (Nat×Value)} {cells:Array Value} {it:TypeInfo} {z:Value} (hsl:slOf? P t=some (te,m)) (hi:P.info? te=some it) (hz:it.zero=some z) (hsmall:len*m≤16777216)
  (h:Instr.fill (fun i=>some (i*m,m)) ((Array.range (len*m)).map ((if len*m=0 then #[] else z.cells)[·%(if len*m=0 then #[] else z.cells).size]!)) parts.toList=some cells) :
  (Instr.buildSlice t len parts).run P w=.ok (.slice (some ⟨w.heap.size,0,none⟩) len len) (w.alloc (.cells cells te)):=by
 obtain ⟨i,hu,hi',hisz⟩:=slOf_spec hsl
 rw[hi] at hi'
 injection hi' with hi'
 subst hi'
 subst hisz
 have hs:¬(len*it.size>2^24):=by omega
 by_cases h0:len*it.size=0
 ·have hr0:(Array.range 0:Array Nat) = #[]:=rfl
  simp only[h0,if_true,hr0,Array.map_empty] at h
  simp[Instr.buildSlice,run_underlying hu,sizeOf,typeInfo,hi,h0,newRow,hr0,h]
 ·simp only[h0,if_false] at h
  simp[Instr.buildSlice,run_underlying hu,sizeOf,typeInfo,zeroValue,hi,hz,hs,h0,newRow,h]
theorem zero_row {e:Kd} {z:Value} {len:Nat} (hz:z.cells.toList=e.cells (zv e) e.zd):((Array.range (len*e.size)).map ((if len*e.size=0 then #[] else z.cells)[·%(if len*e.size=0 then #[] else z.cells).size]!)).toList=(Kd.arr len e).cells (replicate len (zv e)) (fun _=>e.zd):=by
 have hsize:z.cells.size=e.size:=by rw[←Array.length_toList,hz,cells_length]
 have hlen:((Kd.arr len e).cells (replicate len (zv e)) (fun _=>e.zd)).length=len*e.size:=cells_length (.arr len e) _ _
 have hl:Lie ((Array.range (len*e.size)).map ((if len*e.size=0 then #[] else z.cells)[·%(if len*e.size=0 then #[] else z.cells).size]!)) 0 ((Kd.arr len e).cells (replicate len (zv e)) (fun _=>e.zd)):=by
  refine (lie_flat (s:=e.size) (f:=fun i=>e.cells (getD (replicate len (zv e)) i e.dft) e.zd) (fun i=>cells_length e _ _)).2 fun i hi=>?_
  have hD:getD (replicate len (zv e)) i e.dft=zv e:=by
   rw[getD_eq_getElem?_getD,List.getElem?_replicate,if_pos hi]; rfl
  rw[hD]
  intro q hq
  rw[cells_length] at hq
  have hlt:i*e.size+q<len*e.size:=by
   have:=mul_le_mul_right e.size (Nat.succ_le_of_lt hi)
   rw[succ_mul] at this
   omega
  have hne:¬(len*e.size=0):=by omega
  simp only[if_neg hne,Nat.zero_add]
  rw[Array.getElem?_map,Array.getElem?_range,if_pos hlt]
  simp only[map_some,hsize]
  rw[Nat.mul_comm,Nat.mul_add_mod,Nat.mod_eq_of_lt hq]
  rw[←hz,Array.getElem?_toList,Array.getElem?_eq_getElem (by omega)]
  simp[hsize,hq]
 refine ext_getElem? fun j=>?_
 rcases Nat.lt_or_ge j (len*e.size) with hj | hj
 ·have:=hl j (by rw[hlen]; exact hj)
  rw[Nat.zero_add] at this
  rw[Array.getElem?_toList]
  exact this
 ·rw[getElem?_eq_none (by rw[Array.length_toList,Array.size_map,Array.size_range]; exact hj),getElem?_eq_none (by rw[hlen]; exact hj)]
theorem stLit_ok {P:Program} {F:Fr} {o:Oper} {t:TypeId} {len:Nat} {parts:Array (Nat×Operand)} {s:St} {k:St→Tr α} (ho:o.op=.buildSlice t len parts):WorldOK P F o s (stLit P F.n o t len parts s k) k ⟨true,dstL o⟩:=by
 unfold stLit
 split
 ·rename_i te m hsl
  split
  ·rename_i e he
   split
   ·rename_i hcond
    obtain ⟨rfl,hz,hsm,hsm2⟩:=hcond
    intro Kp a w Γ rcs h Q g he hs
    obtain ⟨it,z0,hit,hz0,hcl⟩:=zeroOK_spec hz
    have hB:∀d,o.dst=some d→Off' F d rcs:=fun d hd=>by rw[dstL_some hd] at he; exact off'_of g he
    have hown0:(Kd.arr len e).Own Γ (replicate len (zv e)) (fun _=>e.zd) HF.emp:=by
     refine ⟨List.length_replicate,each_emp fun i hi=>?_⟩
     have hD:getD (replicate len (zv e)) i e.dft=zv e:=by
      rw[getD_eq_getElem?_getD,List.getElem?_replicate,if_pos hi]; rfl
     simp only[hD]
     exact zero_own e
    obtain ⟨K',x',z',hK',s',rcs',h',c',hf,o',d',sub',cl,u',hL',hB',hs'⟩:=parts_ok g (od:=o.dst) parts.toList (.arr len e) (replicate len (zv e)) (fun _=>e.zd) HF.emp s rcs h _ g.sub hown0 (HF.emp_dj _) (by rw[HF.emp_un]; exact fun _ _ e=>e) (zero_row hcl) (fun _ _ e=>e) hB hs
    unfold rowOf at hs'
    split at hs'
    ·rename_i hK
     subst hK
     have hx:length x'=len:=o'.1
     have hrun:=run_lit w (parts:=parts.map fun y=>(y.1,a.eval y.2)) hsl hit hz0 hsm (by rw[Array.toList_map]; exact hf)
     have hlc:∀i,i<len→Lie c' (i*e.size) (e.cells (getD x' i e.dft) (z' i)):=by
      intro i hi
      have h1:Lie c' 0 ((Kd.arr len e).cells x' z'):=fun j hj=>by rw[←cl]; simp
      have:=(lie_flat (s:=e.size) (f:=fun i=>e.cells (getD x' i e.dft) (z' i)) (fun i=>cells_length e _ _)).1 h1 i hi
      rwa [Nat.zero_add] at this
     refine newRow_ok (xs:=x') (zf:=z') (cap:=len) (c:=c') g (h0:=h') (hn:=hK') (fun b v e=>sub' b v (by rw[HF.un_comm d']; exact e)) d'.symm u'.st u'.nd u'.ck (fun x hx=>u'.tm x hx) ?_ (by rw[hx]; exact Nat.le_refl _) ?_ ?_ (fun i hi=>hlc i (by rw[←hx]; exact hi)) ?_ hB' hL' hs'
     ·simp only[execOp,ho]
      rw[hx]
      simp[hrun]
     ·omega
     ·rw[←Array.length_toList,cl,cells_length]; exact Nat.le_refl _
     ·rw[hx]; exact o'.2
    ·exact hs'.elim
   ·exact world_bad
  ·exact world_bad
 ·exact world_bad
def isAt (id:Nat):AV→Bool
 |.one (.at i [])=>i==id
 |_=>false
def lit1S (s:St) (te:TypeId) (d id2:Nat) (K2:Kd) (v:K2.T):St :=
 ⟨(d,.one (.at d []))::((s.tm.filter fun x=>x.1 != d&&isAt id2 x.2).map (fun x=>(x.1,AV.one (.at d [.idx 0])))++(fresh (dropC s id2) d).tm),(d,⟨none,.sl true te K2 none,[v]⟩)::del (dropC s id2).ck d⟩
def stLit1 (P:Program) (n:Lim) (o:Oper) (t:TypeId) (id2:Nat) (K2:Kd) (v:K2.T) (s:St) (k:St→Tr α):Tr α:=match slOf? P t,o.dst with
 |some (te,m),some d=>if m=K2.size∧zeroOK P te K2=true∧m≤16777216∧noUn K2=true then (if n.lo≤d∧d<n.n then k (lit1S s te d id2 K2 v) else .bad) else .bad
 |_,_=>.bad
theorem stLit1_ok {P:Program} {F:Fr} {o:Oper} {t:TypeId} {parts:Array (Nat×Operand)} {s:St} {k:St→Tr α} {y id2:Nat} {K2:Kd} {v:K2.T} (ho:o.op=.buildSlice t 1 parts) (hp:parts.toList=[(0,.tmp y)]) (hl:look s.tm y=some (.one (.at id2 []))) (hc:look s.ck id2=some ⟨none,K2,v⟩) :
  WorldOK P F o s (stLit1 P F.n o t id2 K2 v s k) k ⟨true,dstL o⟩:=by
 unfold stLit1
 split
 ·rename_i te m d hsl hd
  split
  ·rename_i hcond
   obtain ⟨rfl,hz,hsm,hnu⟩:=hcond
   split
   ·rename_i hlt
    intro Kp a w Γ rcs h Q g he hs
    obtain ⟨it,z0,hit,hz0,hcl⟩:=zeroOK_spec hz
    have hB:Off' F d rcs:=by rw[dstL_some hd] at he; exact off'_of g he
    obtain ⟨zv2,hA,hr,hlr,dA,e1,hown,u2⟩:=g.sub.drop hc
    have at_:∀t,(t,AV.one (.at id2 []))∈s.tm→a.tmps[t]? = some (toV K2 (K2.cells v zv2)):=by
     intro t hm
     obtain ⟨u,hu,r0,q,hr0,hpq,hv⟩:=g.tm t _ hm
     rw[hlr] at hr0
     injection hr0 with hr0
     subst hr0
     simp only[pl,Option.some.injEq] at hpq
     subst hpq
     rw[hu,hv]
    have heval:a.eval (.tmp y)=toV K2 (K2.cells v zv2):=by simp[Act.eval,at_ y (look_mem hl)]
    have hcell:(toV K2 (K2.cells v zv2)).cells.toList=K2.cells v zv2:=toV_cells K2 v zv2 hnu
    have hcs:(toV K2 (K2.cells v zv2)).cells.size=K2.size:=by rw[←Array.length_toList,hcell,cells_length]
    generalize hc0:((Array.range (1*K2.size)).map ((if 1*K2.size=0 then #[] else z0.cells)[·%(if 1*K2.size=0 then #[] else z0.cells).size]!))=c0
    have hs0:c0.size=K2.size:=by rw[←hc0]; simp
    have hfill:Instr.fill (fun i=>some (i*K2.size,K2.size)) c0 [(0,toV K2 (K2.cells v zv2))]=some (wr c0 0 (K2.cells v zv2)):=by
     simp only[Instr.fill]
     rw[if_neg (by simp[hcs]; omega),fill_wr,hcell,Nat.zero_mul]
    have hrun:=run_lit (len:=1) w (parts:=parts.map fun y=>(y.1,a.eval y.2)) hsl hit hz0 (by omega) (by rw[Array.toList_map,hp,hc0]; simp only[map_cons,List.map_nil,heval]; exact hfill)
    have hlie:Lie (wr c0 0 (K2.cells v zv2)) 0 (K2.cells v zv2):=fun j hj=>wr_in _ _ _ _ hj (by rw[cells_length]; omega)
    have hR:=g.allocX (d:=d) (c:=wr c0 0 (K2.cells v zv2)) (t:=te) (r:=⟨none,.sl true te K2 none,[v],(some (w.heap.size,0,1),fun (_:Nat)=>zv2)⟩) (v:=.slice (some ⟨w.heap.size,0,none⟩) 1 1) (av:=.at d []) (rcs0:=del rcs id2) (h0:=hr) (hn:=hA)
     (tm:=(s.tm.filter fun x=>x.1 != d&&isAt id2 x.2).map (fun x=>(x.1,AV.one (.at d [.idx 0])))++(fresh (dropC s id2) d).tm) (fun b v e=>by rw[e1,HF.un_comm dA]; exact e) dA.symm u2.st u2.nd hlt.2 hlt.1 (off'_del hB hlr rfl) (fun n r e=>del_look rcs id2 n r e)
     (fun hb e' dj=>by
      subst e'
      refine ⟨wr c0 0 (K2.cells v zv2),hA,Nat.le_refl _,by decide,by rw[Nat.zero_add,wr_size]; omega,fun i hi=>?_,⟨HF.emp,hA,HF.emp_dj _,(HF.emp_un _).symm,rfl,?_⟩,?_⟩
      ·have:i=0:=by simpa using hi
       subst this
       simpa using hlie
      ·show (if (none:Option Nat)=some 0 then hA=HF.emp else K2.Own Γ v zv2 hA)
       rw[if_neg (by simp)]
       exact hown
      ·simp only[if_true]
       exact ⟨dj,trivial⟩)
     ⟨⟨none,.sl true te K2 none,[v],(some (w.heap.size,0,1),fun (_:Nat)=>zv2)⟩,⟨_,[v],(some (w.heap.size,0,1),fun (_:Nat)=>zv2),(0,0)⟩,by simp[look],by simp only[pl]; rfl,rfl⟩
     (fun t av hm=>by
      rcases List.mem_append.1 hm with hm | hm
      ·obtain ⟨x,hx,he⟩:=List.mem_map.1 hm
       obtain ⟨m1,m2⟩:=List.mem_filter.1 hx
       obtain ⟨x1,x2⟩:=x
       injection he with he1 he2
       subst he1
       subst he2
       simp only[Bool.and_eq_true,bne_iff_ne,ne_eq] at m2
       obtain ⟨m2,m3⟩:=m2
       have hx2:x2=.one (.at id2 []):=by
        unfold isAt at m3
        split at m3
        ·simp only[beq_iff_eq] at m3
         rw[m3]
        ·cases m3
       subst hx2
       refine ⟨m2,_,at_ _ m1,⟨none,.sl true te K2 none,[v],(some (w.heap.size,0,1),fun (_:Nat)=>zv2)⟩,⟨K2,v,zv2,(w.heap.size,0+0*K2.size)⟩,by simp[look],?_,rfl⟩
       simp only[pl]
       rfl
      ·obtain ⟨f1,f2,u,f3,f4⟩:=Good.fresh (F:=F) (fun x hx=>u2.tm x hx) t av hm
       exact ⟨f2,u,f3,cons_is f1 (offA_is f1 f4)⟩)
    unfold Oper.wp
    have hrun':(execOp a.eval o).run P w=.ok (.value (.slice (some ⟨w.heap.size,0,none⟩) 1 1)) (w.alloc (.cells (wr c0 0 (K2.cells v zv2)) te)):=by
     simp only[execOp,ho]
     simp[hrun]
    rw[hrun',Oper.upon_value,hd]
    refine ⟨_,?_,hs⟩
    unfold lit1S
    rw[show (dropC s id2).ck=(del rcs id2).map fun r=>(r.1,r.2.ck) from u2.ck]
    exact hR
   ·exact world_bad
  ·exact world_bad
 ·exact world_bad
def stLitB (P:Program) (n:Lim) (o:Oper) (t:TypeId) (len:Nat) (parts:Array (Nat×Operand)) (s:St) (k:St→Tr α):Tr α:=match len,parts.toList with
 |1,[(0,.tmp y)]=>match look s.tm y with
  |some (.one (.at id2 []))=>match look s.ck id2 with
   |some ⟨none,K2,v⟩=>stLit1 P n o t id2 K2 v s k
   |_=>stLit P n o t len parts s k
  |_=>stLit P n o t len parts s k
 |_,_=>stLit P n o t len parts s k
theorem stLitB_ok {P:Program} {F:Fr} {o:Oper} {t:TypeId} {len:Nat} {parts:Array (Nat×Operand)} {s:St} {k:St→Tr α} (ho:o.op=.buildSlice t len parts):WorldOK P F o s (stLitB P F.n o t len parts s k) k ⟨true,dstL o⟩:=by
 unfold stLitB
 split
 ·rename_i y hp
  split
  ·rename_i id2 hl
   split
   ·rename_i K2 v hc
    exact stLit1_ok ho hp hl hc
   ·exact stLit_ok ho
  ·exact stLit_ok ho
 ·exact stLit_ok ho
theorem tOwn_mono {β ζ:Type} {pO pO':β→ζ→Prop} {pc:β→ζ→List Value} {n:Nat} {d:Tree β} {Γ Γ':HF} (hg:∀b v,Γ b=some v→Γ' b=some v) (hp:∀a z,pO a z→pO' a z) {x:Tree β} {z:ζ} {h:Option (Addr×Nat)}
  (o:TOwn pO pc n d Γ x z h):TOwn pO' pc n d Γ' x z h:=by
 induction o with
 |nil h=>exact .nil (hp _ _ h)
 |void h=>exact .void (hp _ _ h)
 |row zf hf h h1 h2 h3 h4 h5 _ ih=>exact .row zf hf (hp _ _ h) h1 h2 h3 (hg _ _ h4) h5 ih
theorem lOwn_mono {β ζ:Type} {pO pO':β→ζ→Prop} {pc:β→ζ→List Value} {n:Nat} {d:Tree β} {Γ Γ':HF} (hg:∀b v,Γ b=some v→Γ' b=some v) (hp:∀a z,pO a z→pO' a z) {l:List (Tree β)} {h:Option (Addr×Nat)}
  (o:LOwn pO pc n d Γ l h):LOwn pO' pc n d Γ' l h:=by
 unfold LOwn at o ⊢
 split
 ·exact o
 ·refine o.imp id fun ⟨h0,c,t',zf,hf,h1,h2,h3,h4,h5,h6⟩=>⟨h0,c,t',zf,hf,h1,h2,h3,hg _ _ h4,h5,fun i hi=>tOwn_mono hg hp (h6 i hi)⟩
theorem own_mono {Γ Γ':HF} (hg:∀b v,Γ b=some v→Γ' b=some v):∀ {K:Kd} {x:K.T} {z:K.Z} {h:HF},K.Own Γ x z h→K.Own Γ' x z h
 |.int _,_,_,_,o=>o
 |.bool,_,_,_,o=>o
 |.str,_,_,_,o=>o
 |.un,_,_,_,o=>o
 |.unit,_,_,_,o=>o
 |.tree _ e,_,_,_,o=>⟨o.1,tOwn_mono hg (fun _ _ h=>own_mono (K:=e) hg h) o.2⟩
 |.tl _ e,_,_,_,o=>⟨o.1,lOwn_mono hg (fun _ _ h=>own_mono (K:=e) hg h) o.2⟩
 |.ep _,none,_,_,o=>o
 |.ep e,some y,z,_,o=>by
  obtain ⟨o1,o2,c,t,o3,o4⟩:=o
  exact ⟨o1,own_mono (K:=e) hg o2,c,t,hg _ _ o3,o4⟩
 |.mp _ _ _,none,_,_,o=>o
 |.mp true _ _,some _,_,_,o=>o
 |.mp false _ _,some _,_,_,o=>by
  obtain ⟨es,clk,e,he⟩:=o
  exact ⟨es,clk,⟨hg _ _ e.1,e.2⟩,he⟩
 |.pair a b,x,z,h,o=>by
  obtain ⟨h1,h2,d,e,o1,o2⟩:=o
  exact ⟨h1,h2,d,e,own_mono hg o1,own_mono hg o2⟩
 |.arr n e,x,z,h,o=>⟨o.1,Each.congr (fun i _ h' p=>own_mono (K:=e) hg p) o.2⟩
 |.sl own t e hole,x,z,h,o=>by
  obtain ⟨zo,zf⟩:=z
  cases zo with
  |none=>exact o
  |some q =>
   obtain ⟨b,off,cap⟩:=q
   obtain ⟨c,h2,h1,h3,h4,hl,he,hd⟩:=o
   refine ⟨c,h2,h1,h3,h4,hl,Each.congr (fun i _ h' p=>?_) he,?_⟩
   ·split
    ·rename_i hh; rw[if_pos hh] at p; exact p
    ·rename_i hh; rw[if_neg hh] at p; exact own_mono (K:=e) hg p
   ·cases own with
    |true=>exact hd
    |false =>
     simp only[Bool.false_eq_true,if_false] at hd ⊢
     obtain ⟨⟨t',hd⟩,e⟩:=hd
     exact ⟨⟨t',hg _ _ hd⟩,e⟩
theorem star_mono {Γ Γ':HF} (hg:∀b v,Γ b=some v→Γ' b=some v):∀ {rcs:List (Nat×RC)} {h:HF},Star Γ rcs h→Star Γ' rcs h
 | [],_,o=>o
 |r::l,h,⟨h1,h2,d,e,o,st⟩=>by
  refine ⟨h1,h2,d,e,?_,star_mono hg st⟩
  obtain ⟨i,rb,rK,rx,rz⟩:=r
  cases rb with
  |some bt =>
   obtain ⟨c,h2,d,e,o,hl⟩:=o
   exact ⟨c,h2,d,e,own_mono hg o,hl⟩
  |none=>exact own_mono (K:=rK) (x:=rx) (z:=rz) hg o
theorem SV.is_mono {Γ Γ':HF} (hg:∀b v,Γ b=some v→Γ' b=some v) {rcs:List (Nat×RC)} {v:Value}:∀ {s:SV},s.is Γ rcs v→s.is Γ' rcs v
 |.val _ _,⟨f,z,o,e⟩=>⟨f,z,own_mono hg o,e⟩
 |.ptr _ _,i=>i
 |.at _ _,i=>i
 |.slc _ _ _ _,i=>i
 |.eptr _ _,⟨f,z,b,o,c,t,how,hc,hl,e⟩=>⟨f,z,b,o,c,t,own_mono hg how,hg _ _ hc,hl,e⟩
 |.nilS,i=>i
 |.nilP,i=>i
 |.bnd _ _ _,i=>i
 |.clo _ _,i=>i
theorem AV.is_mono {Γ Γ':HF} (hg:∀b v,Γ b=some v→Γ' b=some v) {rcs:List (Nat×RC)} {v:Value}:∀ {s:AV},s.is Γ rcs v→s.is Γ' rcs v
 |.one _,i=>SV.is_mono hg i
 |.tup _,⟨vs,e,hl,i⟩=>⟨vs,e,hl,fun j s hj=>let ⟨u,hu,i1⟩:=i j s hj; ⟨u,hu,SV.is_mono hg i1⟩⟩
theorem Good.freeze {F:Fr} {s:St} {a:Act} {w:World} {Γ:HF} {rcs:List (Nat×RC)} {h:HF} (g:Good F s a w Γ rcs h) {id:Nat} {r:RC} (hr:look rcs id=some r)
  (hB:∀e∈F.B,∀id',e.id=some id'→id'≠id):∃h1 hr',HF.dj h1 hr'∧h=h1.un hr'∧r.Own Γ h1∧(∀b v,Γ b=some v→(Γ.un h1) b=some v)∧(∀b v,h1 b=some v→(Γ.un h1) b=some v) ∧
   ∀tm,(∀t av,(t,av)∈tm→∃v,a.tmps[t]? = some v∧av.is (Γ.un h1) (del rcs id) v)→Good F ⟨tm,del s.ck id⟩ a w (Γ.un h1) (del rcs id) hr':=by
 obtain ⟨h1,hr',d1,hh,o1,_,dl⟩:=star_upd g.star hr g.nodup
 have m:=(Mem.un d1).1 (hh▸g.mem)
 have dj2:=g.dj
 rw[hh] at dj2
 obtain ⟨dG1,dGr⟩:=HF.dj_un.1 dj2
 have hg:∀b v,Γ b=some v→(Γ.un h1) b=some v:=fun b v e=>un_left e
 refine ⟨h1,hr',d1,hh,o1,hg,fun b v e=>un_right dG1 e,fun tm htm=>⟨(del_ck g id),del_nodup g.nodup id,star_mono hg dl,m.2,?_,HF.un_dj.2 ⟨dGr,d1⟩,g.defers,g.tsz,htm,g.size,g.keep,?_,?_,fun b x e=>hg b x (g.ro0 b x e),g.os,g.tape,g.output,(fun x hx=>hg x.1 _ (g.sg x hx)),?_,fun m' hm r' hr'=>g.md m' hm r' (del_look rcs id _ _ hr')⟩⟩
 ·intro b x e
  cases e1:Γ b with
  |some q =>
   simp only[HF.un,e1,some_or,Option.some.injEq] at e
   subst e
   exact g.memR b _ e1
  |none =>
   simp only[HF.un,e1,none_or] at e
   exact (m.1 b x e).r
 ·intro b hb
  exact g.own b (by rw[hh]; exact HF.has_un.2 (.inr hb))
 ·intro b hb
  rcases HF.has_un.1 hb with e | e
  ·exact g.ro b e
  ·exact .inr (g.own b (by rw[hh]; exact HF.has_un.2 (.inl e)))
 ·intro e he
  refine ⟨(g.bx e he).1,fun id' hid=>?_⟩
  obtain ⟨r',t',h1',h2'⟩:=(g.bx e he).2 id' hid
  exact ⟨r',t',by rw[look_del _ (hB e he id' hid)]; exact h1',h2'⟩
def stArrSl (P:Program) (n:Lim) (o:Oper) (t:TypeId) (id:Nat) (s:St) (k:St→Tr α):Tr α:=match look s.ck id,P.underlying t with
 |some ⟨some _,.arr m e,xs⟩,some (.array m' te)=>match P.info? te,o.dst with
  |some ie,some d=>if m=m'∧ie.size=e.size∧e.free=true∧m≤9223372036854775807∧d<n.n then
    k ⟨(d,.one (.val (.sl false te e none) xs))::del (s.tm.filter fun x=>offA id x.2) d,del s.ck id⟩ else .bad
  |_,_=>.bad
 |_,_=>.bad
theorem stArrSl_ok {P:Program} {F:Fr} {o:Oper} {t:TypeId} {x:Operand} {s:St} {k:St→Tr α} (ho:o.op=.slice t x none none none) {id:Nat} (hx:opo s x=some (.ptr id [])):WorldOK P F o s (stArrSl P F.n o t id s k) k ⟨true,[id]⟩:=by
 unfold stArrSl
 split
 ·rename_i t0 m e xs m' te hck hu
  split
  ·rename_i ie d hie hd
   split
   ·rename_i hcond
    obtain ⟨rfl,hsz,hf,hm,hlt⟩:=hcond
    intro Kp a w Γ rcs h Q g he hs
    obtain ⟨r,q,hr,hp,_,hv⟩:=g.opoIs hx
    obtain hc:=g.same hck hr
    simp only[pl,Option.some.injEq] at hp
    subst hp
    obtain ⟨rb,rK,rx,rz⟩:=r
    simp only[RC.ck,Ck.mk.injEq] at hc
    obtain ⟨hb,hK,hxx⟩:=hc
    subst hK
    obtain rfl:=eq_of_heq hxx
    cases rb with
    |none=>cases hb
    |some bt =>
    obtain ⟨b,tb⟩:=bt
    have hB:∀e∈F.B,∀id',e.id=some id'→id'≠id:=fun e hm id' hid=>by
     have:=he e hm
     rw[hid] at this
     simpa using this
    obtain ⟨h1,hr',d1,hh,o1,hg1,hg2,mk⟩:=g.freeze hr hB
    obtain ⟨c,h2,d2,hh1,o2,hl⟩:=o1
    have h2e:h2=HF.emp:=own_free (by simpa[free] using hf) o2
    have hcb:(Γ.un h1) b=some (.cel c tb):=hg2 b _ (by rw[hh1]; exact one_self)
    have hrun:(execOp a.eval o).run P w=.ok (.value (.slice (some ⟨b,0,none⟩) m m)) w:=by
     simp only[Option.getD_some] at hv
     simp[execOp,ho,hv,Instr.sliceAt,run_underlying hu,Instr.sureAddr,Instr.sliceBounds,sizeOf,typeInfo,hie,Addr.add]
    have hxl:length xs=m:=o2.1
    have hav:(AV.one (SV.val (.sl false te e none) xs)).is (Γ.un h1) (del rcs id) (.slice (some ⟨b,0,none⟩) m m):=by
     refine ⟨by simpa[free] using hf,(some (b,0,m),rz),⟨c,HF.emp,by rw[hxl]; exact Nat.le_refl _,hm,?_,?_,?_,?_⟩,?_⟩
     ·rw[←Array.length_toList,hl]
      simp only[cells_length,Kd.size]
      omega
     ·intro i hi
      rw[Nat.zero_add]
      have h0:Lie c 0 ((Kd.arr m e).cells xs rz):=fun j hj=>by rw[←hl]; simp
      have:=lie_arr h0 (show i<m by rw[←hxl]; exact hi)
      rwa [Nat.zero_add] at this
     ·rw[hxl]
      refine each_emp fun i hi=>?_
      rw[if_neg (by simp)]
      exact own_mono hg1 (own_item hf o2 hi)
     ·simp only[Bool.false_eq_true,if_false]
      exact ⟨⟨tb,hcb⟩,trivial⟩
     ·simp[toV,single,Kd.cells,hdr,hxl]
    unfold Oper.wp
    rw[hrun,Oper.upon_value,hd]
    have g1:=mk (s.tm.filter fun x=>offA id x.2) fun t av hm=>by
     obtain ⟨e1,e2⟩:=List.mem_filter.1 hm
     obtain ⟨v,hv,hi⟩:=g.tm t av e1
     exact ⟨v,hv,AV.is_mono hg1 (offA_is e2 hi)⟩
    exact ⟨_,⟨_,_,_,g1.put hlt hav⟩,hs⟩
   ·exact world_bad
  ·exact world_bad
 ·exact world_bad
def bstr (ns:List Int):ByteArray:=⟨(ns.map fun n=>UInt8.ofNat n.toNat).toArray⟩
theorem foldl_bstr:∀(ns:List Int) (s:ByteArray),ns.foldl (fun r n=>r.push (UInt8.ofNat n.toNat)) s=⟨s.data++(ns.map fun n=>UInt8.ofNat n.toNat).toArray⟩
 | [],s=>by cases s; simp
 |n::ns,s=>by
  rw[List.foldl_cons,foldl_bstr ns]
  cases s
  simp[ByteArray.push]
def bytesT (P:Program) (t:TypeId):Bool:=match P.underlying t with
 |some (.slice e)=>match P.underlying e with
  |some (.int .u8)=>true
  |_=>false
 |_=>false
def stBStr (P:Program) (n:Lim) (o:Oper) (src dst:TypeId) (x:Operand) (s:St) (k:St→Tr α):Tr α:=if bytesT P src&&strT P dst&&(slOf? P src).isSome then (match opo s x with
 |some .nilS=>set n s o (.one (.val .str ByteArray.empty)) k
 |some v=>match srcList s v with
  |some ⟨.int .u8,ns⟩=>.need (length ns≤9223372036854775807) (set n s o (.one (.val .str (bstr ns))) k)
  |_=>.bad
 |none=>.bad) else .bad
theorem bstr_size (ns:List Int):(bstr ns).size=ns.length:=by
 show (ns.map fun n=>UInt8.ofNat n.toNat).toArray.size=_
 simp
theorem stBStr_ok {P:Program} {F:Fr} {o:Oper} {src dst:TypeId} {x:Operand} {s:St} {k:St→Tr α} (ho:o.op=.convert src dst x):WorldOK P F o s (stBStr P F.n o src dst x s k) k ⟨true,[]⟩:=by
 unfold stBStr
 split
 ·rename_i hc
  simp only[Bool.and_eq_true] at hc
  obtain ⟨⟨hc1,hc2⟩,hc3⟩:=hc
  have hd:P.underlying dst=some .string:=by
   unfold strT at hc2
   split at hc2<;>first | assumption | cases hc2
  obtain ⟨e,hs1,he1⟩:∃e,P.underlying src=some (.slice e)∧P.underlying e=some (.int .u8):=by
   unfold bytesT at hc1
   split at hc1
   ·split at hc1
    ·exact ⟨_,by assumption,by assumption⟩
    ·cases hc1
   ·cases hc1
  have fin:∀(K:α→Prop) (a:Act) (w:World) (Γ:HF) (rcs:List (Nat×RC)) (h:HF) (Q:Exit→Act→World→Prop) (b:ByteArray),Good F s a w Γ rcs h→b.size≤9223372036854775807→(convert src dst (a.eval x)).run P w=.ok (.string b) w →
    (set F.n s o (.one (.val .str b)) k).sat K→o.wp P a w (fun a' w'=>∃s',R F s' a' w'∧(k s').sat K) Q:=by
   intro K a w Γ rcs h Q b g hb hrun hs
   unfold Oper.wp
   have:(execOp a.eval o).run P w=.ok (.value (.string b)) w:=by simp[execOp,ho,hrun]
   rw[this,Oper.upon_value]
   exact set_ok hs g (str_is (rcs:=rcs) hb)
  split
  ·rename_i hx
   intro K a w Γ rcs h Q g he hs
   have hv:a.eval x=.slice none 0 0:=g.opoIs hx
   refine fin K a w Γ rcs h Q _ g (by decide) ?_ hs
   rw[hv,run_convert_bytes_string w src dst e none 0 0 hs1 he1 hd]
   simp[Conv.bytesToString,Sem.run_pure]
  ·rename_i v hnn hx
   split
   ·rename_i ns hsrc
    intro K a w Γ rcs h Q g he hs
    obtain ⟨hlen,hs⟩:=hs
    obtain ⟨zg,hS,_⟩:=src_is (P:=P) g (g.opoIs hx) hsrc rfl rfl hs1
    refine fin K a w Γ rcs h Q _ g (by rw[bstr_size]; exact hlen) ?_ hs
    have hrow:rowCells (.int .u8) ns zg=ns.map (Value.int .u8):=by
     unfold rowCells
     have:∀(l:List Nat),(∀i∈l,i<ns.length)→l.flatMap (fun i=>(Kd.int .u8).cells (ns.getD i (Kd.int .u8).dft) (zg i))=l.map fun i=>Value.int .u8 (ns.getD i 0):=by
      intro l
      induction l with
      |nil=>intro _; rfl
      |cons i l ih=>intro hl; rw[flatMap_cons,ih fun j hj=>hl j (mem_cons_of_mem _ hj)]; rfl
     rw[this _ fun i hi=>List.mem_range.1 hi]
     refine ext_getElem? fun j=>?_
     rcases Nat.lt_or_ge j ns.length with q | q
     ·simp[q]
     ·simp[q]
    obtain ⟨A,l,c,hu⟩:∃A l c,a.eval x=.slice A l c:=by
     have hv:=g.opoIs hx
     cases v with
     |val K y =>
      cases K with
      |sl o t e hole=>obtain ⟨_,zz,_,e'⟩:=hv; obtain ⟨zo,zf⟩:=zz; cases zo with
       |none=>exact ⟨none,0,0,e'⟩
       |some q=>exact ⟨_,_,_,e'⟩
      |_=>simp[srcList] at hsrc
     | «at» id p =>
      simp only[srcList] at hsrc
      split at hsrc
      ·rename_i cc hcc
       split at hsrc
       ·rename_i t e0 ys0 hg
        obtain ⟨r,q,hr,hp,hu⟩:=hv
        obtain rfl:=g.same hcc hr
        have hget:=pl_get p _ _ _ _ hp
        simp only[RC.ck] at hg
        rw[hget] at hg
        injection hg with hg
        obtain ⟨qK,qx,qz,qa⟩:=q
        simp only[Sigma.mk.injEq] at hg
        obtain ⟨rfl,hg⟩:=hg
        obtain ⟨zo,zf⟩:=qz
        cases zo with
        |none=>exact ⟨none,0,0,hu⟩
        |some q=>exact ⟨_,_,_,hu⟩
       ·cases hsrc
      ·cases hsrc
     |slc id p off len =>
      obtain ⟨r,t1,e1,hole,x',z',qa,hr,hp,hle,hu⟩:=hv
      rcases hu with ⟨_,hu | ⟨_,_,_,off2,cap2,_,hu,_⟩⟩ | ⟨b,o',cap,_,hu⟩
      ·exact ⟨_,_,_,hu⟩
      ·exact ⟨_,_,_,hu⟩
      ·exact ⟨_,_,_,hu⟩
     |_=>simp[srcList] at hsrc
    rw[hu] at hS ⊢
    rw[run_convert_bytes_string w src dst e A l c hs1 he1 hd]
    have hcells:=hS.cells
    have hl:=hS.len w
    simp[Builtin.lenOf] at hl
    cases A with
    |none =>
     rw[run_firstCells_none] at hcells
     rw[hrow] at hcells
     simp at hcells
     have:ns=[]:=by simpa using hcells
     subst this
     simp[Conv.bytesToString,Sem.run_pure]
     rfl
    |some ad =>
     have hload:(loadCells ad l).run P w=.ok (ns.map (Value.int .u8)).toArray w:=by
      have:=hcells
      simp only[Builtin.firstCells,hrow,Kd.size,Nat.mul_one] at this
      rw[hl]
      exact this
     rw[run_bytesToString w ad l c ns hload,foldl_bstr]
     simp[bstr,ByteArray.empty,ByteArray.emptyWithCapacity]
     rfl
   ·exact world_bad
  ·exact world_bad
 ·exact world_bad
def pureK:Kd→Bool
 |.int _ | .bool | .str | .unit=>true
 |.pair a b=>pureK a&&pureK b
 |.arr _ e=>pureK e
 |_=>false
theorem own_pure {Γ Γ':HF}:∀ {K:Kd} {x:K.T} {z:K.Z} {h:HF},pureK K=true→K.Own Γ x z h→K.Own Γ' x z h
 |.int _,_,_,_,_,o=>o
 |.bool,_,_,_,_,o=>o
 |.str,_,_,_,_,o=>o
 |.unit,_,_,_,_,o=>o
 |.pair a b,x,z,h,f,o=>by
  simp only[pureK,Bool.and_eq_true] at f
  obtain ⟨h1,h2,d,e,o1,o2⟩:=o
  exact ⟨h1,h2,d,e,own_pure f.1 o1,own_pure f.2 o2⟩
 |.arr n e,x,z,h,f,o=>⟨o.1,Each.congr (fun i _ h' p=>own_pure (K:=e) f p) o.2⟩
def capId (s:St) (x:Operand):Option Nat:=match opo s x with
 |some (.ptr id [])=>match look s.ck id with
  |some c=>if c.box.isSome then some id else none
  |none=>none
 |_=>none
def stFunc (n:Lim) (o:Oper) (fn:Fn) (first captured:Array Operand) (s:St) (k:St→Tr α):Tr α:=match fn,first.toList,captured.toList.mapM (capId s) with
 |.func f,[],some ids=>set n s o (.one (.clo f ids)) k
 |.func f,[x],some []=>match opo s x with
  |some (.val K y)=>if pureK K then set n s o (.one (.bnd f K y)) k else .bad
  |_=>.bad
 |_,_,_=>.bad
theorem stFunc_ok {P:Program} {F:Fr} {o:Oper} {fn:Fn} {first captured:Array Operand} {s:St} {k:St→Tr α} (ho:o.op=.makeFunc fn first captured):PureOK P F o s (stFunc F.n o fn first captured s k) k:=by
 unfold stFunc
 split
 ·rename_i f ids hf hc
  refine pure_set fun a w Γ rcs h g=>?_
  have hf':first = #[]:=by rw[←Array.toList_inj]; exact hf
  subst hf'
  refine ⟨.func (.func f) #[] (captured.map a.eval),fun w'=>?_,captured.toList.map a.eval,?_,?_,?_⟩
  ·simp[execOp,ho,Instr.makeFunc,Sem.run_pure]
  ·rw[←Array.toList_map]
  ·rw[length_map]
   have key:∀(l:List Operand) (ids:List Nat),l.mapM (capId s)=some ids→l.length=ids.length:=by
    intro l
    induction l with
    |nil=>intro ids h; simp at h; subst h; rfl
    |cons x l ih =>
     intro ids h
     simp only[mapM_cons,bind_eq_bind,bind_eq_some_iff,pure_def,Option.some.injEq] at h
     obtain ⟨i,_,is,h2,rfl⟩:=h
     simp[ih is h2]
   exact key _ _ hc
  ·have key:∀(l:List Operand) (ids:List Nat),l.mapM (capId s)=some ids→∀(i id:Nat),ids[i]? = some id→∃r b t,look rcs id=some r∧r.box=some (b,t)∧(l.map a.eval)[i]? = some (.pointer (some ⟨b,0,none⟩)):=by
    intro l
    induction l with
    |nil=>intro ids h i id hi; simp at h; subst h; simp at hi
    |cons x l ih =>
     intro ids h i id hi
     simp only[mapM_cons,bind_eq_bind,bind_eq_some_iff,pure_def,Option.some.injEq] at h
     obtain ⟨j,hj,is,h2,rfl⟩:=h
     cases i with
     |zero =>
      simp only[List.getElem?_cons_zero,Option.some.injEq] at hi
      subst hi
      unfold capId at hj
      split at hj
      ·rename_i id hx
       split at hj
       ·rename_i c hck
        split at hj
        ·rename_i hb
         injection hj with hj
         subst hj
         obtain ⟨r,q,hr,hp,_,hv⟩:=g.opoIs hx
         obtain rfl:=g.same hck hr
         simp only[pl,Option.some.injEq] at hp
         subst hp
         obtain ⟨⟨b,t⟩,hbx⟩:=Option.isSome_iff_exists.1 (show r.box.isSome=true by simpa[RC.ck] using hb)
         refine ⟨r,b,t,hr,hbx,?_⟩
         simp[hv,hbx]
        ·cases hj
       ·cases hj
      ·cases hj
     |succ i =>
      obtain ⟨r,b,t,h3,h4,h5⟩:=ih is h2 i id (by simpa using hi)
      exact ⟨r,b,t,h3,h4,by simpa using h5⟩
   exact key _ _ hc
 ·rename_i f x hf hc
  split
  ·rename_i K y hx
   split
   ·rename_i hp
    refine pure_set fun a w Γ rcs h g=>?_
    have hf':first = #[x]:=by rw[←Array.toList_inj]; exact hf
    have hc':captured = #[]:=by
     rw[←Array.toList_inj]
     cases hcl:captured.toList with
     |nil=>rfl
     |cons c l =>
      rw[hcl] at hc
      simp only[mapM_cons,bind_eq_bind,bind_eq_some_iff,pure_def,Option.some.injEq] at hc
      obtain ⟨i,_,is,_,hh⟩:=hc
      cases hh
    subst hf'; subst hc'
    obtain ⟨hfr,z,ho',hv⟩:=g.opoIs hx
    exact ⟨.func (.func f) #[a.eval x] #[],fun w'=>by simp[execOp,ho,Instr.makeFunc,Sem.run_pure],hfr,z,own_pure hp ho',by rw[hv]⟩
   ·exact pure_bad
  ·exact pure_bad
 ·exact pure_bad
namespace Kd
def shr:Kd→Kd
 |.pair a b=>.pair (shr a) (shr b)
 |.arr n e=>.arr n (shr e)
 |.sl _ t e h=>.sl false t (shr e) h
 |.mp _ t k=>.mp false t k
 |K=>K
def noHole:Kd→Bool
 |.pair a b=>noHole a&&noHole b
 |.arr _ e=>noHole e
 |.sl _ _ e h=>h.isNone&&noHole e
 |.tree _ e=>e.free
 |.tl _ e=>e.free
 |.ep e=>e.free
 |_=>true
theorem shr_T:∀(K:Kd),(shr K).T=K.T
 |.int _=>rfl
 |.bool=>rfl
 |.str=>rfl
 |.un=>rfl
 |.unit=>rfl
 |.tree _ _=>rfl
 |.tl _ _=>rfl
 |.mp _ _ _=>rfl
 |.ep _=>rfl
 |.pair a b=>by show ((shr a).T×(shr b).T)=(a.T×b.T); rw[shr_T a,shr_T b]
 |.arr n e=>by show List (shr e).T=List e.T; rw[shr_T e]
 |.sl o t e h=>by show List (shr e).T=List e.T; rw[shr_T e]
theorem shr_Z:∀(K:Kd),(shr K).Z=K.Z
 |.int _=>rfl
 |.bool=>rfl
 |.str=>rfl
 |.un=>rfl
 |.unit=>rfl
 |.tree _ _=>rfl
 |.tl _ _=>rfl
 |.mp _ _ _=>rfl
 |.ep _=>rfl
 |.pair a b=>by show ((shr a).Z×(shr b).Z)=(a.Z×b.Z); rw[shr_Z a,shr_Z b]
 |.arr n e=>by show (Nat→(shr e).Z)=(Nat→e.Z); rw[shr_Z e]
 |.sl o t e h=>by show (Option (Nat×Nat×Nat)×(Nat→(shr e).Z))=(Option (Nat×Nat×Nat)×(Nat→e.Z)); rw[shr_Z e]
theorem shr_size:∀(K:Kd),(shr K).size=K.size
 |.int _=>rfl
 |.bool=>rfl
 |.str=>rfl
 |.un=>rfl
 |.unit=>rfl
 |.tree _ _=>rfl
 |.tl _ _=>rfl
 |.mp _ _ _=>rfl
 |.ep _=>rfl
 |.pair a b=>by simp only[shr,size,shr_size a,shr_size b]
 |.arr n e=>by simp only[shr,size,shr_size e]
 |.sl o t e h=>rfl
theorem shr_free:∀(K:Kd),noHole K=true→(shr K).free=true
 |.int _,_=>rfl
 |.bool,_=>rfl
 |.str,_=>rfl
 |.un,_=>rfl
 |.unit,_=>rfl
 |.tree _ e,h=>h
 |.tl _ e,h=>h
 |.mp _ _ _,_=>rfl
 |.ep e,h=>h
 |.pair a b,h=>by
  simp only[noHole,Bool.and_eq_true] at h
  simp only[shr,free,shr_free a h.1,shr_free b h.2,Bool.and_self]
 |.arr n e,h=>by simpa only[shr,free] using shr_free e h
 |.sl o t e hh,h=>by
  simp only[noHole,Bool.and_eq_true] at h
  simp[shr,free,shr_free e h.2,h.1]
theorem shr_single (K:Kd):single (shr K)=single K:=by cases K<;>rfl
theorem heq_prod {A A' B B':Type} (hA:A=A') (hB:B=B') {x:A×B} {x':A'×B'} (h:HEq x x'):HEq x.1 x'.1∧HEq x.2 x'.2:=by
 subst hA; subst hB
 obtain rfl:=eq_of_heq h
 exact ⟨.rfl,.rfl⟩
theorem heq_mk {A A' B B':Type} (hA:A=A') (hB:B=B') {x:A} {x':A'} {y:B} {y':B'} (h1:HEq x x') (h2:HEq y y'):HEq (x,y) (x',y'):=by
 subst hA; subst hB
 obtain rfl:=eq_of_heq h1
 obtain rfl:=eq_of_heq h2
 exact .rfl
theorem heq_list {A A':Type} (hA:A=A') {l:List A} {l':List A'} (h:HEq l l'):l.length=l'.length∧∀i (d:A) (d':A'),HEq d d'→HEq (l.getD i d) (l'.getD i d'):=by
 subst hA
 obtain rfl:=eq_of_heq h
 exact ⟨rfl,fun i d d' e=>by obtain rfl:=eq_of_heq e; exact .rfl⟩
theorem heq_nil {A A':Type} (hA:A=A'):HEq ([]:List A) ([]:List A'):=by subst hA; exact .rfl
theorem heq_fun {A A':Type} (hA:A=A') {f:Nat→A} {f':Nat→A'} (h:HEq f f') (i:Nat):HEq (f i) (f' i):=by
 subst hA
 obtain rfl:=eq_of_heq h
 exact .rfl
theorem heq_win {A A':Type} (hA:A=A') {l:List A} {l':List A'} (h:HEq l l') (off n:Nat):HEq ((l.drop off).take n) ((l'.drop off).take n):=by
 subst hA
 obtain rfl:=eq_of_heq h
 exact .rfl
theorem shr_dft:∀(K:Kd),HEq (shr K).dft K.dft
 |.int _=>.rfl
 |.bool=>.rfl
 |.str=>.rfl
 |.un=>.rfl
 |.unit=>.rfl
 |.tree _ _=>.rfl
 |.tl _ _=>.rfl
 |.mp _ _ _=>.rfl
 |.ep _=>.rfl
 |.pair a b=>heq_mk (shr_T a) (shr_T b) (shr_dft a) (shr_dft b)
 |.arr n e=>heq_nil (shr_T e)
 |.sl o t e h=>heq_nil (shr_T e)
end Kd
theorem un_has_of {g h G:HF} (hG:∀b v,(g b=some v∨h b=some v)→G b=some v) {h1:HF} (s:∀b v,h1 b=some v→h b=some v):∀b v,(g b=some v∨h1 b=some v)→G b=some v:=fun b v e=>hG b v (e.imp id (s b v))
theorem own_shr {Γ G:HF}:∀(K:Kd) (x:K.T) (z:K.Z) (h:HF),noHole K=true→K.Own Γ x z h→(∀b v,(Γ b=some v∨h b=some v)→G b=some v) →
  ∀(x':(shr K).T) (z':(shr K).Z),HEq x' x→HEq z' z→(shr K).Own G x' z' HF.emp∧(shr K).cells x' z'=K.cells x z
 |.int k,x,z,h,_,o,hG,x',z',hx,hz=>by obtain rfl:=eq_of_heq hx; exact ⟨⟨rfl,o.2⟩,rfl⟩
 |.bool,x,z,h,_,o,hG,x',z',hx,hz=>by obtain rfl:=eq_of_heq hx; exact ⟨rfl,rfl⟩
 |.str,x,z,h,_,o,hG,x',z',hx,hz=>by obtain rfl:=eq_of_heq hx; exact ⟨⟨rfl,o.2⟩,rfl⟩
 |.un,x,z,h,_,o,hG,x',z',hx,hz=>by obtain rfl:=eq_of_heq hz; exact ⟨rfl,rfl⟩
 |.unit,x,z,h,_,o,hG,x',z',hx,hz=>⟨rfl,rfl⟩
 |.tree t e,x,z,h,_,o,hG,x',z',hx,hz=>by
  obtain rfl:=eq_of_heq hx
  obtain rfl:=eq_of_heq hz
  have oo:=own_mono (K:=.tree t e) (fun b v q=>hG b v (.inl q)) o
  have e':=oo.1
  subst e'
  exact ⟨oo,rfl⟩
 |.ep e,x,z,h,_,oo,hG,x',z',hx,hz=>by
  obtain rfl:=eq_of_heq hx
  obtain rfl:=eq_of_heq hz
  have o2:=own_mono (K:=.ep e) (fun b v q=>hG b v (.inl q)) oo
  have e':=o2.1
  subst e'
  exact ⟨o2,rfl⟩
 |.mp o t k,x,z,h,_,oo,hG,x',z',hx,hz=>by
  obtain rfl:=eq_of_heq hx
  obtain rfl:=eq_of_heq hz
  cases x' with
  |none=>exact ⟨rfl,rfl⟩
  |some l =>
   obtain ⟨es,clk,e,he⟩:=oo
   refine ⟨⟨es,clk,⟨hG _ _ ?_,rfl⟩,he⟩,rfl⟩
   cases o with
   |true =>
    have e':h=HF.onem _ es clk:=e
    exact .inr (by rw[e']; exact if_pos rfl)
   |false=>exact .inl e.1
 |.tl t e,x,z,h,_,o,hG,x',z',hx,hz=>by
  obtain rfl:=eq_of_heq hx
  obtain rfl:=eq_of_heq hz
  have oo:=own_mono (K:=.tl t e) (fun b v q=>hG b v (.inl q)) o
  have e':=oo.1
  subst e'
  exact ⟨oo,rfl⟩
 |.pair a b,x,z,h,hn,o,hG,x',z',hx,hz=>by
  simp only[noHole,Bool.and_eq_true] at hn
  obtain ⟨h1,h2,d,rfl,o1,o2⟩:=o
  obtain ⟨hx1,hx2⟩:=heq_prod (shr_T a) (shr_T b) hx
  obtain ⟨hz1,hz2⟩:=heq_prod (shr_Z a) (shr_Z b) hz
  obtain ⟨p1,q1⟩:=own_shr a x.1 z.1 h1 hn.1 o1 (un_has_of hG fun b v e=>un_left e) x'.1 z'.1 hx1 hz1
  obtain ⟨p2,q2⟩:=own_shr b x.2 z.2 h2 hn.2 o2 (un_has_of hG fun b v e=>un_right d e) x'.2 z'.2 hx2 hz2
  exact ⟨⟨HF.emp,HF.emp,HF.dj_emp _,(HF.un_emp _).symm,p1,p2⟩,by show (shr a).cells x'.1 z'.1++(shr b).cells x'.2 z'.2=_; rw[q1,q2]; rfl⟩
 |.arr n e,x,z,h,hn,o,hG,x',z',hx,hz=>by
  obtain ⟨ho,he⟩:=o
  obtain ⟨hl,hd⟩:=heq_list (shr_T e) hx
  have key:∀i,i<n→(shr e).Own G (getD x' i (shr e).dft) (z' i) HF.emp∧(shr e).cells (getD x' i (shr e).dft) (z' i)=e.cells (getD x i e.dft) (z i):=by
   intro i hi
   obtain ⟨hr,hi',d,eh,oi,_⟩:=Each.take hi he
   exact own_shr e _ _ hi' hn oi (un_has_of hG fun b v q=>by rw[eh]; exact un_right d q) _ _ (hd i _ _ (shr_dft e)) (heq_fun (shr_Z e) hz i)
  refine ⟨⟨hl.trans ho,each_emp fun i hi=>(key i hi).1⟩,?_⟩
  show ((List.range n).flatMap fun i=>(shr e).cells (getD x' i (shr e).dft) (z' i))=(List.range n).flatMap fun i=>e.cells (getD x i e.dft) (z i)
  have:∀l:List Nat,(∀i∈l,i<n)→(l.flatMap fun i=>(shr e).cells (getD x' i (shr e).dft) (z' i))=l.flatMap fun i=>e.cells (getD x i e.dft) (z i):=by
   intro l
   induction l with
   |nil=>intro _; rfl
   |cons i l ih=>intro hl; rw[flatMap_cons,flatMap_cons,ih fun j hj=>hl j (mem_cons_of_mem _ hj),(key i (hl i mem_cons_self)).2]
  exact this _ fun i hi=>List.mem_range.1 hi
 |.sl own t e hole,x,z,h,hn,o,hG,x',z',hx,hz=>by
  simp only[noHole,Bool.and_eq_true,Option.isNone_iff_eq_none] at hn
  obtain ⟨rfl,hn⟩:=hn
  obtain ⟨hl,hd⟩:=heq_list (shr_T e) hx
  obtain ⟨zo,zf⟩:=z
  obtain ⟨zo',zf'⟩:=z'
  have hz':zo'=zo∧HEq zf' zf:=by
   have:=heq_prod (A:=Option (Nat×Nat×Nat)) rfl (show (Nat→(shr e).Z)=(Nat→e.Z) by rw[shr_Z e]) hz
   exact ⟨eq_of_heq this.1,this.2⟩
  obtain ⟨rfl,hz'⟩:=hz'
  have hcells:(shr (.sl own t e none)).cells x' (zo',zf')=(Kd.sl own t e none).cells x (zo',zf):=by
   show [hdr zo' (length x')]=[hdr zo' (length x)]
   rw[show length x'=length x from hl]
  refine ⟨?_,hcells⟩
  cases zo' with
  |none =>
   obtain ⟨hx0,_⟩:=o
   have hx0':length x=0:=by rw[show x=[] from hx0]; rfl
   have:length x'=0:=(show length x'=length x from hl).trans hx0'
   exact ⟨List.eq_nil_of_length_eq_zero this,rfl⟩
  |some q =>
   obtain ⟨b,off,cap⟩:=q
   obtain ⟨c,h2,h1,h3,h4,hls,he,hdd⟩:=o
   have hl':length x'=length x:=hl
   have hsub:(∀b v,h2 b=some v→h b=some v)∧∃t',G b=some (.cel c t'):=by
    cases own with
    |true =>
     simp only[if_true] at hdd
     obtain ⟨hdd,rfl⟩:=hdd
     exact ⟨fun b v e=>un_right hdd e,t,hG b _ (.inr one_self)⟩
    |false =>
     simp only[Bool.false_eq_true,if_false] at hdd
     obtain ⟨⟨t',hdd⟩,rfl⟩:=hdd
     exact ⟨fun b v e=>e,t',hG b _ (.inl hdd)⟩
   have key:∀i,i<length x→(shr e).Own G (getD x' i (shr e).dft) (zf' i) HF.emp∧(shr e).cells (getD x' i (shr e).dft) (zf' i)=e.cells (getD x i e.dft) (zf i):=by
    intro i hi
    obtain ⟨hr,hi',d,eh,oi,_⟩:=Each.take hi he
    rw[if_neg (by simp)] at oi
    exact own_shr e _ _ hi' hn oi (un_has_of hG fun b v q=>hsub.1 b v (by rw[eh]; exact un_right d q)) _ _ (hd i _ _ (shr_dft e)) (heq_fun (shr_Z e) hz' i)
   refine ⟨c,HF.emp,by rw[hl']; exact h1,h3,by rw[shr_size]; exact h4,?_,?_,?_⟩
   ·intro i hi
    rw[hl'] at hi
    rw[(key i hi).2,shr_size]
    exact hls i hi
   ·rw[hl']
    refine each_emp fun i hi=>?_
    rw[if_neg (by simp)]
    exact (key i hi).1
   ·simp only[Bool.false_eq_true,if_false]
    exact ⟨hsub.2,trivial⟩
def castK {K K':Kd} (h:K=K') (x:K.T):K'.T:=h▸x
def castS {K K':Kd} (h:shr K=K') (x:K.T):K'.T:=castK h (cast (shr_T K).symm x)
theorem castS_heq {K:Kd} (x:K.T):HEq (castS (K:=K) rfl x) x:=by
 unfold castS castK
 exact cast_heq _ _
inductive Par where
 |val (K:Kd)
 |own (K:Kd)
 |mut (K:Kd)
 |ptr (t:TypeId) (K:Kd) (p:List Sel)
 |cap (t:TypeId) (K:Kd)
 |clo (f:Nat) (caps:List Nat)
inductive Rs where
 |val (K:Kd)
 |own (K:Kd)
 |ownN (K:Kd)
 |box (t:TypeId) (K:Kd)
@[reducible] def Par.T:Par→Type
 |.val K | .own K | .mut K | .ptr _ K _ | .cap _ K=>K.T
 |.clo _ _=>Unit
@[reducible] def Rs.T:Rs→Type
 |.val K | .own K | .ownN K | .box _ K=>K.T
@[reducible] def AT:List Par→Type
 | []=>Unit
 |.clo _ _::ps=>AT ps
 |.val K::ps | .own K::ps | .mut K::ps | .ptr _ K _::ps | .cap _ K::ps=>K.T×AT ps
@[reducible] def RT:List Rs→Type
 | []=>Unit
 |.val K::rs | .own K::rs | .ownN K::rs | .box _ K::rs=>K.T×RT rs
@[reducible] def OT:List Par→Type
 | []=>Unit
 |.mut K::ps | .ptr _ K _::ps | .cap _ K::ps=>K.T×OT ps
 |.val _::ps | .own _::ps | .clo _ _::ps=>OT ps
structure Spec where
 ps:List Par
 rs:List Rs
 impl:AT ps→Option (RT rs×OT ps)
def Entry (Γ:HF) (Rl:List (Nat×RC)):Nat→(ps:List Par)→AT ps→List Value→Prop
 |_,[],_,vs=>vs=[]
 |i,.val K::ps,x,vs=>∃v vs',vs=v::vs'∧(SV.val K x.1).is Γ Rl v∧Entry Γ Rl (i+1) ps x.2 vs'
 |i,.own K::ps,x,vs=>∃v vs' z,vs=v::vs'∧look Rl i=some ⟨none,K,x.1,z⟩∧(SV.at i []).is Γ Rl v∧Entry Γ Rl (i+1) ps x.2 vs'
 |i,.mut K::ps,x,vs=>∃v vs' z,vs=v::vs'∧look Rl i=some ⟨none,K,x.1,z⟩∧(SV.at i []).is Γ Rl v∧Entry Γ Rl (i+1) ps x.2 vs'
 |i,.ptr t K p::ps,x,vs=>∃v vs' b z,vs=v::vs'∧look Rl i=some ⟨some (b,t),K,x.1,z⟩∧(SV.ptr i p).is Γ Rl v∧Entry Γ Rl (i+1) ps x.2 vs'
 |i,.cap t K::ps,x,vs=>(∃b z,look Rl i=some ⟨some (b,t),K,x.1,z⟩)∧Entry Γ Rl (i+1) ps x.2 vs
 |i,.clo f caps::ps,x,vs=>∃v vs',vs=v::vs'∧(SV.clo f caps).is Γ Rl v∧Entry Γ Rl (i+1) ps x vs'
def entryCk:Nat→(ps:List Par)→AT ps→List (Nat×Ck)
 |_,[],_=>[]
 |i,.val K::ps,x=>entryCk (i+1) ps x.2
 |i,.own K::ps,x=>(i,⟨none,K,x.1⟩)::entryCk (i+1) ps x.2
 |i,.mut K::ps,x=>(i,⟨none,K,x.1⟩)::entryCk (i+1) ps x.2
 |i,.ptr t K p::ps,x=>(i,⟨some t,K,x.1⟩)::entryCk (i+1) ps x.2
 |i,.cap t K::ps,x=>(i,⟨some t,K,x.1⟩)::entryCk (i+1) ps x.2
 |i,.clo f caps::ps,x=>entryCk (i+1) ps x
def entryTm:Nat→Nat→(ps:List Par)→AT ps→List (Nat×AV)
 |_,_,[],_=>[]
 |i,j,.val K::ps,x=>(j,.one (.val K x.1))::entryTm (i+1) (j+1) ps x.2
 |i,j,.own K::ps,x=>(j,.one (.at i []))::entryTm (i+1) (j+1) ps x.2
 |i,j,.mut K::ps,x=>(j,.one (.at i []))::entryTm (i+1) (j+1) ps x.2
 |i,j,.ptr t K p::ps,x=>(j,.one (.ptr i p))::entryTm (i+1) (j+1) ps x.2
 |i,j,.cap t K::ps,x=>entryTm (i+1) j ps x.2
 |i,j,.clo f caps::ps,x=>(j,.one (.clo f caps))::entryTm (i+1) (j+1) ps x
def entrySt (ps:List Par) (x:AT ps):St:=⟨entryTm 0 0 ps x,entryCk 0 ps x⟩
def nilOK (K:Kd) (x:K.T) (v:Value):Prop:=match K,x with
 |.sl _ _ _ _,x=>x=[]→v=.slice none 0 0
 |_,_=>True
def ResIs (Γ:HF):(rs:List Rs)→RT rs→List Value→List (Nat×RC)→Prop
 | [],_,vs,l=>vs=[]∧l=[]
 |.val K::rs,x,vs,l=>∃v vs',vs=v::vs'∧(SV.val K x.1).is Γ [] v∧ResIs Γ rs x.2 vs' l
 |.own K::rs,x,vs,l=>∃v vs' z l',vs=v::vs'∧l=(0,⟨none,K,x.1,z⟩)::l'∧v=toV K (K.cells x.1 z)∧ResIs Γ rs x.2 vs' l'
 |.ownN K::rs,x,vs,l=>∃v vs' z l',vs=v::vs'∧l=(0,⟨none,K,x.1,z⟩)::l'∧v=toV K (K.cells x.1 z)∧nilOK K x.1 v∧ResIs Γ rs x.2 vs' l'
 |.box t K::rs,x,vs,l=>∃v vs' b z l',vs=v::vs'∧l=(0,⟨some (b,t),K,x.1,z⟩)::l'∧v=.pointer (some ⟨b,0,none⟩)∧ResIs Γ rs x.2 vs' l'
def Back (Rl:List (Nat×RC)):Nat→(ps:List Par)→OT ps→List (Nat×RC)→Prop
 |_,[],_,l=>l=[]
 |i,.val K::ps,o,l=>Back Rl (i+1) ps o l
 |i,.own K::ps,o,l=>Back Rl (i+1) ps o l
 |i,.clo f caps::ps,o,l=>Back Rl (i+1) ps o l
 |i,.mut K::ps,o,l=>∃r z l',look Rl i=some r∧l=(i,⟨none,K,o.1,z⟩)::l'∧(⟨none,K,o.1,z⟩:RC).head=r.head∧Back Rl (i+1) ps o.2 l'
 |i,.ptr t K p::ps,o,l=>∃r b z l',look Rl i=some r∧l=(i,⟨some (b,t),K,o.1,z⟩)::l'∧(⟨some (b,t),K,o.1,z⟩:RC).head=r.head∧Back Rl (i+1) ps o.2 l'
 |i,.cap t K::ps,o,l=>∃r b z l',look Rl i=some r∧l=(i,⟨some (b,t),K,o.1,z⟩)::l'∧(⟨some (b,t),K,o.1,z⟩:RC).head=r.head∧Back Rl (i+1) ps o.2 l'
def packV:List Value→Value
 | [v]=>v
 |l=>.tuple l.toArray
structure After (Γ lent:HF) (w:World) (Rl:List (Nat×RC)) (sp:Spec) (r:RT sp.rs×OT sp.ps) (v:Value) (w':World) (Γ' h':HF) (vs:List Value) (lR lO:List (Nat×RC)):Prop where
 v:v=packV vs
 res:ResIs Γ' sp.rs r.1 vs lR
 back:Back Rl 0 sp.ps r.2 lO
 star:Star Γ' (lR++lO) h'
 mem:Mem h' w'
 memR:MemR Γ' w'
 dj:HF.dj Γ' h'
 ro:∀b x,Γ b=some x→Γ' b=some x
 size:w.heap.size≤w'.heap.size
 keep:∀b,b<w.heap.size→¬lent.has b→w'.heap[b]? = w.heap[b]?
 own:∀b,h'.has b→lent.has b∨w.heap.size≤b
 rd:∀b,Γ'.has b→Γ.has b∨lent.has b∨w.heap.size≤b
 os:w'.os=w.os
 tape:w'.tape=w.tape
 output:w'.output=w.output
def Post (Γ lent:HF) (w:World) (Rl:List (Nat×RC)) (sp:Spec) (r:RT sp.rs×OT sp.ps) (e:Ending) (w':World):Prop:=∃v Γ' h' vs lR lO,e=.returned v∧After Γ lent w Rl sp r v w' Γ' h' vs lR lO
def Valid (P:Program) (f:Nat) (sp:Spec):Prop:=∀(x:AT sp.ps) (r:RT sp.rs×OT sp.ps),sp.impl x=some r→∀(w:World) (Γ lent:HF) (Rl:List (Nat×RC)) (args:Array Value),
 Entry Γ Rl 0 sp.ps x args.toList→Rl.map (fun y=>(y.1,y.2.ck))=entryCk 0 sp.ps x→Star Γ Rl lent→Mem lent w→MemR Γ w→HF.dj Γ lent→Calls P f args w (Post Γ lent w Rl sp r)
theorem entryCk_ids:∀(i:Nat) (ps:List Par) (x:AT ps),((entryCk i ps x).map (·.1)).Pairwise (· < ·)∧∀y∈(entryCk i ps x).map (·.1),i≤y∧y<i+ps.length
 |_,[],_=>⟨.nil,fun y h=>by cases h⟩
 |i,.val K::ps,x=>by
  obtain ⟨h1,h2⟩:=entryCk_ids (i+1) ps x.2
  exact ⟨h1,fun y hy=>by have:=h2 y hy; simp only[length_cons]; omega⟩
 |i,.clo f caps::ps,x=>by
  obtain ⟨h1,h2⟩:=entryCk_ids (i+1) ps x
  exact ⟨h1,fun y hy=>by have:=h2 y hy; simp only[length_cons]; omega⟩
 |i,.own K::ps,x=>by
  obtain ⟨h1,h2⟩:=entryCk_ids (i+1) ps x.2
  refine ⟨List.pairwise_cons.2 ⟨fun y hy=>?_,h1⟩,fun y hy=>?_⟩
  ·have:=h2 y hy; show i<y; omega
  ·simp only[length_cons]
   rcases List.mem_cons.1 hy with e | e
   ·simp only at e; omega
   ·have:=h2 y e; omega
 |i,.mut K::ps,x=>by
  obtain ⟨h1,h2⟩:=entryCk_ids (i+1) ps x.2
  refine ⟨List.pairwise_cons.2 ⟨fun y hy=>?_,h1⟩,fun y hy=>?_⟩
  ·have:=h2 y hy; show i<y; omega
  ·simp only[length_cons]
   rcases List.mem_cons.1 hy with e | e
   ·simp only at e; omega
   ·have:=h2 y e; omega
 |i,.ptr t K p::ps,x=>by
  obtain ⟨h1,h2⟩:=entryCk_ids (i+1) ps x.2
  refine ⟨List.pairwise_cons.2 ⟨fun y hy=>?_,h1⟩,fun y hy=>?_⟩
  ·have:=h2 y hy; show i<y; omega
  ·simp only[length_cons]
   rcases List.mem_cons.1 hy with e | e
   ·simp only at e; omega
   ·have:=h2 y e; omega
 |i,.cap t K::ps,x=>by
  obtain ⟨h1,h2⟩:=entryCk_ids (i+1) ps x.2
  refine ⟨List.pairwise_cons.2 ⟨fun y hy=>?_,h1⟩,fun y hy=>?_⟩
  ·have:=h2 y hy; show i<y; omega
  ·simp only[length_cons]
   rcases List.mem_cons.1 hy with e | e
   ·simp only at e; omega
   ·have:=h2 y e; omega
theorem entry_len:∀(ps:List Par) (i j:Nat) (Γ:HF) (Rl:List (Nat×RC)) (x:AT ps) (vs:List Value),Entry Γ Rl i ps x vs→vs.length≤ps.length
 | [],_,_,_,_,_,vs,h=>by rw[show vs=[] from h]; exact Nat.le_refl _
 |.val K::ps,i,j,Γ,Rl,x,vs,⟨v,vs',e,_,h⟩=>by subst e; simp only[length_cons]; have:=entry_len ps _ j _ _ _ _ h; omega
 |.own K::ps,i,j,Γ,Rl,x,vs,⟨v,vs',z,e,_,_,h⟩=>by subst e; simp only[length_cons]; have:=entry_len ps _ j _ _ _ _ h; omega
 |.mut K::ps,i,j,Γ,Rl,x,vs,⟨v,vs',z,e,_,_,h⟩=>by subst e; simp only[length_cons]; have:=entry_len ps _ j _ _ _ _ h; omega
 |.ptr t K p::ps,i,j,Γ,Rl,x,vs,⟨v,vs',b,z,e,_,_,h⟩=>by subst e; simp only[length_cons]; have:=entry_len ps _ j _ _ _ _ h; omega
 |.cap t K::ps,i,j,Γ,Rl,x,vs,⟨_,h⟩=>by simp only[length_cons]; have:=entry_len ps _ j _ _ _ _ h; omega
 |.clo f caps::ps,i,j,Γ,Rl,x,vs,⟨v,vs',e,_,h⟩=>by subst e; simp only[length_cons]; have:=entry_len ps _ j _ _ _ _ h; omega
theorem entry_tm:∀(ps:List Par) (i j:Nat) {Γ:HF} {Rl:List (Nat×RC)} (x:AT ps) (vs pre:List Value),Entry Γ Rl i ps x vs→pre.length=j→∀t av,(t,av)∈entryTm i j ps x→∃v,(pre++vs)[t]? = some v∧av.is Γ Rl v
 | [],i,j,Γ,Rl,x,vs,pre,h,hj,t,av,hm=>by cases hm
 |.val K::ps,i,j,Γ,Rl,x,vs,pre,⟨v,vs',e,hv,h⟩,hj,t,av,hm=>by
  subst e; subst hj
  rcases List.mem_cons.1 hm with e | e
  ·injection e with e1 e2; subst e1; subst e2
   exact ⟨v,by simp,hv⟩
  ·obtain ⟨v',h1,h2⟩:=entry_tm ps (i+1) (pre.length+1) x.2 vs' (pre++[v]) h (by simp) t av e
   exact ⟨v',by simpa using h1,h2⟩
 |.own K::ps,i,j,Γ,Rl,x,vs,pre,⟨v,vs',z,e,_,hv,h⟩,hj,t,av,hm=>by
  subst e; subst hj
  rcases List.mem_cons.1 hm with e | e
  ·injection e with e1 e2; subst e1; subst e2
   exact ⟨v,by simp,hv⟩
  ·obtain ⟨v',h1,h2⟩:=entry_tm ps (i+1) (pre.length+1) x.2 vs' (pre++[v]) h (by simp) t av e
   exact ⟨v',by simpa using h1,h2⟩
 |.mut K::ps,i,j,Γ,Rl,x,vs,pre,⟨v,vs',z,e,_,hv,h⟩,hj,t,av,hm=>by
  subst e; subst hj
  rcases List.mem_cons.1 hm with e | e
  ·injection e with e1 e2; subst e1; subst e2
   exact ⟨v,by simp,hv⟩
  ·obtain ⟨v',h1,h2⟩:=entry_tm ps (i+1) (pre.length+1) x.2 vs' (pre++[v]) h (by simp) t av e
   exact ⟨v',by simpa using h1,h2⟩
 |.ptr ty K p::ps,i,j,Γ,Rl,x,vs,pre,⟨v,vs',b,z,e,_,hv,h⟩,hj,t,av,hm=>by
  subst e; subst hj
  rcases List.mem_cons.1 hm with e | e
  ·injection e with e1 e2; subst e1; subst e2
   exact ⟨v,by simp,hv⟩
  ·obtain ⟨v',h1,h2⟩:=entry_tm ps (i+1) (pre.length+1) x.2 vs' (pre++[v]) h (by simp) t av e
   exact ⟨v',by simpa using h1,h2⟩
 |.cap ty K::ps,i,j,Γ,Rl,x,vs,pre,⟨_,h⟩,hj,t,av,hm=>entry_tm ps (i+1) j x.2 vs pre h hj t av hm
 |.clo f caps::ps,i,j,Γ,Rl,x,vs,pre,⟨v,vs',e,hv,h⟩,hj,t,av,hm=>by
  subst e; subst hj
  rcases List.mem_cons.1 hm with e | e
  ·injection e with e1 e2; subst e1; subst e2
   exact ⟨v,by simp,hv⟩
  ·obtain ⟨v',h1,h2⟩:=entry_tm ps (i+1) (pre.length+1) x vs' (pre++[v]) h (by simp) t av e
   exact ⟨v',by simpa using h1,h2⟩
theorem pairwise_nodup {l:List Nat} (h:l.Pairwise (· < ·)):l.Nodup:=h.imp fun h=>ne_of_lt h
def frOf (w:World) (lent Γ:HF) (Rl:List (Nat×RC)) (n:Lim) (hM:∀m∈Rl.map (fun y=>(y.1,y.2.head)),(m.1<n.lo∨n.n≤m.1)∧m.1<1000000):Fr:=⟨w,lent,Γ,n,[],Rl.map fun y=>(y.1,y.2.head),[],hM⟩
theorem entry_good {w:World} {Γ lent:HF} {Rl:List (Nat×RC)} {ps:List Par} {x:AT ps} {args:Array Value} {n:Lim} (hM) (he:Entry Γ Rl 0 ps x args.toList) (hck:Rl.map (fun y=>(y.1,y.2.ck))=entryCk 0 ps x) (st:Star Γ Rl lent) (m:Mem lent w) (mR:MemR Γ w) (d:HF.dj Γ lent) (hn:args.size≤n.n) :
  R (frOf w lent Γ Rl n hM) (entrySt ps x) { tmps:=args++Array.replicate (n.n-args.size) undef,defers:=[] } w:=by
 have hids:(Rl.map (·.1))=(entryCk 0 ps x).map (·.1):=by rw[←hck,map_map]; rfl
 have nd:(Rl.map (·.1)).Nodup:=by rw[hids]; exact pairwise_nodup (entryCk_ids 0 ps x).1
 refine ⟨Γ,Rl,lent,hck,nd,st,m,mR,d,rfl,by simp[frOf]; omega,?_,Nat.le_refl _,fun b _ _=>rfl,fun b hb=>.inl hb,fun b hb=>.inl hb,fun b x e=>e,rfl,rfl,rfl,(fun x hx=>by cases hx),fun e he=>(by cases he),?_⟩
 ·intro t av hm
  obtain ⟨v,h1,h2⟩:=entry_tm ps 0 0 x args.toList [] he rfl t av hm
  refine ⟨v,?_,h2⟩
  have hlt:t<args.size:=by
   rcases Nat.lt_or_ge t args.size with q | q
   ·exact q
   ·rw[List.nil_append,getElem?_eq_none (by simpa using q)] at h1; cases h1
  show (args++_)[t]? = some v
  rw[Array.getElem?_append_left hlt]
  simpa using h1
 ·intro m' hm r hr
  obtain ⟨y,hy,rfl⟩:=List.mem_map.1 hm
  have:=look_of_mem nd (show (y.1,y.2)∈Rl from hy)
  simp only at hr
  rw[this] at hr
  injection hr with hr
  rw[hr]
def nilK:(K:Kd)→Option K.T
 |.sl _ _ _ none=>some []
 |.tl _ _=>some []
 |_=>none
theorem nilK_own {Γ:HF} {K:Kd} {x:K.T} (h:nilK K=some x):K.Own Γ x K.zd HF.emp∧K.cells x K.zd=[.slice none 0 0]∧single K=true∧nilOK K x (.slice none 0 0):=by
 cases K with
 |sl o t e hole =>
  cases hole with
  |none =>
   simp only[nilK,Option.some.injEq] at h
   subst h
   exact ⟨⟨rfl,rfl⟩,rfl,rfl,fun _=>rfl⟩
  |some j=>cases h
 |tl t e =>
  simp only[nilK,Option.some.injEq] at h
  subst h
  exact ⟨⟨rfl,rfl⟩,rfl,rfl,trivial⟩
 |_=>cases h
def nonNilB:(K:Kd)→K.T→Bool
 |.sl _ _ _ _,x=>!(isEmpty x)
 |_,_=>true
theorem nonNilB_ok {K:Kd} {x:K.T} {v:Value} (h:nonNilB K x=true):nilOK K x v:=by
 cases K with
 |sl o t e hole =>
  intro hx
  have hx':x=[]:=hx
  subst hx'
  cases h
 |_=>trivial
def ckAt (s:St) (id:Nat) (b:Option TypeId) (K:Kd):Option K.T:=match look s.ck id with
 |some ⟨b',K',x⟩=>if h:b'=b∧K'=K then some (castK h.2 x) else none
 |none=>none
theorem ckAt_look {s:St} {id:Nat} {b:Option TypeId} {K:Kd} {x:K.T} (h:ckAt s id b K=some x):look s.ck id=some ⟨b,K,x⟩:=by
 unfold ckAt at h
 split at h
 ·rename_i b' K' x' hl
  split at h
  ·rename_i hh
   obtain ⟨rfl,rfl⟩:=hh
   injection h with h
   rw[hl,←h]
   rfl
  ·cases h
 ·cases h
def retT (P:Program):List ResultVar→(rs:List Rs)→St→(RT rs→St→Tr α)→Tr α
 | [],[],s,k=>k () s
 |.tmp t::vs,.val K::rs,s,k=>match look s.tm t with
  |some (.one (.val K' x))=>if h:K'=K then retT P vs rs s fun r s'=>k (castK h x,r) s' else .bad
  |some (.one .nilS)=>match nilK K with
   |some x=>if K.free then retT P vs rs s fun r s'=>k (x,r) s' else .bad
   |none=>.bad
  |_=>.bad
 |.tmp t::vs,.own K::rs,s,k=>match look s.tm t with
  |some (.one (.at id []))=>match ckAt s id none K with
   |some x=>retT P vs rs (dropC s id) fun r s'=>k (x,r) s'
   |none=>.bad
  |some (.one .nilS)=>match nilK K with
   |some x=>retT P vs rs s fun r s'=>k (x,r) s'
   |none=>.bad
  |_=>.bad
 |.tmp t::vs,.ownN K::rs,s,k=>match look s.tm t with
  |some (.one (.at id []))=>match ckAt s id none K with
   |some x=>.need (nonNilB K x=true) (retT P vs rs (dropC s id) fun r s'=>k (x,r) s')
   |none=>.bad
  |some (.one .nilS)=>match nilK K with
   |some x=>retT P vs rs s fun r s'=>k (x,r) s'
   |none=>.bad
  |_=>.bad
 |.tmp t::vs,.box ty K::rs,s,k=>match look s.tm t with
  |some (.one (.ptr id []))=>match ckAt s id (some ty) K with
   |some x=>retT P vs rs (dropC s id) fun r s'=>k (x,r) s'
   |none=>.bad
  |_=>.bad
 |.cell a ty::vs,.val K::rs,s,k=>match look s.tm a with
  |some (.one (.ptr id []))=>match ckAt s id (some ty) K with
   |some x=>if K.free&&noUn K&&decide (varT P ty=some (single K,K.size)) then retT P vs rs s fun r s'=>k (x,r) s' else .bad
   |none=>.bad
  |_=>.bad
 |.cell a ty::vs,.own K::rs,s,k=>match look s.tm a with
  |some (.one (.ptr id []))=>match ckAt s id (some ty) K with
   |some x=>if noUn K&&decide (varT P ty=some (single K,K.size)) then retT P vs rs (dropC s id) fun r s'=>k (x,r) s' else .bad
   |none=>.bad
  |_=>.bad
 |_,_,_,_=>.bad
theorem run_loadVarT {P:Program} {t:TypeId} {w:World} {b o:Nat} {K:Kd} {cs:List Value} (hv:varT P t=some (single K,K.size)) (hl:cs.length=K.size) (h1:single K=true→K.size=1) (hr:w.rangeAt b o cs) :
  (loadVar t ⟨b,o,none⟩).run P w=.ok (toV K cs) w:=by
 have:=run_loadT (P:=P) hv hl h1 hr
 simpa[Instr.loadAt,Instr.sureAddr] using this
def resV (tmps:Array Value):ResultVar→Sem Value
 |.tmp t=>pure (tmps.getD t undef)
 |.cell a t=>do loadVar t (←asAddr (tmps.getD a undef))
theorem Sub.take {F:Fr} {s:St} {a:Act} {Γ:HF} {rcs:List (Nat×RC)} {h:HF} (u:Sub F s a Γ rcs h) {id:Nat} {b:Option TypeId} {K:Kd} {x:K.T} (hl:look s.ck id=some ⟨b,K,x⟩) :
  ∃(bb:Option (Nat×TypeId)) (z:K.Z) (h1 hr:HF),bb.map (·.2)=b∧look rcs id=some ⟨bb,K,x,z⟩∧HF.dj h1 hr∧h=h1.un hr∧(⟨bb,K,x,z⟩:RC).Own Γ h1∧Sub F (dropC s id) a Γ (del rcs id) hr:=by
 rw[u.ck,look_map] at hl
 cases hr:look rcs id with
 |none=>rw[hr] at hl; cases hl
 |some r =>
  rw[hr] at hl
  simp only[map_some,Option.some.injEq,RC.ck,Ck.mk.injEq] at hl
  obtain ⟨rb,rK,rx,rz⟩:=r
  simp only at hl
  obtain ⟨hb,rfl,hx⟩:=hl
  obtain rfl:=eq_of_heq hx
  obtain ⟨h1,hR,d,e,o,_,dl⟩:=star_upd u.st hr u.nd
  refine ⟨rb,rz,h1,hR,hb,rfl,d,e,o,?_,del_nodup u.nd id,dl,?_⟩
  ·show del s.ck id=_
   rw[u.ck]
   simp only[del,filter_map]
   rfl
  ·intro y hy
   obtain ⟨e1,e2⟩:=List.mem_filter.1 hy
   obtain ⟨v,hv,hi⟩:=u.tm y e1
   exact ⟨v,hv,offA_is e2 hi⟩
theorem Sub.tmIs {F:Fr} {s:St} {a:Act} {Γ:HF} {rcs:List (Nat×RC)} {h:HF} (u:Sub F s a Γ rcs h) {t:Nat} {sv:SV} (hl:look s.tm t=some (.one sv)):a.tmps.getD t undef=a.tmps.getD t undef∧sv.is Γ rcs (a.tmps.getD t undef):=by
 obtain ⟨v,hv,hi⟩:=u.tm _ (look_mem hl)
 have:a.tmps.getD t undef=v:=by
  have hv':a.tmps[t]? = some v:=hv
  rw[Array.getD_eq_getD_getElem?,hv']; rfl
 rw[this]
 exact ⟨rfl,hi⟩
theorem retT_ok {P:Program} {F:Fr} {a:Act} {w:World} {Γ:HF} {rcs:List (Nat×RC)} {Kp:α→Prop}:∀(vs:List ResultVar) (rs:List Rs) (s:St) (rcs1:List (Nat×RC)) (h1:HF) {k:RT rs→St→Tr α},
  Sub F s a Γ rcs1 h1→Mem h1 w→(∀n r,look rcs1 n=some r→look rcs n=some r)→(retT P vs rs s k).sat Kp →
  ∃(r:RT rs) (s':St) (rcs':List (Nat×RC)) (h' hR:HF) (us:List Value) (lR:List (Nat×RC)),(vs.mapM (resV a.tmps)).run P w=.ok us w∧ResIs Γ rs r us lR∧Star Γ lR hR∧HF.dj hR h'∧(∀b v,(hR.un h') b=some v→h1 b=some v) ∧
   Sub F s' a Γ rcs' h'∧(∀n r,look rcs' n=some r→look rcs n=some r)∧(k r s').sat Kp:=by
 intro vs
 induction vs with
 |nil =>
  intro rs s rcs1 h1 k u m hL hs
  cases rs with
  |nil=>exact ⟨(),s,rcs1,h1,HF.emp,[],[],rfl,⟨rfl,rfl⟩,rfl,HF.emp_dj _,by rw[HF.emp_un]; exact fun _ _ e=>e,u,hL,hs⟩
  |cons r rs=>exact hs.elim
 |cons v vs ih =>
  intro rs s rcs1 h1 k u m hL hs
  have cons_run:∀ {v0:Value} {us:List Value},(resV a.tmps v).run P w=.ok v0 w→(vs.mapM (resV a.tmps)).run P w=.ok us w→((v::vs).mapM (resV a.tmps)).run P w=.ok (v0::us) w:=by
   intro v0 us e1 e2
   simp[mapM_cons,e1,e2,Sem.run_bind,Sem.run_pure]
  cases rs with
  |nil=>cases v<;>exact hs.elim
  |cons r rs =>
   -- a chunk is handed over
   have give:∀(v0:Value) (id:Nat) (b:Option TypeId) (K:Kd) (x:K.T),look s.ck id=some ⟨b,K,x⟩→(resV a.tmps v).run P w=.ok v0 w→∀(k':RT rs→St→Tr α),(retT P vs rs (dropC s id) k').sat Kp →
     ∃(bb:Option (Nat×TypeId)) (z:K.Z) (h2:HF) (q:RT rs) (s':St) (rcs':List (Nat×RC)) (h' hR:HF) (us:List Value) (lR:List (Nat×RC)),bb.map (·.2)=b∧look rcs1 id=some ⟨bb,K,x,z⟩∧(⟨bb,K,x,z⟩:RC).Own Γ h2∧((v::vs).mapM (resV a.tmps)).run P w=.ok (v0::us) w ∧
      ResIs Γ rs q us lR∧Star Γ lR hR∧HF.dj hR h'∧HF.dj h2 (hR.un h')∧(∀b v,(h2.un (hR.un h')) b=some v→h1 b=some v)∧Sub F s' a Γ rcs' h'∧(∀n r,look rcs' n=some r→look rcs n=some r)∧(k' q s').sat Kp:=by
    intro v0 id b K x hck hrun k' hs'
    obtain ⟨bb,z,h2,hr,e1,e2,d,e3,o,u2⟩:=u.take hck
    subst e3
    have m2:=((Mem.un d).1 m).2
    obtain ⟨q,s',rcs',h',hR,us,lR,f1,f2,f3,f4,f5,f6,f7,f8⟩:=ih rs (dropC s id) (del rcs1 id) hr u2 m2 (fun n r e=>hL n r (del_look rcs1 id n r e)) hs'
    refine ⟨bb,z,h2,q,s',rcs',h',hR,us,lR,e1,e2,o,cons_run hrun f1,f2,f3,f4,?_,?_,f6,f7,f8⟩
    ·exact HF.dj_iff.2 fun b hb hx=>HF.dj_iff.1 d b hb (has_sub f5 b hx)
    ·exact un_mono d (fun _ _ e=>e) f5
   have keepv:∀(v0:Value),(resV a.tmps v).run P w=.ok v0 w→∀(k':RT rs→St→Tr α),(retT P vs rs s k').sat Kp →
     ∃(q:RT rs) (s':St) (rcs':List (Nat×RC)) (h' hR:HF) (us:List Value) (lR:List (Nat×RC)),((v::vs).mapM (resV a.tmps)).run P w=.ok (v0::us) w ∧
      ResIs Γ rs q us lR∧Star Γ lR hR∧HF.dj hR h'∧(∀b v,(hR.un h') b=some v→h1 b=some v)∧Sub F s' a Γ rcs' h'∧(∀n r,look rcs' n=some r→look rcs n=some r)∧(k' q s').sat Kp:=by
    intro v0 hrun k' hs'
    obtain ⟨q,s',rcs',h',hR,us,lR,f1,f2,f3,f4,f5,f6,f7,f8⟩:=ih rs s rcs1 h1 u m hL hs'
    exact ⟨q,s',rcs',h',hR,us,lR,cons_run hrun f1,f2,f3,f4,f5,f6,f7,f8⟩
   have cons_star:∀ {lR:List (Nat×RC)} {hR h2 h':HF} {rc:RC},Star Γ lR hR→HF.dj h2 (hR.un h')→HF.dj hR h'→rc.Own Γ h2→Star Γ ((0,rc)::lR) (h2.un hR)∧HF.dj (h2.un hR) h':=by
    intro lR hR h2 h' rc st d2 d3 o
    obtain ⟨d4,d5⟩:=HF.dj_un.1 d2
    exact ⟨⟨h2,hR,d4,rfl,o,st⟩,HF.un_dj.2 ⟨d5,d3⟩⟩
   cases v with
   |tmp t =>
    have hrun:∀w',(resV a.tmps (.tmp t)).run P w'=.ok (a.tmps.getD t undef) w':=fun w'=>rfl
    cases r with
    |val K =>
     simp only[retT] at hs
     split at hs
     ·rename_i K' x hl
      split at hs
      ·rename_i hK
       subst hK
       obtain ⟨_,hi⟩:=u.tmIs hl
       obtain ⟨q,s',rcs',h',hR,us,lR,f1,f2,f3,f4,f5,f6,f7,f8⟩:=keepv _ (hrun w) _ hs
       exact ⟨(castK rfl x,q),s',rcs',h',hR,_,lR,f1,⟨_,us,rfl,hi,f2⟩,f3,f4,f5,f6,f7,f8⟩
      ·exact hs.elim
     ·rename_i hl
      split at hs
      ·rename_i x hx
       split at hs
       ·rename_i hf
        obtain ⟨_,hi⟩:=u.tmIs hl
        obtain ⟨n1,n2,n3,_⟩:=nilK_own (Γ:=Γ) hx
        obtain ⟨q,s',rcs',h',hR,us,lR,f1,f2,f3,f4,f5,f6,f7,f8⟩:=keepv _ (hrun w) _ hs
        refine ⟨(x,q),s',rcs',h',hR,_,lR,f1,⟨_,us,rfl,⟨hf,K.zd,n1,?_⟩,f2⟩,f3,f4,f5,f6,f7,f8⟩
        rw[n2]
        simp only[toV,n3,if_true,getD_cons_zero]
        exact hi
       ·exact hs.elim
      ·exact hs.elim
     ·exact hs.elim
    |own K =>
     simp only[retT] at hs
     split at hs
     ·rename_i id hl
      split at hs
      ·rename_i x hx
       have hck:=ckAt_look hx
       obtain ⟨_,r0,q0,hr0,hp,hv⟩:=u.tmIs hl
       obtain ⟨bb,z,h2,q,s',rcs',h',hR,us,lR,e1,e2,o,f1,f2,f3,f4,d2,f5,f6,f7,f8⟩:=give _ id none K x hck (hrun w) _ hs
       cases bb with
       |some bt=>cases e1
       |none =>
        rw[e2] at hr0
        injection hr0 with hr0
        subst hr0
        simp only[pl,Option.some.injEq] at hp
        subst hp
        obtain ⟨g1,g2⟩:=cons_star f3 d2 f4 o
        exact ⟨(x,q),s',rcs',h',h2.un hR,_,_,f1,⟨_,us,z,lR,rfl,rfl,hv,f2⟩,g1,g2,by rw[HF.un_assoc]; exact f5,f6,f7,f8⟩
      ·exact hs.elim
     ·rename_i hl
      split at hs
      ·rename_i x hx
       obtain ⟨_,hi⟩:=u.tmIs hl
       obtain ⟨n1,n2,n3,_⟩:=nilK_own (Γ:=Γ) hx
       obtain ⟨q,s',rcs',h',hR,us,lR,f1,f2,f3,f4,f5,f6,f7,f8⟩:=keepv _ (hrun w) _ hs
       refine ⟨(x,q),s',rcs',h',hR,_,(0,⟨none,K,x,K.zd⟩)::lR,f1,⟨_,us,K.zd,lR,rfl,rfl,?_,f2⟩,⟨HF.emp,hR,HF.emp_dj _,(HF.emp_un _).symm,by simpa only[RC.Own] using n1,f3⟩,f4,f5,f6,f7,f8⟩
       rw[n2]
       simp only[toV,n3,if_true,getD_cons_zero]
       exact hi
      ·exact hs.elim
     ·exact hs.elim
    |ownN K =>
     simp only[retT] at hs
     split at hs
     ·rename_i id hl
      split at hs
      ·rename_i x hx
       obtain ⟨hnn,hs⟩:=hs
       have hck:=ckAt_look hx
       obtain ⟨_,r0,q0,hr0,hp,hv⟩:=u.tmIs hl
       obtain ⟨bb,z,h2,q,s',rcs',h',hR,us,lR,e1,e2,o,f1,f2,f3,f4,d2,f5,f6,f7,f8⟩:=give _ id none K x hck (hrun w) _ hs
       cases bb with
       |some bt=>cases e1
       |none =>
        rw[e2] at hr0
        injection hr0 with hr0
        subst hr0
        simp only[pl,Option.some.injEq] at hp
        subst hp
        obtain ⟨g1,g2⟩:=cons_star f3 d2 f4 o
        exact ⟨(x,q),s',rcs',h',h2.un hR,_,_,f1,⟨_,us,z,lR,rfl,rfl,hv,nonNilB_ok hnn,f2⟩,g1,g2,by rw[HF.un_assoc]; exact f5,f6,f7,f8⟩
      ·exact hs.elim
     ·rename_i hl
      split at hs
      ·rename_i x hx
       obtain ⟨_,hi⟩:=u.tmIs hl
       obtain ⟨n1,n2,n3,n4⟩:=nilK_own (Γ:=Γ) hx
       have hi':a.tmps.getD t undef=.slice none 0 0:=hi
       obtain ⟨q,s',rcs',h',hR,us,lR,f1,f2,f3,f4,f5,f6,f7,f8⟩:=keepv _ (hrun w) _ hs
       refine ⟨(x,q),s',rcs',h',hR,_,(0,⟨none,K,x,K.zd⟩)::lR,f1,⟨_,us,K.zd,lR,rfl,rfl,?_,by rw[hi']; exact n4,f2⟩,⟨HF.emp,hR,HF.emp_dj _,(HF.emp_un _).symm,by simpa only[RC.Own] using n1,f3⟩,f4,f5,f6,f7,f8⟩
       rw[n2]
       simp only[toV,n3,if_true,getD_cons_zero]
       exact hi
      ·exact hs.elim
     ·exact hs.elim
    |box ty K =>
     simp only[retT] at hs
     split at hs
     ·rename_i id hl
      split at hs
      ·rename_i x hx
       have hck:=ckAt_look hx
       obtain ⟨_,r0,q0,hr0,hp,_,hv⟩:=u.tmIs hl
       obtain ⟨bb,z,h2,q,s',rcs',h',hR,us,lR,e1,e2,o,f1,f2,f3,f4,d2,f5,f6,f7,f8⟩:=give _ id (some ty) K x hck (hrun w) _ hs
       cases bb with
       |none=>cases e1
       |some bt =>
        obtain ⟨b,t'⟩:=bt
        simp only[map_some,Option.some.injEq] at e1
        subst e1
        rw[e2] at hr0
        injection hr0 with hr0
        subst hr0
        simp only[pl,Option.some.injEq] at hp
        subst hp
        obtain ⟨g1,g2⟩:=cons_star f3 d2 f4 o
        exact ⟨(x,q),s',rcs',h',h2.un hR,_,_,f1,⟨_,us,b,z,lR,rfl,rfl,hv,f2⟩,g1,g2,by rw[HF.un_assoc]; exact f5,f6,f7,f8⟩
      ·exact hs.elim
     ·exact hs.elim
   |cell c ty =>
    -- the variable's content
    have load:∀(id:Nat) (K:Kd) (x:K.T),look s.tm c=some (.one (.ptr id []))→look s.ck id=some ⟨some ty,K,x⟩→varT P ty=some (single K,K.size) →
      ∃b z,look rcs1 id=some ⟨some (b,ty),K,x,z⟩∧(resV a.tmps (.cell c ty)).run P w=.ok (toV K (K.cells x z)) w:=by
     intro id K x hl hck hv
     obtain ⟨_,r0,q0,hr0,hp,_,hvv⟩:=u.tmIs hl
     obtain ⟨bb,z,h2,hr,e1,e2,d,e3,o,_⟩:=u.take hck
     cases bb with
     |none=>cases e1
     |some bt =>
      obtain ⟨b,t'⟩:=bt
      simp only[map_some,Option.some.injEq] at e1
      subst e1
      rw[e2] at hr0
      injection hr0 with hr0
      subst hr0
      simp only[pl,Option.some.injEq] at hp
      subst hp
      refine ⟨b,z,e2,?_⟩
      obtain ⟨c0,h3,d3,e4,o3,hlc⟩:=o
      have m2:Mem (HF.one b c0 t') w:=by
       subst e3
       have:=((Mem.un d).1 m).1
       rw[e4] at this
       exact ((Mem.un d3).1 this).1
      obtain ⟨lo,hi,hw,_⟩:=Mem.one.1 m2
      have hrange:w.rangeAt b 0 (K.cells x z):=range_of hw fun j hj=>by rw[←hlc]; simp
      simp only[resV,Sem.run_bind,hvv,asAddr]
      simp[run_loadVarT hv (cells_length K x z) (single_size K) hrange]
    cases r with
    |val K =>
     simp only[retT] at hs
     split at hs
     ·rename_i id hl
      split at hs
      ·rename_i x hx
       split at hs
       ·rename_i hc
        simp only[Bool.and_eq_true,decide_eq_true_eq] at hc
        obtain ⟨⟨hf,hnu⟩,hv⟩:=hc
        obtain ⟨b,z,e2,hrun⟩:=load id K x hl (ckAt_look hx) hv
        obtain ⟨h2,hr,d,e3,o⟩:=star_take u.st e2
        obtain ⟨h3,_,o3⟩:=rc_own o
        have:=own_free hf o3
        subst this
        obtain ⟨q,s',rcs',h',hR,us,lR,f1,f2,f3,f4,f5,f6,f7,f8⟩:=keepv _ hrun _ hs
        exact ⟨(x,q),s',rcs',h',hR,_,lR,f1,⟨_,us,rfl,⟨hf,z,o3,rfl⟩,f2⟩,f3,f4,f5,f6,f7,f8⟩
       ·exact hs.elim
      ·exact hs.elim
     ·exact hs.elim
    |own K =>
     simp only[retT] at hs
     split at hs
     ·rename_i id hl
      split at hs
      ·rename_i x hx
       split at hs
       ·rename_i hc
        simp only[Bool.and_eq_true,decide_eq_true_eq] at hc
        obtain ⟨hnu,hv⟩:=hc
        obtain ⟨b,z,e2,hrun⟩:=load id K x hl (ckAt_look hx) hv
        obtain ⟨bb,z2,h2,q,s',rcs',h',hR,us,lR,e1,e2',o,f1,f2,f3,f4,d2,f5,f6,f7,f8⟩:=give _ id (some ty) K x (ckAt_look hx) hrun _ hs
        rw[e2] at e2'
        injection e2' with e2'
        simp only[RC.mk.injEq,true_and,heq_eq_eq] at e2'
        obtain ⟨rfl,rfl⟩:=e2'
        obtain ⟨c0,h3,d3,rfl,o3,hlc⟩:=o
        obtain ⟨d6,d7⟩:=HF.un_dj.1 d2
        obtain ⟨g1,g2⟩:=cons_star (rc:=⟨none,K,x,z⟩) f3 d7 f4 (by simpa only[RC.Own] using o3)
        refine ⟨(x,q),s',rcs',h',h3.un hR,_,_,f1,⟨_,us,z,lR,rfl,rfl,rfl,f2⟩,g1,g2,?_,f6,f7,f8⟩
        rw[HF.un_assoc]
        intro b' v' e
        refine f5 b' v' ?_
        rw[HF.un_assoc]
        refine un_right (HF.dj_un.2 ⟨d3,d6⟩) e
       ·exact hs.elim
      ·exact hs.elim
     ·exact hs.elim
    |ownN K=>exact hs.elim
    |box ty' K=>exact hs.elim
def outsT:Nat→(ps:List Par)→St→(OT ps→Tr α)→Tr α
 |_,[],_,k=>k ()
 |i,.val _::ps,s,k=>outsT (i+1) ps s k
 |i,.own _::ps,s,k=>outsT (i+1) ps s k
 |i,.clo _ _::ps,s,k=>outsT (i+1) ps s k
 |i,.mut K::ps,s,k=>match ckAt s i none K with
  |some x=>outsT (i+1) ps (dropC s i) fun o=>k (x,o)
  |none=>.bad
 |i,.ptr t K p::ps,s,k=>match ckAt s i (some t) K with
  |some x=>outsT (i+1) ps (dropC s i) fun o=>k (x,o)
  |none=>.bad
 |i,.cap t K::ps,s,k=>match ckAt s i (some t) K with
  |some x=>outsT (i+1) ps (dropC s i) fun o=>k (x,o)
  |none=>.bad
theorem outsT_ok {F:Fr} {a:Act} {Γ:HF} {Rl rcs:List (Nat×RC)} {Kp:α→Prop} (hM:∀m∈F.M,∀r,look rcs m.1=some r→r.head=m.2) (hMR:∀i r,look Rl i=some r→(i,r.head)∈F.M) :
  ∀(i:Nat) (ps:List Par) (s:St) (rcs1:List (Nat×RC)) (h1:HF) {k:OT ps→Tr α},(∀j,i≤j→j<i+ps.length→∀p,ps[j-i]? = some p→(match p with | .mut _ | .ptr _ _ _ | .cap _ _=>∃r,look Rl j=some r | _=>True)) →
  Sub F s a Γ rcs1 h1→(∀n r,look rcs1 n=some r→look rcs n=some r)→(outsT i ps s k).sat Kp →
  ∃(o:OT ps) (lO:List (Nat×RC)) (hO:HF),Back Rl i ps o lO∧Star Γ lO hO∧(∀b v,hO b=some v→h1 b=some v)∧(k o).sat Kp
 |i,[],s,rcs1,h1,k,hR,u,hL,hs=>⟨(),[],HF.emp,rfl,rfl,fun b v e=>by simp[HF.emp] at e,hs⟩
 |i,.val K::ps,s,rcs1,h1,k,hR,u,hL,hs=>outsT_ok hM hMR (i+1) ps s rcs1 h1 (fun j h1 h2 p hp=>hR j (by omega) (by simp; omega) p (by rw[show j-i=(j-(i+1))+1 by omega]; simpa using hp)) u hL hs
 |i,.own K::ps,s,rcs1,h1,k,hR,u,hL,hs=>outsT_ok hM hMR (i+1) ps s rcs1 h1 (fun j h1 h2 p hp=>hR j (by omega) (by simp; omega) p (by rw[show j-i=(j-(i+1))+1 by omega]; simpa using hp)) u hL hs
 |i,.clo f c::ps,s,rcs1,h1,k,hR,u,hL,hs=>outsT_ok hM hMR (i+1) ps s rcs1 h1 (fun j h1 h2 p hp=>hR j (by omega) (by simp; omega) p (by rw[show j-i=(j-(i+1))+1 by omega]; simpa using hp)) u hL hs
 |i,.mut K::ps,s,rcs1,h1,k,hR,u,hL,hs=>by
  simp only[outsT] at hs
  split at hs
  ·rename_i x hx
   obtain ⟨bb,z,h2,hr,e1,e2,d,rfl,o,u2⟩:=u.take (ckAt_look hx)
   cases bb with
   |some bt=>cases e1
   |none =>
    obtain ⟨r,hr'⟩:∃r,look Rl i=some r:=hR i (Nat.le_refl _) (by simp) (.mut K) (by simp)
    obtain ⟨o',lO,hO,f1,f2,f3,f4⟩:=outsT_ok hM hMR (i+1) ps (dropC s i) (del rcs1 i) hr (fun j h1 h2 p hp=>hR j (by omega) (by simp; omega) p (by rw[show j-i=(j-(i+1))+1 by omega]; simpa using hp)) u2 (fun n r e=>hL n r (del_look rcs1 i n r e)) hs
    exact ⟨(x,o'),(i,⟨none,K,x,z⟩)::lO,h2.un hO,⟨r,z,lO,hr',rfl,hM _ (hMR i r hr') _ (hL _ _ e2),f1⟩,⟨h2,hO,HF.dj_iff.2 fun b hb hx=>HF.dj_iff.1 d b hb (has_sub f3 b hx),rfl,o,f2⟩,un_mono d (fun _ _ e=>e) f3,f4⟩
  ·exact hs.elim
 |i,.ptr t K p::ps,s,rcs1,h1,k,hR,u,hL,hs=>by
  simp only[outsT] at hs
  split at hs
  ·rename_i x hx
   obtain ⟨bb,z,h2,hr,e1,e2,d,rfl,o,u2⟩:=u.take (ckAt_look hx)
   cases bb with
   |none=>cases e1
   |some bt =>
    obtain ⟨b,t'⟩:=bt
    simp only[map_some,Option.some.injEq] at e1
    subst e1
    obtain ⟨r,hr'⟩:∃r,look Rl i=some r:=hR i (Nat.le_refl _) (by simp) (.ptr t' K p) (by simp)
    obtain ⟨o',lO,hO,f1,f2,f3,f4⟩:=outsT_ok hM hMR (i+1) ps (dropC s i) (del rcs1 i) hr (fun j h1 h2 p hp=>hR j (by omega) (by simp; omega) p (by rw[show j-i=(j-(i+1))+1 by omega]; simpa using hp)) u2 (fun n r e=>hL n r (del_look rcs1 i n r e)) hs
    exact ⟨(x,o'),(i,⟨some (b,t'),K,x,z⟩)::lO,h2.un hO,⟨r,b,z,lO,hr',rfl,hM _ (hMR i r hr') _ (hL _ _ e2),f1⟩,⟨h2,hO,HF.dj_iff.2 fun b hb hx=>HF.dj_iff.1 d b hb (has_sub f3 b hx),rfl,o,f2⟩,un_mono d (fun _ _ e=>e) f3,f4⟩
  ·exact hs.elim
 |i,.cap t K::ps,s,rcs1,h1,k,hR,u,hL,hs=>by
  simp only[outsT] at hs
  split at hs
  ·rename_i x hx
   obtain ⟨bb,z,h2,hr,e1,e2,d,rfl,o,u2⟩:=u.take (ckAt_look hx)
   cases bb with
   |none=>cases e1
   |some bt =>
    obtain ⟨b,t'⟩:=bt
    simp only[map_some,Option.some.injEq] at e1
    subst e1
    obtain ⟨r,hr'⟩:∃r,look Rl i=some r:=hR i (Nat.le_refl _) (by simp) (.cap t' K) (by simp)
    obtain ⟨o',lO,hO,f1,f2,f3,f4⟩:=outsT_ok hM hMR (i+1) ps (dropC s i) (del rcs1 i) hr (fun j h1 h2 p hp=>hR j (by omega) (by simp; omega) p (by rw[show j-i=(j-(i+1))+1 by omega]; simpa using hp)) u2 (fun n r e=>hL n r (del_look rcs1 i n r e)) hs
    exact ⟨(x,o'),(i,⟨some (b,t'),K,x,z⟩)::lO,h2.un hO,⟨r,b,z,lO,hr',rfl,hM _ (hMR i r hr') _ (hL _ _ e2),f1⟩,⟨h2,hO,HF.dj_iff.2 fun b hb hx=>HF.dj_iff.1 d b hb (has_sub f3 b hx),rfl,o,f2⟩,un_mono d (fun _ _ e=>e) f3,f4⟩
  ·exact hs.elim
theorem star_append {Γ:HF}:∀ {l1 l2:List (Nat×RC)} {h1 h2:HF},Star Γ l1 h1→Star Γ l2 h2→HF.dj h1 h2→Star Γ (l1++l2) (h1.un h2)
 | [],l2,h1,h2,s1,s2,d=>by rw[show h1=HF.emp from s1,HF.emp_un]; exact s2
 |r::l1,l2,h1,h2,⟨g1,g2,d1,e,o,st⟩,s2,d=>by
  subst e
  obtain ⟨d2,d3⟩:=HF.un_dj.1 d
  exact ⟨g1,g2.un h2,HF.dj_un.2 ⟨d1,d2⟩,HF.un_assoc _ _ _,o,star_append st s2 d3⟩
theorem entry_look:∀(ps:List Par) (i:Nat) {Γ:HF} {Rl:List (Nat×RC)} (x:AT ps) (vs:List Value),Entry Γ Rl i ps x vs→∀j,i≤j→∀p,ps[j-i]? = some p→(match p with | .mut _ | .ptr _ _ _ | .cap _ _=>∃r,look Rl j=some r | _=>True)
 | [],i,Γ,Rl,x,vs,h,j,hj,p,hp=>by simp at hp
 |q::ps,i,Γ,Rl,x,vs,h,j,hj,p,hp=>by
  rcases Nat.eq_or_lt_of_le hj with e | e
  ·subst e
   simp only[Nat.sub_self,List.getElem?_cons_zero,Option.some.injEq] at hp
   subst hp
   cases q with
   |val K=>trivial
   |own K=>trivial
   |clo f c=>trivial
   | «mut» K => obtain ⟨v, vs', z, _, hl, _⟩ := h; exact ⟨_, hl⟩
   |ptr t K p=>obtain ⟨v,vs',b,z,_,hl,_⟩:=h; exact ⟨_,hl⟩
   |cap t K=>obtain ⟨⟨b,z,hl⟩,_⟩:=h; exact ⟨_,hl⟩
  ·have hp':ps[j-(i+1)]? = some p:=by
    rw[show j-i=(j-(i+1))+1 by omega] at hp
    simpa using hp
   cases q with
   |val K=>obtain ⟨v,vs',_,_,h⟩:=h; exact entry_look ps (i+1) _ _ h j (by omega) p hp'
   |own K=>obtain ⟨v,vs',z,_,_,_,h⟩:=h; exact entry_look ps (i+1) _ _ h j (by omega) p hp'
   |clo f c=>obtain ⟨v,vs',_,_,h⟩:=h; exact entry_look ps (i+1) _ _ h j (by omega) p hp'
   | «mut» K => obtain ⟨v, vs', z, _, _, _, h⟩ := h; exact entry_look ps (i + 1) _ _ h j (by omega) p hp'
   |ptr t K pp=>obtain ⟨v,vs',b,z,_,_,_,h⟩:=h; exact entry_look ps (i+1) _ _ h j (by omega) p hp'
   |cap t K=>obtain ⟨_,h⟩:=h; exact entry_look ps (i+1) _ _ h j (by omega) p hp'
def retK (P:Program) (fn:Func) (sp:Spec) (s:St):Tr (RT sp.rs×OT sp.ps):=retT P fn.results.toList sp.rs s fun q s'=>outsT 0 sp.ps s' fun o=>.leaf (q,o)
def fnQ (P:Program) (F:Fr) (fn:Func) (sp:Spec) (r:RT sp.rs×OT sp.ps):Exit→Act→World→Prop:=fun e a w=>(e=.normal∨e=.ret)∧∃s,R F s a w∧(retK P fn sp s).sat (·=r)
theorem run_results {P:Program} {fn:Func} {tmps:Array Value} {w:World} {us:List Value} (h:(fn.results.toList.mapM (resV tmps)).run P w=.ok us w):(results fn tmps).run P w=.ok (packV us) w:=by
 unfold results
 rw[←Array.toArray_toList (xs:=fn.results),List.mapM_toArray]
 have:∀(g:ResultVar→Sem Value),g=resV tmps→(fn.results.toList.mapM g).run P w=.ok us w:=fun g hg=>by rw[hg]; exact h
 simp only[Sem.run_bind,Sem.run_map]
 rw[this]
 ·match us with
  | []=>rfl
  | [v]=>rfl
  |u::v::us=>rfl
 ·funext x
  cases x<;>rfl
theorem fn_valid {P:Program} {f:Nat} {fn:Func} {c:Code} {sp:Spec} {n:Lim} (hf:P.funcs[f]? = some fn) (hb:fn.body=some c) (hn:n.n=fn.ntmps) (hlo:n.lo=sp.ps.length) (hps:sp.ps.length≤fn.ntmps) (hbig:sp.ps.length≤1000000)
  (h:∀(x:AT sp.ps) (r:RT sp.rs×OT sp.ps),sp.impl x=some r→∀(F:Fr),F.n=n→F.B=[]→∀(a:Act) (w:World),R F (entrySt sp.ps x) a w→c.wp P (fnQ P F fn sp r) a w):Valid P f sp:=by
 intro x r hi w Γ lent Rl args he hck st m mR d
 have hids:(Rl.map (·.1))=(entryCk 0 sp.ps x).map (·.1):=by rw[←hck,map_map]; rfl
 have hM:∀m∈Rl.map (fun y=>(y.1,y.2.head)),(m.1<n.lo∨n.n≤m.1)∧m.1<1000000:=by
  intro m' hm
  obtain ⟨y,hy,rfl⟩:=List.mem_map.1 hm
  have:y.1∈(entryCk 0 sp.ps x).map (·.1):=by rw[←hids]; exact List.mem_map.2 ⟨y,hy,rfl⟩
  have:=(entryCk_ids 0 sp.ps x).2 _ this
  simp only
  omega
 have hlen:=entry_len sp.ps 0 0 Γ Rl x _ he
 have hargs:args.size≤n.n:=by
  rw[Array.length_toList] at hlen
  omega
 have hR:=entry_good (n:=n) hM he hck st m mR d hargs
 refine calls_of_wp hf hb ?_
 rw[←hn]
 refine wp_mono (h x r hi (frOf w lent Γ Rl n hM) rfl rfl _ w hR) ?_
 rintro e a' w' ⟨hex,s',⟨Γ',rcs,h',g⟩,hs⟩
 obtain ⟨q,s2,rcs2,h2,hR2,us,lR,f1,f2,f3,f4,f5,u2,f6,hs2⟩:=retT_ok (rcs:=rcs) fn.results.toList sp.rs s' rcs h' g.sub g.mem (fun _ _ e=>e) hs
 obtain ⟨o,lO,hO,f7,f8,f9,hs3⟩:=outsT_ok (Rl:=Rl) (rcs:=rcs) g.md (fun i r hr=>List.mem_map.2 ⟨(i,r),look_mem hr,rfl⟩) 0 sp.ps s2 rcs2 h2 (fun j h1 h2 p hp=>entry_look sp.ps 0 x _ he j (zero_le _) p hp) u2 f6 hs2
 have hr:(q,o)=r:=hs3
 subst hr
 have dO:HF.dj hR2 hO:=HF.dj_iff.2 fun b hb hx=>HF.dj_iff.1 f4 b hb (has_sub f9 b hx)
 have hsub:∀b v,(hR2.un hO) b=some v→h' b=some v:=fun b v e=>f5 b v (un_mono f4 (fun _ _ e=>e) f9 b v e)
 have key:Post Γ lent w Rl sp (q,o) (.returned (packV us)) w':=by
  refine ⟨packV us,Γ',hR2.un hO,us,lR,lO,rfl,rfl,f2,f7,star_append f3 f8 dO,g.mem.mono hsub,g.memR,HF.dj_iff.2 fun b hb hx=>HF.dj_iff.1 g.dj b hb (has_sub hsub b hx),g.ro0,g.size,g.keep,fun b hb=>g.own b (has_sub hsub b hb),g.ro,g.os,g.tape,g.output⟩
 rcases hex with rfl | rfl
 ·exact ⟨g.defers,_,run_results f1,key⟩
 ·exact ⟨g.defers,_,run_results f1,key⟩
inductive Ar where
 |op (x:Operand)
 |cap (id:Nat)
 |bv (K:Kd) (x:K.T)
def ArIs (a:Act) (rcs:List (Nat×RC)):List Ar→List Value→Prop
 | [],vs=>vs=[]
 |.op x::l,vs=>∃vs',vs=a.eval x::vs'∧ArIs a rcs l vs'
 |.cap id::l,vs=>∃vs' r b t,vs=.pointer (some ⟨b,0,none⟩)::vs'∧look rcs id=some r∧r.box=some (b,t)∧ArIs a rcs l vs'
 |.bv K x::l,vs=>∃vs' z,vs=toV K (K.cells x z)::vs'∧K.free=true∧K.Own HF.emp x z HF.emp∧ArIs a rcs l vs'
structure Got where
 s:St
 l:List (Nat×Nat)
 cs:List (Nat×Nat)
 vw:List Nat
 tk:List Nat
def winAt (s:St) (id:Nat) (p:List Sel) (off len:Nat) (K:Kd):Option K.T:=match look s.ck id with
 |some c=>match getP c.K c.x p with
  |some ⟨.sl true t e none,xs⟩=>if h:shr (.sl true t e none)=K∧noHole e=true then some (castS h.1 ((drop off xs).take len)) else none
  |_=>none
 |none=>none
def viewAt (s:St) (id:Nat) (p:List Sel) (K:Kd):Option K.T:=match look s.ck id with
 |some c=>match getP c.K c.x p with
  |some ⟨K',x⟩=>if h:shr K'=K∧noHole K'=true then some (castS h.1 x) else none
  |none=>none
 |none=>none
def boxView (s:St) (id:Nat):(K:Kd)→Option K.T
 |.ep K1=>match look s.ck id with
  |some ⟨some _,K',x⟩=>if h:shr K'=K1∧noHole K'=true then some (some (castS h.1 x)) else none
  |_=>none
 |_=>none
def arPtr (s:St):Ar→Option (Nat×List Sel)
 |.op x=>match opo s x with
  |some (.ptr id p)=>some (id,p)
  |_=>none
 |.cap id=>some (id,[])
 |.bv _ _=>none
def selEq:List Sel→List Sel→Bool
 | [],[]=>true
 |.fst::p,.fst::q=>selEq p q
 |.snd::p,.snd::q=>selEq p q
 |_,_=>false
theorem selEq_eq:∀ {p q:List Sel},selEq p q=true→p=q
 | [],[],_=>rfl
 |.fst::p,.fst::q,h=>by rw[selEq_eq (p:=p) (q:=q) h]
 |.snd::p,.snd::q,h=>by rw[selEq_eq (p:=p) (q:=q) h]
def argsT:(ps:List Par)→List Ar→Nat→Got→(AT ps→Got→Tr α)→Tr α
 | [],[],_,g,k=>k () g
 |.val K::ps,.bv K' x::ar,i,g,k=>if h:K'=K then argsT ps ar (i+1) g fun xs g'=>k (castK h x,xs) g' else .bad
 |.val K::ps,.op y::ar,i,g,k=>match opo g.s y with
  |some (.val K' x)=>if h:K'=K then argsT ps ar (i+1) g fun xs g'=>k (castK h x,xs) g' else .bad
  |some .nilS=>match nilK K with
   |some x=>if K.free then argsT ps ar (i+1) g fun xs g'=>k (x,xs) g' else .bad
   |none=>.bad
  |some (.at id p)=>match viewAt g.s id p K with
   |some x=>argsT ps ar (i+1) { g with vw:=id::g.vw } fun xs g'=>k (x,xs) g'
   |none=>.bad
  |some (.slc id p off len)=>match winAt g.s id p off len K with
   |some x=>argsT ps ar (i+1) { g with vw:=id::g.vw } fun xs g'=>k (x,xs) g'
   |none=>.bad
  |some (.ptr id [])=>match boxView g.s id K with
   |some x=>argsT ps ar (i+1) { g with vw:=id::g.vw } fun xs g'=>k (x,xs) g'
   |none=>.bad
  |_=>.bad
 |.own K::ps,.op y::ar,i,g,k=>match opo g.s y with
  |some (.at id [])=>match ckAt g.s id none K with
   |some x=>if g.vw.contains id then .bad else argsT ps ar (i+1) { g with s:=dropC g.s id,tk:=id::g.tk } fun xs g'=>k (x,xs) g'
   |none=>.bad
  |some .nilS=>match nilK K with
   |some x=>argsT ps ar (i+1) g fun xs g'=>k (x,xs) g'
   |none=>.bad
  |_=>.bad
 |.mut K::ps,.op y::ar,i,g,k=>match opo g.s y with
  |some (.at id [])=>match ckAt g.s id none K with
   |some x=>if g.vw.contains id then .bad else argsT ps ar (i+1) { g with s:=dropC g.s id,l:=(i,id)::g.l,tk:=id::g.tk } fun xs g'=>k (x,xs) g'
   |none=>.bad
  |_=>.bad
 |.ptr t K p::ps,y::ar,i,g,k=>match arPtr g.s y with
  |some (id,p')=>match ckAt g.s id (some t) K with
   |some x=>if selEq p' p then (if g.vw.contains id then .bad else argsT ps ar (i+1) { g with s:=dropC g.s id,l:=(i,id)::g.l,tk:=id::g.tk } fun xs g'=>k (x,xs) g') else .bad
   |none=>.bad
  |none=>.bad
 |.cap t K::ps,ar,i,g,k=>match look g.cs i with
  |some id=>match ckAt g.s id (some t) K with
   |some x=>if g.vw.contains id then .bad else argsT ps ar (i+1) { g with s:=dropC g.s id,l:=(i,id)::g.l,tk:=id::g.tk } fun xs g'=>k (x,xs) g'
   |none=>.bad
  |none=>.bad
 |.clo f caps::ps,.op y::ar,i,g,k=>match opo g.s y with
  |some (.clo f' ids)=>if f'=f∧ids.length=caps.length then argsT ps ar (i+1) { g with cs:=caps.zip ids++g.cs } k else .bad
  |_=>.bad
 |_,_,_,_,_=>.bad
def lentAt (ps:List Par) (n:Nat):Prop:=match ps[n]? with
 |some (.mut _) | some (.ptr _ _ _) | some (.cap _ _)=>True
 |_=>False
theorem lentAt_succ {p:Par} {ps:List Par} {n:Nat} (h:lentAt ps n):lentAt (p::ps) (n+1):=by simpa[lentAt] using h
structure ArgsOK (F:Fr) (a:Act) (Γ:HF) (rcs rcs1:List (Nat×RC)) (h1:HF) (i:Nat) (ps:List Par) (vs:List Value) (g g':Got) (xs:AT ps) (rcs':List (Nat×RC)) (h' hL:HF) (Rl:List (Nat×RC)):Prop where
 u:Sub F g'.s a Γ rcs' h'
 st:Star Γ Rl hL
 dj:HF.dj hL h'
 sub:∀b v,(hL.un h') b=some v→h1 b=some v
 subL:∀n r,look rcs' n=some r→look rcs1 n=some r
 stay:∀id∈g.vw,look rcs' id=look rcs1 id
 ck:Rl.map (fun y=>(y.1,y.2.ck))=entryCk i ps xs
 lent:∀x∈g'.l,x∈g.l∨(∃r,look Rl x.1=some r∧look rcs1 x.2=some r)∧lentAt ps (x.1-i)
 csub:∀x∈g.cs,x∈g'.cs
 vsub:∀x∈g.vw,x∈g'.vw
 taken:∀id,id∉g'.tk→look rcs' id=look rcs1 id
 tsub:∀x∈g.tk,x∈g'.tk
 tlen:g.tk.length≤g'.tk.length
 none:g'.tk.length=g.tk.length→hL=HF.emp
 entry:∀(G:HF) (RL:List (Nat×RC)),(∀b v,Γ b=some v→G b=some v)→(g'.vw≠[]→∀b v,h' b=some v→G b=some v)→(∀n r,look Rl n=some r→look RL n=some r) →
  (∀x∈g'.cs,∃r,look RL x.1=some r∧look rcs x.2=some r)→Entry G RL i ps xs vs
theorem ck_ids {i:Nat} {ps:List Par} {xs:AT ps} {Rl:List (Nat×RC)} (h:Rl.map (fun y=>(y.1,y.2.ck))=entryCk i ps xs) {n:Nat} {r:RC} (hl:look Rl n=some r):i≤n:=by
 have h1:n∈Rl.map (·.1):=List.mem_map.2 ⟨_,look_mem hl,rfl⟩
 have h2:Rl.map (·.1)=(entryCk i ps xs).map (·.1):=by rw[←h,map_map]; rfl
 rw[h2] at h1
 exact ((entryCk_ids i ps xs).2 n h1).1
theorem look_hd {i:Nat} {rc:RC} {Rl:List (Nat×RC)}:look ((i,rc)::Rl) i=some rc:=by simp[look]
theorem look_tl {i n:Nat} {rc:RC} {Rl:List (Nat×RC)} (h:i≠n):look ((i,rc)::Rl) n=look Rl n:=by
 simp only[look]; rw[if_neg (by simpa using h)]
section
variable {F:Fr} {a:Act} {Γ:HF} {rcs rcs1:List (Nat×RC)} {h1:HF} {i:Nat} {p:Par} {ps:List Par} {vs vs0:List Value} {g g1 g':Got} {xs:AT ps} {xs0:AT (p::ps)} {rcs':List (Nat×RC)} {h' hL:HF} {Rl:List (Nat×RC)}
theorem ArgsOK.keep (A:ArgsOK F a Γ rcs rcs1 h1 (i+1) ps vs g1 g' xs rcs' h' hL Rl) (hl:g1.l=g.l) (ht:g1.tk=g.tk) (hv:∀x∈g.vw,x∈g1.vw) (hc:∀x∈g.cs,x∈g1.cs)
  (hck:entryCk i (p::ps) xs0=entryCk (i+1) ps xs)
  (hentry:∀(G:HF) (RL:List (Nat×RC)),(∀b v,Γ b=some v→G b=some v)→(g'.vw≠[]→∀b v,h' b=some v→G b=some v)→(∀x∈g'.cs,∃r,look RL x.1=some r∧look rcs x.2=some r)→Entry G RL (i+1) ps xs vs→Entry G RL i (p::ps) xs0 vs0) :
  ArgsOK F a Γ rcs rcs1 h1 i (p::ps) vs0 g g' xs0 rcs' h' hL Rl :=
 ⟨A.u,A.st,A.dj,A.sub,A.subL,fun id hid=>A.stay id (hv id hid),by rw[hck]; exact A.ck,fun x hx=>by
  rw[←hl]
  refine (A.lent x hx).imp id fun ⟨⟨r,e1,e2⟩,e3⟩=>⟨⟨r,e1,e2⟩,?_⟩
  have:=ck_ids A.ck e1
  rw[show x.1-i=(x.1-(i+1))+1 by omega]
  exact lentAt_succ e3,fun x hx=>A.csub x (hc x hx),fun x hx=>A.vsub x (hv x hx),A.taken,by rw[←ht]; exact A.tsub,by rw[←ht]; exact A.tlen,by rw[←ht]; exact A.none,
  fun G RL h1 h2 h3 h4=>hentry G RL h1 h2 h4 (A.entry G RL h1 h2 h3 h4)⟩
theorem ArgsOK.nil (A:ArgsOK F a Γ rcs rcs1 h1 (i+1) ps vs g g' xs rcs' h' hL Rl) {rc:RC} (ho:rc.Own Γ HF.emp)
  (hck:entryCk i (p::ps) xs0=(i,rc.ck)::entryCk (i+1) ps xs)
  (hentry:∀(G:HF) (RL:List (Nat×RC)),(∀b v,Γ b=some v→G b=some v)→look RL i=some rc→Entry G RL (i+1) ps xs vs→Entry G RL i (p::ps) xs0 vs0) :
  ArgsOK F a Γ rcs rcs1 h1 i (p::ps) vs0 g g' xs0 rcs' h' hL ((i,rc)::Rl) :=
 ⟨A.u,⟨HF.emp,hL,HF.emp_dj _,(HF.emp_un _).symm,ho,A.st⟩,A.dj,A.sub,A.subL,A.stay,by rw[hck,map_cons,A.ck],
  fun x hx=>(A.lent x hx).imp id fun ⟨⟨r,e1,e2⟩,e3⟩=>⟨⟨r,by rw[look_tl (by have:=ck_ids A.ck e1; omega)]; exact e1,e2⟩,by
   have:=ck_ids A.ck e1
   rw[show x.1-i=(x.1-(i+1))+1 by omega]
   exact lentAt_succ e3⟩,A.csub,A.vsub,A.taken,A.tsub,A.tlen,A.none,
  fun G RL h1 h2 h3 h4=>hentry G RL h1 (h3 _ _ look_hd) (A.entry G RL h1 h2 (fun n r e=>h3 n r (by rw[look_tl (by have:=ck_ids A.ck e; omega)]; exact e)) h4)⟩
theorem ArgsOK.take {id:Nat} {rc:RC} {h2 hr:HF} (A:ArgsOK F a Γ rcs (del rcs1 id) hr (i+1) ps vs g1 g' xs rcs' h' hL Rl) (hl:g1.l=g.l∨g1.l=(i,id)::g.l∧lentAt (p::ps) 0) (ht:g1.tk=id::g.tk) (hv:g1.vw=g.vw) (hc:g1.cs=g.cs)
  (hnv:g.vw.contains id=false) (e2:look rcs1 id=some rc) (d:HF.dj h2 hr) (e1:h1=h2.un hr) (ho:rc.Own Γ h2)
  (hck:entryCk i (p::ps) xs0=(i,rc.ck)::entryCk (i+1) ps xs)
  (hentry:∀(G:HF) (RL:List (Nat×RC)),(∀b v,Γ b=some v→G b=some v)→look RL i=some rc→Entry G RL (i+1) ps xs vs→Entry G RL i (p::ps) xs0 vs0) :
  ArgsOK F a Γ rcs rcs1 h1 i (p::ps) vs0 g g' xs0 rcs' h' (h2.un hL) ((i,rc)::Rl):=by
 have dL:HF.dj h2 (hL.un h'):=HF.dj_iff.2 fun b hb hx=>HF.dj_iff.1 d b hb (has_sub A.sub b hx)
 obtain ⟨dL1,dL2⟩:=HF.dj_un.1 dL
 subst e1
 refine ⟨A.u,⟨h2,hL,dL1,rfl,ho,A.st⟩,HF.un_dj.2 ⟨dL2,A.dj⟩,?_,fun n r e=>del_look rcs1 id n r (A.subL n r e),?_,by rw[hck,map_cons,A.ck],?_,fun x hx=>A.csub x (by rw[hc]; exact hx),fun x hx=>A.vsub x (by rw[hv]; exact hx),?_,fun x hx=>A.tsub x (by rw[ht]; exact mem_cons_of_mem _ hx),?_,?_,?_⟩
 ·rw[HF.un_assoc]
  exact un_mono d (fun _ _ e=>e) A.sub
 ·intro id' hid
  have hne:id'≠id:=fun e=>by
   subst e
   have:g.vw.contains id'=true:=by simpa using hid
   rw[hnv] at this
   cases this
  rw[A.stay id' (by rw[hv]; exact hid),look_del _ hne]
 ·intro x hx
  rcases A.lent x hx with q | ⟨⟨r,q1,q2⟩,q3⟩
  ·rcases hl with hl | ⟨hl,hla⟩
   ·rw[hl] at q; exact .inl q
   ·rw[hl] at q
    rcases List.mem_cons.1 q with q | q
    ·subst q
     exact .inr ⟨⟨rc,look_hd,e2⟩,by simpa using hla⟩
    ·exact .inl q
  ·have:=ck_ids A.ck q1
   refine .inr ⟨⟨r,by rw[look_tl (by omega)]; exact q1,del_look rcs1 id _ _ q2⟩,?_⟩
   rw[show x.1-i=(x.1-(i+1))+1 by omega]
   exact lentAt_succ q3
 ·intro id' hid
  have h3:=A.taken id' hid
  have hne:id'≠id:=fun e=>hid (A.tsub _ (by rw[ht,e]; exact mem_cons_self))
  rw[h3,look_del _ hne]
 ·have:=A.tlen
  rw[ht,length_cons] at this
  omega
 ·intro q
  have:=A.tlen
  rw[ht,length_cons] at this
  omega
 ·intro G RL h3 h4 h5 h6
  exact hentry G RL h3 (h5 _ _ look_hd) (A.entry G RL h3 h4 (fun n r e=>h5 n r (by rw[look_tl (by have:=ck_ids A.ck e; omega)]; exact e)) h6)
end
theorem win_own2 {Γ:HF} {t:TypeId} {e:Kd} {xs:List e.T} {b off cap l n:Nat} {zf:Nat→e.Z} (hf:e.free=true) (ho:(Kd.sl false t e none).Own Γ xs (some (b,off,cap),zf) HF.emp) (hl:l+n≤xs.length) :
  (Kd.sl false t e none).Own Γ ((xs.drop l).take n) (some (b,off+l*e.size,cap-l),fun i=>zf (l+i)) HF.emp:=by
 obtain ⟨c,h2,h1,h3,h4,hls,he,hd⟩:=ho
 simp only[Bool.false_eq_true,if_false] at hd
 have hlen:((xs.drop l).take n).length=n:=by rw[length_take,length_drop]; omega
 have hcl:l≤cap:=by omega
 refine ⟨c,HF.emp,by rw[hlen]; omega,by omega,?_,?_,?_,?_⟩
 ·have h5:l*e.size+(cap-l)*e.size=cap*e.size:=by rw[←add_mul]; congr 1; omega
  omega
 ·intro i hi
  rw[hlen] at hi
  rw[getD_window hi,Nat.add_assoc,←add_mul]
  exact hls (l+i) (by omega)
 ·rw[hlen]
  refine each_emp fun i hi=>?_
  rw[if_neg (by simp)]
  rw[getD_window hi]
  exact each_free hf rfl he (l+i) (by omega)
 ·simp only[Bool.false_eq_true,if_false]
  exact ⟨hd.1,trivial⟩
theorem boxView_ok {s:St} {id:Nat} {K:Kd} {x:K.T} {r:RC} {q:At} {v:Value} {Γ G h':HF} {rcs' RL:List (Nat×RC)} (hx:boxView s id K=some x) (hr:look s.ck id=some r.ck) (hp:pl r.K r.x r.z [] ((r.box.getD (0,0)).1,0)=some q)
  (hv:v=.pointer (some ⟨q.a.1,q.a.2,none⟩)) (st:Star Γ rcs' h') (hr':look rcs' id=some r) (hg:∀b v,Γ b=some v→G b=some v) (hh:∀b v,h' b=some v→G b=some v):(SV.val K x).is G RL v:=by
 cases K with
 |ep K1 =>
  simp only[boxView,hr] at hx
  obtain ⟨rb,K',x',z⟩:=r
  cases rb with
  |none=>cases hx
  |some bt =>
  obtain ⟨b,t⟩:=bt
  simp only[RC.ck,map_some] at hx
  split at hx
  ·rename_i hc
   obtain ⟨hK,hnh⟩:=hc
   subst hK
   injection hx with hx
   subst hx
   simp only[pl,Option.some.injEq] at hp
   subst hp
   obtain ⟨h3,h4,d,e4,o⟩:=star_take st hr'
   obtain ⟨c,h2,d2,e3,o2,hl⟩:=o
   have in3:∀b v,h3 b=some v→h' b=some v:=fun b v e=>by rw[e4]; exact un_left e
   have in2:∀b v,h2 b=some v→h' b=some v:=fun b v e=>in3 b v (by rw[e3]; exact un_right d2 e)
   obtain ⟨f1,f2⟩:=own_shr K' x' z h2 hnh o2 (fun b v e=>e.elim (hg b v) fun e=>hh b v (in2 b v e)) (castS rfl x') (cast (shr_Z K').symm z) (castS_heq x') (cast_heq _ _)
   refine ⟨shr_free _ hnh,(cast (shr_Z K').symm z,(b,0)),⟨rfl,f1,c,t,hh _ _ (in3 _ _ (by rw[e3]; exact one_self)),?_⟩,hv⟩
   intro j hj
   show c[0+j]? = _
   rw[f2,←hl]
   simp
  ·cases hx
 |_=>cases hx
theorem argsT_ok {F:Fr} {a:Act} {w:World} {Γ:HF} {rcs:List (Nat×RC)} {Kp:α→Prop}:∀(ps:List Par) (ar:List Ar) (i:Nat) (g:Got) (rcs1:List (Nat×RC)) (h1:HF) (vs:List Value) {k:AT ps→Got→Tr α},
  Sub F g.s a Γ rcs1 h1→(∀n r,look rcs1 n=some r→look rcs n=some r)→ArIs a rcs ar vs→(argsT ps ar i g k).sat Kp →
  ∃(xs:AT ps) (g':Got) (rcs':List (Nat×RC)) (h' hL:HF) (Rl:List (Nat×RC)),ArgsOK F a Γ rcs rcs1 h1 i ps vs g g' xs rcs' h' hL Rl∧(k xs g').sat Kp:=by
 intro ps
 induction ps with
 |nil =>
  intro ar i g rcs1 h1 vs k u hL har hs
  cases ar with
  |nil =>
   exact ⟨(),g,rcs1,h1,HF.emp,[],⟨u,rfl,HF.emp_dj _,by rw[HF.emp_un]; exact fun _ _ e=>e,fun _ _ e=>e,fun _ _=>rfl,rfl,fun x hx=>.inl hx,fun _ e=>e,fun _ e=>e,fun _ _=>rfl,fun _ e=>e,Nat.le_refl _,fun _=>rfl,fun G RL _ _ _ _=>har⟩,hs⟩
  |cons y ar=>exact hs.elim
 |cons p ps ih =>
  intro ar i g rcs1 h1 vs k u hL har hs
  cases p with
  |val K =>
   cases ar with
   |nil=>exact hs.elim
   |cons y ar =>
    cases y with
    |cap id=>exact hs.elim
    |bv K' x' =>
     obtain ⟨vs',z,rfl,hfr,hown,har'⟩:=har
     simp only[argsT] at hs
     split at hs
     ·rename_i hK
      subst hK
      obtain ⟨xs,g',rcs',h',hL',Rl,A,hk⟩:=ih ar (i+1) g rcs1 h1 vs' u hL har' hs
      exact ⟨(castK rfl x',xs),g',rcs',h',hL',Rl,A.keep rfl rfl (fun _ e=>e) (fun _ e=>e) rfl fun G RL hg _ _ he=>⟨_,_,rfl,⟨hfr,z,own_mono (fun b v e=>by cases e) hown,rfl⟩,he⟩,hk⟩
     ·exact hs.elim
    |op y =>
     obtain ⟨vs',rfl,har'⟩:=har
     simp only[argsT] at hs
     split at hs
     ·rename_i K' x hy
      split at hs
      ·rename_i hK
       subst hK
       have hi:=u.opo_is hy (w:=w)
       obtain ⟨xs,g',rcs',h',hL',Rl,A,hk⟩:=ih ar (i+1) g rcs1 h1 vs' u hL har' hs
       exact ⟨(castK rfl x,xs),g',rcs',h',hL',Rl,A.keep rfl rfl (fun _ e=>e) (fun _ e=>e) rfl fun G RL hg _ _ he=>⟨_,_,rfl,SV.is_mono (s:=.val K' x) hg hi,he⟩,hk⟩
      ·exact hs.elim
     ·rename_i hy
      split at hs
      ·rename_i x hx
       split at hs
       ·rename_i hf
        have hi:a.eval y=.slice none 0 0:=u.opo_is hy (w:=w)
        obtain ⟨xs,g',rcs',h',hL',Rl,A,hk⟩:=ih ar (i+1) g rcs1 h1 vs' u hL har' hs
        refine ⟨(x,xs),g',rcs',h',hL',Rl,A.keep rfl rfl (fun _ e=>e) (fun _ e=>e) rfl fun G RL hg _ _ he=>?_,hk⟩
        obtain ⟨n1,n2,n3,_⟩:=nilK_own (Γ:=G) hx
        refine ⟨_,_,rfl,⟨hf,K.zd,n1,?_⟩,he⟩
        show _=toV K (K.cells x K.zd)
        rw[n2,hi]
        simp only[toV,n3,if_true,getD_cons_zero]
       ·exact hs.elim
      ·exact hs.elim
     ·rename_i id pp hy
      split at hs
      ·rename_i x hx
       obtain ⟨r,q,hr,hp,hv⟩:=u.opo_is hy (w:=w)
       obtain ⟨xs,g',rcs',h',hL',Rl,A,hk⟩:=ih ar (i+1) { g with vw:=id::g.vw } rcs1 h1 vs' u hL har' hs
       refine ⟨(x,xs),g',rcs',h',hL',Rl,A.keep rfl rfl (fun _ e=>mem_cons_of_mem _ e) (fun _ e=>e) rfl fun G RL hg hh _ he=>⟨_,_,rfl,?_,he⟩,hk⟩
       have hvw:g'.vw≠[]:=List.ne_nil_of_mem (A.vsub id mem_cons_self)
       have hr':look rcs' id=some r:=by rw[A.stay id mem_cons_self]; exact hr
       unfold viewAt at hx
       rw[u.ck,look_map,hr] at hx
       simp only[map_some,RC.ck] at hx
       rw[pl_get pp _ _ _ _ hp] at hx
       simp only at hx
       split at hx
       ·rename_i hcond
        obtain ⟨hK,hnh⟩:=hcond
        injection hx with hx
        subst hK
        subst hx
        obtain ⟨h3,h4,d,e4,o⟩:=star_take A.u.st hr'
        obtain ⟨h5,s5,o5⟩:=rc_own o
        obtain ⟨hq,s6,o6⟩:=own_pl pp _ _ _ _ _ o5 hp
        have hin:∀b v,hq b=some v→h' b=some v:=fun b v e=>by rw[e4]; exact un_left (s5 b v (s6 b v e))
        obtain ⟨f1,f2⟩:=own_shr q.K q.x q.z hq hnh o6 (fun b v e=>e.elim (hg b v) fun e=>hh hvw b v (hin b v e)) (castS rfl q.x) (cast (shr_Z q.K).symm q.z) (castS_heq q.x) (cast_heq _ _)
        refine ⟨shr_free _ hnh,_,f1,?_⟩
        rw[hv,f2]
        unfold toV
        rw[shr_single]
       ·cases hx
      ·exact hs.elim
     ·rename_i id pp off len hy
      split at hs
      ·rename_i x hx
       obtain ⟨r,t1,e1,hole,x',z',qa,hr,hp,hle,hv⟩:=u.opo_is hy (w:=w)
       obtain ⟨xs,g',rcs',h',hL',Rl,A,hk⟩:=ih ar (i+1) { g with vw:=id::g.vw } rcs1 h1 vs' u hL har' hs
       refine ⟨(x,xs),g',rcs',h',hL',Rl,A.keep rfl rfl (fun _ e=>mem_cons_of_mem _ e) (fun _ e=>e) rfl fun G RL hg hh _ he=>⟨_,_,rfl,?_,he⟩,hk⟩
       have hvw:g'.vw≠[]:=List.ne_nil_of_mem (A.vsub id mem_cons_self)
       have hr':look rcs' id=some r:=by rw[A.stay id mem_cons_self]; exact hr
       unfold winAt at hx
       rw[u.ck,look_map,hr] at hx
       simp only[map_some,RC.ck] at hx
       rw[pl_get pp _ _ _ _ hp] at hx
       cases hole with
       |some j=>cases hx
       |none =>
       simp only at hx
       split at hx
       ·rename_i hcond
        obtain ⟨hK,hnh⟩:=hcond
        injection hx with hx
        subst hK
        subst hx
        obtain ⟨h3,h4,d,e4,o⟩:=star_take A.u.st hr'
        obtain ⟨h5,s5,o5⟩:=rc_own o
        obtain ⟨hq,s6,o6⟩:=own_pl pp _ _ _ _ _ o5 hp
        have hin:∀b v,hq b=some v→h' b=some v:=fun b v e=>by rw[e4]; exact un_left (s5 b v (s6 b v e))
        have hnh':noHole (.sl true t1 e1 none)=true:=by simp[noHole,hnh]
        have hfr:(shr (.sl true t1 e1 none)).free=true:=shr_free _ hnh'
        obtain ⟨f1,f2⟩:=own_shr (.sl true t1 e1 none) x' z' hq hnh' o6 (fun b v e=>e.elim (hg b v) fun e=>hh hvw b v (hin b v e)) (castS rfl x') (cast (shr_Z (.sl true t1 e1 none)).symm z') (castS_heq x') (cast_heq _ _)
        have hwin:HEq (castS (K:=.sl true t1 e1 none) rfl ((drop off x').take len)) ((drop off (castS (K:=.sl true t1 e1 none) rfl x':List (shr e1).T)).take len):=by
         refine HEq.trans (castS_heq _) (HEq.symm ?_)
         exact heq_win (shr_T e1) (castS_heq (K:=.sl true t1 e1 none) x') off len
        have hwin':=eq_of_heq hwin
        have hlx:length (castS (K:=.sl true t1 e1 none) rfl x':List (shr e1).T)=length x':=(heq_list (shr_T e1) (castS_heq (K:=.sl true t1 e1 none) x')).1
        have hzz:(cast (shr_Z (.sl true t1 e1 none)).symm z').1=z'.1:=eq_of_heq (heq_prod (A:=Option (Nat×Nat×Nat)) rfl (show (Nat→(shr e1).Z)=(Nat→e1.Z) by rw[shr_Z e1]) (cast_heq (shr_Z (.sl true t1 e1 none)).symm z')).1
        rw[hwin']
        generalize hX:(castS (K:=.sl true t1 e1 none) rfl x':List (shr e1).T)=X at *
        generalize hZ:cast (shr_Z (.sl true t1 e1 none)).symm z'=Z at *
        obtain ⟨Zo,Zf⟩:=Z
        simp only at hzz
        have hfe:(shr e1).free=true:=by simpa[shr,free] using hfr
        have hl2:off+len≤X.length:=by rw[hlx]; exact hle
        have hlen:(take len (drop off X)).length=len:=by
         have h1:=length_take (i:=len) (l:=drop off X)
         have h2:=length_drop (i:=off) (l:=X)
         omega
        rcases hv with ⟨hl0,hv | ⟨b,o',cap,off2,cap2,hz,hv,hc1,hc2⟩⟩ | ⟨b,o',cap,hz,hv⟩
        ·subst hl0
         refine ⟨hfr,(none,Zf),⟨List.eq_nil_of_length_eq_zero hlen,rfl⟩,?_⟩
         rw[hv]
         show _=toV (Kd.sl false t1 (shr e1) none) [hdr none _]
         rfl
        ·have hZo:Zo=some (b,o',cap):=by rw[hzz]; exact hz
         subst hZo
         subst hl0
         obtain ⟨c,h9,k1,k2,k3,k4,k5,k6⟩:=f1
         have hnil:take 0 (drop off X)=[]:=List.eq_nil_of_length_eq_zero hlen
         refine ⟨hfr,(some (b,off2,cap2),Zf),⟨c,HF.emp,by rw[hlen]; exact zero_le _,by omega,?_,?_,?_,?_⟩,?_⟩
         ·rw[shr_size] at k3 ⊢; omega
         ·intro i hi; rw[hlen] at hi; omega
         ·rw[hlen]; rfl
         ·simp only[Bool.false_eq_true,if_false] at k6 ⊢; exact ⟨k6.1,trivial⟩
         ·rw[hv]
          show _=toV (Kd.sl false t1 (shr e1) none) [hdr (some (b,off2,cap2)) _]
          rw[hlen]
          rfl
        ·have hZo:Zo=some (b,o',cap):=by rw[hzz]; exact hz
         subst hZo
         have W:=win_own2 (l:=off) (n:=len) hfe f1 hl2
         refine ⟨hfr,_,W,?_⟩
         rw[hv]
         show _=toV (Kd.sl false t1 (shr e1) none) [hdr (some (b,o'+off*(shr e1).size,cap-off)) _]
         rw[hlen,shr_size]
         rfl
       ·cases hx
      ·exact hs.elim
     ·rename_i id hy
      split at hs
      ·rename_i x hx
       obtain ⟨r,q,hr,hp,_,hv⟩:=u.opo_is hy (w:=w)
       obtain ⟨xs,g',rcs',h',hL',Rl,A,hk⟩:=ih ar (i+1) { g with vw:=id::g.vw } rcs1 h1 vs' u hL har' hs
       refine ⟨(x,xs),g',rcs',h',hL',Rl,A.keep rfl rfl (fun _ e=>mem_cons_of_mem _ e) (fun _ e=>e) rfl fun G RL hg hh _ he=>⟨_,_,rfl,?_,he⟩,hk⟩
       have hvw:g'.vw≠[]:=List.ne_nil_of_mem (A.vsub id mem_cons_self)
       have hr':look rcs' id=some r:=by rw[A.stay id mem_cons_self]; exact hr
       exact boxView_ok hx (by rw[u.ck,look_map,hr]; rfl) hp hv A.u.st hr' hg (hh hvw)
      ·exact hs.elim
     ·exact hs.elim
  |own K =>
   cases ar with
   |nil=>exact hs.elim
   |cons y ar =>
    cases y with
    |cap id=>exact hs.elim
    |bv K' x'=>exact hs.elim
    |op y =>
     obtain ⟨vs',rfl,har'⟩:=har
     simp only[argsT] at hs
     split at hs
     ·rename_i id hy
      split at hs
      ·rename_i x hx
       split at hs
       ·exact hs.elim
       ·rename_i hv
        obtain ⟨r,q,hr,hp,hyv⟩:=u.opo_is hy (w:=w)
        obtain ⟨bb,z,h2,hr2,e1,e2,d,e3,o,u2⟩:=u.take (ckAt_look hx)
        obtain ⟨xs,g',rcs',h',hL',Rl,A,hk⟩:=ih ar (i+1) _ (del rcs1 id) hr2 vs' u2 (fun n r e=>hL n r (del_look rcs1 id n r e)) har' hs
        cases bb with
        |some bt=>cases e1
        |none =>
         rw[e2] at hr
         injection hr with hr
         subst hr
         simp only[pl,Option.some.injEq] at hp
         subst hp
         refine ⟨(x,xs),g',rcs',h',h2.un hL',(i,⟨none,K,x,z⟩)::Rl,A.take (.inl rfl) rfl rfl rfl (by simpa using hv) e2 d e3 o rfl fun G RL hg hl he=>⟨_,vs',z,rfl,hl,⟨_,⟨K,x,z,(0,0)⟩,hl,by simp[pl],hyv⟩,he⟩,hk⟩
      ·exact hs.elim
     ·rename_i hy
      split at hs
      ·rename_i x hx
       have hi:a.eval y=.slice none 0 0:=u.opo_is hy (w:=w)
       obtain ⟨xs,g',rcs',h',hL',Rl,A,hk⟩:=ih ar (i+1) g rcs1 h1 vs' u hL har' hs
       obtain ⟨n1,n2,n3,_⟩:=nilK_own (Γ:=Γ) hx
       refine ⟨(x,xs),g',rcs',h',hL',(i,⟨none,K,x,K.zd⟩)::Rl,A.nil (rc:=⟨none,K,x,K.zd⟩) (by simpa only[RC.Own] using n1) rfl fun G RL hg hl he=>⟨_,vs',K.zd,rfl,hl,⟨_,⟨K,x,K.zd,(0,0)⟩,hl,by simp[pl],?_⟩,he⟩,hk⟩
       show _=toV K (K.cells x K.zd)
       rw[n2,hi]
       simp only[toV,n3,if_true,getD_cons_zero]
      ·exact hs.elim
     ·exact hs.elim
  | «mut» K =>
   cases ar with
   |nil=>exact hs.elim
   |cons y ar =>
    cases y with
    |cap id=>exact hs.elim
    |bv K' x'=>exact hs.elim
    |op y =>
     obtain ⟨vs',rfl,har'⟩:=har
     simp only[argsT] at hs
     split at hs
     ·rename_i id hy
      split at hs
      ·rename_i x hx
       split at hs
       ·exact hs.elim
       ·rename_i hv
        obtain ⟨r,q,hr,hp,hyv⟩:=u.opo_is hy (w:=w)
        obtain ⟨bb,z,h2,hr2,e1,e2,d,e3,o,u2⟩:=u.take (ckAt_look hx)
        obtain ⟨xs,g',rcs',h',hL',Rl,A,hk⟩:=ih ar (i+1) _ (del rcs1 id) hr2 vs' u2 (fun n r e=>hL n r (del_look rcs1 id n r e)) har' hs
        cases bb with
        |some bt=>cases e1
        |none =>
         rw[e2] at hr
         injection hr with hr
         subst hr
         simp only[pl,Option.some.injEq] at hp
         subst hp
         refine ⟨(x,xs),g',rcs',h',h2.un hL',(i,⟨none,K,x,z⟩)::Rl,A.take (.inr ⟨rfl,trivial⟩) rfl rfl rfl (by simpa using hv) e2 d e3 o rfl fun G RL hg hl he=>⟨_,vs',z,rfl,hl,⟨_,⟨K,x,z,(0,0)⟩,hl,by simp[pl],hyv⟩,he⟩,hk⟩
      ·exact hs.elim
     ·exact hs.elim
  |ptr t K p =>
   cases ar with
   |nil=>exact hs.elim
   |cons y ar =>
    simp only[argsT] at hs
    split at hs
    ·rename_i id p' hy
     split at hs
     ·rename_i x hx
      split at hs
      ·rename_i hsel
       split at hs
       ·exact hs.elim
       ·rename_i hv
        obtain ⟨bb,z,h2,hr2,e1,e2,d,e3,o,u2⟩:=u.take (ckAt_look hx)
        cases bb with
        |none=>cases e1
        |some bt =>
        obtain ⟨b,t'⟩:=bt
        simp only[map_some,Option.some.injEq] at e1
        subst e1
        have hpp:=selEq_eq hsel
        have harv:∃v vs',vs=v::vs'∧ArIs a rcs ar vs'∧∃q,pl K x z p (b,0)=some q∧v=.pointer (some ⟨q.a.1,q.a.2,none⟩):=by
         cases y with
         |op y =>
          obtain ⟨vs',rfl,har'⟩:=har
          simp only[arPtr] at hy
          split at hy
          ·rename_i id' p'' hy'
           injection hy with hy
           injection hy with hy1 hy2
           subst hy1; subst hy2
           obtain ⟨r,q,hr,hp,_,hyv⟩:=u.opo_is hy' (w:=w)
           rw[e2] at hr
           injection hr with hr
           subst hr
           exact ⟨_,vs',rfl,har',q,by rw[←hpp]; exact hp,hyv⟩
          ·cases hy
         |bv K' x'=>simp[arPtr] at hy
         |cap id' =>
          obtain ⟨vs',r,b',t'',rfl,hr,hb,har'⟩:=har
          simp only[arPtr] at hy
          injection hy with hy
          injection hy with hy1 hy2
          subst hy1
          have:=hL _ _ e2
          rw[hr] at this
          injection this with this
          subst this
          simp only[Option.some.injEq,Prod.mk.injEq] at hb
          obtain ⟨rfl,rfl⟩:=hb
          refine ⟨_,vs',rfl,har',⟨K,x,z,(b,0)⟩,?_,rfl⟩
          rw[←hpp,←hy2]
          simp[pl]
        obtain ⟨v,vs',rfl,har',q,hq,hvv⟩:=harv
        obtain ⟨xs,g',rcs',h',hL',Rl,A,hk⟩:=ih ar (i+1) _ (del rcs1 id) hr2 vs' u2 (fun n r e=>hL n r (del_look rcs1 id n r e)) har' hs
        exact ⟨(x,xs),g',rcs',h',h2.un hL',(i,⟨some (b,t'),K,x,z⟩)::Rl,A.take (.inr ⟨rfl,trivial⟩) rfl rfl rfl (by simpa using hv) e2 d e3 o rfl fun G RL hg hl he=>⟨_,vs',b,z,rfl,hl,⟨_,q,hl,hq,fun e=>(by cases e),hvv⟩,he⟩,hk⟩
      ·exact hs.elim
     ·exact hs.elim
    ·exact hs.elim
  |cap t K =>
   have hs':(match look g.cs i with
    |some id=>match ckAt g.s id (some t) K with
     |some x=>if g.vw.contains id then Tr.bad else argsT ps ar (i+1) { g with s:=dropC g.s id,l:=(i,id)::g.l,tk:=id::g.tk } fun xs g'=>k (x,xs) g'
     |none=>.bad
    |none=>.bad:Tr α).sat Kp:=by
    cases ar with
    |nil=>simpa only[argsT] using hs
    |cons y ar=>cases y<;>simpa only[argsT] using hs
   split at hs'
   ·rename_i id hid
    split at hs'
    ·rename_i x hx
     split at hs'
     ·exact hs'.elim
     ·rename_i hv
      obtain ⟨bb,z,h2,hr2,e1,e2,d,e3,o,u2⟩:=u.take (ckAt_look hx)
      cases bb with
      |none=>cases e1
      |some bt =>
      obtain ⟨b,t'⟩:=bt
      simp only[map_some,Option.some.injEq] at e1
      subst e1
      obtain ⟨xs,g',rcs',h',hL',Rl,A,hk⟩:=ih ar (i+1) _ (del rcs1 id) hr2 vs u2 (fun n r e=>hL n r (del_look rcs1 id n r e)) har hs'
      exact ⟨(x,xs),g',rcs',h',h2.un hL',(i,⟨some (b,t'),K,x,z⟩)::Rl,A.take (.inr ⟨rfl,trivial⟩) rfl rfl rfl (by simpa using hv) e2 d e3 o rfl fun G RL hg hl he=>⟨⟨b,z,hl⟩,he⟩,hk⟩
    ·exact hs'.elim
   ·exact hs'.elim
  |clo f caps =>
   cases ar with
   |nil=>exact hs.elim
   |cons y ar =>
    cases y with
    |cap id=>exact hs.elim
    |bv K' x'=>exact hs.elim
    |op y =>
     obtain ⟨vs',rfl,har'⟩:=har
     simp only[argsT] at hs
     split at hs
     ·rename_i f' ids hy
      split at hs
      ·rename_i hcond
       obtain ⟨rfl,hlen⟩:=hcond
       obtain ⟨us,hv,hul,hall⟩:=u.opo_is hy (w:=w)
       obtain ⟨xs,g',rcs',h',hL',Rl,A,hk⟩:=ih ar (i+1) { g with cs:=caps.zip ids++g.cs } rcs1 h1 vs' u hL har' hs
       refine ⟨xs,g',rcs',h',hL',Rl,A.keep rfl rfl (fun _ e=>e) (fun _ e=>List.mem_append_right _ e) rfl fun G RL hg _ hcs he=>⟨_,vs',rfl,⟨us,hv,by rw[hul,hlen],fun j ci hj=>?_⟩,he⟩,hk⟩
       have hjl:j<caps.length:=by
        rcases Nat.lt_or_ge j caps.length with q | q
        ·exact q
        ·rw[getElem?_eq_none q] at hj; cases hj
       have hid:ids[j]? = some (ids[j]'(by omega)):=List.getElem?_eq_getElem _
       have hmem:(ci,ids[j]'(by omega))∈caps.zip ids:=by
        refine List.mem_of_getElem? (i:=j) ?_
        rw[List.getElem?_zip_eq_some]
        exact ⟨hj,hid⟩
       obtain ⟨r,h3,h4⟩:=hcs _ (A.csub _ (List.mem_append_left _ hmem))
       obtain ⟨r',b,t,h5,h6,h7⟩:=hall j _ hid
       have h8:=hL _ _ h5
       rw[show look rcs (ids[j]'(by omega))=some r from h4] at h8
       injection h8 with h8
       subst h8
       exact ⟨r,b,t,h3,h6,h7⟩
      ·exact hs.elim
     ·exact hs.elim
namespace Kd
def noSh:Kd→Bool
 |.pair a b=>noSh a&&noSh b
 |.arr _ e=>noSh e
 |.sl o _ e _=>o&&noSh e
 |.tree _ _=>false
 |.tl _ _=>false
 |.mp o _ _=>o
 |.ep _=>false
 |_=>true
end Kd
theorem own_indep {Γ Γ':HF}:∀ {K:Kd} {x:K.T} {z:K.Z} {h:HF},noSh K=true→K.Own Γ x z h→K.Own Γ' x z h
 |.int _,_,_,_,_,o=>o
 |.bool,_,_,_,_,o=>o
 |.str,_,_,_,_,o=>o
 |.un,_,_,_,_,o=>o
 |.unit,_,_,_,_,o=>o
 |.mp _ _ _,none,_,_,_,o=>o
 |.mp true _ _,some _,_,_,_,o=>o
 |.mp false _ _,some _,_,_,n,_=>by cases n
 |.pair a b,x,z,h,n,o=>by
  simp only[noSh,Bool.and_eq_true] at n
  obtain ⟨h1,h2,d,e,o1,o2⟩:=o
  exact ⟨h1,h2,d,e,own_indep n.1 o1,own_indep n.2 o2⟩
 |.arr m e,x,z,h,n,o=>⟨o.1,Each.congr (fun i _ h' p=>own_indep (K:=e) n p) o.2⟩
 |.sl own t e hole,x,z,h,n,o=>by
  simp only[noSh,Bool.and_eq_true] at n
  obtain ⟨rfl,n⟩:=n
  obtain ⟨zo,zf⟩:=z
  cases zo with
  |none=>exact o
  |some q =>
   obtain ⟨b,off,cap⟩:=q
   obtain ⟨c,h2,h1,h3,h4,hl,he,hd⟩:=o
   refine ⟨c,h2,h1,h3,h4,hl,Each.congr (fun i _ h' p=>?_) he,hd⟩
   split
   ·rename_i hh; rw[if_pos hh] at p; exact p
   ·rename_i hh; rw[if_neg hh] at p; exact own_indep (K:=e) n p
theorem rc_indep {Γ Γ':HF} {r:RC} {h:HF} (n:noSh r.K=true) (o:r.Own Γ h):r.Own Γ' h:=by
 obtain ⟨rb,rK,rx,rz⟩:=r
 cases rb with
 |some bt =>
  obtain ⟨c,h2,d,e,o,hl⟩:=o
  exact ⟨c,h2,d,e,own_indep n o,hl⟩
 |none=>exact own_indep (K:=rK) (x:=rx) (z:=rz) n o
theorem star_indep {Γ Γ':HF}:∀ {l:List (Nat×RC)} {h:HF},(∀x∈l,noSh x.2.K=true)→Star Γ l h→Star Γ' l h
 | [],_,_,o=>o
 |r::l,h,n,⟨h1,h2,d,e,o,st⟩=>⟨h1,h2,d,e,rc_indep (n r mem_cons_self) o,star_indep (fun x hx=>n x (mem_cons_of_mem _ hx)) st⟩
theorem star_some {Γ:HF}:∀ {l l':List (Nat×RC)} {h:HF},(l'.map (·.2)).Sublist (l.map (·.2))→Star Γ l h→∃h',Star Γ l' h'∧∀b v,h' b=some v→h b=some v
 | [],l',h,s,o=>by
  have:l'=[]:=by
   cases l' with
   |nil=>rfl
   |cons a l=>simp at s
  subst this
  exact ⟨h,o,fun _ _ e=>e⟩
 |r::l,l',h,s,⟨h1,h2,d,e,o,st⟩=>by
  rw[map_cons] at s
  cases hl:l' with
  |nil=>exact ⟨HF.emp,rfl,fun b v q=>by simp[HF.emp] at q⟩
  |cons r' m =>
   rw[hl,map_cons] at s
   rcases List.sublist_cons_iff.1 s with s1 | ⟨m',e1,s1⟩
   ·obtain ⟨h',st',sb⟩:=star_some (l':=r'::m) (by simpa using s1) st
    exact ⟨h',st',fun b v q=>by rw[e]; exact un_right d (sb b v q)⟩
   ·rw[List.cons.injEq] at e1
    obtain ⟨e2,e3⟩:=e1
    subst e3
    obtain ⟨h',st',sb⟩:=star_some (l':=m) s1 st
    refine ⟨h1.un h',⟨h1,h',HF.dj_iff.2 fun b hb hx=>HF.dj_iff.1 d b hb (has_sub sb b hx),rfl,by rw[e2]; exact o,st'⟩,?_⟩
    rw[e]
    exact un_mono d (fun _ _ q=>q) sb
def rid (d j:Nat):Nat:=1000000+d*16+j
def packA:List SV→AV
 | [v]=>.one v
 |l=>.tup l
def resSV (d:Nat):Nat→(rs:List Rs)→RT rs→(List SV→List (Nat×Ck)→Tr α)→Tr α
 |_,[],_,k=>k [] []
 |j,.val K::rs,x,k=>resSV d (j+1) rs x.2 fun l c=>k (.val K x.1::l) c
 |j,.own K::rs,x,k=>resSV d (j+1) rs x.2 fun l c=>k (.at (rid d j) []::l) ((rid d j,⟨none,K,x.1⟩)::c)
 |j,.ownN K::rs,x,k=>.split (nonNilB K x.1) (resSV d (j+1) rs x.2 fun l c=>k (.at (rid d j) []::l) ((rid d j,⟨none,K,x.1⟩)::c)) (resSV d (j+1) rs x.2 fun l c=>k (.nilS::l) c)
 |j,.box t K::rs,x,k=>resSV d (j+1) rs x.2 fun l c=>k (.ptr (rid d j) []::l) ((rid d j,⟨some t,K,x.1⟩)::c)
theorem nonNilB_nil {K:Kd} {x:K.T} {v:Value} (h:nonNilB K x=false) (hn:nilOK K x v):v=.slice none 0 0:=by
 cases K with
 |sl o t e hole =>
  refine hn ?_
  have:isEmpty x=true:=by simpa[nonNilB] using h
  simpa using this
 |_=>cases h
theorem resSV_ok {Γ:HF} {d:Nat} {Kp:α→Prop}:∀(rs:List Rs) (j:Nat) (x:RT rs) (vs:List Value) (lR:List (Nat×RC)) {k:List SV→List (Nat×Ck)→Tr α},ResIs Γ rs x vs lR→(resSV d j rs x k).sat Kp →
  ∃(l:List SV) (rcl:List (Nat×RC)),(k l (rcl.map fun y=>(y.1,y.2.ck))).sat Kp∧(rcl.map (·.2)).Sublist (lR.map (·.2))∧l.length=vs.length ∧
   ∀RF,(∀y∈rcl,look RF y.1=some y.2)→∀(i:Nat) (s:SV),l[i]? = some s→∃u,vs[i]? = some u∧s.is Γ RF u:=by
 intro rs
 induction rs with
 |nil =>
  intro j x vs lR k h hs
  obtain ⟨rfl,rfl⟩:=h
  exact ⟨[],[],hs,List.Sublist.refl _,rfl,fun RF _ i s hi=>by simp at hi⟩
 |cons r rs ih =>
  intro j x vs lR k h hs
  have ext:∀ {v:Value} {vs':List Value} {l:List SV} {s0:SV} {RF:List (Nat×RC)},s0.is Γ RF v→(∀(i:Nat) (s:SV),l[i]? = some s→∃u,vs'[i]? = some u∧s.is Γ RF u)→∀(i:Nat) (s:SV),(s0::l)[i]? = some s→∃u,(v::vs')[i]? = some u∧s.is Γ RF u:=by
   intro v vs' l s0 RF h0 hall i s hi
   cases i with
   |zero =>
    simp only[List.getElem?_cons_zero,Option.some.injEq] at hi
    subst hi
    exact ⟨v,rfl,h0⟩
   |succ i=>exact hall i s (by simpa using hi)
  have own:∀(K:Kd) (x1:K.T) (x2:RT rs) (v:Value) (vs':List Value) (z:K.Z) (l':List (Nat×RC)),lR=(0,⟨none,K,x1,z⟩)::l'→v=toV K (K.cells x1 z)→ResIs Γ rs x2 vs' l' →
    (resSV d (j+1) rs x2 fun l c=>k (.at (rid d j) []::l) ((rid d j,⟨none,K,x1⟩)::c)).sat Kp →
    ∃(l:List SV) (rcl:List (Nat×RC)),(k l (rcl.map fun y=>(y.1,y.2.ck))).sat Kp∧(rcl.map (·.2)).Sublist (lR.map (·.2))∧l.length=(v::vs').length ∧
     ∀RF,(∀y∈rcl,look RF y.1=some y.2)→∀(i:Nat) (s:SV),l[i]? = some s→∃u,(v::vs')[i]? = some u∧s.is Γ RF u:=by
   intro K x1 x2 v vs' z l' hl hv hr hs
   obtain ⟨l,rcl,f1,f2,f3,f4⟩:=ih (j+1) x2 vs' l' hr hs
   refine ⟨.at (rid d j) []::l,(rid d j,⟨none,K,x1,z⟩)::rcl,f1,?_,by simp[f3],fun RF hRF=>?_⟩
   ·rw[hl,map_cons,map_cons]
    exact List.Sublist.cons_cons _ f2
   ·exact ext ⟨_,⟨K,x1,z,(0,0)⟩,hRF _ mem_cons_self,by simp[pl],hv⟩ (f4 RF fun y hy=>hRF y (mem_cons_of_mem _ hy))
  cases r with
  |val K =>
   obtain ⟨v,vs',rfl,hv,hr⟩:=h
   obtain ⟨l,rcl,f1,f2,f3,f4⟩:=ih (j+1) x.2 vs' lR hr hs
   exact ⟨.val K x.1::l,rcl,f1,f2,by simp[f3],fun RF hRF=>ext hv (f4 RF hRF)⟩
  |own K =>
   obtain ⟨v,vs',z,l',rfl,hl,hv,hr⟩:=h
   exact own K x.1 x.2 v vs' z l' hl hv hr hs
  |ownN K =>
   obtain ⟨v,vs',z,l',rfl,hl,hv,hn,hr⟩:=h
   simp only[resSV,Tr.sat] at hs
   cases hb:nonNilB K x.1 with
   |true=>exact own K x.1 x.2 v vs' z l' hl hv hr (hs.1 hb)
   |false =>
    obtain ⟨l,rcl,f1,f2,f3,f4⟩:=ih (j+1) x.2 vs' l' hr (hs.2 hb)
    refine ⟨.nilS::l,rcl,f1,?_,by simp[f3],fun RF hRF=>ext (s0:=.nilS) (nonNilB_nil hb hn) (f4 RF hRF)⟩
    rw[hl,map_cons]
    exact List.Sublist.cons _ f2
  |box t K =>
   obtain ⟨v,vs',b,z,l',rfl,hl,hv,hr⟩:=h
   obtain ⟨l,rcl,f1,f2,f3,f4⟩:=ih (j+1) x.2 vs' l' hr hs
   refine ⟨.ptr (rid d j) []::l,(rid d j,⟨some (b,t),K,x.1,z⟩)::rcl,f1,?_,by simp[f3],fun RF hRF=>?_⟩
   ·rw[hl,map_cons,map_cons]
    exact List.Sublist.cons_cons _ f2
   ·exact ext ⟨_,⟨K,x.1,z,(b,0)⟩,hRF _ mem_cons_self,by simp[pl],fun e=>(by cases e),hv⟩ (f4 RF fun y hy=>hRF y (mem_cons_of_mem _ hy))
def backCk (l:List (Nat×Nat)):Nat→(ps:List Par)→OT ps→List (Nat×Ck)
 |_,[],_=>[]
 |i,.val _::ps,o=>backCk l (i+1) ps o
 |i,.own _::ps,o=>backCk l (i+1) ps o
 |i,.clo _ _::ps,o=>backCk l (i+1) ps o
 |i,.mut K::ps,o=>((look l i).getD 0,⟨none,K,o.1⟩)::backCk l (i+1) ps o.2
 |i,.ptr t K _::ps,o=>((look l i).getD 0,⟨some t,K,o.1⟩)::backCk l (i+1) ps o.2
 |i,.cap t K::ps,o=>((look l i).getD 0,⟨some t,K,o.1⟩)::backCk l (i+1) ps o.2
def ren (l:List (Nat×Nat)) (y:Nat×RC):Nat×RC:=((look l y.1).getD 0,y.2)
theorem entryCk_tl {i:Nat} {p:Par} {ps:List Par} {x:AT (p::ps)} {x':AT ps} (h:∀j,i<j→look (entryCk i (p::ps) x) j=look (entryCk (i+1) ps x') j) {Rl:List (Nat×RC)} (hk:∀j,i≤j→(look Rl j).map RC.ck=look (entryCk i (p::ps) x) j) :
  ∀j,i+1≤j→(look Rl j).map RC.ck=look (entryCk (i+1) ps x') j:=fun j hj=>by rw[hk j (by omega),h j (by omega)]
theorem back_ok {Rl:List (Nat×RC)} {l:List (Nat×Nat)}:∀(ps:List Par) (i:Nat) (x:AT ps) (o:OT ps) (lO:List (Nat×RC)),Back Rl i ps o lO→(∀j,i≤j→(look Rl j).map RC.ck=look (entryCk i ps x) j) →
  (lO.map (ren l)).map (fun y=>(y.1,y.2.ck))=backCk l i ps o∧∀n r,look Rl n=some r→i≤n→lentAt ps (n-i)→∃r',(n,r')∈lO∧r'.head=r.head∧r'.K=r.K∧r'.box.isSome=r.box.isSome
 | [],i,x,o,lO,h,hk=>by
  subst h
  exact ⟨rfl,fun n r hr hn hm=>by simp[lentAt] at hm⟩
 |p::ps,i,x,o,lO,h,hk=>by
  have tail:∀ {x':AT ps} {o':OT ps} {l':List (Nat×RC)},Back Rl (i+1) ps o' l'→(∀j,i+1≤j→(look Rl j).map RC.ck=look (entryCk (i+1) ps x') j)→(∀n r,look Rl n=some r→i+1≤n→lentAt (p::ps) (n-i)→∃r',(n,r')∈l'∧r'.head=r.head∧r'.K=r.K∧r'.box.isSome=r.box.isSome)∧(l'.map (ren l)).map (fun y=>(y.1,y.2.ck))=backCk l (i+1) ps o':=by
   intro x' o' l' hb hk'
   obtain ⟨q1,q2⟩:=back_ok (l:=l) ps (i+1) x' o' l' hb hk'
   refine ⟨fun n r hr hn hm=>q2 n r hr hn ?_,q1⟩
   rw[show n-i=(n-(i+1))+1 by omega] at hm
   simpa[lentAt] using hm
  have hd:∀(r:RC) (c:Ck),look Rl i=some r→look (entryCk i (p::ps) x) i=some c→r.ck=c:=by
   intro r c h1 h2
   have:=hk i (Nat.le_refl _)
   rw[h1,h2] at this
   simpa using this
  cases p with
  |val K =>
   obtain ⟨t1,t2⟩:=tail (x':=x.2) h (entryCk_tl (x:=x) (fun j hj=>rfl) hk)
   refine ⟨t2,fun n r hr hn hm=>?_⟩
   rcases Nat.eq_or_lt_of_le hn with e | e
   ·subst e; simp[lentAt] at hm
   ·exact t1 n r hr e hm
  |own K =>
   obtain ⟨t1,t2⟩:=tail (x':=x.2) h (entryCk_tl (x:=x) (fun j hj=>by simp only[entryCk,look]; rw[if_neg (by simp; omega)]) hk)
   refine ⟨t2,fun n r hr hn hm=>?_⟩
   rcases Nat.eq_or_lt_of_le hn with e | e
   ·subst e; simp[lentAt] at hm
   ·exact t1 n r hr e hm
  |clo f c =>
   obtain ⟨t1,t2⟩:=tail (x':=x) h (entryCk_tl (x:=x) (fun j hj=>rfl) hk)
   refine ⟨t2,fun n r hr hn hm=>?_⟩
   rcases Nat.eq_or_lt_of_le hn with e | e
   ·subst e; simp[lentAt] at hm
   ·exact t1 n r hr e hm
  | «mut» K =>
   obtain ⟨r0,z,l',h1,h2,h3,h4⟩:=h
   obtain ⟨t1,t2⟩:=tail (x':=x.2) h4 (entryCk_tl (x:=x) (fun j hj=>by simp only[entryCk,look]; rw[if_neg (by simp; omega)]) hk)
   subst h2
   refine ⟨by rw[map_cons,map_cons,t2]; rfl,fun n r hr hn hm=>?_⟩
   rcases Nat.eq_or_lt_of_le hn with e | e
   ·subst e
    rw[h1] at hr
    injection hr with hr
    subst hr
    have:=hd r0 ⟨none,K,x.1⟩ h1 (by simp[entryCk,look])
    obtain ⟨rb,rK,rx,rz⟩:=r0
    simp only[RC.ck,Ck.mk.injEq] at this
    obtain ⟨e1,e2,_⟩:=this
    refine ⟨_,mem_cons_self,h3,e2.symm,?_⟩
    cases rb<;>simp_all
   ·obtain ⟨r',q1,q2⟩:=t1 n r hr e hm
    exact ⟨r',mem_cons_of_mem _ q1,q2⟩
  |ptr t K p =>
   obtain ⟨r0,b,z,l',h1,h2,h3,h4⟩:=h
   obtain ⟨t1,t2⟩:=tail (x':=x.2) h4 (entryCk_tl (x:=x) (fun j hj=>by simp only[entryCk,look]; rw[if_neg (by simp; omega)]) hk)
   subst h2
   refine ⟨by rw[map_cons,map_cons,t2]; rfl,fun n r hr hn hm=>?_⟩
   rcases Nat.eq_or_lt_of_le hn with e | e
   ·subst e
    rw[h1] at hr
    injection hr with hr
    subst hr
    have:=hd r0 ⟨some t,K,x.1⟩ h1 (by simp[entryCk,look])
    obtain ⟨rb,rK,rx,rz⟩:=r0
    simp only[RC.ck,Ck.mk.injEq] at this
    obtain ⟨e1,e2,_⟩:=this
    refine ⟨_,mem_cons_self,h3,e2.symm,?_⟩
    cases rb<;>simp_all
   ·obtain ⟨r',q1,q2⟩:=t1 n r hr e hm
    exact ⟨r',mem_cons_of_mem _ q1,q2⟩
  |cap t K =>
   obtain ⟨r0,b,z,l',h1,h2,h3,h4⟩:=h
   obtain ⟨t1,t2⟩:=tail (x':=x.2) h4 (entryCk_tl (x:=x) (fun j hj=>by simp only[entryCk,look]; rw[if_neg (by simp; omega)]) hk)
   subst h2
   refine ⟨by rw[map_cons,map_cons,t2]; rfl,fun n r hr hn hm=>?_⟩
   rcases Nat.eq_or_lt_of_le hn with e | e
   ·subst e
    rw[h1] at hr
    injection hr with hr
    subst hr
    have:=hd r0 ⟨some t,K,x.1⟩ h1 (by simp[entryCk,look])
    obtain ⟨rb,rK,rx,rz⟩:=r0
    simp only[RC.ck,Ck.mk.injEq] at this
    obtain ⟨e1,e2,_⟩:=this
    refine ⟨_,mem_cons_self,h3,e2.symm,?_⟩
    cases rb<;>simp_all
   ·obtain ⟨r',q1,q2⟩:=t1 n r hr e hm
    exact ⟨r',mem_cons_of_mem _ q1,q2⟩
def Callable (P : Program) (f : Nat) : Prop := ∃ fn, P.funcs[f]? = some fn ∧ (fn.name == "runtime.NumGoroutine") = false ∧ fn.body.isNone = false
theorem run_callFunc {P:Program} {f:Nat} (h:Callable P f) (args:Array Value) (w:World):(callFunc f args).run P w=.ok (.enter f args) w:=by
 obtain ⟨fn,h1,h2,h3⟩:=h
 have h2' : ¬ (fn.name = "runtime.NumGoroutine") := by simpa using h2
 have h3':¬(fn.body=none):=by intro e; rw[e] at h3; cases h3
 simp[callFunc,Sem.run_bind,h1,h2',h3']
def calleeOf (s:St) (c:Call):Option (Nat×List Nat×List Ar):=match c.callee with
 |.value x=>match opo s x with
  |some (.clo f ids)=>some (f,ids,[])
  |some (.bnd f K x)=>some (f,[],[.bv K x])
  |_=>none
 |_=>none
def ars (c:Call) (ids:List Nat) (pre:List Ar):List Ar:=pre++(c.args.toList.map .op++ids.map .cap)
def argIds (s:St):List Par→List Ar→List Nat
 |.val _::ps,_::ar=>argIds s ps ar
 |_::ps,.cap id::ar=>id::argIds s ps ar
 |_::ps,.op x::ar=>(match opo s x with
  |some (.at id _)=>[id]
  |some (.ptr id _)=>[id]
  |some (.clo _ ids)=>ids
  |_=>[])++argIds s ps ar
 |_::ps,.bv _ _::ar=>argIds s ps ar
 |_,_=>[]
def rids (d:Nat) (n:Nat):List Nat:=(List.range n).map (rid d)
def effCall (cfg:Nat→Option Spec) (s:St) (c:Call) (dst:Option Nat):Eff:=match calleeOf s c with
 |some (f,ids,pre)=>match cfg f with
  |some sp=>⟨(argIds s sp.ps (ars c ids pre)).isEmpty,argIds s sp.ps (ars c ids pre)++rids (dst.getD 0) sp.rs.length⟩
  |none=>⟨false,[]⟩
 |none=>⟨false,[]⟩
def nodupB:List Nat→Bool
 | []=>true
 |x::l=>!l.contains x&&nodupB l
theorem nodupB_ok:∀ {l:List Nat},nodupB l=true→l.Nodup
 | [],_=>List.nodup_nil
 |x::l,h=>by
  simp only[nodupB,Bool.and_eq_true,Bool.not_eq_true',List.contains_eq_mem,decide_eq_false_iff_not] at h
  exact List.nodup_cons.2 ⟨h.1,nodupB_ok h.2⟩
def rsKind:Rs→Kd
 |.val K | .own K | .ownN K | .box _ K=>K
def parSh:Par→Bool
 |.mut K | .ptr _ K _ | .cap _ K=>noSh K
 |_=>true
def keepV (s:St) (l:List (Nat×Nat)):AV→Bool
 |.one (.ptr id p)=>(l.map (·.2)).contains id&&(match look s.ck id with
  |some c=>(offOf c.K p).isSome&&c.box.isSome
  |none=>false)
 |.one (.at id [])=>(l.map (·.2)).contains id&&(match look s.ck id with
  |some c=>c.box.isNone
  |none=>false)
 |.one (.clo _ ids)=>ids.all fun id=>(l.map (·.2)).contains id&&(match look s.ck id with
  |some c=>c.box.isSome
  |none=>false)
 |_=>false
def keepT (s:St) (d:Nat) (l:List (Nat×Nat)):List (Nat×AV):=s.tm.filter fun x=>x.1 != d&&keepV s l x.2
def callOK (sp:Spec) (g:Got) (e:Eff) (d:Nat) (n:Lim):Bool :=
 g.cs.all (fun x=>look g.l x.1==some x.2)&&(g.vw.isEmpty||(sp.ps.all parSh&&sp.rs.all fun r=>noSh (rsKind r)))&&g.tk.all (fun id=>e.ids.contains id)&&(g.tk.isEmpty||!e.all)&&decide (d<n.n)
def backIdx:Nat→List Par→List Nat
 |_,[]=>[]
 |i,.mut _::ps | i,.ptr _ _ _::ps | i,.cap _ _::ps=>i::backIdx (i+1) ps
 |i,_::ps=>backIdx (i+1) ps
theorem back_idx {Rl:List (Nat×RC)}:∀(ps:List Par) (i:Nat) (o:OT ps) (l:List (Nat×RC)),Back Rl i ps o l→∀y∈l,y.1∈backIdx i ps∧∃r,look Rl y.1=some r∧y.2.head=r.head
 | [],_,_,l,e,y,hy=>by rw[show l=[] from e] at hy; cases hy
 |.val K::ps,i,o,l,h,y,hy=>back_idx ps (i+1) o l h y hy
 |.own K::ps,i,o,l,h,y,hy=>back_idx ps (i+1) o l h y hy
 |.clo f c::ps,i,o,l,h,y,hy=>back_idx ps (i+1) o l h y hy
 |.mut K::ps,i,o,l,⟨r,z,l',h1,e,h2,h⟩,y,hy=>by
  subst e
  rcases List.mem_cons.1 hy with q | q
  ·subst q; exact ⟨mem_cons_self,r,h1,h2⟩
  ·obtain ⟨q1,q2⟩:=back_idx ps (i+1) o.2 l' h y q
   exact ⟨mem_cons_of_mem _ q1,q2⟩
 |.ptr t K p::ps,i,o,l,⟨r,b,z,l',h1,e,h2,h⟩,y,hy=>by
  subst e
  rcases List.mem_cons.1 hy with q | q
  ·subst q; exact ⟨mem_cons_self,r,h1,h2⟩
  ·obtain ⟨q1,q2⟩:=back_idx ps (i+1) o.2 l' h y q
   exact ⟨mem_cons_of_mem _ q1,q2⟩
 |.cap t K::ps,i,o,l,⟨r,b,z,l',h1,e,h2,h⟩,y,hy=>by
  subst e
  rcases List.mem_cons.1 hy with q | q
  ·subst q; exact ⟨mem_cons_self,r,h1,h2⟩
  ·obtain ⟨q1,q2⟩:=back_idx ps (i+1) o.2 l' h y q
   exact ⟨mem_cons_of_mem _ q1,q2⟩
def callK (sp:Spec) (s:St) (d:Nat) (g:Got) (r:RT sp.rs×OT sp.ps) (k:St→Tr α) (l:List SV) (cks:List (Nat×Ck)):Tr α :=
 if nodupB ((cks++(backCk g.l 0 sp.ps r.2++g.s.ck.filter fun x=>!(cks.map (·.1)).contains x.1)).map (·.1))&&cks.all (fun x=>(rids d sp.rs.length).contains x.1)&&nodupB (g.l.map (·.1))&&(backIdx 0 sp.ps).all (fun i=>(look g.l i).isSome) then
  k ⟨(d,packA l)::(keepT s d g.l++g.s.tm.filter fun x=>x.1 != d&&cks.all fun c=>offA c.1 x.2),cks++(backCk g.l 0 sp.ps r.2++g.s.ck.filter fun x=>!(cks.map (·.1)).contains x.1)⟩ else .bad
def stCall (cfg:Nat→Option Spec) (n:Lim) (o:Oper) (c:Call) (s:St) (k:St→Tr α):Tr α:=match calleeOf s c,o.dst with
 |some (f,ids,pre),some d=>match cfg f with
  |some sp=>argsT sp.ps (ars c ids pre) 0 ⟨s,[],[],[],[]⟩ fun xs g=>if callOK sp g (effCall cfg s c o.dst) d n then .bind (sp.impl xs) fun r=>resSV d 0 sp.rs r.1 fun l cks=>callK sp s d g r k l cks else .bad
  |none=>.bad
 |_,_=>.bad
def HF.minus (g h:HF):HF:=fun b=>match h b with
 |some _=>none
 |none=>g b
theorem minus_sub {g h:HF} {b:Nat} {v:Blk} (e:(g.minus h) b=some v):g b=some v∧h b=none:=by
 unfold HF.minus at e
 cases hb:h b with
 |some x=>rw[hb] at e; cases e
 |none=>rw[hb] at e; exact ⟨e,rfl⟩
theorem resIs_indep {Γ Γ':HF}:∀ {rs:List Rs} {x:RT rs} {vs:List Value} {l:List (Nat×RC)},(∀r∈rs,noSh (rsKind r)=true)→ResIs Γ rs x vs l→ResIs Γ' rs x vs l
 | [],_,_,_,_,h=>h
 |.val K::rs,x,vs,l,n,⟨v,vs',e,⟨f,z,o,hv⟩,h⟩=>⟨v,vs',e,⟨f,z,own_indep (n _ mem_cons_self) o,hv⟩,resIs_indep (fun r hr=>n r (mem_cons_of_mem _ hr)) h⟩
 |.own K::rs,x,vs,l,n,⟨v,vs',z,l',e,e1,e2,h⟩=>⟨v,vs',z,l',e,e1,e2,resIs_indep (fun r hr=>n r (mem_cons_of_mem _ hr)) h⟩
 |.ownN K::rs,x,vs,l,n,⟨v,vs',z,l',e,e1,e2,e3,h⟩=>⟨v,vs',z,l',e,e1,e2,e3,resIs_indep (fun r hr=>n r (mem_cons_of_mem _ hr)) h⟩
 |.box t K::rs,x,vs,l,n,⟨v,vs',b,z,l',e,e1,e2,h⟩=>⟨v,vs',b,z,l',e,e1,e2,resIs_indep (fun r hr=>n r (mem_cons_of_mem _ hr)) h⟩
theorem resIs_kinds {Γ:HF}:∀ {rs:List Rs} {x:RT rs} {vs:List Value} {l:List (Nat×RC)},(∀r∈rs,noSh (rsKind r)=true)→ResIs Γ rs x vs l→∀y∈l,noSh y.2.K=true
 | [],_,_,l,_,⟨_,e⟩,y,hy=>by subst e; cases hy
 |.val K::rs,x,vs,l,n,⟨v,vs',e,_,h⟩,y,hy=>resIs_kinds (fun r hr=>n r (mem_cons_of_mem _ hr)) h y hy
 |.own K::rs,x,vs,l,n,⟨v,vs',z,l',e,e1,e2,h⟩,y,hy=>by
  subst e1
  rcases List.mem_cons.1 hy with q | q
  ·subst q; exact n _ mem_cons_self
  ·exact resIs_kinds (fun r hr=>n r (mem_cons_of_mem _ hr)) h y q
 |.ownN K::rs,x,vs,l,n,⟨v,vs',z,l',e,e1,e2,e3,h⟩,y,hy=>by
  subst e1
  rcases List.mem_cons.1 hy with q | q
  ·subst q; exact n _ mem_cons_self
  ·exact resIs_kinds (fun r hr=>n r (mem_cons_of_mem _ hr)) h y q
 |.box t K::rs,x,vs,l,n,⟨v,vs',b,z,l',e,e1,e2,h⟩,y,hy=>by
  subst e1
  rcases List.mem_cons.1 hy with q | q
  ·subst q; exact n _ mem_cons_self
  ·exact resIs_kinds (fun r hr=>n r (mem_cons_of_mem _ hr)) h y q
theorem back_kinds {Rl:List (Nat×RC)}:∀ {ps:List Par} {i:Nat} {o:OT ps} {l:List (Nat×RC)},(∀p∈ps,parSh p=true)→Back Rl i ps o l→∀y∈l,noSh y.2.K=true
 | [],_,_,l,_,e,y,hy=>by rw[show l=[] from e] at hy; cases hy
 |.val K::ps,i,o,l,n,h,y,hy=>back_kinds (ps:=ps) (fun p hp=>n p (mem_cons_of_mem _ hp)) h y hy
 |.own K::ps,i,o,l,n,h,y,hy=>back_kinds (ps:=ps) (fun p hp=>n p (mem_cons_of_mem _ hp)) h y hy
 |.clo f c::ps,i,o,l,n,h,y,hy=>back_kinds (ps:=ps) (fun p hp=>n p (mem_cons_of_mem _ hp)) h y hy
 |.mut K::ps,i,o,l,n,⟨r,z,l',_,e,_,h⟩,y,hy=>by
  subst e
  rcases List.mem_cons.1 hy with q | q
  ·subst q; exact n _ mem_cons_self
  ·exact back_kinds (ps:=ps) (fun p hp=>n p (mem_cons_of_mem _ hp)) h y q
 |.ptr t K p::ps,i,o,l,n,⟨r,b,z,l',_,e,_,h⟩,y,hy=>by
  subst e
  rcases List.mem_cons.1 hy with q | q
  ·subst q; exact n _ mem_cons_self
  ·exact back_kinds (ps:=ps) (fun p hp=>n p (mem_cons_of_mem _ hp)) h y q
 |.cap t K::ps,i,o,l,n,⟨r,b,z,l',_,e,_,h⟩,y,hy=>by
  subst e
  rcases List.mem_cons.1 hy with q | q
  ·subst q; exact n _ mem_cons_self
  ·exact back_kinds (ps:=ps) (fun p hp=>n p (mem_cons_of_mem _ hp)) h y q
theorem look_filter {β:Type} {l:List (Nat×β)} (p:Nat→Bool) {n:Nat} (h:p n=true):look (l.filter fun x=>p x.1) n=look l n:=by
 induction l with
 |nil=>rfl
 |cons x l ih =>
  obtain ⟨j,y⟩:=x
  rw[List.filter_cons]
  split
  ·simp only[look]; split
   ·rfl
   ·exact ih
  ·rename_i hp
   simp only[look]
   rw[if_neg]
   ·exact ih
   ·intro e
    simp at e
    subst e
    exact hp h
end Go.Proofs.YtibammoednhnoaaE
