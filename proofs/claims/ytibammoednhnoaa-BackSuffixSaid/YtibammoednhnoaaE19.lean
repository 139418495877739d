/- The engine, part 19: append as an operation. Conditions: none. -/
import Derived.Test.YtibammoednhnoaaE18b
set_option linter.unusedVariables false
set_option linter.unusedSimpArgs false
namespace Go.Proofs.YtibammoednhnoaaE
open Kd
variable {α : Type}

def dropC (s : St) (id : Nat) : St := ⟨s.tm.filter fun x => offA id x.2, del s.ck id⟩
structure Sub (F : Fr) (s : St) (a : Act) (Γ : HF) (rcs : List (Nat × RC)) (h : HF) : Prop where
 ck : s.ck = rcs.map fun r => (r.1, r.2.ck)
 nd : (rcs.map (·.1)).Nodup
 st : Star Γ rcs h
 tm : ∀ x, x ∈ s.tm → ∃ v, a.tmps[x.1]? = some v ∧ x.2.is Γ rcs v
theorem Good.sub {F : Fr} {s : St} {a : Act} {w : World} {Γ : HF} {rcs : List (Nat × RC)} {h : HF} (g : Good F s a w Γ rcs h) : Sub F s a Γ rcs h := ⟨g.ck.symm, g.nodup, g.star, fun x hx => g.tm x.1 x.2 hx⟩
theorem look_map (rcs : List (Nat × RC)) (id : Nat) : look (rcs.map fun r => (r.1, r.2.ck)) id = (look rcs id).map RC.ck := by
 induction rcs with
 | nil => rfl
 | cons x l ih => simp only [List.map_cons, look]; split <;> first | rfl | exact ih
theorem Sub.drop {F : Fr} {s : St} {a : Act} {Γ : HF} {rcs : List (Nat × RC)} {h : HF} (u : Sub F s a Γ rcs h) {id : Nat} {K : Kd} {x : K.T} (hl : look s.ck id = some ⟨none, K, x⟩) :
  ∃ (z : K.Z) (h1 hr : HF), look rcs id = some ⟨none, K, x, z⟩ ∧ HF.dj h1 hr ∧ h = h1.un hr ∧ K.Own Γ x z h1 ∧ Sub F (dropC s id) a Γ (del rcs id) hr := by
 rw [u.ck, look_map] at hl
 cases hr : look rcs id with
 | none => rw [hr] at hl; cases hl
 | some r =>
  rw [hr] at hl
  simp only [Option.map_some, Option.some.injEq, RC.ck, Ck.mk.injEq] at hl
  obtain ⟨rb, rK, rx, rz⟩ := r
  simp only at hl
  obtain ⟨hb, rfl, hx⟩ := hl
  obtain rfl := eq_of_heq hx
  have hb' : rb = none := by cases rb <;> simp_all
  subst hb'
  obtain ⟨h1, hR, d, e, o, _, dl⟩ := star_upd u.st hr u.nd
  refine ⟨rz, h1, hR, rfl, d, e, o, ?_, del_nodup u.nd id, dl, ?_⟩
  ·show del s.ck id = _
   rw [u.ck]
   simp only [del, List.filter_map]
   rfl
  ·intro y hy
   obtain ⟨e1, e2⟩ := List.mem_filter.1 hy
   obtain ⟨v, hv, hi⟩ := u.tm y e1
   exact ⟨v, hv, offA_is e2 hi⟩

def zeroSz (P : Program) (te : TypeId) (m : Nat) : Bool := match P.info? te with
 | some i => match i.zero with
  | some v => v.cells.size == m
  | none => false
 | none => false
def castL {e e' : Kd} (h : e' = e) (xs : List e'.T) : List e.T := by subst h; exact xs
def appT (P : Program) (n : Lim) (o : Oper) (te : TypeId) (e : Kd) (xs ys : List e.T) (s : St) (k : St → Tr α) : Tr α :=
 .need ((xs.length + ys.length) * (bytesOf P te * 2) ≤ 281474976710656 ∧ xs.length + ys.length ≤ 9223372036854775807) (newRowT n o te e (xs ++ ys) s k)
def dstT (P : Program) (n : Lim) (o : Oper) (te : TypeId) (e : Kd) (ys : List e.T) (dv : SV) (s : St) (k : St → Tr α) : Tr α := match dv with
 | .nilS => appT P n o te e [] ys s k
 | .at id [] => match look s.ck id with
  | some ⟨none, .sl true t' e' none, xs⟩ => if h : t' = te ∧ e' = e then appT P n o te e (castL h.2 xs) ys (dropC s id) k else .bad
  | _ => .bad
 | _ => .bad
theorem dstT_ok {P : Program} {F : Fr} {s s1 : St} {a : Act} {w : World} {Γ : HF} {rcs rcs1 : List (Nat × RC)} {h h1 hn : HF} (g : Good F s a w Γ rcs h) (hh : ∀ b v, (hn.un h1) b = some v → h b = some v) (d1 : HF.dj hn h1) (u : Sub F s1 a Γ rcs1 h1)
  {o : Oper} {c : Call} {x y : Operand} {t t2 : TypeId} (ho : o.op = .call c) (hb : c.callee = .builtin .append) (ha : c.args = #[x, y]) (hat : c.argTypes = #[t, t2])
  {te : TypeId} {e : Kd} {ys : List e.T} {zg : Nat → e.Z} (hsl : slOf? P t = some (te, e.size)) (hnu : noUn e = true) (hz : zeroSz P te e.size = true)
  {dv : SV} (hdv : dv.is Γ rcs1 (a.eval x)) {uu : Value} (hu : a.eval y = uu) (hsrc : Src P e.size t2 uu ys.length (rowCells e ys zg) w)
  (hoy : Each (fun i hi => e.Own Γ (ys.getD i e.dft) (zg i) hi) ys.length hn)
  (hW : ∀ d, o.dst = some d → Off F [d] rcs1) (hsubL : ∀ n r, look rcs1 n = some r → look rcs n = some r)
  {k : St → Tr α} {K : α → Prop} {Q : Exit → Act → World → Prop} (hs : (dstT P F.n o te e ys dv s1 k).sat K) : o.wp P a w (fun a' w' => ∃ s', R F s' a' w' ∧ (k s').sat K) Q := by
 have hz' : ∃ i v, P.info? te = some i ∧ i.zero = some v ∧ v.cells.size = e.size := by
  unfold zeroSz at hz
  split at hz
  ·rename_i i hi
   split at hz
   ·rename_i v hv
    exact ⟨i, v, hi, hv, by simpa using hz⟩
   ·cases hz
  ·cases hz
 have hsrc' : ∀ i, P.info? te = some i → Src P i.size t2 uu ys.length (rowCells e ys zg) w := by
  intro i hi
  obtain ⟨i2, _, hi2, hsz⟩ := slOf_spec hsl
  rw [hi] at hi2
  injection hi2 with hi2
  subst hi2
  rw [hsz]; exact hsrc
 unfold dstT at hs
 split at hs
 ·obtain ⟨⟨h1', h2'⟩, hs⟩ := hs
  exact append_core (xs := []) (zo := none) (zf := fun _ => e.zd) g (hd := HF.emp) (hn := hn) (hr := h1) (by rw [HF.emp_un]; exact hh) (HF.emp_dj _) (by rw [HF.emp_un]; exact d1) u.st u.nd u.ck u.tm ho hb ha hat hsl hnu hdv ⟨rfl, rfl⟩ hu hsrc' hoy h1' h2' hz' hW hsubL hs
 ·rename_i id
  split at hs
  ·rename_i t' e' xs hl
   split at hs
   ·rename_i hte
    obtain ⟨rfl, rfl⟩ := hte
    obtain ⟨⟨h1', h2'⟩, hs⟩ := hs
    obtain ⟨z, hA, hB, hlr, dAB, e1, hown, u2⟩ := u.drop hl
    obtain ⟨r0, q, hr0, hp, hv⟩ := hdv
    rw [hlr] at hr0
    injection hr0 with hr0
    subst hr0
    simp only [pl, Option.some.injEq] at hp
    subst hp
    subst e1
    obtain ⟨da, db⟩ := HF.dj_un.1 d1
    obtain ⟨zo, zf⟩ := z
    exact append_core (xs := xs) (zo := zo) (zf := zf) g (hd := hA) (hn := hn) (hr := hB) (by rw [HF.un_comm da.symm, HF.un_assoc]; exact hh) da.symm (HF.un_dj.2 ⟨dAB, db⟩) u2.st u2.nd u2.ck u2.tm ho hb ha hat hsl hnu hv hown hu hsrc' hoy h1' h2' hz' (fun d hd => off_del (hW d hd) hlr rfl) (fun n r e => hsubL n r (del_look rcs1 id n r e)) hs
   ·exact hs.elim
  ·exact hs.elim
 ·exact hs.elim
def appD (P : Program) (n : Lim) (o : Oper) (te : TypeId) (m : Nat) (dv v : SV) (s : St) (k : St → Tr α) : Tr α := match srcList s v with
 | some ⟨e, ys⟩ => if m = e.size ∧ zeroSz P te e.size = true ∧ noUn e = true then
   if e.free then dstT P n o te e ys dv s k
   else match v with
    | .at id2 [] => match look s.ck id2 with
     | some ⟨none, .sl true t' e' none, zs⟩ => if h : e' = e then (if offS id2 dv then dstT P n o te e (castL h zs) dv (dropC s id2) k else .bad) else .bad
     | _ => .bad
    | _ => .bad
  else .bad
 | none => .bad
theorem appD_ok {P : Program} {F : Fr} {o : Oper} {c : Call} {x y : Operand} {t t2 : TypeId} (ho : o.op = .call c) (hb : c.callee = .builtin .append) (ha : c.args = #[x, y]) (hat : c.argTypes = #[t, t2]) {te te2 : TypeId} {m m2 : Nat} (hsl : slOf? P t = some (te, m)) (hsl2 : slOf? P t2 = some (te2, m2))
  {dv v : SV} {s : St} {k : St → Tr α} {K : α → Prop} {a : Act} {w : World} {Γ : HF} {rcs : List (Nat × RC)} {h : HF} {Q : Exit → Act → World → Prop} (g : Good F s a w Γ rcs h) (hW : ∀ d, o.dst = some d → Off F [d] rcs) (hdv : dv.is Γ rcs (a.eval x)) (hv : v.is Γ rcs (a.eval y))
  (hs : (appD P F.n o te m dv v s k).sat K) : o.wp P a w (fun a' w' => ∃ s', R F s' a' w' ∧ (k s').sat K) Q := by
 obtain ⟨i2, hk2, _, _⟩ := slOf_spec hsl2
 unfold appD at hs
 split at hs
 ·rename_i e ys hsrc
  split at hs
  ·rename_i hcond
   obtain ⟨rfl, hz, hnu⟩ := hcond
   split at hs
   ·rename_i hf
    obtain ⟨zg, hS, hO⟩ := src_is g hv hsrc hf hnu hk2
    exact dstT_ok g (hn := HF.emp) (h1 := h) (by rw [HF.emp_un]; exact fun _ _ e => e) (HF.emp_dj h) g.sub ho hb ha hat hsl hnu hz hdv rfl hS (each_emp hO) hW (fun _ _ e => e) hs
   ·split at hs
    ·rename_i id2
     split at hs
     ·rename_i t' e' zs hl
      split at hs
      ·rename_i he
       subst he
       split at hs
       ·rename_i hoff
        obtain ⟨z, hA, hB, hlr, dAB, e1, hown, u2⟩ := g.sub.drop hl
        obtain ⟨r0, q, hr0, hp, hvv⟩ := hv
        rw [hlr] at hr0
        injection hr0 with hr0
        subst hr0
        simp only [pl, Option.some.injEq] at hp
        subst hp
        have hdv' := offS_is hoff hdv
        obtain ⟨zo, zf⟩ := z
        have one : ∀ (ys : List e'.T) (zg : Nat → e'.Z), ∀ x ∈ rowCells e' ys zg, x.oneCell' = true := fun ys zg x hx => by
         obtain ⟨i, _, hi⟩ := List.mem_flatMap.1 hx
         exact cells_one e' _ _ hnu x hi
        cases zo with
        | none =>
         obtain ⟨hx0, hA0⟩ := hown
         have hx0' : zs = [] := hx0
         subst hx0'; subst hA0
         refine dstT_ok (ys := []) g (hn := HF.emp) (h1 := hB) (zg := zf) (by rw [e1]; exact fun _ _ e => e) dAB u2 ho hb ha hat hsl hnu hz hdv' hvv ?_ rfl (fun d hd => off_del (hW d hd) hlr rfl) (del_look rcs id2) hs
         exact Src.ofNil w hk2 0
        | some qz =>
         obtain ⟨b, off, cap⟩ := qz
         obtain ⟨cc, h2, _, _, _, hl', he2, hd⟩ := hown
         simp only [if_true] at hd
         obtain ⟨hd, rfl⟩ := hd
         obtain ⟨d5, d6⟩ := HF.un_dj.1 dAB
         obtain ⟨lo, hi', hw, _⟩ := g.mem.cel b cc t' (by rw [e1]; exact un_left one_self)
         refine dstT_ok g (hn := h2) (h1 := hB) (zg := zf) ?_ d6 u2 ho hb ha hat hsl hnu hz hdv' hvv ?_ (Each.congr (fun i hi h' ho => by rw [if_neg (by simp)] at ho; exact ho) he2) (fun d hd => off_del (hW d hd) hlr rfl) (del_look rcs id2) hs
         ·rw [e1]
          exact un_mono dAB (fun b v e => un_right hd e) (fun b v e => e)
         ·refine Src.ofSlice w hk2 ⟨b, off, none⟩ zs.length cap _ (rowCells_length e' zs zf) (fun j x hx => ?_) (one zs zf)
          rw [Addr.add_mid]
          exact range_of hw (rowCells_lie.2 hl') j x hx
       ·exact hs.elim
      ·exact hs.elim
     ·exact hs.elim
    ·exact hs.elim
  ·exact hs.elim
 ·exact hs.elim
def outId : Nat := 3000000
def isBare (s : St) (id : Nat) : Bool := match look s.ck id with
 | some ⟨none, _, _⟩ => true
 | _ => false
def stAppend (P : Program) (n : Lim) (o : Oper) (c : Call) (s : St) (k : St → Tr α) : Tr α := match c.args.toList, c.argTypes.toList with
 | [x, y], [t, t2] => match slOf? P t, slOf? P t2, opo s x, opo s y with
  | some (te, m), some _, some dv, some v => match dv with
   | .at id p => if p.isEmpty && isBare s id then appD P n o te m (.at id p) v s k else match detach s id p outId with
    | some (Kc, s') => if keepS id p Kc v then appD P n o te m (.at outId []) v s' k else .bad
    | none => .bad
   | dv => appD P n o te m dv v s k
  | _, _, _, _ => .bad
 | _, _ => .bad
theorem stAppend_ok {P : Program} {F : Fr} {o : Oper} {c : Call} {s : St} {k : St → Tr α} (ho : o.op = .call c) (hb : c.callee = .builtin .append) : WorldOK P F o s (stAppend P F.n o c s k) k ⟨false, dstL o⟩ := by
 unfold stAppend
 split
 ·rename_i x y t t2 hx ht
  have ha : c.args = #[x, y] := by rw [← Array.toList_inj]; exact hx
  have hat : c.argTypes = #[t, t2] := by rw [← Array.toList_inj]; exact ht
  split
  ·rename_i te m q2 dv v hsl hsl2 hdv hv
   obtain ⟨te2, m2⟩ := q2
   split
   ·rename_i id p
    split
    ·intro K a w Γ rcs h Q g he' hs
     have hW : ∀ d, o.dst = some d → Off F [d] rcs := fun d hd => by rw [dstL_some hd] at he'; exact off_of g he'
     exact appD_ok ho hb ha hat hsl hsl2 g hW (g.opoIs hdv) (g.opoIs hv) hs
    ·split
     ·rename_i Kc s' hd
      split
      ·rename_i hk
       intro K a w Γ rcs h Q g he' hs
       have hW : ∀ d, o.dst = some d → Off F [d] rcs := fun d hd => by rw [dstL_some hd] at he'; exact off_of g he'
       obtain ⟨rcs', g', h1, h2, h3⟩ := detach_ok g hd (by decide) (g.opoIs hdv)
       exact appD_ok ho hb ha hat hsl hsl2 g' (fun d hd => h3 _ (hW d hd)) h1 (h2 _ _ hk (g.opoIs hv)) hs
      ·exact world_bad
     ·exact world_bad
   ·intro K a w Γ rcs h Q g he' hs
    have hW : ∀ d, o.dst = some d → Off F [d] rcs := fun d hd => by rw [dstL_some hd] at he'; exact off_of g he'
    exact appD_ok ho hb ha hat hsl hsl2 g hW (g.opoIs hdv) (g.opoIs hv) hs
  ·exact world_bad
 ·exact world_bad
end Go.Proofs.YtibammoednhnoaaE

