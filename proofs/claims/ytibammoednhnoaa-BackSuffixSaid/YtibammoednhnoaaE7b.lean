/- The engine, part 7b: a struct that ends in a slice of its own type, seen as its parts, and made of them. Conditions: none. -/
import Derived.Test.YtibammoednhnoaaE7
set_option linter.unusedVariables false
set_option linter.unusedSimpArgs false
namespace Go.Proofs.YtibammoednhnoaaE
open Kd
variable {α : Type}

namespace Kd
def chain : Kd → Bool
 | .unit => true
 | .pair _ b => chain b
 | _ => false
def app : Kd → Kd → Kd
 | .pair a b, L => .pair a (app b L)
 | _, L => L
def appT : (K L : Kd) → K.T → L.T → (app K L).T
 | .pair _ b, L, x, y => (x.1, appT b L x.2 y)
 | .unit, _, _, y => y
 | .int _, _, _, y => y
 | .bool, _, _, y => y
 | .str, _, _, y => y
 | .un, _, _, y => y
 | .arr _ _, _, _, y => y
 | .sl _ _ _ _, _, _, y => y
 | .tree _ _, _, _, y => y
 | .tl _ _, _, _, y => y
 | .mp _ _ _, _, _, y => y
 | .ep _, _, _, y => y
def appZ : (K L : Kd) → K.Z → L.Z → (app K L).Z
 | .pair _ b, L, x, y => (x.1, appZ b L x.2 y)
 | .unit, _, _, y => y
 | .int _, _, _, y => y
 | .bool, _, _, y => y
 | .str, _, _, y => y
 | .un, _, _, y => y
 | .arr _ _, _, _, y => y
 | .sl _ _ _ _, _, _, y => y
 | .tree _ _, _, _, y => y
 | .tl _ _, _, _, y => y
 | .mp _ _ _, _, _, y => y
 | .ep _, _, _, y => y
def splT : (K L : Kd) → (app K L).T → K.T × L.T
 | .pair _ b, L, w => let p := splT b L w.2; ((w.1, p.1), p.2)
 | .unit, _, y => ((), y)
 | .int _, _, y => ((0 : Int), y)
 | .bool, _, y => (false, y)
 | .str, _, y => (ByteArray.empty, y)
 | .un, _, y => ((), y)
 | .arr _ _, _, y => ([], y)
 | .sl _ _ _ _, _, y => ([], y)
 | .tree _ e, _, y => (.mk e.dft [], y)
 | .tl _ _, _, y => ([], y)
 | .mp _ _ _, _, y => (none, y)
 | .ep _, _, y => (none, y)
def splZ : (K L : Kd) → (app K L).Z → K.Z × L.Z
 | .pair _ b, L, w => let p := splZ b L w.2; ((w.1, p.1), p.2)
 | .unit, _, y => ((), y)
 | .int k, _, y => ((Kd.int k).zd, y)
 | .bool, _, y => (Kd.bool.zd, y)
 | .str, _, y => (Kd.str.zd, y)
 | .un, _, y => (Kd.un.zd, y)
 | .arr n e, _, y => ((Kd.arr n e).zd, y)
 | .sl o t e h, _, y => ((Kd.sl o t e h).zd, y)
 | .tree t e, _, y => ((Kd.tree t e).zd, y)
 | .tl _ _, _, y => (none, y)
 | .mp o t k, _, y => ((Kd.mp o t k).zd, y)
 | .ep e, _, y => ((Kd.ep e).zd, y)
@[reducible] def lst (t : TypeId) (e : Kd) : Kd := .pair (.tl t e) .unit
def unfK : Kd → Kd
 | .tree t e => app e (lst t e)
 | .int k => .int k | .bool => .bool | .str => .str | .un => .un | .unit => .unit
 | .pair a b => .pair a b
 | .arr n e => .arr n e
 | .sl o t e h => .sl o t e h
 | .tl t e => .tl t e
 | .mp o t k => .mp o t k
 | .ep e => .ep e
def unfT : (K : Kd) → K.T → (unfK K).T
 | .tree t e, x => appT e (lst t e) x.a (x.l, ())
 | .int _, x => x | .bool, x => x | .str, x => x | .un, x => x | .unit, x => x
 | .pair _ _, x => x
 | .arr _ _, x => x
 | .sl _ _ _ _, x => x
 | .tl _ _, x => x
 | .mp _ _ _, x => x
 | .ep _, x => x
def unfOK : Kd → Bool
 | .tree _ e => chain e && e.free
 | _ => true
def foldT (t : TypeId) (e : Kd) (x : (app e (lst t e)).T) : Tree e.T := let p := splT e (lst t e) x; .mk p.1 p.2.1
def tail? : Kd → Option (TypeId × Kd)
 | .pair (.tl t e) .unit => some (t, e)
 | .pair _ b => tail? b
 | _ => none

theorem app_own {Γ : HF} : ∀ (K L : Kd) (x : K.T) (y : L.T) (z : K.Z) (u : L.Z), chain K = true → K.Own Γ x z HF.emp → K.free = true → L.Own Γ y u HF.emp →
  (app K L).Own Γ (appT K L x y) (appZ K L z u) HF.emp ∧ (app K L).cells (appT K L x y) (appZ K L z u) = K.cells x z ++ L.cells y u
 | .pair a b, L, x, y, z, u, hc, o, hf, ol => by
  obtain ⟨h1, h2, d, e, oa, ob⟩ := o
  simp only [free, Bool.and_eq_true] at hf
  have e1 := own_free hf.1 oa
  have e2 := own_free hf.2 ob
  subst e1; subst e2
  obtain ⟨p, q⟩ := app_own b L x.2 y z.2 u (by simpa [chain] using hc) ob hf.2 ol
  refine ⟨⟨HF.emp, HF.emp, HF.dj_emp _, (HF.un_emp _).symm, oa, p⟩, ?_⟩
  show a.cells x.1 z.1 ++ (app b L).cells (appT b L x.2 y) (appZ b L z.2 u) = (a.cells x.1 z.1 ++ b.cells x.2 z.2) ++ L.cells y u
  rw [q, List.append_assoc]
 | .unit, L, x, y, z, u, hc, o, hf, ol => ⟨ol, rfl⟩
 | .int _, _, _, _, _, _, hc, _, _, _ => by cases hc
 | .bool, _, _, _, _, _, hc, _, _, _ => by cases hc
 | .str, _, _, _, _, _, hc, _, _, _ => by cases hc
 | .un, _, _, _, _, _, hc, _, _, _ => by cases hc
 | .arr _ _, _, _, _, _, _, hc, _, _, _ => by cases hc
 | .sl _ _ _ _, _, _, _, _, _, hc, _, _, _ => by cases hc
 | .tree _ _, _, _, _, _, _, hc, _, _, _ => by cases hc
 | .tl _ _, _, _, _, _, _, hc, _, _, _ => by cases hc
 | .mp _ _ _, _, _, _, _, _, hc, _, _, _ => by cases hc
 | .ep _, _, _, _, _, _, hc, _, _, _ => by cases hc
theorem spl_own {Γ : HF} : ∀ (K L : Kd) (w : (app K L).T) (z : (app K L).Z), chain K = true → K.free = true → L.free = true → (app K L).Own Γ w z HF.emp →
  K.Own Γ (splT K L w).1 (splZ K L z).1 HF.emp ∧ L.Own Γ (splT K L w).2 (splZ K L z).2 HF.emp ∧ (app K L).cells w z = K.cells (splT K L w).1 (splZ K L z).1 ++ L.cells (splT K L w).2 (splZ K L z).2
 | .pair a b, L, w, z, hc, hf, hl, o => by
  obtain ⟨h1, h2, d, e, oa, ob⟩ := o
  simp only [free, Bool.and_eq_true] at hf
  have e1 := own_free hf.1 oa
  subst e1
  rw [HF.emp_un] at e
  subst e
  obtain ⟨p, q, r⟩ := spl_own b L w.2 z.2 (by simpa [chain] using hc) hf.2 hl ob
  refine ⟨⟨HF.emp, HF.emp, HF.dj_emp _, (HF.un_emp _).symm, oa, p⟩, q, ?_⟩
  show a.cells w.1 z.1 ++ (app b L).cells w.2 z.2 = (a.cells w.1 z.1 ++ b.cells (splT b L w.2).1 (splZ b L z.2).1) ++ L.cells (splT b L w.2).2 (splZ b L z.2).2
  rw [r, List.append_assoc]
 | .unit, L, w, z, hc, hf, hl, o => ⟨rfl, o, rfl⟩
 | .int _, _, _, _, hc, _, _, _ => by cases hc
 | .bool, _, _, _, hc, _, _, _ => by cases hc
 | .str, _, _, _, hc, _, _, _ => by cases hc
 | .un, _, _, _, hc, _, _, _ => by cases hc
 | .arr _ _, _, _, _, hc, _, _, _ => by cases hc
 | .sl _ _ _ _, _, _, _, hc, _, _, _ => by cases hc
 | .tree _ _, _, _, _, hc, _, _, _ => by cases hc
 | .tl _ _, _, _, _, hc, _, _, _ => by cases hc
 | .mp _ _ _, _, _, _, hc, _, _, _ => by cases hc
 | .ep _, _, _, _, hc, _, _, _ => by cases hc
theorem app_free : ∀ (K L : Kd), chain K = true → (app K L).free = (K.free && L.free)
 | .pair a b, L, hc => by simp only [app, free, app_free b L (by simpa [chain] using hc), Bool.and_assoc]
 | .unit, L, hc => by simp [app, free]
 | .int _, _, hc => by cases hc
 | .bool, _, hc => by cases hc
 | .str, _, hc => by cases hc
 | .un, _, hc => by cases hc
 | .arr _ _, _, hc => by cases hc
 | .sl _ _ _ _, _, hc => by cases hc
 | .tree _ _, _, hc => by cases hc
 | .tl _ _, _, hc => by cases hc
 | .mp _ _ _, _, hc => by cases hc
 | .ep _, _, hc => by cases hc
theorem app_single : ∀ (K L : Kd), single L = false → chain K = true → single (app K L) = false
 | .pair a b, L, _, _ => rfl
 | .unit, L, h, _ => h
 | .int _, _, _, hc => by cases hc
 | .bool, _, _, hc => by cases hc
 | .str, _, _, hc => by cases hc
 | .un, _, _, hc => by cases hc
 | .arr _ _, _, _, hc => by cases hc
 | .sl _ _ _ _, _, _, hc => by cases hc
 | .tree _ _, _, _, hc => by cases hc
 | .tl _ _, _, _, hc => by cases hc
 | .mp _ _ _, _, _, hc => by cases hc
 | .ep _, _, _, hc => by cases hc
end Kd
theorem tree_list {Γ : HF} {t : TypeId} {e : Kd} {x : Tree e.T} {z : e.Z × Option (Addr × Nat)} (o : (Kd.tree t e).Own Γ x z HF.emp) :
  e.Own Γ x.a z.1 HF.emp ∧ (Kd.tl t e).Own Γ x.l z.2 HF.emp := ⟨o.2.parts.1, rfl, o.2.parts.2⟩
theorem list_tree {Γ : HF} {t : TypeId} {e : Kd} {a : e.T} {l : List (Tree e.T)} {y : e.Z} {z : Option (Addr × Nat)} (h : e.Own Γ a y HF.emp) (o : (Kd.tl t e).Own Γ l z HF.emp) :
  (Kd.tree t e).Own Γ (.mk a l) (y, z) HF.emp := ⟨rfl, LOwn.tree h o.2⟩
theorem unf_own {Γ : HF} : ∀ {K : Kd} {x : K.T} {z : K.Z} {h : HF}, unfOK K = true → K.Own Γ x z h → ∃ z', (unfK K).Own Γ (unfT K x) z' h ∧ (unfK K).cells (unfT K x) z' = K.cells x z
 | .tree t e, x, z, h, hk, o => by
  simp only [unfOK, Bool.and_eq_true] at hk
  obtain rfl : h = HF.emp := o.1
  obtain ⟨oa, ol⟩ := tree_list o
  obtain ⟨p, q⟩ := app_own e (lst t e) x.a (x.l, ()) z.1 (z.2, ()) hk.1 oa hk.2 ⟨HF.emp, HF.emp, HF.dj_emp _, (HF.un_emp _).symm, ol, rfl⟩
  exact ⟨_, p, q⟩
 | .int _, x, z, h, _, o => ⟨z, o, rfl⟩
 | .bool, x, z, h, _, o => ⟨z, o, rfl⟩
 | .str, x, z, h, _, o => ⟨z, o, rfl⟩
 | .un, x, z, h, _, o => ⟨z, o, rfl⟩
 | .unit, x, z, h, _, o => ⟨z, o, rfl⟩
 | .pair _ _, x, z, h, _, o => ⟨z, o, rfl⟩
 | .arr _ _, x, z, h, _, o => ⟨z, o, rfl⟩
 | .sl _ _ _ _, x, z, h, _, o => ⟨z, o, rfl⟩
 | .tl _ _, x, z, h, _, o => ⟨z, o, rfl⟩
 | .mp _ _ _, x, z, h, _, o => ⟨z, o, rfl⟩
 | .ep _, x, z, h, _, o => ⟨z, o, rfl⟩
theorem fold_own {Γ : HF} {t : TypeId} {e : Kd} (hc : chain e = true) (hf : e.free = true) {x : (app e (lst t e)).T} {z : (app e (lst t e)).Z} {h : HF} (o : (app e (lst t e)).Own Γ x z h) :
  ∃ z', (Kd.tree t e).Own Γ (foldT t e x) z' HF.emp ∧ (Kd.tree t e).cells (foldT t e x) z' = (app e (lst t e)).cells x z := by
 have hfr : (app e (lst t e)).free = true := by rw [app_free e _ hc]; simp [free, hf]
 have := own_free hfr o
 subst this
 obtain ⟨oa, ol, hcl⟩ := spl_own e (lst t e) x z hc hf (by simp [free, hf]) o
 obtain ⟨h1, h2, d, e1, o1, o2⟩ := ol
 have e2 := own_free (K := .tl t e) (by simp [free, hf]) o1
 subst e2
 refine ⟨_, list_tree oa o1, ?_⟩
 rw [hcl]
 rfl
theorem each_emp' {p : Nat → HF → Prop} (hp : ∀ i h, p i h → h = HF.emp) : ∀ {n : Nat} {h : HF}, Each p n h → ∀ i, i < n → p i HF.emp
 | n + 1, h, ⟨h1, h2, d, e, e1, pn⟩, i, hi => by
  rcases Nat.lt_or_ge i n with q | q
  ·exact each_emp' hp e1 i q
  ·obtain rfl : i = n := by omega
   have := hp i h2 pn
   subst this
   exact pn
theorem sl_tl {Γ : HF} {te t : TypeId} {e : Kd} {l : List (Tree e.T)} {z : (Kd.sl false te (.tree t e) none).Z} {h : HF} (o : (Kd.sl false te (.tree t e) none).Own Γ l z h) :
  ∃ z', (Kd.tl t e).Own Γ l z' HF.emp ∧ (Kd.tl t e).cells l z' = (Kd.sl false te (.tree t e) none).cells l z := by
 obtain ⟨zo, zf⟩ := z
 cases zo with
 | none =>
  obtain ⟨hl, _⟩ := o
  exact ⟨none, ⟨rfl, hl⟩, rfl⟩
 | some q =>
  obtain ⟨b, off, cap⟩ := q
  obtain ⟨c, h2, h1, h3, h4, h5, he, hd⟩ := o
  simp only [Bool.false_eq_true, if_false] at hd
  obtain ⟨⟨t', hd⟩, _⟩ := hd
  refine ⟨some (⟨b, off, none⟩, cap), ⟨rfl, .inr ⟨rfl, c, t', fun i => (zf i).1, fun i => (zf i).2, h1, h3, h4, hd, h5, fun i hi => ?_⟩⟩, rfl⟩
  have := each_emp' (fun i h' (p : if none = some i then h' = HF.emp else (Kd.tree t e).Own Γ (l.getD i (Kd.tree t e).dft) (zf i) h') => by rw [if_neg (by simp)] at p; exact p.1) he i hi
  rw [if_neg (by simp)] at this
  exact this.2
def foldS : (K : Kd) → K.T → SV
 | .sl false te (.tree t e) none, x => if e.free then .val (.tl t e) x else .val (.sl false te (.tree t e) none) x
 | .pair a b, x => match tail? (.pair a b) with
  | some (t, e) => if h : Kd.pair a b = app e (lst t e) ∧ chain e = true ∧ e.free = true then .val (.tree t e) (foldT t e (h.1 ▸ x)) else .val (.pair a b) x
  | none => .val (.pair a b) x
 | K, x => .val K x
def isF : Kd → Bool
 | .sl false _ (.tree _ _) none => true
 | .pair a b => (tail? (.pair a b)).isSome
 | _ => false
theorem foldS_is {Γ : HF} {rcs : List (Nat × RC)} {v : Value} {K : Kd} {x : K.T} (hi : (SV.val K x).is Γ rcs v) : (foldS K x).is Γ rcs v := by
 unfold foldS
 split
 ·split
  ·rename_i hf
   obtain ⟨_, z, o, hv⟩ := hi
   obtain ⟨z', o', hc'⟩ := sl_tl o
   refine ⟨by simpa [free] using hf, z', o', ?_⟩
   rw [hv, hc']
   rfl
  ·exact hi
 ·split
  ·rename_i t e _
   split
   ·rename_i h
    obtain ⟨hK, hc, hf⟩ := h
    have key : ∀ (K : Kd) (x : K.T) (hK : K = app e (lst t e)), (SV.val K x).is Γ rcs v → (SV.val (.tree t e) (foldT t e (hK ▸ x))).is Γ rcs v := by
     intro K x hK hi
     subst hK
     obtain ⟨_, z, o, hv⟩ := hi
     obtain ⟨z', o', hc'⟩ := fold_own hc hf o
     refine ⟨by simpa [free] using hf, z', o', ?_⟩
     rw [hv, hc']
     unfold toV
     rw [app_single e _ rfl hc]
     rfl
    exact key _ _ hK hi
   ·exact hi
  ·exact hi
 ·exact hi
def foldD (s : St) (t : Nat) : St := match look s.tm t with
 | some (.one (.val K x)) => if isF K then ⟨(t, .one (foldS K x)) :: del s.tm t, s.ck⟩ else s
 | _ => s
theorem foldD_ok {F : Fr} {s : St} {a : Act} {w : World} {Γ : HF} {rcs : List (Nat × RC)} {h : HF} (g : Good F s a w Γ rcs h) (t : Nat) : Good F (foldD s t) a w Γ rcs h := by
 unfold foldD
 split
 ·rename_i K x hl
  split
  ·obtain ⟨v, hv, hi⟩ := g.tm t _ (look_mem hl)
   refine ⟨g.ck, g.nodup, g.star, g.mem, g.memR, g.dj, g.defers, g.tsz, ?_, g.size, g.keep, g.own, g.ro, g.ro0, g.os, g.tape, g.output, g.sg, g.bx, g.md⟩
   intro t' av hm
   rcases List.mem_cons.1 hm with e | e
   ·injection e with e1 e2
    subst e1; subst e2
    exact ⟨v, hv, foldS_is hi⟩
   ·exact g.tm t' av (List.mem_filter.1 e).1
  ·exact g
 ·exact g
end Go.Proofs.YtibammoednhnoaaE

