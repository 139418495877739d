/- The engine, part 32c: a slice literal of slices that are only read, of which some were the frame's own. Conditions: none. -/
import Derived.Test.YtibammoednhnoaaE32b
set_option linter.unusedVariables false
set_option linter.unusedSimpArgs false
namespace Go.Proofs.YtibammoednhnoaaE
open Kd
variable {α : Type}
def frz1 (s : St) (t : Nat) : St := match look s.tm t with
 | some (.one (.at id [])) => match look s.ck id with
  | some ⟨none, .sl true te e none, xs⟩ => if e.free = true then ⟨(t, .one (.val (.sl false te e none) xs)) :: s.tm.filter fun y => y.1 != t && offA id y.2, del s.ck id⟩ else s
  | _ => s
 | _ => s
def frzIds1 (s : St) (t : Nat) : List Nat := match look s.tm t with
 | some (.one (.at id [])) => [id]
 | _ => []
theorem own_frozen {Γ Γ' : HF} {te : TypeId} {e : Kd} {xs : List e.T} {z : (Kd.sl true te e none).Z} {h1 : HF} (hf : e.free = true) (o : (Kd.sl true te e none).Own Γ xs z h1) (hg1 : ∀ b v, Γ b = some v → Γ' b = some v) (hg2 : ∀ b v, h1 b = some v → Γ' b = some v) :
  (Kd.sl false te e none).Own Γ' xs z HF.emp := by
 obtain ⟨z0, zf⟩ := z
 cases z0 with
 | none => exact ⟨o.1, rfl⟩
 | some y =>
  obtain ⟨b, off, cap⟩ := y
  obtain ⟨c, h2, l1, l2, l3, l4, l5, l6⟩ := o
  simp only [if_true] at l6
  have hb : Γ' b = some (.cel c te) := hg2 b _ (by rw [l6.2]; exact one_self)
  refine ⟨c, HF.emp, l1, l2, l3, l4, each_emp fun i hi => ?_, ?_⟩
  ·rw [if_neg (by simp)]
   obtain ⟨_, hi', _, _, oi, _⟩ := Each.take hi l5
   rw [if_neg (by simp)] at oi
   have := own_free hf oi
   subst this
   exact own_mono hg1 oi
  ·simp only [Bool.false_eq_true, if_false]
   exact ⟨⟨te, hb⟩, trivial⟩
theorem frz1_ok {F : Fr} {s : St} {a : Act} {w : World} {Γ : HF} {rcs : List (Nat × RC)} {h : HF} (g : Good F s a w Γ rcs h) {t : Nat} (hB : ∀ e ∈ F.B, ∀ id ∈ frzIds1 s t, e.id ≠ some id) : ∃ Γ' rcs' h', Good F (frz1 s t) a w Γ' rcs' h' := by
 unfold frz1
 split
 ·rename_i id hl
  split
  ·rename_i te e xs hc
   split
   ·rename_i hf
    obtain ⟨r, hr, hck⟩ := look_rc g hc
    obtain ⟨rb, K', x', z⟩ := r
    simp only [RC.ck, Ck.mk.injEq] at hck
    obtain ⟨c1, rfl, c3⟩ := hck
    obtain rfl := eq_of_heq c3
    cases rb with
    | some bt => cases c1
    | none =>
    obtain ⟨v, hv, hi⟩ := g.tm t _ (look_mem hl)
    obtain ⟨r0, q, hr0, hp, hvv⟩ := hi
    rw [hr] at hr0
    injection hr0 with hr0
    subst hr0
    simp only [pl, Option.some.injEq] at hp
    subst hp
    obtain ⟨h1, hr', d1, hh, o1, hg1, hg2, mk⟩ := g.freeze hr fun e he id' hid f => by
     subst f
     exact hB e he id' (by simp [frzIds1, hl]) hid
    have hav : (AV.one (SV.val (.sl false te e none) x')).is (Γ.un h1) (del rcs id) v := ⟨by simpa [free] using hf, z, own_frozen hf o1 hg1 hg2, hvv⟩
    refine ⟨_, _, _, mk _ fun t' av hm => ?_⟩
    rcases List.mem_cons.1 hm with e1 | hm
    ·injection e1 with e1 e2
     subst e1
     subst e2
     exact ⟨v, hv, hav⟩
    ·obtain ⟨m1, m2⟩ := List.mem_filter.1 hm
     rw [Bool.and_eq_true] at m2
     obtain ⟨u, hu, iu⟩ := g.tm t' av m1
     exact ⟨u, hu, AV.is_mono hg1 (offA_is m2.2 iu)⟩
   ·exact ⟨Γ, rcs, h, g⟩
  ·exact ⟨Γ, rcs, h, g⟩
 ·exact ⟨Γ, rcs, h, g⟩
def frzAll : List Nat → St → St
 | [], s => s
 | t :: l, s => frzAll l (frz1 s t)
def frzIds : List Nat → St → List Nat
 | [], s => []
 | t :: l, s => frzIds1 s t ++ frzIds l (frz1 s t)
theorem frzAll_ok {F : Fr} {a : Act} {w : World} : ∀ {l : List Nat} {s : St} {Γ : HF} {rcs : List (Nat × RC)} {h : HF}, Good F s a w Γ rcs h → (∀ e ∈ F.B, ∀ id ∈ frzIds l s, e.id ≠ some id) → ∃ Γ' rcs' h', Good F (frzAll l s) a w Γ' rcs' h'
 | [], s, Γ, rcs, h, g, _ => ⟨Γ, rcs, h, g⟩
 | t :: l, s, Γ, rcs, h, g, hB => by
  obtain ⟨Γ', rcs', h', g'⟩ := frz1_ok g (t := t) fun e he id hid => hB e he id (List.mem_append_left _ hid)
  exact frzAll_ok (l := l) (s := frz1 s t) g' fun e he id hid => hB e he id (List.mem_append_right _ hid)
def anyRead (s : St) (l : List Nat) : Bool := l.any fun t => match look s.tm t with
 | some (.one (.val (.sl _ _ _ _) _)) => true
 | _ => false
def frzL (l : List Nat) (s : St) : List Nat := if anyRead s l then frzIds l s else []
def frzT (l : List Nat) (s : St) (g : St → Tr α) : Tr α := if anyRead s l then g (frzAll l s) else g s
theorem frz_ok {P : Program} {F : Fr} {o : Oper} {l : List Nat} {s : St} {e : Eff} {g : St → Tr α} {k : St → Tr α} (h : ∀ s', WorldOK P F o s' (g s') k e) : WorldOK P F o s (frzT l s g) k ⟨e.all, e.ids ++ frzL l s⟩ := fun K a w Γ rcs hh Q gd he ht => by
 have he1 : e.ok F.B := Eff.less (b := e.all) (l := e.ids ++ frzL l s) he id (fun x hx => List.mem_append_left _ hx)
 unfold frzT at ht
 split at ht
 ·rename_i hc
  obtain ⟨Γ', rcs', h', g'⟩ := frzAll_ok gd (l := l) fun x hx id hid f => by
   have := he x hx
   rw [f] at this
   exact this (List.mem_append_right _ (by unfold frzL; rw [if_pos hc]; exact hid))
  exact h (frzAll l s) K a w Γ' rcs' h' Q g' he1 ht
 ·exact h s K a w Γ rcs hh Q gd he1 ht
def frzG (s : St) (t : Nat) : St := match look s.tm t with
 | some (.one (.at id [])) => match look s.ck id with
  | some ⟨none, K, x⟩ => if noHole K = true then ⟨(t, .one (.val (shr K) (castS rfl x))) :: s.tm.filter fun y => y.1 != t && offA id y.2, del s.ck id⟩ else s
  | _ => s
 | _ => s
theorem frzG_ok {F : Fr} {s : St} {a : Act} {w : World} {Γ : HF} {rcs : List (Nat × RC)} {h : HF} (g : Good F s a w Γ rcs h) (t : Nat) : ∃ Γ' rcs' h', Good F (frzG s t) a w Γ' rcs' h' := by
 unfold frzG
 split
 ·rename_i id hl
  split
  ·rename_i K xs hc
   split
   ·rename_i hf
    obtain ⟨r, hr, hck⟩ := look_rc g hc
    obtain ⟨rb, K', x', z⟩ := r
    simp only [RC.ck, Ck.mk.injEq] at hck
    obtain ⟨c1, rfl, c3⟩ := hck
    obtain rfl := eq_of_heq c3
    cases rb with
    | some bt => cases c1
    | none =>
    obtain ⟨v, hv, hi⟩ := g.tm t _ (look_mem hl)
    obtain ⟨r0, q, hr0, hp, hvv⟩ := hi
    rw [hr] at hr0
    injection hr0 with hr0
    subst hr0
    simp only [pl, Option.some.injEq] at hp
    subst hp
    obtain ⟨h1, hr', d1, hh, o1, hg1, hg2, mk⟩ := g.freeze hr fun e he id' hid f => by
     subst f
     obtain ⟨r', t', h1', h2'⟩ := (g.bx e he).2 id' hid
     rw [hr] at h1'
     injection h1' with h1'
     subst h1'
     cases h2'
    obtain ⟨f1, f2⟩ := own_shr K' x' z h1 hf o1 (fun b v e => e.elim (hg1 b v) (hg2 b v)) (castS rfl x') (cast (shr_Z K').symm z) (castS_heq x') (cast_heq _ _)
    have hav : (AV.one (SV.val (shr K') (castS rfl x'))).is (Γ.un h1) (del rcs id) v := ⟨shr_free _ hf, _, f1, by
     rw [hvv, f2]
     unfold toV
     rw [shr_single]⟩
    refine ⟨_, _, _, mk _ fun t' av hm => ?_⟩
    rcases List.mem_cons.1 hm with e1 | hm
    ·injection e1 with e1 e2
     subst e1
     subst e2
     exact ⟨v, hv, hav⟩
    ·obtain ⟨m1, m2⟩ := List.mem_filter.1 hm
     rw [Bool.and_eq_true] at m2
     obtain ⟨u, hu, iu⟩ := g.tm t' av m1
     exact ⟨u, hu, AV.is_mono hg1 (offA_is m2.2 iu)⟩
   ·exact ⟨Γ, rcs, h, g⟩
  ·exact ⟨Γ, rcs, h, g⟩
 ·exact ⟨Γ, rcs, h, g⟩
def frzO (n : Lim) (o : Oper) (s : St) : St := match o.dst with
 | some d => if n.fz.contains d then frzG s d else s
 | none => s
theorem frzO_ok {F : Fr} {n : Lim} {o : Oper} {s : St} {a : Act} {w : World} {Γ : HF} {rcs : List (Nat × RC)} {h : HF} (g : Good F s a w Γ rcs h) : ∃ Γ' rcs' h', Good F (frzO n o s) a w Γ' rcs' h' := by
 unfold frzO
 split
 ·split
  ·exact frzG_ok g _
  ·exact ⟨Γ, rcs, h, g⟩
 ·exact ⟨Γ, rcs, h, g⟩
theorem world_map {P : Program} {F : Fr} {n : Lim} {o : Oper} {s : St} {t : Tr α} {k : St → Tr α} {e : Eff} (h : WorldOK P F o s t (fun s' => k (frzO n o s')) e) : WorldOK P F o s t k e := fun K a w Γ rcs hh Q g he ht =>
 Oper.wp_mono (fun a' w' ⟨s', ⟨Γ', rcs', h', g'⟩, hk⟩ => ⟨frzO n o s', frzO_ok g', hk⟩) (h K a w Γ rcs hh Q g he ht)
theorem pure_map {P : Program} {F : Fr} {n : Lim} {o : Oper} {s : St} {t : Tr α} {k : St → Tr α} (h : PureOK P F o s t (fun s' => k (frzO n o s'))) : PureOK P F o s t k := fun K a w Γ rcs hh g ht =>
 let ⟨v, s', he, ⟨_, _, _, g'⟩, hk⟩ := h K a w Γ rcs hh g ht
 ⟨v, frzO n o s', he, frzO_ok g', hk⟩
def foldO (o : Oper) (s : St) : St := match o.dst with
 | some d => match look s.tm d with
  | some (.one (.val _ _)) => foldD s d
  | some (.one (.at id [])) => match look s.ck id with
   | some ⟨none, K, _⟩ => if isF (shr K) then foldD (frzG s d) d else s
   | _ => s
  | _ => s
 | none => s
theorem foldO_ok {F : Fr} {o : Oper} {s : St} {a : Act} {w : World} {Γ : HF} {rcs : List (Nat × RC)} {h : HF} (g : Good F s a w Γ rcs h) : ∃ Γ' rcs' h', Good F (foldO o s) a w Γ' rcs' h' := by
 unfold foldO
 split
 ·rename_i d hd
  split
  ·exact ⟨Γ, rcs, h, foldD_ok g _⟩
  ·split
   ·split
    ·obtain ⟨Γ', rcs', h', g'⟩ := frzG_ok g d
     exact ⟨Γ', rcs', h', foldD_ok g' _⟩
    ·exact ⟨Γ, rcs, h, g⟩
   ·exact ⟨Γ, rcs, h, g⟩
  ·exact ⟨Γ, rcs, h, g⟩
 ·exact ⟨Γ, rcs, h, g⟩
theorem world_fold {P : Program} {F : Fr} {o : Oper} {s : St} {t : Tr α} {k : St → Tr α} {e : Eff} (h : WorldOK P F o s t (fun s' => k (foldO o s')) e) : WorldOK P F o s t k e := fun K a w Γ rcs hh Q g he ht =>
 Oper.wp_mono (fun a' w' ⟨s', ⟨Γ', rcs', h', g'⟩, hk⟩ => ⟨foldO o s', foldO_ok g', hk⟩) (h K a w Γ rcs hh Q g he ht)
theorem read_fold {P : Program} {F : Fr} {o : Oper} {s : St} {t : Tr α} {k : St → Tr α} {rd : Option (Option Nat)} (h : ReadOK P F o s t (fun s' => k (foldO o s')) rd) : ReadOK P F o s t k rd := fun K a w Γ rcs hh g ht =>
 let ⟨v, s', E, G', h1, h2, ⟨_, _, _, g'⟩, hk⟩ := h K a w Γ rcs hh g ht
 ⟨v, foldO o s', E, G', h1, h2, foldO_ok g', hk⟩
end Go.Proofs.YtibammoednhnoaaE

