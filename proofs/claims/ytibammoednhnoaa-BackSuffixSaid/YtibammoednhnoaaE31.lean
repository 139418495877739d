/- The engine, part 31: a call, as an operation. Conditions: none. -/
import Derived.Test.YtibammoednhnoaaE30
set_option linter.unusedVariables false
set_option linter.unusedSimpArgs false
namespace Go.Proofs.YtibammoednhnoaaE
open Kd
variable {α : Type}

def Callable (P : Program) (f : Nat) : Prop := ∃ fn, P.funcs[f]? = some fn ∧ (fn.name == "runtime.NumGoroutine") = false ∧ fn.body.isNone = false
theorem run_callFunc {P : Program} {f : Nat} (h : Callable P f) (args : Array Value) (w : World) : (callFunc f args).run P w = .ok (.enter f args) w := by
 obtain ⟨fn, h1, h2, h3⟩ := h
 have h2' : ¬ (fn.name = "runtime.NumGoroutine") := by simpa using h2
 have h3' : ¬ (fn.body = none) := by intro e; rw [e] at h3; cases h3
 simp [callFunc, Sem.run_bind, h1, h2', h3']
def calleeOf (s : St) (c : Call) : Option (Nat × List Nat × List Ar) := match c.callee with
 | .value x => match opo s x with
  | some (.clo f ids) => some (f, ids, [])
  | some (.bnd f K x) => some (f, [], [.bv K x])
  | _ => none
 | _ => none
def ars (c : Call) (ids : List Nat) (pre : List Ar) : List Ar := pre ++ (c.args.toList.map .op ++ ids.map .cap)
def argIds (s : St) : List Par → List Ar → List Nat
 | .val _ :: ps, _ :: ar => argIds s ps ar
 | _ :: ps, .cap id :: ar => id :: argIds s ps ar
 | _ :: ps, .op x :: ar => (match opo s x with
  | some (.at id _) => [id]
  | some (.ptr id _) => [id]
  | some (.clo _ ids) => ids
  | _ => []) ++ argIds s ps ar
 | _ :: ps, .bv _ _ :: ar => argIds s ps ar
 | _, _ => []
def rids (d : Nat) (n : Nat) : List Nat := (List.range n).map (rid d)
def effCall (cfg : Nat → Option Spec) (s : St) (c : Call) (dst : Option Nat) : Eff := match calleeOf s c with
 | some (f, ids, pre) => match cfg f with
  | some sp => ⟨(argIds s sp.ps (ars c ids pre)).isEmpty, argIds s sp.ps (ars c ids pre) ++ rids (dst.getD 0) sp.rs.length⟩
  | none => ⟨false, []⟩
 | none => ⟨false, []⟩
def nodupB : List Nat → Bool
 | [] => true
 | x :: l => !l.contains x && nodupB l
theorem nodupB_ok : ∀ {l : List Nat}, nodupB l = true → l.Nodup
 | [], _ => List.nodup_nil
 | x :: l, h => by
  simp only [nodupB, Bool.and_eq_true, Bool.not_eq_true', List.contains_eq_mem, decide_eq_false_iff_not] at h
  exact List.nodup_cons.2 ⟨h.1, nodupB_ok h.2⟩
def rsKind : Rs → Kd
 | .val K | .own K | .ownN K | .box _ K => K
def parSh : Par → Bool
 | .mut K | .ptr _ K _ | .cap _ K => noSh K
 | _ => true
def keepV (s : St) (l : List (Nat × Nat)) : AV → Bool
 | .one (.ptr id p) => (l.map (·.2)).contains id && (match look s.ck id with
  | some c => (offOf c.K p).isSome && c.box.isSome
  | none => false)
 | .one (.at id []) => (l.map (·.2)).contains id && (match look s.ck id with
  | some c => c.box.isNone
  | none => false)
 | .one (.clo _ ids) => ids.all fun id => (l.map (·.2)).contains id && (match look s.ck id with
  | some c => c.box.isSome
  | none => false)
 | _ => false
def keepT (s : St) (d : Nat) (l : List (Nat × Nat)) : List (Nat × AV) := s.tm.filter fun x => x.1 != d && keepV s l x.2
def callOK (sp : Spec) (g : Got) (e : Eff) (d : Nat) (n : Lim) : Bool :=
 g.cs.all (fun x => look g.l x.1 == some x.2) && (g.vw.isEmpty || (sp.ps.all parSh && sp.rs.all fun r => noSh (rsKind r))) && g.tk.all (fun id => e.ids.contains id) && (g.tk.isEmpty || !e.all) && decide (d < n.n)
def backIdx : Nat → List Par → List Nat
 | _, [] => []
 | i, .mut _ :: ps | i, .ptr _ _ _ :: ps | i, .cap _ _ :: ps => i :: backIdx (i + 1) ps
 | i, _ :: ps => backIdx (i + 1) ps
theorem back_idx {Rl : List (Nat × RC)} : ∀ (ps : List Par) (i : Nat) (o : OT ps) (l : List (Nat × RC)), Back Rl i ps o l → ∀ y ∈ l, y.1 ∈ backIdx i ps ∧ ∃ r, look Rl y.1 = some r ∧ y.2.head = r.head
 | [], _, _, l, e, y, hy => by rw [show l = [] from e] at hy; cases hy
 | .val K :: ps, i, o, l, h, y, hy => back_idx ps (i + 1) o l h y hy
 | .own K :: ps, i, o, l, h, y, hy => back_idx ps (i + 1) o l h y hy
 | .clo f c :: ps, i, o, l, h, y, hy => back_idx ps (i + 1) o l h y hy
 | .mut K :: ps, i, o, l, ⟨r, z, l', h1, e, h2, h⟩, y, hy => by
  subst e
  rcases List.mem_cons.1 hy with q | q
  ·subst q; exact ⟨List.mem_cons_self, r, h1, h2⟩
  ·obtain ⟨q1, q2⟩ := back_idx ps (i + 1) o.2 l' h y q
   exact ⟨List.mem_cons_of_mem _ q1, q2⟩
 | .ptr t K p :: ps, i, o, l, ⟨r, b, z, l', h1, e, h2, h⟩, y, hy => by
  subst e
  rcases List.mem_cons.1 hy with q | q
  ·subst q; exact ⟨List.mem_cons_self, r, h1, h2⟩
  ·obtain ⟨q1, q2⟩ := back_idx ps (i + 1) o.2 l' h y q
   exact ⟨List.mem_cons_of_mem _ q1, q2⟩
 | .cap t K :: ps, i, o, l, ⟨r, b, z, l', h1, e, h2, h⟩, y, hy => by
  subst e
  rcases List.mem_cons.1 hy with q | q
  ·subst q; exact ⟨List.mem_cons_self, r, h1, h2⟩
  ·obtain ⟨q1, q2⟩ := back_idx ps (i + 1) o.2 l' h y q
   exact ⟨List.mem_cons_of_mem _ q1, q2⟩
def callK (sp : Spec) (s : St) (d : Nat) (g : Got) (r : RT sp.rs × OT sp.ps) (k : St → Tr α) (l : List SV) (cks : List (Nat × Ck)) : Tr α :=
 if nodupB ((cks ++ (backCk g.l 0 sp.ps r.2 ++ g.s.ck.filter fun x => !(cks.map (·.1)).contains x.1)).map (·.1)) && cks.all (fun x => (rids d sp.rs.length).contains x.1) && nodupB (g.l.map (·.1)) && (backIdx 0 sp.ps).all (fun i => (look g.l i).isSome) then
  k ⟨(d, packA l) :: (keepT s d g.l ++ g.s.tm.filter fun x => x.1 != d && cks.all fun c => offA c.1 x.2), cks ++ (backCk g.l 0 sp.ps r.2 ++ g.s.ck.filter fun x => !(cks.map (·.1)).contains x.1)⟩ else .bad
def stCall (cfg : Nat → Option Spec) (n : Lim) (o : Oper) (c : Call) (s : St) (k : St → Tr α) : Tr α := match calleeOf s c, o.dst with
 | some (f, ids, pre), some d => match cfg f with
  | some sp => argsT sp.ps (ars c ids pre) 0 ⟨s, [], [], [], []⟩ fun xs g => if callOK sp g (effCall cfg s c o.dst) d n then .bind (sp.impl xs) fun r => resSV d 0 sp.rs r.1 fun l cks => callK sp s d g r k l cks else .bad
  | none => .bad
 | _, _ => .bad

def HF.minus (g h : HF) : HF := fun b => match h b with
 | some _ => none
 | none => g b
theorem minus_sub {g h : HF} {b : Nat} {v : Blk} (e : (g.minus h) b = some v) : g b = some v ∧ h b = none := by
 unfold HF.minus at e
 cases hb : h b with
 | some x => rw [hb] at e; cases e
 | none => rw [hb] at e; exact ⟨e, rfl⟩
theorem resIs_indep {Γ Γ' : HF} : ∀ {rs : List Rs} {x : RT rs} {vs : List Value} {l : List (Nat × RC)}, (∀ r ∈ rs, noSh (rsKind r) = true) → ResIs Γ rs x vs l → ResIs Γ' rs x vs l
 | [], _, _, _, _, h => h
 | .val K :: rs, x, vs, l, n, ⟨v, vs', e, ⟨f, z, o, hv⟩, h⟩ => ⟨v, vs', e, ⟨f, z, own_indep (n _ List.mem_cons_self) o, hv⟩, resIs_indep (fun r hr => n r (List.mem_cons_of_mem _ hr)) h⟩
 | .own K :: rs, x, vs, l, n, ⟨v, vs', z, l', e, e1, e2, h⟩ => ⟨v, vs', z, l', e, e1, e2, resIs_indep (fun r hr => n r (List.mem_cons_of_mem _ hr)) h⟩
 | .ownN K :: rs, x, vs, l, n, ⟨v, vs', z, l', e, e1, e2, e3, h⟩ => ⟨v, vs', z, l', e, e1, e2, e3, resIs_indep (fun r hr => n r (List.mem_cons_of_mem _ hr)) h⟩
 | .box t K :: rs, x, vs, l, n, ⟨v, vs', b, z, l', e, e1, e2, h⟩ => ⟨v, vs', b, z, l', e, e1, e2, resIs_indep (fun r hr => n r (List.mem_cons_of_mem _ hr)) h⟩
theorem resIs_kinds {Γ : HF} : ∀ {rs : List Rs} {x : RT rs} {vs : List Value} {l : List (Nat × RC)}, (∀ r ∈ rs, noSh (rsKind r) = true) → ResIs Γ rs x vs l → ∀ y ∈ l, noSh y.2.K = true
 | [], _, _, l, _, ⟨_, e⟩, y, hy => by subst e; cases hy
 | .val K :: rs, x, vs, l, n, ⟨v, vs', e, _, h⟩, y, hy => resIs_kinds (fun r hr => n r (List.mem_cons_of_mem _ hr)) h y hy
 | .own K :: rs, x, vs, l, n, ⟨v, vs', z, l', e, e1, e2, h⟩, y, hy => by
  subst e1
  rcases List.mem_cons.1 hy with q | q
  ·subst q; exact n _ List.mem_cons_self
  ·exact resIs_kinds (fun r hr => n r (List.mem_cons_of_mem _ hr)) h y q
 | .ownN K :: rs, x, vs, l, n, ⟨v, vs', z, l', e, e1, e2, e3, h⟩, y, hy => by
  subst e1
  rcases List.mem_cons.1 hy with q | q
  ·subst q; exact n _ List.mem_cons_self
  ·exact resIs_kinds (fun r hr => n r (List.mem_cons_of_mem _ hr)) h y q
 | .box t K :: rs, x, vs, l, n, ⟨v, vs', b, z, l', e, e1, e2, h⟩, y, hy => by
  subst e1
  rcases List.mem_cons.1 hy with q | q
  ·subst q; exact n _ List.mem_cons_self
  ·exact resIs_kinds (fun r hr => n r (List.mem_cons_of_mem _ hr)) h y q
theorem back_kinds {Rl : List (Nat × RC)} : ∀ {ps : List Par} {i : Nat} {o : OT ps} {l : List (Nat × RC)}, (∀ p ∈ ps, parSh p = true) → Back Rl i ps o l → ∀ y ∈ l, noSh y.2.K = true
 | [], _, _, l, _, e, y, hy => by rw [show l = [] from e] at hy; cases hy
 | .val K :: ps, i, o, l, n, h, y, hy => back_kinds (ps := ps) (fun p hp => n p (List.mem_cons_of_mem _ hp)) h y hy
 | .own K :: ps, i, o, l, n, h, y, hy => back_kinds (ps := ps) (fun p hp => n p (List.mem_cons_of_mem _ hp)) h y hy
 | .clo f c :: ps, i, o, l, n, h, y, hy => back_kinds (ps := ps) (fun p hp => n p (List.mem_cons_of_mem _ hp)) h y hy
 | .mut K :: ps, i, o, l, n, ⟨r, z, l', _, e, _, h⟩, y, hy => by
  subst e
  rcases List.mem_cons.1 hy with q | q
  ·subst q; exact n _ List.mem_cons_self
  ·exact back_kinds (ps := ps) (fun p hp => n p (List.mem_cons_of_mem _ hp)) h y q
 | .ptr t K p :: ps, i, o, l, n, ⟨r, b, z, l', _, e, _, h⟩, y, hy => by
  subst e
  rcases List.mem_cons.1 hy with q | q
  ·subst q; exact n _ List.mem_cons_self
  ·exact back_kinds (ps := ps) (fun p hp => n p (List.mem_cons_of_mem _ hp)) h y q
 | .cap t K :: ps, i, o, l, n, ⟨r, b, z, l', _, e, _, h⟩, y, hy => by
  subst e
  rcases List.mem_cons.1 hy with q | q
  ·subst q; exact n _ List.mem_cons_self
  ·exact back_kinds (ps := ps) (fun p hp => n p (List.mem_cons_of_mem _ hp)) h y q
theorem look_filter {β : Type} {l : List (Nat × β)} (p : Nat → Bool) {n : Nat} (h : p n = true) : look (l.filter fun x => p x.1) n = look l n := by
 induction l with
 | nil => rfl
 | cons x l ih =>
  obtain ⟨j, y⟩ := x
  rw [List.filter_cons]
  split
  ·simp only [look]; split
   ·rfl
   ·exact ih
  ·rename_i hp
   simp only [look]
   rw [if_neg]
   ·exact ih
   ·intro e
    simp at e
    subst e
    exact hp h
end Go.Proofs.YtibammoednhnoaaE

