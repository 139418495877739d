/- The engine, part 4: a frame's state, told by typed values, and what it means of the frame and the world. Conditions: none. -/
import Derived.Test.YtibammoednhnoaaE3
set_option linter.unusedVariables false
set_option linter.unusedSimpArgs false
namespace Go.Proofs.YtibammoednhnoaaE
open Kd

inductive Sel where
 | fst | snd | idx (i : Nat)
 deriving Inhabited

inductive SV where
 | val (K : Kd) (x : K.T)
 | ptr (id : Nat) (p : List Sel)
 | at (id : Nat) (p : List Sel)
 | slc (id : Nat) (p : List Sel) (off len : Nat)
 | eptr (K : Kd) (x : K.T)
 | nilS | nilP
 | clo (f : Nat) (caps : List Nat)
 | bnd (f : Nat) (K : Kd) (x : K.T)
inductive AV where
 | one (v : SV)
 | tup (l : List SV)
structure Ck where
 box : Option TypeId
 K : Kd
 x : K.T
structure RC where
 box : Option (Nat × TypeId)
 K : Kd
 x : K.T
 z : K.Z
def RC.ck (r : RC) : Ck := ⟨r.box.map (·.2), r.K, r.x⟩
structure St where
 tm : List (Nat × AV)
 ck : List (Nat × Ck)

def single : Kd → Bool
 | .pair _ _ | .arr _ _ | .unit | .tree _ _ => false
 | _ => true
def toV (K : Kd) (cs : List Value) : Value := if single K then cs.getD 0 undef else .agg cs.toArray

def RC.Own (Γ : HF) (r : RC) (h : HF) : Prop :=
 match r.box with
 | some (b, t) => ∃ c h2, HF.dj (HF.one b c t) h2 ∧ h = HF.un (HF.one b c t) h2 ∧ r.K.Own Γ r.x r.z h2 ∧ c.toList = r.K.cells r.x r.z
 | none => r.K.Own Γ r.x r.z h
def Star (Γ : HF) : List (Nat × RC) → HF → Prop
 | [], h => h = HF.emp
 | r :: l, h => ∃ h1 h2, HF.dj h1 h2 ∧ h = HF.un h1 h2 ∧ r.2.Own Γ h1 ∧ Star Γ l h2

def sub : Kd → List Sel → Option Kd
 | K, [] => some K
 | .pair a _, .fst :: p => sub a p
 | .pair _ b, .snd :: p => sub b p
 | .arr _ e, .idx _ :: p => sub e p
 | .sl true _ e none, .idx _ :: p => sub e p
 | .sl true _ e (some _), [.idx _] => if e.size = 1 then some .un else none
 | _, _ :: _ => none
def thru : Kd → List Sel → Bool
 | .pair a _, .fst :: p => thru a p
 | .pair _ b, .snd :: p => thru b p
 | .arr _ e, .idx _ :: p => thru e p
 | .sl true _ _ _, .idx _ :: _ => true
 | _, _ => false
def getP : (K : Kd) → K.T → List Sel → Option ((K' : Kd) × K'.T)
 | K, x, [] => some ⟨K, x⟩
 | .pair a _, x, .fst :: p => getP a x.1 p
 | .pair _ b, x, .snd :: p => getP b x.2 p
 | .arr _ e, x, .idx i :: p => getP e (List.getD x i e.dft) p
 | .sl true _ e none, x, .idx i :: p => getP e (List.getD x i e.dft) p
 | .sl true _ e (some _), _, [.idx _] => if e.size = 1 then some ⟨.un, ()⟩ else none
 | _, _, _ :: _ => none
structure At where
 K : Kd
 x : K.T
 z : K.Z
 a : Nat × Nat
def pl : (K : Kd) → K.T → K.Z → List Sel → Nat × Nat → Option At
 | K, x, z, [], a => some ⟨K, x, z, a⟩
 | .pair k _, x, z, .fst :: p, a => pl k x.1 z.1 p a
 | .pair k b, x, z, .snd :: p, a => pl b x.2 z.2 p (a.1, a.2 + k.size)
 | .arr n e, x, z, .idx i :: p, a => if i < n then pl e (List.getD x i e.dft) (z i) p (a.1, a.2 + i * e.size) else none
 | .sl true _ e none, x, z, .idx i :: p, _ =>
  match z.1 with
  | some (b, o, _) => if i < List.length x then pl e (List.getD x i e.dft) (z.2 i) p (b, o + i * e.size) else none
  | none => none
 | .sl true _ e (some _), x, z, [.idx i], _ =>
  match z.1 with
  | some (b, o, _) => if i < List.length x ∧ e.size = 1 then some ⟨.un, (), (e.cells (List.getD x i e.dft) (z.2 i)).getD 0 undef, (b, o + i * e.size)⟩ else none
  | none => none
 | _, _, _, _ :: _, _ => none

def look {α : Type} : List (Nat × α) → Nat → Option α
 | [], _ => none
 | (k, v) :: l, n => if k == n then some v else look l n
def del {α : Type} (l : List (Nat × α)) (n : Nat) : List (Nat × α) := l.filter fun x => x.1 != n
theorem look_mem {α : Type} {l : List (Nat × α)} {n : Nat} {v : α} (h : look l n = some v) : (n, v) ∈ l := by
 induction l with
 | nil => cases h
 | cons a l ih =>
  obtain ⟨k, u⟩ := a
  simp only [look] at h
  split at h
  ·rename_i e
   simp at e h
   subst e; subst h
   exact List.mem_cons_self
  ·exact List.mem_cons_of_mem _ (ih h)

def SV.is (Γ : HF) (rcs : List (Nat × RC)) (v : Value) : SV → Prop
 | .val K x => K.free = true ∧ ∃ z, K.Own Γ x z HF.emp ∧ v = toV K (K.cells x z)
 | .ptr id p => ∃ r q, look rcs id = some r ∧ pl r.K r.x r.z p ((r.box.getD (0, 0)).1, 0) = some q ∧ (r.box = none → thru r.K p = true) ∧ v = .pointer (some ⟨q.a.1, q.a.2, none⟩)
 | .at id p => ∃ r q, look rcs id = some r ∧ pl r.K r.x r.z p ((r.box.getD (0, 0)).1, 0) = some q ∧ v = toV q.K (q.K.cells q.x q.z)
 | .slc id p off len => ∃ r t e hole x' z' a, look rcs id = some r ∧ pl r.K r.x r.z p ((r.box.getD (0, 0)).1, 0) = some ⟨.sl true t e hole, x', z', a⟩ ∧ off + len ≤ List.length x' ∧
   ((len = 0 ∧ (v = .slice none 0 0 ∨ ∃ b o cap off2 cap2, z'.1 = some (b, o, cap) ∧ v = .slice (some ⟨b, off2, none⟩) 0 cap2 ∧ cap2 ≤ cap ∧ off2 + cap2 * e.size ≤ o + cap * e.size)) ∨ ∃ b o cap, z'.1 = some (b, o, cap) ∧ v = .slice (some ⟨b, o + off * e.size, none⟩) len (cap - off))
 | .eptr K x => K.free = true ∧ ∃ z b o c t, K.Own Γ x z HF.emp ∧ Γ b = some (.cel c t) ∧ Lie c o (K.cells x z) ∧ v = .pointer (some ⟨b, o, none⟩)
 | .nilS => v = .slice none 0 0
 | .nilP => v = .pointer none
 | .bnd f K x => K.free = true ∧ ∃ z, K.Own HF.emp x z HF.emp ∧ v = .func (.func f) #[toV K (K.cells x z)] #[]
 | .clo f caps => ∃ vs : List Value, v = .func (.func f) #[] vs.toArray ∧ vs.length = caps.length ∧ ∀ (i id : Nat), caps[i]? = some id → ∃ r b t, look rcs id = some r ∧ r.box = some (b, t) ∧ vs[i]? = some (.pointer (some ⟨b, 0, none⟩))
def AV.is (Γ : HF) (rcs : List (Nat × RC)) (v : Value) : AV → Prop
 | .one s => s.is Γ rcs v
 | .tup l => ∃ vs : List Value, v = .tuple vs.toArray ∧ vs.length = l.length ∧ ∀ (i : Nat) (s : SV), l[i]? = some s → ∃ u, vs[i]? = some u ∧ s.is Γ rcs u

structure Ent where
 id : Option Nat
 b : Nat
 ob : Option Obj
structure Lim where
 n : Nat
 lo : Nat
 nb : Bool
 hz : Bool
 fz : List Nat
 kd : List (Nat × Kd)
structure Fr where
 w0 : World
 lent : HF
 Γ0 : HF
 n : Lim
 B : List Ent
 M : List (Nat × Value)
 /-- Read, and never written again. -/
 G : List (Nat × Array Value × TypeId)
 hM : ∀ m ∈ M, (m.1 < n.lo ∨ n.n ≤ m.1) ∧ m.1 < 1000000
def Ent.ok (e : Ent) (w : World) (rcs : List (Nat × RC)) : Prop := (w.heap[e.b]? = e.ob ∧ e.b < w.heap.size) ∧ ∀ id, e.id = some id → ∃ r t, look rcs id = some r ∧ r.box = some (e.b, t)
def RC.head (r : RC) : Value := match r.box with
 | some (b, _) => .pointer (some ⟨b, 0, none⟩)
 | none => toV r.K (r.K.cells r.x r.z)

structure Good (F : Fr) (s : St) (a : Act) (w : World) (Γ : HF) (rcs : List (Nat × RC)) (h : HF) : Prop where
 ck : rcs.map (fun r => (r.1, r.2.ck)) = s.ck
 nodup : (rcs.map (·.1)).Nodup
 star : Star Γ rcs h
 mem : Mem h w
 memR : MemR Γ w
 dj : HF.dj Γ h
 defers : a.defers = []
 tsz : a.tmps.size = F.n.n
 tm : ∀ t av, (t, av) ∈ s.tm → ∃ v, a.tmps[t]? = some v ∧ av.is Γ rcs v
 size : F.w0.heap.size ≤ w.heap.size
 keep : ∀ b, b < F.w0.heap.size → ¬ F.lent.has b → w.heap[b]? = F.w0.heap[b]?
 own : ∀ b, h.has b → F.lent.has b ∨ F.w0.heap.size ≤ b
 ro : ∀ b, Γ.has b → F.Γ0.has b ∨ F.lent.has b ∨ F.w0.heap.size ≤ b
 ro0 : ∀ b x, F.Γ0 b = some x → Γ b = some x
 os : w.os = F.w0.os
 tape : w.tape = F.w0.tape
 output : w.output = F.w0.output
 sg : ∀ x ∈ F.G, Γ x.1 = some (.cel x.2.1 x.2.2)
 bx : ∀ e ∈ F.B, e.ok w rcs
 md : ∀ m ∈ F.M, ∀ r, look rcs m.1 = some r → r.head = m.2
def R (F : Fr) (s : St) (a : Act) (w : World) : Prop := ∃ Γ rcs h, Good F s a w Γ rcs h

theorem Mem.drew {h : HF} {w : World} (m : Mem h w) : Mem h w.drew := m
theorem Good.drew {F : Fr} {s : St} {a : Act} {w : World} {Γ : HF} {rcs : List (Nat × RC)} {h : HF} (g : Good F s a w Γ rcs h) : Good F s a w.drew Γ rcs h :=
 ⟨g.ck, g.nodup, g.star, g.mem, g.memR, g.dj, g.defers, g.tsz, g.tm, g.size, g.keep, g.own, g.ro, g.ro0, g.os, g.tape, g.output, g.sg, g.bx, g.md⟩
theorem R.drew {F : Fr} {s : St} {a : Act} {w : World} (r : R F s a w) : R F s a w.drew := let ⟨Γ, rcs, h, g⟩ := r; ⟨Γ, rcs, h, g.drew⟩

theorem Good.put {F : Fr} {s : St} {a : Act} {w : World} {Γ : HF} {rcs : List (Nat × RC)} {h : HF} (g : Good F s a w Γ rcs h) {d : Nat} (hd : d < F.n.n) {v : Value} {av : AV} (hv : av.is Γ rcs v) :
  Good F ⟨(d, av) :: del s.tm d, s.ck⟩ (a.put (some d) v) w Γ rcs h :=
 ⟨g.ck, g.nodup, g.star, g.mem, g.memR, g.dj, g.defers, by simp [Act.put, g.tsz], fun t av' hm => by
  rcases List.mem_cons.1 hm with e | e
  ·injection e with e1 e2
   subst e1; subst e2
   exact ⟨v, by simp [Act.put, g.tsz, hd], hv⟩
  ·obtain ⟨e1, e2⟩ := List.mem_filter.1 e
   simp at e2
   obtain ⟨u, hu, hi⟩ := g.tm t av' e1
   exact ⟨u, by simp only [Act.put]; rw [Array.getElem?_setIfInBounds_ne (Ne.symm e2)]; exact hu, hi⟩, g.size, g.keep, g.own, g.ro, g.ro0, g.os, g.tape, g.output, g.sg, g.bx, g.md⟩
theorem Good.forget {F : Fr} {s : St} {a : Act} {w : World} {Γ : HF} {rcs : List (Nat × RC)} {h : HF} (g : Good F s a w Γ rcs h) (d : Nat) (v : Value) :
  Good F ⟨del s.tm d, s.ck⟩ (a.put (some d) v) w Γ rcs h :=
 ⟨g.ck, g.nodup, g.star, g.mem, g.memR, g.dj, g.defers, by simp [Act.put, g.tsz], fun t av' hm => by
  obtain ⟨e1, e2⟩ := List.mem_filter.1 hm
  simp at e2
  obtain ⟨u, hu, hi⟩ := g.tm t av' e1
  exact ⟨u, by simp only [Act.put]; rw [Array.getElem?_setIfInBounds_ne (Ne.symm e2)]; exact hu, hi⟩, g.size, g.keep, g.own, g.ro, g.ro0, g.os, g.tape, g.output, g.sg, g.bx, g.md⟩
end Go.Proofs.YtibammoednhnoaaE

