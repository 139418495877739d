/- The engine, part 27: how a function ends. Conditions: none. -/
import Derived.Test.YtibammoednhnoaaE26
set_option linter.unusedVariables false
set_option linter.unusedSimpArgs false
namespace Go.Proofs.YtibammoednhnoaaE
open Kd
variable {α : Type}

def nilK : (K : Kd) → Option K.T
 | .sl _ _ _ none => some []
 | .tl _ _ => some []
 | _ => none
theorem nilK_own {Γ : HF} {K : Kd} {x : K.T} (h : nilK K = some x) : K.Own Γ x K.zd HF.emp ∧ K.cells x K.zd = [.slice none 0 0] ∧ single K = true ∧ nilOK K x (.slice none 0 0) := by
 cases K with
 | sl o t e hole =>
  cases hole with
  | none =>
   simp only [nilK, Option.some.injEq] at h
   subst h
   exact ⟨⟨rfl, rfl⟩, rfl, rfl, fun _ => rfl⟩
  | some j => cases h
 | tl t e =>
  simp only [nilK, Option.some.injEq] at h
  subst h
  exact ⟨⟨rfl, rfl⟩, rfl, rfl, trivial⟩
 | _ => cases h
def nonNilB : (K : Kd) → K.T → Bool
 | .sl _ _ _ _, x => !(List.isEmpty x)
 | _, _ => true
theorem nonNilB_ok {K : Kd} {x : K.T} {v : Value} (h : nonNilB K x = true) : nilOK K x v := by
 cases K with
 | sl o t e hole =>
  intro hx
  have hx' : x = [] := hx
  subst hx'
  cases h
 | _ => trivial
def ckAt (s : St) (id : Nat) (b : Option TypeId) (K : Kd) : Option K.T := match look s.ck id with
 | some ⟨b', K', x⟩ => if h : b' = b ∧ K' = K then some (castK h.2 x) else none
 | none => none
theorem ckAt_look {s : St} {id : Nat} {b : Option TypeId} {K : Kd} {x : K.T} (h : ckAt s id b K = some x) : look s.ck id = some ⟨b, K, x⟩ := by
 unfold ckAt at h
 split at h
 ·rename_i b' K' x' hl
  split at h
  ·rename_i hh
   obtain ⟨rfl, rfl⟩ := hh
   injection h with h
   rw [hl, ← h]
   rfl
  ·cases h
 ·cases h
def retT (P : Program) : List ResultVar → (rs : List Rs) → St → (RT rs → St → Tr α) → Tr α
 | [], [], s, k => k () s
 | .tmp t :: vs, .val K :: rs, s, k => match look s.tm t with
  | some (.one (.val K' x)) => if h : K' = K then retT P vs rs s fun r s' => k (castK h x, r) s' else .bad
  | some (.one .nilS) => match nilK K with
   | some x => if K.free then retT P vs rs s fun r s' => k (x, r) s' else .bad
   | none => .bad
  | _ => .bad
 | .tmp t :: vs, .own K :: rs, s, k => match look s.tm t with
  | some (.one (.at id [])) => match ckAt s id none K with
   | some x => retT P vs rs (dropC s id) fun r s' => k (x, r) s'
   | none => .bad
  | some (.one .nilS) => match nilK K with
   | some x => retT P vs rs s fun r s' => k (x, r) s'
   | none => .bad
  | _ => .bad
 | .tmp t :: vs, .ownN K :: rs, s, k => match look s.tm t with
  | some (.one (.at id [])) => match ckAt s id none K with
   | some x => .need (nonNilB K x = true) (retT P vs rs (dropC s id) fun r s' => k (x, r) s')
   | none => .bad
  | some (.one .nilS) => match nilK K with
   | some x => retT P vs rs s fun r s' => k (x, r) s'
   | none => .bad
  | _ => .bad
 | .tmp t :: vs, .box ty K :: rs, s, k => match look s.tm t with
  | some (.one (.ptr id [])) => match ckAt s id (some ty) K with
   | some x => retT P vs rs (dropC s id) fun r s' => k (x, r) s'
   | none => .bad
  | _ => .bad
 | .cell a ty :: vs, .val K :: rs, s, k => match look s.tm a with
  | some (.one (.ptr id [])) => match ckAt s id (some ty) K with
   | some x => if K.free && noUn K && decide (varT P ty = some (single K, K.size)) then retT P vs rs s fun r s' => k (x, r) s' else .bad
   | none => .bad
  | _ => .bad
 | .cell a ty :: vs, .own K :: rs, s, k => match look s.tm a with
  | some (.one (.ptr id [])) => match ckAt s id (some ty) K with
   | some x => if noUn K && decide (varT P ty = some (single K, K.size)) then retT P vs rs (dropC s id) fun r s' => k (x, r) s' else .bad
   | none => .bad
  | _ => .bad
 | _, _, _, _ => .bad
theorem run_loadVarT {P : Program} {t : TypeId} {w : World} {b o : Nat} {K : Kd} {cs : List Value} (hv : varT P t = some (single K, K.size)) (hl : cs.length = K.size) (h1 : single K = true → K.size = 1) (hr : w.rangeAt b o cs) :
  (loadVar t ⟨b, o, none⟩).run P w = .ok (toV K cs) w := by
 have := run_loadT (P := P) hv hl h1 hr
 simpa [Instr.loadAt, Instr.sureAddr] using this
def resV (tmps : Array Value) : ResultVar → Sem Value
 | .tmp t => pure (tmps.getD t undef)
 | .cell a t => do loadVar t (← asAddr (tmps.getD a undef))
theorem Sub.take {F : Fr} {s : St} {a : Act} {Γ : HF} {rcs : List (Nat × RC)} {h : HF} (u : Sub F s a Γ rcs h) {id : Nat} {b : Option TypeId} {K : Kd} {x : K.T} (hl : look s.ck id = some ⟨b, K, x⟩) :
  ∃ (bb : Option (Nat × TypeId)) (z : K.Z) (h1 hr : HF), bb.map (·.2) = b ∧ look rcs id = some ⟨bb, K, x, z⟩ ∧ HF.dj h1 hr ∧ h = h1.un hr ∧ (⟨bb, K, x, z⟩ : RC).Own Γ h1 ∧ Sub F (dropC s id) a Γ (del rcs id) hr := by
 rw [u.ck, look_map] at hl
 cases hr : look rcs id with
 | none => rw [hr] at hl; cases hl
 | some r =>
  rw [hr] at hl
  simp only [Option.map_some, Option.some.injEq, RC.ck, Ck.mk.injEq] at hl
  obtain ⟨rb, rK, rx, rz⟩ := r
  simp only at hl
  obtain ⟨hb, rfl, hx⟩ := hl
  obtain rfl := eq_of_heq hx
  obtain ⟨h1, hR, d, e, o, _, dl⟩ := star_upd u.st hr u.nd
  refine ⟨rb, rz, h1, hR, hb, rfl, d, e, o, ?_, del_nodup u.nd id, dl, ?_⟩
  ·show del s.ck id = _
   rw [u.ck]
   simp only [del, List.filter_map]
   rfl
  ·intro y hy
   obtain ⟨e1, e2⟩ := List.mem_filter.1 hy
   obtain ⟨v, hv, hi⟩ := u.tm y e1
   exact ⟨v, hv, offA_is e2 hi⟩
theorem Sub.tmIs {F : Fr} {s : St} {a : Act} {Γ : HF} {rcs : List (Nat × RC)} {h : HF} (u : Sub F s a Γ rcs h) {t : Nat} {sv : SV} (hl : look s.tm t = some (.one sv)) : a.tmps.getD t undef = a.tmps.getD t undef ∧ sv.is Γ rcs (a.tmps.getD t undef) := by
 obtain ⟨v, hv, hi⟩ := u.tm _ (look_mem hl)
 have : a.tmps.getD t undef = v := by
  have hv' : a.tmps[t]? = some v := hv
  rw [Array.getD_eq_getD_getElem?, hv']; rfl
 rw [this]
 exact ⟨rfl, hi⟩
theorem retT_ok {P : Program} {F : Fr} {a : Act} {w : World} {Γ : HF} {rcs : List (Nat × RC)} {Kp : α → Prop} : ∀ (vs : List ResultVar) (rs : List Rs) (s : St) (rcs1 : List (Nat × RC)) (h1 : HF) {k : RT rs → St → Tr α},
  Sub F s a Γ rcs1 h1 → Mem h1 w → (∀ n r, look rcs1 n = some r → look rcs n = some r) → (retT P vs rs s k).sat Kp →
  ∃ (r : RT rs) (s' : St) (rcs' : List (Nat × RC)) (h' hR : HF) (us : List Value) (lR : List (Nat × RC)), (vs.mapM (resV a.tmps)).run P w = .ok us w ∧ ResIs Γ rs r us lR ∧ Star Γ lR hR ∧ HF.dj hR h' ∧ (∀ b v, (hR.un h') b = some v → h1 b = some v) ∧
   Sub F s' a Γ rcs' h' ∧ (∀ n r, look rcs' n = some r → look rcs n = some r) ∧ (k r s').sat Kp := by
 intro vs
 induction vs with
 | nil =>
  intro rs s rcs1 h1 k u m hL hs
  cases rs with
  | nil => exact ⟨(), s, rcs1, h1, HF.emp, [], [], rfl, ⟨rfl, rfl⟩, rfl, HF.emp_dj _, by rw [HF.emp_un]; exact fun _ _ e => e, u, hL, hs⟩
  | cons r rs => exact hs.elim
 | cons v vs ih =>
  intro rs s rcs1 h1 k u m hL hs
  have cons_run : ∀ {v0 : Value} {us : List Value}, (resV a.tmps v).run P w = .ok v0 w → (vs.mapM (resV a.tmps)).run P w = .ok us w → ((v :: vs).mapM (resV a.tmps)).run P w = .ok (v0 :: us) w := by
   intro v0 us e1 e2
   simp [List.mapM_cons, e1, e2, Sem.run_bind, Sem.run_pure]
  cases rs with
  | nil => cases v <;> exact hs.elim
  | cons r rs =>
   -- a chunk is handed over
   have give : ∀ (v0 : Value) (id : Nat) (b : Option TypeId) (K : Kd) (x : K.T), look s.ck id = some ⟨b, K, x⟩ → (resV a.tmps v).run P w = .ok v0 w → ∀ (k' : RT rs → St → Tr α), (retT P vs rs (dropC s id) k').sat Kp →
     ∃ (bb : Option (Nat × TypeId)) (z : K.Z) (h2 : HF) (q : RT rs) (s' : St) (rcs' : List (Nat × RC)) (h' hR : HF) (us : List Value) (lR : List (Nat × RC)), bb.map (·.2) = b ∧ look rcs1 id = some ⟨bb, K, x, z⟩ ∧ (⟨bb, K, x, z⟩ : RC).Own Γ h2 ∧ ((v :: vs).mapM (resV a.tmps)).run P w = .ok (v0 :: us) w ∧
      ResIs Γ rs q us lR ∧ Star Γ lR hR ∧ HF.dj hR h' ∧ HF.dj h2 (hR.un h') ∧ (∀ b v, (h2.un (hR.un h')) b = some v → h1 b = some v) ∧ Sub F s' a Γ rcs' h' ∧ (∀ n r, look rcs' n = some r → look rcs n = some r) ∧ (k' q s').sat Kp := by
    intro v0 id b K x hck hrun k' hs'
    obtain ⟨bb, z, h2, hr, e1, e2, d, e3, o, u2⟩ := u.take hck
    subst e3
    have m2 := ((Mem.un d).1 m).2
    obtain ⟨q, s', rcs', h', hR, us, lR, f1, f2, f3, f4, f5, f6, f7, f8⟩ := ih rs (dropC s id) (del rcs1 id) hr u2 m2 (fun n r e => hL n r (del_look rcs1 id n r e)) hs'
    refine ⟨bb, z, h2, q, s', rcs', h', hR, us, lR, e1, e2, o, cons_run hrun f1, f2, f3, f4, ?_, ?_, f6, f7, f8⟩
    ·exact HF.dj_iff.2 fun b hb hx => HF.dj_iff.1 d b hb (has_sub f5 b hx)
    ·exact un_mono d (fun _ _ e => e) f5
   have keepv : ∀ (v0 : Value), (resV a.tmps v).run P w = .ok v0 w → ∀ (k' : RT rs → St → Tr α), (retT P vs rs s k').sat Kp →
     ∃ (q : RT rs) (s' : St) (rcs' : List (Nat × RC)) (h' hR : HF) (us : List Value) (lR : List (Nat × RC)), ((v :: vs).mapM (resV a.tmps)).run P w = .ok (v0 :: us) w ∧
      ResIs Γ rs q us lR ∧ Star Γ lR hR ∧ HF.dj hR h' ∧ (∀ b v, (hR.un h') b = some v → h1 b = some v) ∧ Sub F s' a Γ rcs' h' ∧ (∀ n r, look rcs' n = some r → look rcs n = some r) ∧ (k' q s').sat Kp := by
    intro v0 hrun k' hs'
    obtain ⟨q, s', rcs', h', hR, us, lR, f1, f2, f3, f4, f5, f6, f7, f8⟩ := ih rs s rcs1 h1 u m hL hs'
    exact ⟨q, s', rcs', h', hR, us, lR, cons_run hrun f1, f2, f3, f4, f5, f6, f7, f8⟩
   have cons_star : ∀ {lR : List (Nat × RC)} {hR h2 h' : HF} {rc : RC}, Star Γ lR hR → HF.dj h2 (hR.un h') → HF.dj hR h' → rc.Own Γ h2 → Star Γ ((0, rc) :: lR) (h2.un hR) ∧ HF.dj (h2.un hR) h' := by
    intro lR hR h2 h' rc st d2 d3 o
    obtain ⟨d4, d5⟩ := HF.dj_un.1 d2
    exact ⟨⟨h2, hR, d4, rfl, o, st⟩, HF.un_dj.2 ⟨d5, d3⟩⟩
   cases v with
   | tmp t =>
    have hrun : ∀ w', (resV a.tmps (.tmp t)).run P w' = .ok (a.tmps.getD t undef) w' := fun w' => rfl
    cases r with
    | val K =>
     simp only [retT] at hs
     split at hs
     ·rename_i K' x hl
      split at hs
      ·rename_i hK
       subst hK
       obtain ⟨_, hi⟩ := u.tmIs hl
       obtain ⟨q, s', rcs', h', hR, us, lR, f1, f2, f3, f4, f5, f6, f7, f8⟩ := keepv _ (hrun w) _ hs
       exact ⟨(castK rfl x, q), s', rcs', h', hR, _, lR, f1, ⟨_, us, rfl, hi, f2⟩, f3, f4, f5, f6, f7, f8⟩
      ·exact hs.elim
     ·rename_i hl
      split at hs
      ·rename_i x hx
       split at hs
       ·rename_i hf
        obtain ⟨_, hi⟩ := u.tmIs hl
        obtain ⟨n1, n2, n3, _⟩ := nilK_own (Γ := Γ) hx
        obtain ⟨q, s', rcs', h', hR, us, lR, f1, f2, f3, f4, f5, f6, f7, f8⟩ := keepv _ (hrun w) _ hs
        refine ⟨(x, q), s', rcs', h', hR, _, lR, f1, ⟨_, us, rfl, ⟨hf, K.zd, n1, ?_⟩, f2⟩, f3, f4, f5, f6, f7, f8⟩
        rw [n2]
        simp only [toV, n3, if_true, List.getD_cons_zero]
        exact hi
       ·exact hs.elim
      ·exact hs.elim
     ·exact hs.elim
    | own K =>
     simp only [retT] at hs
     split at hs
     ·rename_i id hl
      split at hs
      ·rename_i x hx
       have hck := ckAt_look hx
       obtain ⟨_, r0, q0, hr0, hp, hv⟩ := u.tmIs hl
       obtain ⟨bb, z, h2, q, s', rcs', h', hR, us, lR, e1, e2, o, f1, f2, f3, f4, d2, f5, f6, f7, f8⟩ := give _ id none K x hck (hrun w) _ hs
       cases bb with
       | some bt => cases e1
       | none =>
        rw [e2] at hr0
        injection hr0 with hr0
        subst hr0
        simp only [pl, Option.some.injEq] at hp
        subst hp
        obtain ⟨g1, g2⟩ := cons_star f3 d2 f4 o
        exact ⟨(x, q), s', rcs', h', h2.un hR, _, _, f1, ⟨_, us, z, lR, rfl, rfl, hv, f2⟩, g1, g2, by rw [HF.un_assoc]; exact f5, f6, f7, f8⟩
      ·exact hs.elim
     ·rename_i hl
      split at hs
      ·rename_i x hx
       obtain ⟨_, hi⟩ := u.tmIs hl
       obtain ⟨n1, n2, n3, _⟩ := nilK_own (Γ := Γ) hx
       obtain ⟨q, s', rcs', h', hR, us, lR, f1, f2, f3, f4, f5, f6, f7, f8⟩ := keepv _ (hrun w) _ hs
       refine ⟨(x, q), s', rcs', h', hR, _, (0, ⟨none, K, x, K.zd⟩) :: lR, f1, ⟨_, us, K.zd, lR, rfl, rfl, ?_, f2⟩, ⟨HF.emp, hR, HF.emp_dj _, (HF.emp_un _).symm, by simpa only [RC.Own] using n1, f3⟩, f4, f5, f6, f7, f8⟩
       rw [n2]
       simp only [toV, n3, if_true, List.getD_cons_zero]
       exact hi
      ·exact hs.elim
     ·exact hs.elim
    | ownN K =>
     simp only [retT] at hs
     split at hs
     ·rename_i id hl
      split at hs
      ·rename_i x hx
       obtain ⟨hnn, hs⟩ := hs
       have hck := ckAt_look hx
       obtain ⟨_, r0, q0, hr0, hp, hv⟩ := u.tmIs hl
       obtain ⟨bb, z, h2, q, s', rcs', h', hR, us, lR, e1, e2, o, f1, f2, f3, f4, d2, f5, f6, f7, f8⟩ := give _ id none K x hck (hrun w) _ hs
       cases bb with
       | some bt => cases e1
       | none =>
        rw [e2] at hr0
        injection hr0 with hr0
        subst hr0
        simp only [pl, Option.some.injEq] at hp
        subst hp
        obtain ⟨g1, g2⟩ := cons_star f3 d2 f4 o
        exact ⟨(x, q), s', rcs', h', h2.un hR, _, _, f1, ⟨_, us, z, lR, rfl, rfl, hv, nonNilB_ok hnn, f2⟩, g1, g2, by rw [HF.un_assoc]; exact f5, f6, f7, f8⟩
      ·exact hs.elim
     ·rename_i hl
      split at hs
      ·rename_i x hx
       obtain ⟨_, hi⟩ := u.tmIs hl
       obtain ⟨n1, n2, n3, n4⟩ := nilK_own (Γ := Γ) hx
       have hi' : a.tmps.getD t undef = .slice none 0 0 := hi
       obtain ⟨q, s', rcs', h', hR, us, lR, f1, f2, f3, f4, f5, f6, f7, f8⟩ := keepv _ (hrun w) _ hs
       refine ⟨(x, q), s', rcs', h', hR, _, (0, ⟨none, K, x, K.zd⟩) :: lR, f1, ⟨_, us, K.zd, lR, rfl, rfl, ?_, by rw [hi']; exact n4, f2⟩, ⟨HF.emp, hR, HF.emp_dj _, (HF.emp_un _).symm, by simpa only [RC.Own] using n1, f3⟩, f4, f5, f6, f7, f8⟩
       rw [n2]
       simp only [toV, n3, if_true, List.getD_cons_zero]
       exact hi
      ·exact hs.elim
     ·exact hs.elim
    | box ty K =>
     simp only [retT] at hs
     split at hs
     ·rename_i id hl
      split at hs
      ·rename_i x hx
       have hck := ckAt_look hx
       obtain ⟨_, r0, q0, hr0, hp, _, hv⟩ := u.tmIs hl
       obtain ⟨bb, z, h2, q, s', rcs', h', hR, us, lR, e1, e2, o, f1, f2, f3, f4, d2, f5, f6, f7, f8⟩ := give _ id (some ty) K x hck (hrun w) _ hs
       cases bb with
       | none => cases e1
       | some bt =>
        obtain ⟨b, t'⟩ := bt
        simp only [Option.map_some, Option.some.injEq] at e1
        subst e1
        rw [e2] at hr0
        injection hr0 with hr0
        subst hr0
        simp only [pl, Option.some.injEq] at hp
        subst hp
        obtain ⟨g1, g2⟩ := cons_star f3 d2 f4 o
        exact ⟨(x, q), s', rcs', h', h2.un hR, _, _, f1, ⟨_, us, b, z, lR, rfl, rfl, hv, f2⟩, g1, g2, by rw [HF.un_assoc]; exact f5, f6, f7, f8⟩
      ·exact hs.elim
     ·exact hs.elim
   | cell c ty =>
    -- the variable's content
    have load : ∀ (id : Nat) (K : Kd) (x : K.T), look s.tm c = some (.one (.ptr id [])) → look s.ck id = some ⟨some ty, K, x⟩ → varT P ty = some (single K, K.size) →
      ∃ b z, look rcs1 id = some ⟨some (b, ty), K, x, z⟩ ∧ (resV a.tmps (.cell c ty)).run P w = .ok (toV K (K.cells x z)) w := by
     intro id K x hl hck hv
     obtain ⟨_, r0, q0, hr0, hp, _, hvv⟩ := u.tmIs hl
     obtain ⟨bb, z, h2, hr, e1, e2, d, e3, o, _⟩ := u.take hck
     cases bb with
     | none => cases e1
     | some bt =>
      obtain ⟨b, t'⟩ := bt
      simp only [Option.map_some, Option.some.injEq] at e1
      subst e1
      rw [e2] at hr0
      injection hr0 with hr0
      subst hr0
      simp only [pl, Option.some.injEq] at hp
      subst hp
      refine ⟨b, z, e2, ?_⟩
      obtain ⟨c0, h3, d3, e4, o3, hlc⟩ := o
      have m2 : Mem (HF.one b c0 t') w := by
       subst e3
       have := ((Mem.un d).1 m).1
       rw [e4] at this
       exact ((Mem.un d3).1 this).1
      obtain ⟨lo, hi, hw, _⟩ := Mem.one.1 m2
      have hrange : w.rangeAt b 0 (K.cells x z) := range_of hw fun j hj => by rw [← hlc]; simp
      simp only [resV, Sem.run_bind, hvv, asAddr]
      simp [run_loadVarT hv (cells_length K x z) (single_size K) hrange]
    cases r with
    | val K =>
     simp only [retT] at hs
     split at hs
     ·rename_i id hl
      split at hs
      ·rename_i x hx
       split at hs
       ·rename_i hc
        simp only [Bool.and_eq_true, decide_eq_true_eq] at hc
        obtain ⟨⟨hf, hnu⟩, hv⟩ := hc
        obtain ⟨b, z, e2, hrun⟩ := load id K x hl (ckAt_look hx) hv
        obtain ⟨h2, hr, d, e3, o⟩ := star_take u.st e2
        obtain ⟨h3, _, o3⟩ := rc_own o
        have := own_free hf o3
        subst this
        obtain ⟨q, s', rcs', h', hR, us, lR, f1, f2, f3, f4, f5, f6, f7, f8⟩ := keepv _ hrun _ hs
        exact ⟨(x, q), s', rcs', h', hR, _, lR, f1, ⟨_, us, rfl, ⟨hf, z, o3, rfl⟩, f2⟩, f3, f4, f5, f6, f7, f8⟩
       ·exact hs.elim
      ·exact hs.elim
     ·exact hs.elim
    | own K =>
     simp only [retT] at hs
     split at hs
     ·rename_i id hl
      split at hs
      ·rename_i x hx
       split at hs
       ·rename_i hc
        simp only [Bool.and_eq_true, decide_eq_true_eq] at hc
        obtain ⟨hnu, hv⟩ := hc
        obtain ⟨b, z, e2, hrun⟩ := load id K x hl (ckAt_look hx) hv
        obtain ⟨bb, z2, h2, q, s', rcs', h', hR, us, lR, e1, e2', o, f1, f2, f3, f4, d2, f5, f6, f7, f8⟩ := give _ id (some ty) K x (ckAt_look hx) hrun _ hs
        rw [e2] at e2'
        injection e2' with e2'
        simp only [RC.mk.injEq, true_and, heq_eq_eq] at e2'
        obtain ⟨rfl, rfl⟩ := e2'
        obtain ⟨c0, h3, d3, rfl, o3, hlc⟩ := o
        obtain ⟨d6, d7⟩ := HF.un_dj.1 d2
        obtain ⟨g1, g2⟩ := cons_star (rc := ⟨none, K, x, z⟩) f3 d7 f4 (by simpa only [RC.Own] using o3)
        refine ⟨(x, q), s', rcs', h', h3.un hR, _, _, f1, ⟨_, us, z, lR, rfl, rfl, rfl, f2⟩, g1, g2, ?_, f6, f7, f8⟩
        rw [HF.un_assoc]
        intro b' v' e
        refine f5 b' v' ?_
        rw [HF.un_assoc]
        refine un_right (HF.dj_un.2 ⟨d3, d6⟩) e
       ·exact hs.elim
      ·exact hs.elim
     ·exact hs.elim
    | ownN K => exact hs.elim
    | box ty' K => exact hs.elim

def outsT : Nat → (ps : List Par) → St → (OT ps → Tr α) → Tr α
 | _, [], _, k => k ()
 | i, .val _ :: ps, s, k => outsT (i + 1) ps s k
 | i, .own _ :: ps, s, k => outsT (i + 1) ps s k
 | i, .clo _ _ :: ps, s, k => outsT (i + 1) ps s k
 | i, .mut K :: ps, s, k => match ckAt s i none K with
  | some x => outsT (i + 1) ps (dropC s i) fun o => k (x, o)
  | none => .bad
 | i, .ptr t K p :: ps, s, k => match ckAt s i (some t) K with
  | some x => outsT (i + 1) ps (dropC s i) fun o => k (x, o)
  | none => .bad
 | i, .cap t K :: ps, s, k => match ckAt s i (some t) K with
  | some x => outsT (i + 1) ps (dropC s i) fun o => k (x, o)
  | none => .bad
theorem outsT_ok {F : Fr} {a : Act} {Γ : HF} {Rl rcs : List (Nat × RC)} {Kp : α → Prop} (hM : ∀ m ∈ F.M, ∀ r, look rcs m.1 = some r → r.head = m.2) (hMR : ∀ i r, look Rl i = some r → (i, r.head) ∈ F.M) :
  ∀ (i : Nat) (ps : List Par) (s : St) (rcs1 : List (Nat × RC)) (h1 : HF) {k : OT ps → Tr α}, (∀ j, i ≤ j → j < i + ps.length → ∀ p, ps[j - i]? = some p → (match p with | .mut _ | .ptr _ _ _ | .cap _ _ => ∃ r, look Rl j = some r | _ => True)) →
  Sub F s a Γ rcs1 h1 → (∀ n r, look rcs1 n = some r → look rcs n = some r) → (outsT i ps s k).sat Kp →
  ∃ (o : OT ps) (lO : List (Nat × RC)) (hO : HF), Back Rl i ps o lO ∧ Star Γ lO hO ∧ (∀ b v, hO b = some v → h1 b = some v) ∧ (k o).sat Kp
 | i, [], s, rcs1, h1, k, hR, u, hL, hs => ⟨(), [], HF.emp, rfl, rfl, fun b v e => by simp [HF.emp] at e, hs⟩
 | i, .val K :: ps, s, rcs1, h1, k, hR, u, hL, hs => outsT_ok hM hMR (i + 1) ps s rcs1 h1 (fun j h1 h2 p hp => hR j (by omega) (by simp; omega) p (by rw [show j - i = (j - (i + 1)) + 1 by omega]; simpa using hp)) u hL hs
 | i, .own K :: ps, s, rcs1, h1, k, hR, u, hL, hs => outsT_ok hM hMR (i + 1) ps s rcs1 h1 (fun j h1 h2 p hp => hR j (by omega) (by simp; omega) p (by rw [show j - i = (j - (i + 1)) + 1 by omega]; simpa using hp)) u hL hs
 | i, .clo f c :: ps, s, rcs1, h1, k, hR, u, hL, hs => outsT_ok hM hMR (i + 1) ps s rcs1 h1 (fun j h1 h2 p hp => hR j (by omega) (by simp; omega) p (by rw [show j - i = (j - (i + 1)) + 1 by omega]; simpa using hp)) u hL hs
 | i, .mut K :: ps, s, rcs1, h1, k, hR, u, hL, hs => by
  simp only [outsT] at hs
  split at hs
  ·rename_i x hx
   obtain ⟨bb, z, h2, hr, e1, e2, d, rfl, o, u2⟩ := u.take (ckAt_look hx)
   cases bb with
   | some bt => cases e1
   | none =>
    obtain ⟨r, hr'⟩ : ∃ r, look Rl i = some r := hR i (Nat.le_refl _) (by simp) (.mut K) (by simp)
    obtain ⟨o', lO, hO, f1, f2, f3, f4⟩ := outsT_ok hM hMR (i + 1) ps (dropC s i) (del rcs1 i) hr (fun j h1 h2 p hp => hR j (by omega) (by simp; omega) p (by rw [show j - i = (j - (i + 1)) + 1 by omega]; simpa using hp)) u2 (fun n r e => hL n r (del_look rcs1 i n r e)) hs
    exact ⟨(x, o'), (i, ⟨none, K, x, z⟩) :: lO, h2.un hO, ⟨r, z, lO, hr', rfl, hM _ (hMR i r hr') _ (hL _ _ e2), f1⟩, ⟨h2, hO, HF.dj_iff.2 fun b hb hx => HF.dj_iff.1 d b hb (has_sub f3 b hx), rfl, o, f2⟩, un_mono d (fun _ _ e => e) f3, f4⟩
  ·exact hs.elim
 | i, .ptr t K p :: ps, s, rcs1, h1, k, hR, u, hL, hs => by
  simp only [outsT] at hs
  split at hs
  ·rename_i x hx
   obtain ⟨bb, z, h2, hr, e1, e2, d, rfl, o, u2⟩ := u.take (ckAt_look hx)
   cases bb with
   | none => cases e1
   | some bt =>
    obtain ⟨b, t'⟩ := bt
    simp only [Option.map_some, Option.some.injEq] at e1
    subst e1
    obtain ⟨r, hr'⟩ : ∃ r, look Rl i = some r := hR i (Nat.le_refl _) (by simp) (.ptr t' K p) (by simp)
    obtain ⟨o', lO, hO, f1, f2, f3, f4⟩ := outsT_ok hM hMR (i + 1) ps (dropC s i) (del rcs1 i) hr (fun j h1 h2 p hp => hR j (by omega) (by simp; omega) p (by rw [show j - i = (j - (i + 1)) + 1 by omega]; simpa using hp)) u2 (fun n r e => hL n r (del_look rcs1 i n r e)) hs
    exact ⟨(x, o'), (i, ⟨some (b, t'), K, x, z⟩) :: lO, h2.un hO, ⟨r, b, z, lO, hr', rfl, hM _ (hMR i r hr') _ (hL _ _ e2), f1⟩, ⟨h2, hO, HF.dj_iff.2 fun b hb hx => HF.dj_iff.1 d b hb (has_sub f3 b hx), rfl, o, f2⟩, un_mono d (fun _ _ e => e) f3, f4⟩
  ·exact hs.elim
 | i, .cap t K :: ps, s, rcs1, h1, k, hR, u, hL, hs => by
  simp only [outsT] at hs
  split at hs
  ·rename_i x hx
   obtain ⟨bb, z, h2, hr, e1, e2, d, rfl, o, u2⟩ := u.take (ckAt_look hx)
   cases bb with
   | none => cases e1
   | some bt =>
    obtain ⟨b, t'⟩ := bt
    simp only [Option.map_some, Option.some.injEq] at e1
    subst e1
    obtain ⟨r, hr'⟩ : ∃ r, look Rl i = some r := hR i (Nat.le_refl _) (by simp) (.cap t' K) (by simp)
    obtain ⟨o', lO, hO, f1, f2, f3, f4⟩ := outsT_ok hM hMR (i + 1) ps (dropC s i) (del rcs1 i) hr (fun j h1 h2 p hp => hR j (by omega) (by simp; omega) p (by rw [show j - i = (j - (i + 1)) + 1 by omega]; simpa using hp)) u2 (fun n r e => hL n r (del_look rcs1 i n r e)) hs
    exact ⟨(x, o'), (i, ⟨some (b, t'), K, x, z⟩) :: lO, h2.un hO, ⟨r, b, z, lO, hr', rfl, hM _ (hMR i r hr') _ (hL _ _ e2), f1⟩, ⟨h2, hO, HF.dj_iff.2 fun b hb hx => HF.dj_iff.1 d b hb (has_sub f3 b hx), rfl, o, f2⟩, un_mono d (fun _ _ e => e) f3, f4⟩
  ·exact hs.elim
end Go.Proofs.YtibammoednhnoaaE

