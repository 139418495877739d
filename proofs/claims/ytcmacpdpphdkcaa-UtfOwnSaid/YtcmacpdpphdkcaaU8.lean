import Derived.Test.YtcmacpdpphdkcaaU7
namespace Go.Proofs.Ytcmacpdpphdkcaa.U
set_option linter.unusedVariables false
set_option linter.unusedSimpArgs false
open Go.RowKit Go.Proofs.Ytcmacpdpphdkcaa.F Go.Proofs.YtcmacpdpphdkcaaW.PrintWords Go.Proofs.YtcmacpdpphdkcaaW.PrintLast Go.Proofs.YtcmacpdpphdkcaaW.PrintMore

/-! ### where scalars stand -/
theorem dec_at (s : ByteArray) : ∀ m p, s.size ≤ p + m → p ≤ s.size → ∀ i, i < (dec s m p).length → ∃ q : Nat, q < s.size ∧ ((dec s m p).map (·.1))[i]? = some (nx s q).1 ∧
    ((dec s m p).map (·.2) ++ [(s.size : Int)])[i]? = some (q : Int) ∧ ((dec s m p).map (·.2) ++ [(s.size : Int)])[i + 1]? = some ((q : Int) + (nx s q).2) := by
  intro m
  induction m with
  | zero => intro p h1 h2 i hi; simp [dec] at hi
  | succ m ih =>
    intro p h1 h2 i hi
    rw [dec] at hi ⊢
    by_cases hp : p < s.size
    · have hn := nx_len s p hp
      obtain ⟨n, hn2⟩ : ∃ n : Nat, (nx s p).2 = (n : Int) := ⟨(nx s p).2.toNat, by omega⟩
      rw [if_pos hp] at hi ⊢
      rw [hn2, Int.toNat_natCast] at hi ⊢
      cases i with
      | succ i =>
        obtain ⟨q, a, b, c, d⟩ := ih (p + n) (by omega) (by omega) i (by rw [List.length_cons] at hi; omega)
        exact ⟨q, a, by simpa using b, by simpa using c, by simpa using d⟩
      | zero =>
        refine ⟨p, hp, by simp, by simp, ?_⟩
        rw [List.map_cons, List.cons_append, List.getElem?_cons_succ, hn2]
        by_cases hq : p + n < s.size
        · cases m with
          | zero => omega
          | succ m =>
            rw [dec, if_pos hq, List.map_cons, List.cons_append, List.getElem?_cons_zero]
            simp
        · rw [dec_nil s m _ (by omega)]
          simp only [List.map_nil, List.nil_append, List.getElem?_cons_zero]
          congr 1
          omega
    · rw [if_neg hp] at hi
      simp at hi
theorem dec_length (s : ByteArray) : ∀ m p, p ≤ s.size → (dec s m p).length ≤ s.size - p := by
  intro m
  induction m with
  | zero => intro p hp; simp [dec]
  | succ m ih =>
    intro p hp
    rw [dec]
    split
    · rename_i h
      have h2 := nx_len s p h
      have := ih (p + (nx s p).2.toNat) (by omega)
      rw [List.length_cons]
      omega
    · simp
theorem scal_length (s : ByteArray) : (scal s).length ≤ s.size := by
  have := dec_length s s.size 0 (by omega)
  simpa [scal] using this
theorem scal_at (s : ByteArray) (i : Nat) (h : i < (scal s).length) : ∃ q : Nat, q < s.size ∧ rd (scal s) (i : Int) = (nx s q).1 ∧ rd (offs s) (i : Int) = (q : Int) ∧ rd (offs s) ((i + 1 : Nat) : Int) = (q : Int) + (nx s q).2 := by
  obtain ⟨q, a, b, c, d⟩ := dec_at s s.size 0 (by omega) (by omega) i (by simpa [scal] using h)
  refine ⟨q, a, ?_, ?_, ?_⟩
  · unfold rd scal
    rw [List.getD_eq_getElem?_getD, Int.toNat_natCast, b]
    rfl
  · unfold rd offs
    rw [List.getD_eq_getElem?_getD, Int.toNat_natCast, c]
    rfl
  · unfold rd offs
    rw [List.getD_eq_getElem?_getD, Int.toNat_natCast, d]
    rfl
theorem offs_zero (s : ByteArray) : rd (offs s) 0 = 0 := by
  unfold rd offs
  rw [show (0 : Int).toNat = 0 from rfl, List.getD_eq_getElem?_getD]
  by_cases h : 0 < s.size
  · obtain ⟨m, hm⟩ : ∃ m, s.size = m + 1 := ⟨s.size - 1, by omega⟩
    rw [hm, dec, if_pos h]
    simp
  · rw [dec_nil s _ _ (by omega), List.map_nil, List.nil_append, List.getElem?_cons_zero, Option.getD_some]
    omega
theorem offs_last (s : ByteArray) : rd (offs s) ((scal s).length : Int) = (s.size : Int) := by
  unfold rd offs
  rw [Int.toNat_natCast, List.getD_eq_getElem?_getD, List.getElem?_append_right (by simp [scal])]
  simp [scal]
/-- What is read is a scalar; if it is not the one for what is none, it is encoded as it stood. -/
theorem nx_back (s : ByteArray) (p : Nat) (h : p < s.size) : Utf8.valid (nx s p).1 = true ∧ ((nx s p).1 ≠ 65533 → ∃ r n : Nat, (nx s p).1 = (r : Int) ∧ (nx s p).2 = (n : Int) ∧ (enc1 r).length = n ∧ ∀ i : Nat, i < n → bt s ((p + i : Nat) : Int) = ((enc1 r).getD i 0 : Nat)) := by
  have r0 := bt_range s (p : Int)
  have r1 := bt_range s ((p : Int) + 1)
  have r2 := bt_range s ((p : Int) + 2)
  have r3 := bt_range s ((p : Int) + 3)
  have e0 : bt s ((p + 0 : Nat) : Int) = bt s (p : Int) := by rw [Nat.add_zero]
  have e1 : bt s ((p + 1 : Nat) : Int) = bt s ((p : Int) + 1) := by rw [show ((p + 1 : Nat) : Int) = (p : Int) + 1 from by omega]
  have e2 : bt s ((p + 2 : Nat) : Int) = bt s ((p : Int) + 2) := by rw [show ((p + 2 : Nat) : Int) = (p : Int) + 2 from by omega]
  have e3 : bt s ((p + 3 : Nat) : Int) = bt s ((p : Int) + 3) := by rw [show ((p + 3 : Nat) : Int) = (p : Int) + 3 from by omega]
  obtain ⟨b0, hb0⟩ := Int.eq_ofNat_of_zero_le r0.1
  obtain ⟨b1, hb1⟩ := Int.eq_ofNat_of_zero_le r1.1
  obtain ⟨b2, hb2⟩ := Int.eq_ofNat_of_zero_le r2.1
  obtain ⟨b3, hb3⟩ := Int.eq_ofNat_of_zero_le r3.1
  unfold nx nxL
  rw [hb0, hb1, hb2, hb3]
  rw [hb0] at e0 r0
  rw [hb1] at e1 r1
  rw [hb2] at e2 r2
  rw [hb3] at e3 r3
  by_cases c0 : (b0 : Int) < 128
  · rw [if_pos c0]
    refine ⟨(valid_iff b0).2 (by omega), fun _ => ⟨b0, 1, rfl, rfl, ?_, ?_⟩⟩
    · unfold enc1; rw [if_pos (by omega)]; rfl
    · intro i hi
      obtain rfl : i = 0 := by omega
      unfold enc1; rw [if_pos (by omega), e0]; rfl
  rw [if_neg c0]
  by_cases c1 : 194 ≤ (b0 : Int) ∧ (b0 : Int) ≤ 223
  · rw [if_pos c1]
    split
    · rename_i hc
      unfold cont at hc
      simp only []
      rw [show ((b0 : Int) % 32 * 64 + (b1 : Int) % 64) = ((b0 % 32 * 64 + b1 % 64 : Nat) : Int) from by omega]
      refine ⟨(valid_iff _).2 (by omega), fun _ => ⟨_, 2, rfl, rfl, ?_, ?_⟩⟩
      · unfold enc1; rw [if_neg (by omega), if_pos (by omega)]; rfl
      · intro i hi
        unfold enc1
        rw [if_neg (by omega), if_pos (by omega)]
        rcases (by omega : i = 0 ∨ i = 1) with rfl | rfl
        · rw [e0, List.getD_cons_zero]; omega
        · rw [e1, List.getD_cons_succ, List.getD_cons_zero]; omega
    · exact ⟨by decide, fun h => absurd rfl h⟩
  rw [if_neg c1]
  by_cases c2 : 224 ≤ (b0 : Int) ∧ (b0 : Int) ≤ 239
  · rw [if_pos c2]
    split
    · rename_i hc
      have hlo : (b0 : Int) = 224 → 160 ≤ (b1 : Int) := fun e => by have := hc.2.1; unfold loB at this; rw [if_pos e] at this; exact this
      have hhi : (b0 : Int) = 237 → (b1 : Int) ≤ 159 := fun e => by have := hc.2.2; unfold hiB at this; rw [if_pos e] at this; exact this
      have hlh := lohi (b0 : Int)
      split
      · rename_i hd
        unfold cont at hd
        simp only []
        rw [show ((b0 : Int) % 16 * 4096 + (b1 : Int) % 64 * 64 + (b2 : Int) % 64) = ((b0 % 16 * 4096 + b1 % 64 * 64 + b2 % 64 : Nat) : Int) from by omega]
        refine ⟨(valid_iff _).2 (by omega), fun _ => ⟨_, 3, rfl, rfl, ?_, ?_⟩⟩
        · unfold enc1; rw [if_neg (by omega), if_neg (by omega), if_pos (by omega)]; rfl
        · intro i hi
          unfold enc1
          rw [if_neg (by omega), if_neg (by omega), if_pos (by omega)]
          rcases (by omega : i = 0 ∨ i = 1 ∨ i = 2) with rfl | rfl | rfl
          · rw [e0, List.getD_cons_zero]; omega
          · rw [e1, List.getD_cons_succ, List.getD_cons_zero]; omega
          · rw [e2, List.getD_cons_succ, List.getD_cons_succ, List.getD_cons_zero]; omega
      · exact ⟨by decide, fun h => absurd rfl h⟩
    · exact ⟨by decide, fun h => absurd rfl h⟩
  rw [if_neg c2]
  by_cases c3 : 240 ≤ (b0 : Int) ∧ (b0 : Int) ≤ 244
  · rw [if_pos c3]
    split
    · rename_i hc
      have hlo : (b0 : Int) = 240 → 144 ≤ (b1 : Int) := fun e => by have := hc.2.1; unfold loB at this; rw [if_neg (by omega), if_pos e] at this; exact this
      have hhi : (b0 : Int) = 244 → (b1 : Int) ≤ 143 := fun e => by have := hc.2.2; unfold hiB at this; rw [if_neg (by omega), if_pos e] at this; exact this
      have hlh := lohi (b0 : Int)
      split
      · rename_i hd
        unfold cont at hd
        split
        · rename_i he
          unfold cont at he
          simp only []
          rw [show ((b0 : Int) % 8 * 262144 + (b1 : Int) % 64 * 4096 + (b2 : Int) % 64 * 64 + (b3 : Int) % 64) = ((b0 % 8 * 262144 + b1 % 64 * 4096 + b2 % 64 * 64 + b3 % 64 : Nat) : Int) from by omega]
          refine ⟨(valid_iff _).2 (by omega), fun _ => ⟨_, 4, rfl, rfl, ?_, ?_⟩⟩
          · unfold enc1; rw [if_neg (by omega), if_neg (by omega), if_neg (by omega)]; rfl
          · intro i hi
            unfold enc1
            rw [if_neg (by omega), if_neg (by omega), if_neg (by omega)]
            rcases (by omega : i = 0 ∨ i = 1 ∨ i = 2 ∨ i = 3) with rfl | rfl | rfl | rfl
            · rw [e0, List.getD_cons_zero]; omega
            · rw [e1, List.getD_cons_succ, List.getD_cons_zero]; omega
            · rw [e2, List.getD_cons_succ, List.getD_cons_succ, List.getD_cons_zero]; omega
            · rw [e3, List.getD_cons_succ, List.getD_cons_succ, List.getD_cons_succ, List.getD_cons_zero]; omega
        · exact ⟨by decide, fun h => absurd rfl h⟩
      · exact ⟨by decide, fun h => absurd rfl h⟩
    · exact ⟨by decide, fun h => absurd rfl h⟩
  rw [if_neg c3]
  exact ⟨by decide, fun h => absurd rfl h⟩
/-- The bytes of a scalar that was read are its encoding. -/
theorem extract_enc (s : ByteArray) (p : Nat) (h : p < s.size) (hne : (nx s p).1 ≠ 65533) : (s.extract p (p + (nx s p).2.toNat)).data.toList = encL [(nx s p).1] := by
  obtain ⟨hv, hb⟩ := nx_back s p h
  obtain ⟨r, n, hr, hn, hl, hbb⟩ := hb hne
  have hlen := nx_len s p h
  rw [hr] at hv ⊢
  rw [hn, Int.toNat_natCast]
  rw [hn] at hlen
  simp only [encL, List.flatMap_cons, List.flatMap_nil, List.append_nil]
  rw [encode_enc1 r hv]
  apply List.ext_getElem
  · rw [data_length, ByteArray.size_extract, List.length_map, hl]; omega
  · intro i h1 h2
    have hi : i < n := by rw [List.length_map, hl] at h2; exact h2
    have hb := hbb i hi
    rw [bt_nat] at hb
    have hs : p + i < s.data.toList.length := by rw [data_length]; omega
    rw [List.getD_eq_getElem?_getD, List.getElem?_eq_getElem hs, List.getD_eq_getElem?_getD, List.getElem?_eq_getElem (by rw [hl]; exact hi)] at hb
    simp only [Option.getD_some] at hb
    have e1 : (s.extract p (p + n)).data.toList[i] = s.data.toList[p + i] := by
      simp [ByteArray.data_extract]
    rw [e1, List.getElem_map]
    apply UInt8.toNat_inj.1
    rw [UInt8.toNat_ofNat']
    have := (s.data.toList[p + i]).toNat_lt
    omega
end Go.Proofs.Ytcmacpdpphdkcaa.U
