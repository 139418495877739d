import Derived.Test.YtcmacpdpphdkcaaU6
import Derived.Laws.Strings
namespace Go.Proofs.Ytcmacpdpphdkcaa.U
set_option linter.unusedVariables false
set_option linter.unusedSimpArgs false
open Go.RowKit Go.Proofs.Ytcmacpdpphdkcaa.F Go.Proofs.YtcmacpdpphdkcaaW.PrintWords Go.Proofs.YtcmacpdpphdkcaaW.PrintLast Go.Proofs.YtcmacpdpphdkcaaW.PrintMore

theorem known_eq (k : Nat) (hk : 10 ≤ k) : hyphenlaw2_known.f k = some true := by
  unfold hyphenlaw2_known.f
  rw [Decode_eq _ (by decide)]
  have h1 : scal (⟨#[226, 130, 65]⟩ : ByteArray) = [65533, 65] := by decide +kernel
  have h2 : offs (⟨#[226, 130, 65]⟩ : ByteArray) = [0, 2, 3] := by decide +kernel
  rw [h1, h2, Encode_eq k [8364] (by intro x hx; simp only [List.mem_singleton] at hx; subst hx; unfold wf; omega) (by simp) (by simp; omega), Scalar_eq, Scalar_eq]
  have h3 : encL [8364] = [226, 130, 172] := by decide +kernel
  rw [h3]
  simp only [Option.bind_some, Go.ByteArray.toList_eq, str_data]
  decide +kernel
/-! ### Bytes -/
theorem Bytes_go (x0 x1 : List Int) (T : List ByteArray) (hT : T.length = 20) (hT4 : ∀ t ∈ T, t.size ≤ 4) (h0 : x0.length ≤ 140737488351232) (h1 : x1.length ≤ 1000) :
    ∀ (d i : Nat) (s : ByteArray), i + d = 40 → s.size ≤ i * (4 + x1.length) → ∃ r : ByteArray, r.size ≤ 40 * (4 + x1.length) ∧ ∀ k, 2 * d + 3 ≤ k → hyphenlaw2_Bytes.l0 k x0 x1 T s (i : Int) = some r := by
  intro d
  induction d with
  | zero =>
    intro i s hi hs
    refine ⟨s, by have : i = 40 := by omega
                  subst this; exact hs, fun k hk => ?_⟩
    obtain ⟨k, rfl⟩ : ∃ m, k = m + 2 := ⟨k - 2, by omega⟩
    rw [hyphenlaw2_Bytes.l0]
    split
    · rw [if_neg (by omega), hyphenlaw2_Bytes.j1, if_neg (by simp)]
    · rw [hyphenlaw2_Bytes.j1, if_neg (by simp)]
  | succ d ih =>
    intro i s hi hs
    by_cases hlt : (i : Int) < (x0.length : Int)
    · by_cases hsz : (s.size : Int) < 1000
      · -- one more
        have w1 := win_range (rd x0 (i : Int)) 20 (by omega)
        have w2 := win_range (wrap64 (Int.tdiv (rd x0 (i : Int)) 32)) 8 (by omega)
        have w3 := win_range (wrap64 (Int.tdiv (rd x0 (i : Int)) 256)) ((x1.length : Int) + 1) (by omega)
        obtain ⟨a, ha⟩ : ∃ a, win (rd x0 (i : Int)) 20 = a := ⟨_, rfl⟩
        obtain ⟨b, hb⟩ : ∃ b, win (wrap64 (Int.tdiv (rd x0 (i : Int)) 32)) 8 = b := ⟨_, rfl⟩
        obtain ⟨c, hc⟩ : ∃ c, win (wrap64 (Int.tdiv (rd x0 (i : Int)) 256)) ((x1.length : Int) + 1) = c := ⟨_, rfl⟩
        rw [ha] at w1
        rw [hc] at w3
        obtain ⟨t, ht, ht4⟩ : ∃ t, rdOf ByteArray.empty T a = t ∧ t.size ≤ 4 := by
          refine ⟨_, rfl, ?_⟩
          have hm : a.toNat < T.length := by omega
          unfold rdOf
          rw [List.getD_eq_getElem?_getD, List.getElem?_eq_getElem hm]
          exact hT4 _ (List.getElem_mem hm)
        have hts : (strOfNums (x1.take c.toNat)).size ≤ x1.length := by rw [strOfNums_size, List.length_take]; omega
        have hmul : (i + 1) * (4 + x1.length) = i * (4 + x1.length) + (4 + x1.length) := Nat.succ_mul _ _
        have hsa : (s ++ t).size = s.size + t.size := ByteArray.size_append
        have hsb : ((s ++ t) ++ strOfNums (x1.take c.toNat)).size = s.size + t.size + (strOfNums (x1.take c.toNat)).size := by rw [ByteArray.size_append, ByteArray.size_append]
        have step : ∀ k, hyphenlaw2_Bytes.l0 (k + 2) x0 x1 T s (i : Int) = hyphenlaw2_Bytes.l0 k x0 x1 T (if b = 0 then (s ++ t) ++ strOfNums (x1.take c.toNat) else s ++ t) ((i + 1 : Nat) : Int) := by
          intro k
          rw [hyphenlaw2_Bytes.l0, if_pos hlt, if_pos (by omega), decide_eq_true hsz, hyphenlaw2_Bytes.j1, if_pos rfl, if_pos (by omega), if_pos hlt, hT, show ((20 : Nat) : Int) = 20 from rfl, within_eq _ 20 (by omega) (by omega), ha]
          simp only [Option.bind_some]
          rw [if_pos w1.1, if_pos w1.2, ht, if_pos (by omega), within_eq _ 8 (by omega) (by omega), hb]
          simp only [Option.bind_some]
          rw [wrap_id ((x1.length : Int) + 1) (by omega) (by omega), within_eq _ ((x1.length : Int) + 1) (by omega) (by omega), hc, wrap_id _ (by omega) (by omega), show ((i : Int) + 1) = ((i + 1 : Nat) : Int) from by omega]
          simp only [Option.bind_some]
          by_cases hb0 : b = 0
          · rw [if_pos hb0, if_pos hb0, if_pos w3.1, if_pos (by omega), if_pos (by omega)]
          · rw [if_neg hb0, if_neg hb0]
        obtain ⟨r, hr, hk⟩ := ih (i + 1) (if b = 0 then (s ++ t) ++ strOfNums (x1.take c.toNat) else s ++ t) (by omega) (by split <;> omega)
        refine ⟨r, hr, fun k hk2 => ?_⟩
        obtain ⟨k, rfl⟩ : ∃ m, k = m + 2 := ⟨k - 2, by omega⟩
        rw [step, hk k (by omega)]
      · refine ⟨s, ?_, fun k hk => ?_⟩
        · have : i * (4 + x1.length) ≤ 40 * (4 + x1.length) := Nat.mul_le_mul_right _ (by omega)
          omega
        · obtain ⟨k, rfl⟩ : ∃ m, k = m + 2 := ⟨k - 2, by omega⟩
          rw [hyphenlaw2_Bytes.l0, if_pos hlt, if_pos (by omega), decide_eq_false hsz, hyphenlaw2_Bytes.j1, if_neg (by simp)]
    · refine ⟨s, ?_, fun k hk => ?_⟩
      · have : i * (4 + x1.length) ≤ 40 * (4 + x1.length) := Nat.mul_le_mul_right _ (by omega)
        omega
      · obtain ⟨k, rfl⟩ : ∃ m, k = m + 2 := ⟨k - 2, by omega⟩
        rw [hyphenlaw2_Bytes.l0, if_neg hlt, hyphenlaw2_Bytes.j1, if_neg (by simp)]
def tab : List ByteArray := ([(⟨#[97]⟩ : ByteArray), (⟨#[90]⟩ : ByteArray), (⟨#[32]⟩ : ByteArray), (⟨#[195, 164]⟩ : ByteArray), (⟨#[226, 130, 172]⟩ : ByteArray), (⟨#[228, 184, 128]⟩ : ByteArray), (⟨#[240, 159, 152, 128]⟩ : ByteArray), (⟨#[239, 191, 189]⟩ : ByteArray), (⟨#[128]⟩ : ByteArray), (⟨#[255]⟩ : ByteArray), (⟨#[195]⟩ : ByteArray), (⟨#[192, 128]⟩ : ByteArray), (⟨#[226, 130]⟩ : ByteArray), (⟨#[224, 128]⟩ : ByteArray), (⟨#[237, 160, 128]⟩ : ByteArray), (⟨#[240, 159]⟩ : ByteArray), (⟨#[240, 159, 152]⟩ : ByteArray), (⟨#[244, 144]⟩ : ByteArray), (⟨#[245]⟩ : ByteArray), (⟨#[224, 160]⟩ : ByteArray)] : List ByteArray)
theorem Bytes_eq (x0 x1 : List Int) (h0 : x0.length ≤ 140737488351232) (h1 : x1.length ≤ 1000) : ∃ r : ByteArray, r.size ≤ 40 * (4 + x1.length) ∧ ∀ k, 100 ≤ k → hyphenlaw2_Bytes.f k x0 x1 = some r := by
  obtain ⟨r, hr, hk⟩ := Bytes_go x0 x1 tab (by decide) (by decide) h0 h1 40 0 ⟨#[]⟩ (by omega) (by simp [ByteArray.size])
  exact ⟨r, hr, fun k hk2 => hk k (by omega)⟩
end Go.Proofs.Ytcmacpdpphdkcaa.U
