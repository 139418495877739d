/- For every n, cut and more the law UtfParts answers true: a front of a scalar is one FFFD of as many bytes as it has, and a byte that cannot go on is by itself. Conditions: none but the row's own. -/
import Derived.Test.YtcmacpdpphdkcaaU8
import Derived.Test.YtcmacpdpphdkcaaF7
namespace Go.Proofs.Ytcmacpdpphdkcaa.Pure
set_option linter.unusedVariables false
set_option linter.unusedSimpArgs false
open Go.RowKit Go.Proofs.Ytcmacpdpphdkcaa.F Go.Proofs.Ytcmacpdpphdkcaa.U Go.Proofs.YtcmacpdpphdkcaaW.PrintWords Go.Proofs.YtcmacpdpphdkcaaW.PrintLast Go.Proofs.YtcmacpdpphdkcaaW.PrintMore

theorem bt_nats (L : List Nat) (hL : ∀ b ∈ L, b < 256) (i : Nat) : bt (str (L.map UInt8.ofNat)) (i : Int) = ((L.getD i 0 : Nat) : Int) := by
  rw [bt_list, List.getD_eq_getElem?_getD, List.getElem?_map, List.getD_eq_getElem?_getD]
  rcases Nat.lt_or_ge i L.length with h | h
  · rw [List.getElem?_eq_getElem h]
    have := hL _ (List.getElem_mem h)
    simp only [Option.map_some, Option.getD_some]
    rw [UInt8.toNat_ofNat']
    omega
  · rw [List.getElem?_eq_none h]
    rfl
theorem nx_nats (L : List Nat) (hL : ∀ b ∈ L, b < 256) (p : Nat) : nx (str (L.map UInt8.ofNat)) p = nxL ((L.length : Int) - p) (L.getD p 0 : Nat) (L.getD (p + 1) 0 : Nat) (L.getD (p + 2) 0 : Nat) (L.getD (p + 3) 0 : Nat) := by
  unfold nx
  rw [show ((p : Int) + 1) = ((p + 1 : Nat) : Int) from by omega, show ((p : Int) + 2) = ((p + 2 : Nat) : Int) from by omega, show ((p : Int) + 3) = ((p + 3 : Nat) : Int) from by omega, bt_nats L hL, bt_nats L hL, bt_nats L hL, bt_nats L hL, str_size, List.length_map]
theorem at_c (av b1 b2 b3 : Int) (m : Nat) (hm : m < 128) : nxL av (m : Int) b1 b2 b3 = ((m : Int), 1) := by
  unfold nxL
  rw [if_pos (by omega)]
/-- A front of a scalar, and a byte that cannot go on. -/
theorem front (r : Nat) (hv : Utf8.valid (r : Int) = true) (hr : 128 ≤ r) (c : Nat) (h1 : 1 ≤ c) (h2 : c < (enc1 r).length) (m : Nat) (hm : m < 128) :
    nx (str (((enc1 r).take c ++ [m]).map UInt8.ofNat)) 0 = (65533, (c : Int)) ∧ nx (str (((enc1 r).take c ++ [m]).map UInt8.ofNat)) c = ((m : Int), 1) := by
  have hn := (valid_iff r).1 hv
  have hL : ∀ b ∈ (enc1 r).take c ++ [m], b < 256 := by
    intro b hb
    rcases List.mem_append.1 hb with h | h
    · exact enc1_lt r (by omega) b (List.mem_of_mem_take h)
    · rw [List.mem_singleton] at h; omega
  have hlen : ((enc1 r).take c ++ [m]).length = c + 1 := by rw [List.length_append, List.length_take]; simp; omega
  refine ⟨?_, ?_⟩
  · rw [nx_nats _ hL, hlen]
    clear hL hlen hv
    unfold enc1 at h2 ⊢
    by_cases c1 : r < 2048
    · rw [if_neg (by omega), if_pos c1] at h2 ⊢
      obtain rfl : c = 1 := by simp at h2; omega
      simp only [List.take_succ_cons, List.take_zero, List.cons_append, List.nil_append, List.getD_cons_zero, List.getD_cons_succ, List.getD_nil, Nat.zero_add]
      unfold nxL cont
      rw [if_neg (by omega), if_pos (by omega), if_neg (by omega)]
      rfl
    rw [if_neg (by omega), if_neg c1] at h2 ⊢
    by_cases c2 : r < 65536
    · rw [if_pos c2] at h2 ⊢
      have hlo := lohi ((224 + r / 4096 : Nat) : Int)
      rcases (by simp at h2; omega : c = 1 ∨ c = 2) with rfl | rfl
      · simp only [List.take_succ_cons, List.take_zero, List.cons_append, List.nil_append, List.getD_cons_zero, List.getD_cons_succ, List.getD_nil, Nat.zero_add]
        unfold nxL cont
        rw [if_neg (by omega), if_neg (by omega), if_pos (by omega), if_neg (by omega)]
        rfl
      · simp only [List.take_succ_cons, List.take_zero, List.cons_append, List.nil_append, List.getD_cons_zero, List.getD_cons_succ, List.getD_nil, Nat.zero_add]
        unfold nxL cont
        have f1 : ((1 : Int) < ((2 + 1 : Nat) : Int) - ((0 : Nat) : Int) ∧ loB ((224 + r / 4096 : Nat) : Int) ≤ ((128 + r / 64 % 64 : Nat) : Int) ∧ ((128 + r / 64 % 64 : Nat) : Int) ≤ hiB ((224 + r / 4096 : Nat) : Int)) := by
          refine ⟨by omega, ?_, ?_⟩
          · unfold loB; repeat' split
            all_goals omega
          · unfold hiB; repeat' split
            all_goals omega
        rw [if_neg (by omega), if_neg (by omega), if_pos (by omega), if_pos f1, if_neg (by omega)]
        rfl
    · rw [if_neg c2] at h2 ⊢
      have hlo := lohi ((240 + r / 262144 : Nat) : Int)
      have f0 : ∀ av : Nat, 3 ≤ av → ((1 : Int) < (av : Int) - ((0 : Nat) : Int) ∧ loB ((240 + r / 262144 : Nat) : Int) ≤ ((128 + r / 4096 % 64 : Nat) : Int) ∧ ((128 + r / 4096 % 64 : Nat) : Int) ≤ hiB ((240 + r / 262144 : Nat) : Int)) := by
        intro av hav
        refine ⟨by omega, ?_, ?_⟩
        · unfold loB; repeat' split
          all_goals omega
        · unfold hiB; repeat' split
          all_goals omega
      rcases (by simp at h2; omega : c = 1 ∨ c = 2 ∨ c = 3) with rfl | rfl | rfl
      · simp only [List.take_succ_cons, List.take_zero, List.cons_append, List.nil_append, List.getD_cons_zero, List.getD_cons_succ, List.getD_nil, Nat.zero_add]
        unfold nxL cont
        rw [if_neg (by omega), if_neg (by omega), if_neg (by omega), if_pos (by omega), if_neg (by omega)]
        rfl
      · simp only [List.take_succ_cons, List.take_zero, List.cons_append, List.nil_append, List.getD_cons_zero, List.getD_cons_succ, List.getD_nil, Nat.zero_add]
        unfold nxL cont
        rw [if_neg (by omega), if_neg (by omega), if_neg (by omega), if_pos (by omega), if_pos (f0 _ (by omega)), if_neg (by omega)]
        rfl
      · simp only [List.take_succ_cons, List.take_zero, List.cons_append, List.nil_append, List.getD_cons_zero, List.getD_cons_succ, List.getD_nil, Nat.zero_add]
        unfold nxL cont
        rw [if_neg (by omega), if_neg (by omega), if_neg (by omega), if_pos (by omega), if_pos (f0 _ (by omega)), if_pos (by omega), if_neg (by omega)]
        rfl
  · rw [nx_nats _ hL]
    have hc : ((enc1 r).take c ++ [m]).getD c 0 = m := by
      rw [List.getD_eq_getElem?_getD, List.getElem?_append_right (by rw [List.length_take]; omega)]
      have : c - ((enc1 r).take c).length = 0 := by rw [List.length_take]; omega
      rw [this]
      rfl
    rw [hc]
    exact at_c _ _ _ _ m hm
theorem parts_dec (r : Nat) (hv : Utf8.valid (r : Int) = true) (hr : 128 ≤ r) (c : Nat) (h1 : 1 ≤ c) (h2 : c < (enc1 r).length) (m : Nat) (hm : m < 128) :
    scal (str (((enc1 r).take c ++ [m]).map UInt8.ofNat)) = [65533, (m : Int)] ∧ offs (str (((enc1 r).take c ++ [m]).map UInt8.ofNat)) = [0, (c : Int), ((c + 1 : Nat) : Int)] := by
  obtain ⟨f1, f2⟩ := front r hv hr c h1 h2 m hm
  have hs : (str (((enc1 r).take c ++ [m]).map UInt8.ofNat)).size = c + 1 := by rw [str_size, List.length_map, List.length_append, List.length_take]; simp; omega
  obtain ⟨s, hse⟩ : ∃ s, str (((enc1 r).take c ++ [m]).map UInt8.ofNat) = s := ⟨_, rfl⟩
  rw [hse] at f1 f2 hs ⊢
  have hd : dec s (c + 1) 0 = [(65533, 0), ((m : Int), (c : Int))] := by
    rw [dec, if_pos (by omega), f1, Int.toNat_natCast, Nat.zero_add]
    obtain ⟨d, rfl⟩ : ∃ d, c = d + 1 := ⟨c - 1, by omega⟩
    rw [dec, if_pos (by omega), f2, dec_nil s _ _ (by simp; omega)]
    rfl
  unfold scal offs
  rw [hs, hd]
  exact ⟨rfl, rfl⟩
theorem and127 (b : Int) (h0 : 0 ≤ b) (h1 : b ≤ 255) : Go.bits .and .u8 b 127 = b % 128 := by
  have h : ∀ c : Fin 256, Go.bits .and .u8 (c.val : Int) 127 = (c.val : Int) % 128 := by decide +kernel
  have := h ⟨b.toNat, by omega⟩
  simpa [Int.toNat_of_nonneg h0] using this
theorem tail (k : Nat) (hk : 100 < k) (x1 x2 : Int) (h20 : 0 ≤ x2) (h21 : x2 ≤ 255) (r : Nat) (hv : Utf8.valid (r : Int) = true) (hr : 128 ≤ r) :
    ((hyphenref2_Encode.f k (([(r : Int)] : List Int))).bind fun t247 => ((hyphenlaw2_within.f x1 (wrap64 ((t247.size : Int) - 1))).bind fun t248 => (if 0 ≤ (wrap64 (1 + t248)) then (if (wrap64 (1 + t248)) ≤ (t247.size : Int) then ((some (([Go.bits .and .u8 x2 127] : List Int) : List Int)).bind fun y249 => (if (t247.extract 0 ((wrap64 (1 + t248)) : Int).toNat).size + (strOfNums y249).size ≤ 9223372036854775807 then ((utf_Decode.f ((t247.extract 0 ((wrap64 (1 + t248)) : Int).toNat) ++ (strOfNums y249))).bind fun bt252 => (if (bt252.1.length : Int) = 2 then (if 0 < (bt252.1.length : Int) then (if (rd bt252.1 0) = 65533 then (if 1 < (bt252.1.length : Int) then (if (rd bt252.1 1) = (wrap64 (Go.bits .and .u8 x2 127)) then (if (bt252.2.length : Int) = 3 then (if 1 < (bt252.2.length : Int) then (some ((rd bt252.2 1) == (wrap64 (1 + t248)))) else (none)) else (some false)) else (some false)) else (none)) else (some false)) else (none)) else (some false))) else (none))) else (none)) else (none)))) = some true := by
  have hn := (valid_iff r).1 hv
  have hel : encL [(r : Int)] = (enc1 r).map UInt8.ofNat := by
    simp only [encL, List.flatMap_cons, List.flatMap_nil, List.append_nil]
    exact encode_enc1 r hv
  have hlen : 2 ≤ (enc1 r).length ∧ (enc1 r).length ≤ 4 := by
    unfold enc1
    rw [if_neg (by omega)]
    by_cases c1 : r < 2048
    · rw [if_pos c1]; simp
    rw [if_neg c1]
    by_cases c2 : r < 65536
    · rw [if_pos c2]; simp
    rw [if_neg c2]; simp
  have hsz : (str ((enc1 r).map UInt8.ofNat)).size = (enc1 r).length := by rw [str_size, List.length_map]
  rw [refEncode_eq k _ (by simp) (by simp; omega), Option.bind_some, hel, hsz, wrap_id (((enc1 r).length : Int) - 1) (by omega) (by omega), within_eq _ _ (by omega) (by omega), Option.bind_some]
  have w := win_range x1 (((enc1 r).length : Int) - 1) (by omega)
  obtain ⟨q, hq⟩ : ∃ q, win x1 (((enc1 r).length : Int) - 1) = q := ⟨_, rfl⟩
  rw [hq] at w ⊢
  obtain ⟨c, hc⟩ : ∃ c : Nat, 1 + q = (c : Int) := ⟨(1 + q).toNat, by omega⟩
  rw [wrap_id (1 + q) (by omega) (by omega), hc, if_pos (by omega), if_pos (by omega), Option.bind_some, and127 x2 h20 h21]
  obtain ⟨m, hm⟩ : ∃ m : Nat, x2 % 128 = (m : Int) := ⟨(x2 % 128).toNat, by omega⟩
  have hx : (str ((enc1 r).map UInt8.ofNat)).extract 0 ((c : Int)).toNat = str (((enc1 r).take c).map UInt8.ofNat) := by
    apply ByteArray.ext
    rw [ByteArray.data_extract, Int.toNat_natCast]
    apply Array.ext'
    simp [str, List.map_take]
  have hone : strOfNums [x2 % 128] = str ([m].map UInt8.ofNat) := by rw [hm]; exact strOfNums_nats [m]
  have hcat : str (((enc1 r).take c).map UInt8.ofNat) ++ str ([m].map UInt8.ofNat) = str (((enc1 r).take c ++ [m]).map UInt8.ofNat) := by rw [str_append, List.map_append]
  have hs1 : (str (((enc1 r).take c).map UInt8.ofNat)).size ≤ 4 := by rw [str_size, List.length_map, List.length_take]; omega
  have hs2 : (str ([m].map UInt8.ofNat)).size = 1 := by rw [str_size]; rfl
  have hs3 : (str (((enc1 r).take c ++ [m]).map UInt8.ofNat)).size ≤ 5 := by rw [str_size, List.length_map, List.length_append, List.length_take]; simp; omega
  obtain ⟨d1, d2⟩ := parts_dec r hv hr c (by omega) (by omega) m (by omega)
  rw [hx, hone, hcat, if_pos (by omega), Decode_eq _ (by omega), Option.bind_some, d1, d2]
  have r0 : rd [65533, (m : Int)] 0 = 65533 := rfl
  have r1 : rd [65533, (m : Int)] 1 = (m : Int) := rfl
  have r2 : rd [0, (c : Int), ((c + 1 : Nat) : Int)] 1 = (c : Int) := rfl
  have l1 : (([65533, (m : Int)] : List Int).length : Int) = 2 := rfl
  have l2 : (([0, (c : Int), ((c + 1 : Nat) : Int)] : List Int).length : Int) = 3 := rfl
  dsimp only
  rw [r0, r1, r2, l1, l2, hm, wrap_id (m : Int) (by omega) (by omega), if_pos rfl, if_pos (by omega), if_pos rfl, if_pos (by omega), if_pos rfl, if_pos rfl, if_pos (by omega), beq_self_eq_true]
theorem UtfParts : hyphenlaw2_UtfParts.Pure := by
  intro a0 a1 a2 h1 h2 h3
  refine ⟨1000, ?_⟩
  have w := win_range a0 1113984 (by omega)
  have h3' : 0 ≤ a2 ∧ a2 ≤ 255 := by
    simp only [Lit.wf, Bool.and_eq_true, decide_eq_true_eq] at h3
    exact h3
  unfold hyphenlaw2_UtfParts.f
  rw [known_eq _ (by omega), Option.bind_some, if_pos rfl, within_eq _ _ (by omega) (by omega), Option.bind_some]
  obtain ⟨q, hq⟩ : ∃ q, win a0 1113984 = q := ⟨_, rfl⟩
  rw [hq] at w ⊢
  obtain ⟨r, hr⟩ : ∃ r : Nat, 128 + q = (r : Int) := ⟨(128 + q).toNat, by omega⟩
  rw [wrap_id (128 + q) (by omega) (by omega), hr]
  have tru : ∀ b : Bool, (b = false → Utf8.valid (r : Int) = true) → hyphenlaw2_UtfParts.j0 1000 a1 a2 (r : Int) b = some true := by
    intro b hb
    rw [show (1000 : Nat) = 999 + 1 from rfl, hyphenlaw2_UtfParts.j0]
    cases b with
    | true =>
      rw [if_pos rfl]
      exact tail 999 (by omega) a1 a2 h3'.1 h3'.2 8364 (by decide) (by omega)
    | false =>
      rw [if_neg (by simp)]
      exact tail 999 (by omega) a1 a2 h3'.1 h3'.2 r (hb rfl) (by omega)
  by_cases c1 : (r : Int) ≥ 55296
  · rw [if_pos c1]
    exact tru _ (fun h => (valid_iff r).2 (by have := of_decide_eq_false h; omega))
  · rw [if_neg c1]
    exact tru _ (fun h => (valid_iff r).2 (by omega))
end Go.Proofs.Ytcmacpdpphdkcaa.Pure
