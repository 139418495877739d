/- For every ns and raw the law UtfDecodes answers true: utf.Decode tells of any bytes the scalars and the offsets that the document's own Decode tells. Conditions: none but the row's own. -/
import Derived.Test.YtcmacpdpphdkcaaU7
namespace Go.Proofs.Ytcmacpdpphdkcaa.Pure
set_option linter.unusedVariables false
set_option linter.unusedSimpArgs false
open Go.RowKit Go.Proofs.Ytcmacpdpphdkcaa.F Go.Proofs.Ytcmacpdpphdkcaa.U Go.Proofs.YtcmacpdpphdkcaaW.PrintWords Go.Proofs.YtcmacpdpphdkcaaW.PrintLast Go.Proofs.YtcmacpdpphdkcaaW.PrintMore

theorem round (k i : Nat) (T : List ByteArray) (s : ByteArray) (hi : i < 2) (hl : T.length = 2) (hs : rdOf ByteArray.empty T (i : Int) = s) (hb : s.size ≤ 100000) (hk : 200000 < k) :
    hyphenlaw2_UtfDecodes.l0 (k + 1) T (i : Int) = hyphenlaw2_UtfDecodes.l0 k T ((i + 1 : Nat) : Int) := by
  have hsl : (scal s).length ≤ s.size := by
    have : ∀ m p, p ≤ s.size → (dec s m p).length ≤ s.size - p := by
      intro m
      induction m with
      | zero => intro p hp; simp [dec]
      | succ m ih =>
        intro p hp
        rw [dec]
        split
        · rename_i h
          have h2 := nx_len s p h
          have := ih (p + (nx s p).2.toNat) (by omega)
          rw [List.length_cons]
          omega
        · simp
    have := this s.size 0 (by omega)
    simpa [scal] using this
  have hol := offs_length s
  rw [hyphenlaw2_UtfDecodes.l0, if_pos (by omega), if_pos (by omega), if_pos (by omega), hs, Decode_eq s (by omega), refDecode_eq k s (by omega) (by omega)]
  simp only [Option.bind_some]
  rw [Ints_eq k _ _ (by omega) (by omega), Ints_eq k _ _ (by omega) (by omega)]
  simp only [Option.bind_some, decide_true, if_true]
  rw [wrap_id _ (by omega) (by omega)]
  rfl
theorem UtfDecodes : hyphenlaw2_UtfDecodes.Pure := by
  intro l0 l1 h1 h2 h3 h4 h5 h6
  refine ⟨300000, ?_⟩
  unfold hyphenlaw2_UtfDecodes.f
  rw [known_eq _ (by omega)]
  simp only [Option.bind_some, if_true]
  by_cases hl : (l1.length : Int) > 200
  · rw [if_pos hl]
  rw [if_neg hl]
  obtain ⟨r, hr, hk⟩ := Bytes_eq l0 l1 (by omega) (by omega)
  rw [hk _ (by omega)]
  simp only [Option.bind_some]
  have hs := strOfNums_size l1
  rw [show (300000 : Nat) = 299999 + 1 from rfl, show (0 : Int) = ((0 : Nat) : Int) from rfl, round 299999 0 _ r (by omega) rfl rfl (by omega) (by omega), show (299999 : Nat) = 299998 + 1 from rfl, round 299998 1 _ (strOfNums l1) (by omega) rfl rfl (by omega) (by omega), show (299998 : Nat) = 299997 + 1 from rfl, hyphenlaw2_UtfDecodes.l0, if_neg (by omega)]
end Go.Proofs.Ytcmacpdpphdkcaa.Pure
