/- For every ns and raw the law UtfPlaces answers true: the offsets that utf.Decode tells rise from 0 to the end by one to four, and what is told of bytes that are none is FFFD. Conditions: none but the row's own. -/
import Derived.Test.YtcmacpdpphdkcaaU8
import Derived.Test.YtcmacpdpphdkcaaF6
namespace Go.Proofs.Ytcmacpdpphdkcaa.Pure
set_option linter.unusedVariables false
set_option linter.unusedSimpArgs false
open Go.RowKit Go.Proofs.Ytcmacpdpphdkcaa.F Go.Proofs.Ytcmacpdpphdkcaa.U Go.Proofs.YtcmacpdpphdkcaaW.PrintWords Go.Proofs.YtcmacpdpphdkcaaW.PrintLast Go.Proofs.YtcmacpdpphdkcaaW.PrintMore

theorem loop (s : ByteArray) (hs : s.size ≤ 100000) : ∀ (d i : Nat), i + d = (scal s).length → ∀ k, 2000 + d < k → hyphenlaw2_UtfPlaces.l0 k s (scal s) (offs s) (i : Int) = some true := by
  have hsl := scal_length s
  have hol := offs_length s
  intro d
  induction d with
  | zero =>
    intro i hi k hk
    obtain ⟨k, rfl⟩ : ∃ m, k = m + 1 := ⟨k - 1, by omega⟩
    rw [hyphenlaw2_UtfPlaces.l0, if_neg (by omega)]
  | succ d ih =>
    intro i hi k hk
    obtain ⟨k, rfl⟩ : ∃ m, k = m + 1 := ⟨k - 1, by omega⟩
    obtain ⟨q, hq, hr, h1, h2⟩ := scal_at s i (by omega)
    obtain ⟨hv, _⟩ := nx_back s q hq
    have hn := nx_len s q hq
    obtain ⟨n, hn2⟩ : ∃ n, (nx s q).2 = n := ⟨_, rfl⟩
    rw [hn2] at hn h2
    have H1 := Aside0.mk h1
    have H2 := Aside0.mk h2
    have HR := Aside0.mk hr
    have HN := Aside0.mk hn2
    have HV := Aside0.mk hv
    clear h1 h2 hr hn2 hv
    have hw : wrap64 ((i : Int) + 1) = ((i + 1 : Nat) : Int) := by rw [wrap_id _ (by omega) (by omega)]; omega
    rw [hyphenlaw2_UtfPlaces.l0, if_pos (by omega), hw, if_pos (by omega), if_pos (by omega), if_pos (by omega), if_pos (by omega), H1.out, H2.out, HR.out, if_neg (by omega), wrap_id ((q : Int) + 4) (by omega) (by omega), if_neg (by omega), Scalar_eq, Option.bind_some, HV.out, if_pos rfl]
    by_cases hc : (nx s q).1 = 65533
    · rw [if_pos hc]
      exact ih (i + 1) (by omega) k (by omega)
    · have hx := extract_enc s q hq hc
      have hone : ((scal s).take (((i + 1 : Nat) : Int)).toNat).drop ((i : Int)).toNat = [(nx s q).1] := by
        have hi2 : i < (scal s).length := by omega
        rw [Int.toNat_natCast, Int.toNat_natCast, List.take_succ_eq_append_getElem hi2, List.drop_left' (by rw [List.length_take]; omega)]
        have hr := HR.out
        unfold rd at hr
        rw [Int.toNat_natCast, List.getD_eq_getElem?_getD, List.getElem?_eq_getElem hi2, Option.getD_some] at hr
        rw [hr]
      have hwf : ∀ x ∈ [(nx s q).1], wf x := fun x hx => by
        rw [List.mem_singleton] at hx
        subst hx
        have := (valid_int _).1 HV.out
        unfold wf
        omega
      have hnat : ((q : Int) + n).toNat = q + n.toNat := by omega
      rw [HN.out] at hx
      rw [if_neg hc, if_pos (by omega), if_pos (by omega), hone, Encode_eq k _ hwf (by simp) (by simp; omega), Option.bind_some, if_pos (by omega), if_pos (by omega), if_pos (by omega), Int.toNat_natCast, hnat, Go.ByteArray.toList_eq, Go.ByteArray.toList_eq, hx, str_data, if_pos rfl]
      exact ih (i + 1) (by omega) k (by omega)
theorem UtfPlaces : hyphenlaw2_UtfPlaces.Pure := by
  intro l0 l1 h1 h2 h3 h4 h5 h6
  refine ⟨200000, ?_⟩
  unfold hyphenlaw2_UtfPlaces.f
  rw [known_eq _ (by omega), Option.bind_some, if_pos rfl]
  by_cases hl : (l1.length : Int) > 200
  · rw [if_pos hl]
  rw [if_neg hl]
  obtain ⟨r, hr, hk⟩ := Bytes_eq l0 l1 (by omega) (by omega)
  have hsl := scal_length r
  have hol := offs_length r
  rw [hk _ (by omega), Option.bind_some, Decode_eq r (by omega), Option.bind_some]
  dsimp only
  rw [if_pos (by rw [wrap_id _ (by omega) (by omega)]; omega), if_pos (by omega), if_pos (offs_zero r), if_pos (by omega), if_pos (by omega), offs_last, bne_self_eq_false, show (200000 : Nat) = 199999 + 1 from rfl, hyphenlaw2_UtfPlaces.j0, if_neg (by simp)]
  exact loop r (by omega) (scal r).length 0 (by omega) 199999 (by omega)
end Go.Proofs.Ytcmacpdpphdkcaa.Pure
