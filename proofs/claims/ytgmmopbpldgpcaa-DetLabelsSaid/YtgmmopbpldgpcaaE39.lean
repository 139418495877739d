/- The engine, part 39: a row of bools that a law is handed. Conditions: none. -/
import Derived.Test.YtgmmopbpldgpcaaE37
import Derived.Deep.Grids
set_option linter.unusedVariables false
set_option linter.unusedSimpArgs false
set_option maxRecDepth 4000
namespace Go.Proofs.YtgmmopbpldgpcaaE
open Kd Go.RowKit
/-- A row of bools, as a law's row tells it. -/
def IsRowB (w : World) (a : Option Addr) (len cap : Nat) (zs : List Bool) : Prop :=
  (a = none ∧ len = 0 ∧ cap = 0 ∧ zs = []) ∨ ∃ x, a = some x ∧ len ≤ cap ∧ cap ≤ maxLen ∧ zs.length = cap ∧ ∀ i, i < zs.length → w.cell? (x.add i) = some (.bool (zs.getD i false))
theorem row_isB {w : World} {te : TypeId} {a : Option Addr} {len cap : Nat} {zs : List Bool} (h : IsRowB w a len cap zs) (hp : ∀ x, a = some x → x.spot = none ∧ ∃ c t f, w.heap[x.block]? = some (.cells c t f) ∧ x.off ≤ c.size) :
    (SV.val (.sl false te .bool none) (zs.take len)).is (heapR w) [] (.slice a len cap) := by
  rcases h with ⟨rfl, rfl, rfl, rfl⟩ | ⟨x, rfl, hl, hm, hz, hc⟩
  · exact ⟨rfl, (none, fun _ => ()), ⟨rfl, rfl⟩, rfl⟩
  · obtain ⟨hs, c, t, f, hb, ho⟩ := hp x rfl
    obtain ⟨b, off, spot⟩ := x
    simp only at hs hb ho
    subst hs
    have hlen : (zs.take len).length = len := by simp; omega
    have hcell : ∀ i, i < zs.length → c[off + i]? = some (.bool (zs.getD i false)) := fun i hi => by
      have := hc i hi
      rw [Addr.add_mid] at this
      unfold World.cell? at this
      simp only [hb] at this
      simpa using this
    have hsz : off + cap ≤ c.size := by
      by_cases h0 : cap = 0
      · omega
      · have := hcell (cap - 1) (by omega)
        have h2 := (Array.getElem?_eq_some_iff.1 this).1
        omega
    have hget : ∀ i, i < len → (zs.take len).getD i false = zs.getD i false := fun i hi => by
      simp only [List.getD_eq_getElem?_getD, List.getElem?_take, hi, if_true]
    refine ⟨rfl, (some (b, off, cap), fun _ => ()), ⟨c, HF.emp, by rw [hlen]; exact hl, ?_, ?_, ?_, ?_, ?_⟩, ?_⟩
    · have : maxLen ≤ 9223372036854775807 := by decide
      omega
    · simp only [Kd.size]
      omega
    · intro i hi
      rw [hlen] at hi
      intro j hj
      simp only [Kd.cells, List.length_singleton] at hj
      obtain rfl : j = 0 := by omega
      simp only [Kd.size, Nat.mul_one, Nat.add_zero]
      rw [hcell i (by omega)]
      show some (Value.bool (zs.getD i false)) = some (Value.bool ((zs.take len).getD i false))
      rw [hget i hi]
    · refine each_emp fun i hi => ?_
      rw [if_neg (by simp)]
      rfl
    · simp only [Bool.false_eq_true, if_false]
      refine ⟨⟨t, ?_⟩, trivial⟩
      unfold heapR
      rw [hb]
    · simp only [toV, single, if_true, Kd.cells, List.getD_cons_zero, hdr, hlen]
section
open Go.ChangeShapes Go.WideShapes
variable {H : Type} {enc : TypeId × Value → H} {P : Program} {W : World} {base : Nat} {t e : TypeId} {a : Option Addr} {len cap : Nat} {d : DataW H} {ps : List MemPlace}
theorem row_ofB (hu : P.underlying t = some (.slice e)) (he : P.underlying e = some .bool) (hc : P.cellsOf e = 1) (h : DataW.Trod enc P W base (fun _ => true) true t (.slice a len cap) d ps) : ∃ zs, IsRowB W a len cap zs := by
  obtain ⟨fuel, hf⟩ := h
  rcases Go.Deep.open_bools hu he hc hf with ⟨hcs, _⟩ | ⟨x, l, c, B, hcs, _, hl, hm, _, hcell⟩
  · simp [Value.cells] at hcs
    obtain ⟨rfl, rfl, rfl⟩ := hcs
    exact ⟨[], .inl ⟨rfl, rfl, rfl, rfl⟩⟩
  · simp [Value.cells] at hcs
    obtain ⟨rfl, rfl, rfl⟩ := hcs
    refine ⟨(List.range cap).map B, .inr ⟨_, rfl, hl, hm, by simp, fun i hi => ?_⟩⟩
    have hi' : i < cap := by simpa using hi
    rw [hcell i hi', List.getD_eq_getElem?_getD, List.getElem?_eq_getElem hi]
    simp
end
end Go.Proofs.YtgmmopbpldgpcaaE
