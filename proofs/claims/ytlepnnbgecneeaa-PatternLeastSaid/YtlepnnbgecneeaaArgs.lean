/- Arguments that are slices: opened. No program in sight. -/
import Derived.Test.YtlepnnbgecneeaaStrs
import Derived.ProofKit
import Derived.OpenShut
import Derived.SliceStrings
namespace Go.Proofs.Ytlepnnbgecneeaa
open Go.RowKit Go.WideShapes Go.ChangeShapes

theorem cell_lt {w : World} {a : Addr} {v : Value} (h : w.cell? a = some v) : a.block < w.heap.size := by
  rcases Nat.lt_or_ge a.block w.heap.size with h' | h'
  · exact h'
  · simp [World.cell?, Array.getElem?_eq_none h'] at h
/-- an argument that reads as the strings xs -/
def ArgStrs (w : World) (v : Value) (xs : List ByteArray) : Prop := RdAt w v xs.length 1 (xs.map Value.string) ∧ xs.length ≤ maxLen ∧ ∀ x ∈ xs, x.size ≤ maxLen
theorem ArgStrs.later {w w' : World} {v : Value} {xs : List ByteArray} (h : ArgStrs w v xs) (hb : Below w.heap.size w w') : ArgStrs w' v xs := ⟨h.1.later hb, h.2⟩
theorem strs_of_trod {H : Type} {enc : TypeId × Value → H} {P : Program} {t e : TypeId} (ht : P.underlying t = some (.slice e)) (he : P.underlying e = some .string) (hc : P.cellsOf e = 1) {W : World} {base : Nat} {v : Value} {d : DataW H} {p : List MemPlace}
    (hval : Value.okWide P W .any base t v) (h : DataW.Trod enc P W 0 (fun _ => true) true t v d p) : ∃ xs, ArgStrs W v xs := by
  obtain ⟨a0, len, cap, rfl⟩ := okWide_slice ht hval
  obtain ⟨fuel, hf⟩ := h
  rcases open_strings ht he hc hf with ⟨hcs, _⟩ | ⟨a, len', cap', ss, hcs, _, hl, hm, hz, _, hcell, hws⟩
  · simp only [Value.cells] at hcs
    cases hcs
    exact ⟨[], RdAt.nil W 1, Nat.zero_le _, by simp⟩
  · simp only [Value.cells] at hcs
    cases hcs
    simp only [if_true] at hz
    have hlen : (ss.take len).length = len := by rw [List.length_take]; omega
    refine ⟨ss.take len, ⟨by simp, .inr ⟨a, cap, by rw [hlen], by omega, fun hn => ?_⟩⟩, by rw [hlen]; omega, fun x hx => hws x (List.mem_of_mem_take hx)⟩
    rw [hlen] at hn
    obtain ⟨b, off, spot⟩ := a
    have hspot : spot = none := by simpa [Addr.add] using World.cell?_spot (hcell 0 (by omega))
    subst hspot
    have hall : ∀ j, j < ss.length → W.cell? ⟨b, off + j, none⟩ = some (.string (ss.getD j ByteArray.empty)) := fun j hj => by rw [← Go.WideShapes.add_plain]; exact hcell j hj
    refine ⟨b, off, rfl, cell_lt (a := ⟨b, off + 0, none⟩) (hall 0 (by omega)), fun j x hx => ?_⟩
    rw [List.getElem?_map, Option.map_eq_some_iff] at hx
    obtain ⟨y, hy, rfl⟩ := hx
    have hj : j < len := by have := (List.getElem?_eq_some_iff.1 hy).1; rw [hlen] at this; exact this
    rw [hall j (by omega)]
    rw [List.getElem?_take_of_lt hj] at hy
    simp [List.getD, hy]
end Go.Proofs.Ytlepnnbgecneeaa
