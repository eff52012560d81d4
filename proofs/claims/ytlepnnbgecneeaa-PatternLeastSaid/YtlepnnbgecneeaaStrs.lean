/- Slices of strings that are read: what lies in memory, said plainly. -/
import Derived.Test.YtlepnnbgecneeaaRd
namespace Go.Proofs.Ytlepnnbgecneeaa
open Go.RowKit

/-- v reads as the strings ws -/
def StrsAt (w : World) (v : Value) (ws : List ByteArray) : Prop := RdAt w v ws.length 1 (ws.map Value.string) ∧ ws.length ≤ 1073741824
theorem StrsAt.nil (w : World) : StrsAt w (.slice none 0 0) [] := ⟨RdAt.nil w 1, Nat.zero_le _⟩
theorem StrsAt.later {w w' : World} {v : Value} {ws : List ByteArray} (h : StrsAt w v ws) (hb : Below w.heap.size w w') : StrsAt w' v ws := ⟨h.1.later hb, h.2⟩
theorem StrsAt.own {w : World} {base : Nat} {e : TypeId} {v : Value} {ws : List ByteArray} (h : w.ownsRow base e 1 v ws.length (ws.map Value.string)) (hm : ws.length ≤ 1073741824) : StrsAt w v ws := ⟨RdAt.own h, hm⟩
theorem StrsAt.shape {w : World} {v : Value} {ws : List ByteArray} (h : StrsAt w v ws) : ∃ a c, v = .slice a ws.length c ∧ ws.length ≤ c ∧
    (ws ≠ [] → ∃ b o, a = some ⟨b, o, none⟩ ∧ b < w.heap.size ∧ ∀ (j : Nat) x, ws[j]? = some x → w.cell? ⟨b, o + j, none⟩ = some (.string x)) := by
  obtain ⟨a, c, hv, hc, hr⟩ := h.1.shape
  refine ⟨a, c, hv, hc, fun hne => ?_⟩
  obtain ⟨b, o, ha, hlt, hcell⟩ := hr (List.length_pos_iff.2 hne)
  exact ⟨b, o, ha, hlt, fun j x hx => hcell j _ (by rw [List.getElem?_map, hx]; rfl)⟩
theorem B_inj {a b : ByteArray} (h : B a = B b) : a = b := ByteArray.ext (Array.toList_inj.1 h)
theorem B_append (a b : ByteArray) : B (a ++ b) = B a ++ B b := by simp [B]
theorem mapB_inj {a b : List ByteArray} (h : a.map B = b.map B) : a = b := by
  induction a generalizing b with
  | nil => cases b with
    | nil => rfl
    | cons _ _ => cases h
  | cons x a ih => cases b with
    | nil => cases h
    | cons y b =>
      simp only [List.map_cons, List.cons.injEq] at h
      rw [B_inj h.1, ih h.2]
end Go.Proofs.Ytlepnnbgecneeaa
