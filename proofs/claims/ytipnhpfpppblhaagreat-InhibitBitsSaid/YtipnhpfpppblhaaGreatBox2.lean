/- Boxes of six and of seven cells. No program in sight. -/
import Derived.Test.YtipnhpfpppblhaaGreatBox
namespace Go.Proofs.YtipnhpfpppblhaaGreat
open Go.RowKit

theorem box6 {w W : World} {a b c d e f : Value} {t : TypeId} (hb : Below (w.alloc (.cells #[a, b, c, d, e, f] t)).heap.size (w.alloc (.cells #[a, b, c, d, e, f] t)) W) :
    (W.cell? ⟨w.heap.size, 0, none⟩ = some a ∧ W.cell? ⟨w.heap.size, 1, none⟩ = some b ∧ W.cell? ⟨w.heap.size, 2, none⟩ = some c ∧ W.cell? ⟨w.heap.size, 3, none⟩ = some d ∧ W.cell? ⟨w.heap.size, 4, none⟩ = some e ∧ W.cell? ⟨w.heap.size, 5, none⟩ = some f) ∧ w.heap.size < W.heap.size ∧ Below w.heap.size w W := by
  obtain ⟨h, h2, h3⟩ := box_cells hb
  exact ⟨⟨h 0 _ rfl, h 1 _ rfl, h 2 _ rfl, h 3 _ rfl, h 4 _ rfl, h 5 _ rfl⟩, h2, h3⟩
theorem box7 {w W : World} {a b c d e f g : Value} {t : TypeId} (hb : Below (w.alloc (.cells #[a, b, c, d, e, f, g] t)).heap.size (w.alloc (.cells #[a, b, c, d, e, f, g] t)) W) :
    (W.cell? ⟨w.heap.size, 0, none⟩ = some a ∧ W.cell? ⟨w.heap.size, 1, none⟩ = some b ∧ W.cell? ⟨w.heap.size, 2, none⟩ = some c ∧ W.cell? ⟨w.heap.size, 3, none⟩ = some d ∧ W.cell? ⟨w.heap.size, 4, none⟩ = some e ∧ W.cell? ⟨w.heap.size, 5, none⟩ = some f ∧ W.cell? ⟨w.heap.size, 6, none⟩ = some g) ∧ w.heap.size < W.heap.size ∧ Below w.heap.size w W := by
  obtain ⟨h, h2, h3⟩ := box_cells hb
  exact ⟨⟨h 0 _ rfl, h 1 _ rfl, h 2 _ rfl, h 3 _ rfl, h 4 _ rfl, h 5 _ rfl, h 6 _ rfl⟩, h2, h3⟩
/-- six cells, seven cells at a place -/
def C6 (p : Nat) (a b c d e f : Value) (W : World) : Prop := W.cell? ⟨p, 0, none⟩ = some a ∧ W.cell? ⟨p, 1, none⟩ = some b ∧ W.cell? ⟨p, 2, none⟩ = some c ∧ W.cell? ⟨p, 3, none⟩ = some d ∧ W.cell? ⟨p, 4, none⟩ = some e ∧ W.cell? ⟨p, 5, none⟩ = some f
theorem C6.later {p : Nat} {a b c d e f : Value} {W W' : World} (h : C6 p a b c d e f W) (hb : Below W.heap.size W W') (hp : p < W.heap.size) : C6 p a b c d e f W' := by
  obtain ⟨h0, h1, h2, h3, h4, h5⟩ := h
  exact ⟨keep_cell h0 hb hp, keep_cell h1 hb hp, keep_cell h2 hb hp, keep_cell h3 hb hp, keep_cell h4 hb hp, keep_cell h5 hb hp⟩
def C7 (p : Nat) (a b c d e f g : Value) (W : World) : Prop := W.cell? ⟨p, 0, none⟩ = some a ∧ W.cell? ⟨p, 1, none⟩ = some b ∧ W.cell? ⟨p, 2, none⟩ = some c ∧ W.cell? ⟨p, 3, none⟩ = some d ∧ W.cell? ⟨p, 4, none⟩ = some e ∧ W.cell? ⟨p, 5, none⟩ = some f ∧ W.cell? ⟨p, 6, none⟩ = some g
theorem C7.later {p : Nat} {a b c d e f g : Value} {W W' : World} (h : C7 p a b c d e f g W) (hb : Below W.heap.size W W') (hp : p < W.heap.size) : C7 p a b c d e f g W' := by
  obtain ⟨h0, h1, h2, h3, h4, h5, h6⟩ := h
  exact ⟨keep_cell h0 hb hp, keep_cell h1 hb hp, keep_cell h2 hb hp, keep_cell h3 hb hp, keep_cell h4 hb hp, keep_cell h5 hb hp, keep_cell h6 hb hp⟩

end Go.Proofs.YtipnhpfpppblhaaGreat
