/- Boxes that a call has laid, behind a callee. No program in sight. -/
import Derived.Test.YtgbapkechngnmaaGreatRd
namespace Go.Proofs.YtgbapkechngnmaaGreat
open Go.RowKit

theorem alloc_below (w : World) (o : Obj) : Below w.heap.size w (w.alloc o) := (Below.refl _ _).alloc (Nat.le_refl _) _
theorem box_cells {w W : World} {xs : Array Value} {t : TypeId} (hb : Below (w.alloc (.cells xs t)).heap.size (w.alloc (.cells xs t)) W) :
    (∀ (i : Nat) x, xs[i]? = some x → W.cell? ⟨w.heap.size, i, none⟩ = some x) ∧ w.heap.size < W.heap.size ∧ Below w.heap.size w W := by
  have hlt : w.heap.size < (w.alloc (.cells xs t)).heap.size := by rw [World.size_alloc]; omega
  refine ⟨fun i x hx => (hb.cell (p := ⟨w.heap.size, i, none⟩) hlt).trans ?_, Nat.lt_of_lt_of_le hlt hb.size, (alloc_below w _).trans (hb.mono (by omega))⟩
  rw [World.cell?_alloc_at _ _ _ _ rfl]; exact hx
/-- one box of one cell -/
theorem box1 {w W : World} {x : Value} {t : TypeId} (hb : Below (w.alloc (.cells #[x] t)).heap.size (w.alloc (.cells #[x] t)) W) :
    W.cell? ⟨w.heap.size, 0, none⟩ = some x ∧ w.heap.size < W.heap.size ∧ Below w.heap.size w W := by
  obtain ⟨h1, h2, h3⟩ := box_cells hb
  exact ⟨h1 0 x rfl, h2, h3⟩
/-- one box of two cells -/
theorem box2 {w W : World} {x y : Value} {t : TypeId} (hb : Below (w.alloc (.cells #[x, y] t)).heap.size (w.alloc (.cells #[x, y] t)) W) :
    W.cell? ⟨w.heap.size, 0, none⟩ = some x ∧ W.cell? ⟨w.heap.size, 1, none⟩ = some y ∧ w.heap.size < W.heap.size ∧ Below w.heap.size w W := by
  obtain ⟨h1, h2, h3⟩ := box_cells hb
  exact ⟨h1 0 x rfl, h1 1 y rfl, h2, h3⟩
/-- two boxes, one behind the other -/
theorem box_two {w W : World} {xs ys : Array Value} {t u : TypeId} (hb : Below ((w.alloc (.cells xs t)).alloc (.cells ys u)).heap.size ((w.alloc (.cells xs t)).alloc (.cells ys u)) W) :
    (∀ (i : Nat) x, xs[i]? = some x → W.cell? ⟨w.heap.size, i, none⟩ = some x) ∧ (∀ (i : Nat) x, ys[i]? = some x → W.cell? ⟨w.heap.size + 1, i, none⟩ = some x) ∧ w.heap.size + 1 < W.heap.size ∧ Below w.heap.size w W := by
  obtain ⟨h1, h2, h3⟩ := box_cells hb
  obtain ⟨h4, h5, h6⟩ := box_cells h3
  rw [World.size_alloc] at h1 h2
  exact ⟨h4, h1, h2, h6⟩
/-- two boxes of two cells, one behind the other -/
theorem box22 {w W : World} {x y x' y' : Value} {t u : TypeId} (hb : Below ((w.alloc (.cells #[x, y] t)).alloc (.cells #[x', y'] u)).heap.size ((w.alloc (.cells #[x, y] t)).alloc (.cells #[x', y'] u)) W) :
    W.cell? ⟨w.heap.size, 0, none⟩ = some x ∧ W.cell? ⟨w.heap.size, 1, none⟩ = some y ∧ W.cell? ⟨w.heap.size + 1, 0, none⟩ = some x' ∧ W.cell? ⟨w.heap.size + 1, 1, none⟩ = some y' ∧ w.heap.size + 1 < W.heap.size ∧ Below w.heap.size w W := by
  obtain ⟨h1, h2, h3, h4⟩ := box_two hb
  exact ⟨h1 0 _ rfl, h1 1 _ rfl, h2 0 _ rfl, h2 1 _ rfl, h3, h4⟩
/-- a cell that lay, behind a callee -/
theorem keep_cell {w w' : World} {b o : Nat} {v : Value} (h : w.cell? ⟨b, o, none⟩ = some v) (hb : Below w.heap.size w w') (hlt : b < w.heap.size) : w'.cell? ⟨b, o, none⟩ = some v :=
  (hb.cell (p := ⟨b, o, none⟩) hlt).trans h
end Go.Proofs.YtgbapkechngnmaaGreat
