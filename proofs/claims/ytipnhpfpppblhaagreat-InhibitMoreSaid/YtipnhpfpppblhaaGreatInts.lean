/- Slices of integers that are read. No program in sight. -/
import Derived.Test.YtipnhpfpppblhaaGreatRows
import Derived.Test.YtipnhpfpppblhaaGreatRd
import Derived.WalkKit
import Derived.WalkSpells
import Derived.Lib.Hide
namespace Go.Proofs.YtipnhpfpppblhaaGreat
open Go.RowKit

/-- an int as a value -/
abbrev I (x : Int) : Value := .int .i64 x
theorem i_cells (z : List Int) : ∀ y ∈ z.map I, y.oneCell' = true := by
  intro y hy
  obtain ⟨x, _, rfl⟩ := List.mem_map.1 hy
  rfl
/-- v reads as the numbers l -/
def IntsAt (w : World) (v : Value) (l : List Int) : Prop := RdAt w v l.length 1 (l.map I)
theorem IntsAt.nil (w : World) : IntsAt w (.slice none 0 0) [] := RdAt.nil w 1
theorem IntsAt.later {w w' : World} {v : Value} {l : List Int} (h : IntsAt w v l) (hb : Below w.heap.size w w') : IntsAt w' v l := RdAt.later h hb
theorem IntsAt.own {w : World} {base : Nat} {e : TypeId} {v : Value} {l : List Int} (h : w.ownsRow base e 1 v l.length (l.map I)) : IntsAt w v l := RdAt.own h
theorem IntsAt.cells {w : World} {v : Value} {l : List Int} (h : IntsAt w v l) (hne : l ≠ []) : ∃ b o c, v = .slice (some ⟨b, o, none⟩) l.length c ∧ l.length ≤ c ∧ b < w.heap.size ∧ ∀ j x, l[j]? = some x → w.cell? ⟨b, o + j, none⟩ = some (I x) := by
  obtain ⟨b, o, c, hv, hc, hlt, hcell⟩ := RdAt.some h (List.length_pos_iff.2 hne)
  exact ⟨b, o, c, hv, hc, hlt, fun j x hx => hcell j _ (by rw [List.getElem?_map, hx]; rfl)⟩
end Go.Proofs.YtipnhpfpppblhaaGreat
