/- Plain lemmas of lists and bytes: no program in sight. -/
import Derived.WalkKit
import Derived.WalkLawsBesides
namespace Go.Proofs.YtgbapkechngnmaaGreat
open Go.RowKit

theorem snocInd {α : Type} {P : List α → Prop} (h0 : P []) (h1 : ∀ l c, P l → P (l ++ [c])) (l : List α) : P l := by
  have h : ∀ r : List α, P r.reverse := by
    intro r
    induction r with
    | nil => simpa using h0
    | cons c r ih => rw [List.reverse_cons]; exact h1 _ _ ih
  have := h l.reverse
  rwa [List.reverse_reverse] at this

/-- the bytes of a string -/
abbrev B (s : ByteArray) : List UInt8 := s.data.toList
theorem len_B (s : ByteArray) : (B s).length = s.size := Array.length_toList
theorem take_succ_B (s : ByteArray) (k : Nat) (h : k < s.size) : (B s).take (k + 1) = (B s).take k ++ [s[k]] := by
  rw [List.take_succ_eq_append_getElem (by simpa using h)]; rfl
theorem take_all_B (s : ByteArray) : (B s).take s.size = B s := List.take_of_length_le (Nat.le_of_eq (len_B s))
theorem toList_B (s : ByteArray) : s.toList = B s := ByteArray.toList_eq s
theorem ret_tuple {a b : Array Value} (h : a = b) : Ending.returned (.tuple a) = .returned (.tuple b) := by rw [h]
theorem ret_eq {a b : Value} (h : a = b) : Ending.returned a = .returned b := by rw [h]
/-- what lies below the heap's end is kept: in the words of append's laws -/
theorem below_grown {w w' : World} (hb : Below w.heap.size w w') (row : Option Nat) : w.grownBy w' row := ⟨hb.os, hb.tape, hb.output, hb.size, fun k hk _ => hb.block k hk⟩
theorem bl_drewN {b : Nat} {a w : World} (h : Below b a w) (n : Nat) : Below b a (w.drewN n) := h.trans ⟨rfl, rfl, rfl, Nat.le_refl _, fun _ _ => rfl⟩
/-- an owned row is kept -/
theorem own_later {w w' : World} {base : Nat} {e : TypeId} {size : Nat} {v : Value} {n : Nat} {xs : List Value} (h : w.ownsRow base e size v n xs) (hb : Below w.heap.size w w') : w'.ownsRow base e size v n xs :=
  h.kept (below_grown hb none) (Decidable.em _)
theorem own_base {w : World} {base base' : Nat} {e : TypeId} {size : Nat} {v : Value} {n : Nat} {xs : List Value} (h : w.ownsRow base e size v n xs) (hb : base' ≤ base) : w.ownsRow base' e size v n xs := by
  refine ⟨h.1, ?_⟩
  rcases h.2 with hn | ⟨g, cap, cur, rfl, hg, rest⟩
  · exact .inl hn
  · exact .inr ⟨g, cap, cur, rfl, Nat.le_trans hb hg, rest⟩
end Go.Proofs.YtgbapkechngnmaaGreat
