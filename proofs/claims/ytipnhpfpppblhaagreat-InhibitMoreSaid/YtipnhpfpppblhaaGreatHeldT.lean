/- Regions that draw their order, taken by hand: two operations are ready. No program in sight. -/
import Derived.Test.YtipnhpfpppblhaaGreatHeld
import Derived.Test.YtipnhpfpppblhaaGreatBox3
namespace Go
variable {P : Program} {ops : Array Oper} {Q : Exit → Act → World → Prop} {md : Region.Mode} {S : World → Prop}
/-- two are ready: each may come up first -/
theorem held_two {i j : Nat} {oi oj : Oper} {fuel : Nat} {listed : Array Bool} {a : Act} {w : World} (hi : ops[i]? = some oi) (hj : ops[j]? = some oj) (hr : Region.ready md ops listed = [i, j])
    (h : ∀ K' : Act → World → Prop, Shut (∀ a w, S w → (S w → wpAnyH P md ops Q S fuel (listed.setIfInBounds i true) a w) → K' a w) → if Region.wanted oi (yielded ops a.tmps) = true then Oper.wp P oi a w K' Q else K' (a.put oi.dst undef) w)
    (h' : ∀ K' : Act → World → Prop, Shut (∀ a w, S w → (S w → wpAnyH P md ops Q S fuel (listed.setIfInBounds j true) a w) → K' a w) → if Region.wanted oj (yielded ops a.tmps) = true then Oper.wp P oj a w K' Q else K' (a.put oj.dst undef) w) : wpAnyH P md ops Q S (fuel + 1) listed a w :=
  wpAnyH_ready hr (by simp) (AllReadyH.cons hi h (AllReadyH.cons hj h' AllReadyH.nil))
theorem there_cell {w : World} {g n : Nat} (h : w.there g 0 n) (j : Nat) (hj : j < n) : ∃ v, w.cell? ⟨g, j, none⟩ = some v := by
  have := (h j hj).1
  rw [Nat.zero_add] at this
  exact Option.isSome_iff_exists.1 this
end Go
namespace Go.Proofs.YtipnhpfpppblhaaGreat
open Go.RowKit
theorem c6_puts (w : World) (g : Nat) (a b c d e f : Value) (ht : w.there g 0 6) : C6 g a b c d e f (w.setCells g 0 [a, b, c, d, e, f]) := by
  have h := World.rangeAt_setCells_same w g 0 [a, b, c, d, e, f] ht
  refine ⟨?_, ?_, ?_, ?_, ?_, ?_⟩
  · simpa using h 0 a rfl
  · simpa using h 1 b rfl
  · simpa using h 2 c rfl
  · simpa using h 3 d rfl
  · simpa using h 4 e rfl
  · simpa using h 5 f rfl
theorem c6_out {w : World} {p g : Nat} {a b c d e f : Value} (h : C6 p a b c d e f w) (hg : p ≠ g) (o : Nat) (vs : List Value) : C6 p a b c d e f (w.setCells g o vs) := by
  obtain ⟨h0, h1, h2, h3, h4, h5⟩ := h
  refine ⟨?_, ?_, ?_, ?_, ?_, ?_⟩ <;> (rw [World.cell?_setCells_out _ _ _ _ _ (fun hb _ => absurd hb hg)]; assumption)
end Go.Proofs.YtipnhpfpppblhaaGreat
