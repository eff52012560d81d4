/- Result boxes of several cells: what is read back at the return. No program in sight. -/
import Derived.Test.YtipnhpfpppblhaaGreatBox2
import Derived.Deep.MidRow
import Derived.Laws.ResultCell
namespace Go.Proofs.YtipnhpfpppblhaaGreat
open Go.RowKit

theorem below_put {w W : World} {g j : Nat} {x : Value} (h : Below w.heap.size w W) (hb : w.heap.size ≤ g) : Below w.heap.size w (W.setCell ⟨g, j, none⟩ x) :=
  h.trans ((Below.refl _ _).setCell (p := ⟨g, j, none⟩) hb x)
theorem below_puts {w W : World} {g o : Nat} (h : Below w.heap.size w W) (hb : w.heap.size ≤ g) : ∀ (vs : List Value), Below w.heap.size w (W.setCells g o vs) := by
  intro vs
  induction vs generalizing W o with
  | nil => exact h
  | cons v r ih => exact ih (below_put h hb)
/-- a box, behind a callee: its cells may be written -/
theorem box_there {w W : World} {xs : Array Value} {t : TypeId} (hb : Below (w.alloc (.cells xs t)).heap.size (w.alloc (.cells xs t)) W) : W.there w.heap.size 0 xs.size := by
  have hlt : w.heap.size < (w.alloc (.cells xs t)).heap.size := by rw [World.size_alloc]; omega
  have h := (hb.block _ hlt).trans (heap_alloc_new w (.cells xs t))
  intro j hj
  rw [Nat.zero_add]
  exact ⟨by simp [World.cell?, h, hj], by simp [World.frozen?, h]⟩
theorem box_range {w W : World} {xs : Array Value} {t : TypeId} (hb : Below (w.alloc (.cells xs t)).heap.size (w.alloc (.cells xs t)) W) : W.rangeAt w.heap.size 0 xs.toList := by
  obtain ⟨h, _, _⟩ := box_cells hb
  intro j v hv
  rw [Nat.zero_add]
  exact h j v (by simpa using hv)
theorem there_later {w W : World} {g n : Nat} (h : w.there g 0 n) (hb : Below w.heap.size w W) (hlt : g < w.heap.size) : W.there g 0 n := fun j hj => by
  have hk := hb.block g hlt
  obtain ⟨h1, h2⟩ := h j hj
  exact ⟨by rw [World.cell?_of_block (a := ⟨g, 0 + j, none⟩) hk]; exact h1, by rw [World.frozen?_of_block (a := ⟨g, 0 + j, none⟩) hk]; exact h2⟩
theorem range_later {w W : World} {g o : Nat} {cs : List Value} (h : w.rangeAt g o cs) (hb : Below w.heap.size w W) (hlt : g < w.heap.size) : W.rangeAt g o cs := fun j v hv => keep_cell (h j v hv) hb hlt
theorem there_free {w : World} {g n : Nat} (h : w.there g 0 n) (j : Nat) (hj : j < n) : w.frozen? ⟨g, j, none⟩ = false := by have := (h j hj).2; rwa [Nat.zero_add] at this
/-- the return: a result of several cells, and one beside -/
theorem results_agg2 {P : Program} {fn : Func} {p u : Tmp} {ty : TypeId} (h : fn.results = #[.cell p ty, .tmp u]) (tmps : Array Value) (w : World) (g : Nat) (cs : List Value) (d : TypeDesc)
    (hp : tmps.getD p undef = .pointer (some ⟨g, 0, none⟩)) (hc : w.rangeAt g 0 cs) (hu : P.underlying ty = some d) (hd : d.isRow = true) (hi : (P.info? ty).map (·.size) = some cs.length) :
    (results fn tmps).run P w = .ok (.tuple #[.agg cs.toArray, tmps.getD u undef]) w := by
  rw [results_cell_tmp h, hp]
  simp [asAddr, Result.andThen, run_loadVar_mid (P := P) w g 0 ty cs d hc hu hd hi]
/-- a result of several cells alone -/
theorem results_agg1 {P : Program} {fn : Func} {p : Tmp} {ty : TypeId} (h : fn.results = #[.cell p ty]) (tmps : Array Value) (w : World) (g : Nat) (cs : List Value) (d : TypeDesc)
    (hp : tmps.getD p undef = .pointer (some ⟨g, 0, none⟩)) (hc : w.rangeAt g 0 cs) (hu : P.underlying ty = some d) (hd : d.isRow = true) (hi : (P.info? ty).map (·.size) = some cs.length) :
    (results fn tmps).run P w = .ok (.agg cs.toArray) w := by
  have hp' : tmps[p]?.getD undef = .pointer (some ⟨g, 0, none⟩) := by simpa using hp
  simp [results, h, hp', asAddr, run_loadVar_mid (P := P) w g 0 ty cs d hc hu hd hi]
end Go.Proofs.YtipnhpfpppblhaaGreat
